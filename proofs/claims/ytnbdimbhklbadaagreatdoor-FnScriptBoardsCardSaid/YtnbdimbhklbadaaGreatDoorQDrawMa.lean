/-
  Contracts of functions and plain laws that the law's proof uses (parts: DrawMa). Conditions: what each theorem names.
-/
import Derived.Deep.RegionWith
import Derived.Test.YtnbdimbhklbadaaGreatDoorQTextF
import Derived.Test.YtnbdimbhklbadaaGreatDoorQBsA
import Derived.Test.YtnbdimbhklbadaaGreatDoorQMachB
namespace Go.Proofs.YtnbdimbhklbadaaGreatDoor
open Go.RowKit Pl
set_option linter.unusedVariables false
def StrD (w : World) (R N z : Nat) (e : Ending) (w' : World) : Prop := ∃ t : ByteArray, e = .returned (.string t) ∧ t.size ≤ z ∧ Rdr w' R N ∧ w.grownBy w' (some R)
set_option maxHeartbeats 4000000 in
set_option maxRecDepth 100000 in
theorem l2Bad_any (w : World) (R N : Nat) (s : ByteArray) (h : Rdr w R N) (hN : N ≤ 1000000) (h1 : 1 ≤ s.size) (h2 : s.size ≤ 1000) :
    Calls Tryz.prog 203 #[.pointer (some ⟨R, 0, none⟩), .string s] w (StrD w R (N + 3) (s.size + 5)) := by
  go_enter Tryz.func203, Tryz.ntmps203
  go_wp2_with fail
  refine (pick_pos _ R N _ h (by omega) (by omega) (by omega)).mono ?_
  rintro e w1 ⟨k, rfl, hk, hr1, ho1⟩
  have HO1 := Lib.hid ho1; clear ho1 h
  go_wp2_with fail
  refine (pick_pos _ R _ _ hr1 (by omega) (by omega) (by omega)).mono ?_
  rintro e w2 ⟨x, rfl, hx, hr2, ho2⟩
  have HO2 := Lib.hid (only_trans HO1.out ho2); clear ho2 HO1 hr1
  have e0 : (0 : Int) ≤ (k : Int) := by omega
  have e1 : (k : Int) ≤ (s.size : Int) := by omega
  have e2 : IntKind.i64.wrap ((k : Int) + 1) = (k : Int) + 1 := by rw [IntKind.wrap_i64]; omega
  have e3 : (0 : Int) ≤ (k : Int) + 1 := by omega
  have e4 : (k : Int) + 1 ≤ (s.size : Int) := by omega
  have e5 : ((k : Int) + 1).toNat = k + 1 := by omega
  have z1 : (s.extract 0 k).size ≤ s.size := by rw [ByteArray.size_extract]; omega
  have z2 : (s.extract (k + 1) s.size).size + (s.extract 0 k).size ≤ s.size := by rw [ByteArray.size_extract, ByteArray.size_extract]; omega
  by_cases h0 : x = 0
  · subst h0
    have hcon := pick_pos w2.drew R _ 10 hr2 (by omega) (by omega) (by omega)
    have hcon2 := fun (w' : World) (c : Nat) (hc : (c : Int) < 10) => l1Letter_is w' (c : Int) c (by omega) (by omega)
    have HCON := Lib.hid hcon; have HCON2 := Lib.hid hcon2; clear hcon hcon2
    have hzl : ∀ c : Nat, (mk [letter c]).size ≤ 1 := fun c => by rw [size_mk]; simp
    have HZL := Lib.hid hzl; clear hzl
    go_wp2_with fail
    go_region_with (first | (go_at_call 16; refine HCON.out.mono ?_; rintro _ w7 ⟨c, rfl, hc, hr7, ho7⟩) | (go_at_call 73; refine (HCON2.out _ c hc).mono ?_; rintro _ w8 ⟨rfl, hb8⟩; have hz8 := HZL.out c; generalize mk [letter c] = C at hz8 ⊢) | fail)
    all_goals
      have HO8 := Lib.hid (only_trans HO2.out (only_trans (only_of_drew ho7) (only_of_below hb8 (some R))))
      have HR8 := Lib.hid (hr7.below hb8)
      clear hr7 ho7 hb8
      go_wp2_with fail
      go_ret
      exact ⟨_, rfl, by rw [ByteArray.size_append, ByteArray.size_append]; omega, HR8.out.mono (by omega), HO8.out⟩
  · have b0 : ((x : Int) == 0) = false := by rw [beq_eq_false_iff_ne]; omega
    by_cases h1 : x = 1
    · subst h1
      clear b0 h0
      go_wp2_with fail
      go_quiet (fail)
      go_wp2_with fail
      go_ret
      exact ⟨_, rfl, by rw [ByteArray.size_append]; omega, (hr2.drewN _).mono (by omega), only_drewN HO2.out _⟩
    · have b1 : ((x : Int) == 1) = false := by rw [beq_eq_false_iff_ne]; omega
      by_cases h2 : x = 2
      · subst h2
        clear b0 h0 b1 h1
        go_wp2_with fail
        refine (of_any _ R _ w2.heap.size 3 [mk [97], mk [107], mk [32]] (hr2.alloc _) (by omega) (by simp) (by simp) (heap_alloc_new _ _)).mono ?_
        rintro e w3 ⟨t, ht, rfl, hr3, ho3⟩
        have hz : t.size ≤ 1 := by simp at ht; rcases ht with rfl | rfl | rfl <;> simp [size_mk]
        have HO3 := Lib.hid (only_trans HO2.out (only_trans (World.grownBy_alloc _ _ _) ho3)); clear ho3 ht
        go_wp2_with fail
        go_ret
        exact ⟨_, rfl, by rw [ByteArray.size_append]; omega, hr3.mono (by omega), HO3.out⟩
      · have b2 : ((x : Int) == 2) = false := by rw [beq_eq_false_iff_ne]; omega
        clear h0 h1 h2
        go_wp2_with fail
        go_ret
        exact ⟨s, rfl, by omega, hr2.mono (by omega), HO2.out⟩
theorem SB.two_cells {w : World} {p : Nat} {a b : Value} {T : TypeId} (h : SB w p #[a, b] T) : w.cell? ⟨p, 0, none⟩ = some a ∧ w.cell? ⟨p, 1, none⟩ = some b := ⟨h.cell 0 a rfl, h.cell 1 b rfl⟩
set_option maxHeartbeats 4000000 in
set_option maxRecDepth 100000 in
theorem l5Bad_any (w : World) (R N : Nat) (a n : ByteArray) (h : Rdr w R N) (hN : N ≤ 900000) (ha1 : 1 ≤ a.size) (ha : a.size ≤ 100) (hn : n.size ≤ 100) :
    Calls Tryz.prog 136 #[.pointer (some ⟨R, 0, none⟩), .agg #[.string a, .string n]] w fun e w' => ∃ a' n' : ByteArray, e = .returned (.agg #[.string a', .string n']) ∧ a'.size ≤ 105 ∧ n'.size ≤ 100 ∧ Rdr w' R (N + 5) ∧ w.grownBy w' (some R) := by
  have hlt0 := h.lt
  obtain ⟨w0, hw0⟩ : ∃ w0, w0 = (w.alloc (.cells #[.string a, .string n] 142)).alloc (.cells #[.string ⟨#[]⟩, .string ⟨#[]⟩] 142) := ⟨_, rfl⟩
  have hs0 : SB w0 w.heap.size #[.string a, .string n] 142 := by rw [hw0]; exact block_kept3 (heap_alloc_new w _) _
  have ht0 : SB w0 (w.heap.size + 1) #[.string ⟨#[]⟩, .string ⟨#[]⟩] 142 := by
    rw [hw0]
    have := heap_alloc_new (w.alloc (.cells #[.string a, .string n] 142)) (.cells #[.string ⟨#[]⟩, .string ⟨#[]⟩] 142)
    rw [szalloc3] at this
    exact this
  have hr0 : Rdr w0 R N := by rw [hw0]; exact (h.alloc _).alloc _
  have ho0 : w.grownBy w0 (some R) := by rw [hw0]; exact only_trans (World.grownBy_alloc w _ (some R)) (World.grownBy_alloc _ _ (some R))
  obtain ⟨B, hB⟩ : ∃ B, B = w.heap.size := ⟨_, rfl⟩
  have hwb : w.heap.size ≤ B := by omega
  have hlt : R < B := by omega
  have hbr : B ≠ R := by omega
  have hcr : B + 1 ≠ R := by omega
  have hbc : B + 1 ≠ B := by omega
  rw [← hB] at hs0 ht0
  have HS0 := Lib.hid hs0; have HT0 := Lib.hid ht0; have HO0 := Lib.hid ho0
  clear hs0 ht0 ho0 h hlt0
  go_enter Tryz.func136, Tryz.ntmps136
  go_wp2_with fail
  rw [← hw0, ← hB]
  clear hw0
  have HBE := Lib.hid hB; clear hB
  refine (pick_pos _ R N _ hr0 (by omega) (by omega) (by omega)).mono ?_
  rintro e w1 ⟨x, rfl, hx, hr1, ho1⟩
  have HS1 := Lib.hid (HS0.out.grow ho1 hbr); have HT1 := Lib.hid (HT0.out.grow ho1 hcr); have HO1 := Lib.hid (only_trans HO0.out ho1)
  clear ho1 HS0 HT0 HO0 hr0
  by_cases h0 : x = 0
  · subst h0
    have hsa := HS1.out.below ((Below.refl _ _).alloc (Nat.le_refl _) (.cells #[.string ⟨#[98, 97]⟩, .string ⟨#[97, 97]⟩, .string ⟨#[107]⟩, .string ⟨#[97, 98, 99, 100]⟩, .string ⟨#[45]⟩] 9))
    have hta := HT1.out.below ((Below.refl _ _).alloc (Nat.le_refl _) (.cells #[.string ⟨#[98, 97]⟩, .string ⟨#[97, 97]⟩, .string ⟨#[107]⟩, .string ⟨#[97, 98, 99, 100]⟩, .string ⟨#[45]⟩] 9))
    have HSA := Lib.hid hsa; have HTA := Lib.hid hta; clear hsa hta
    go_wp2_with fail
    refine (of_any _ R _ w1.heap.size 5 [⟨#[98, 97]⟩, ⟨#[97, 97]⟩, ⟨#[107]⟩, ⟨#[97, 98, 99, 100]⟩, ⟨#[45]⟩] (hr1.alloc _) (by omega) (by simp) (by simp) (heap_alloc_new _ _)).mono ?_
    rintro e w2 ⟨n2, hn2, rfl, hr2, ho2⟩
    have hz2 : n2.size ≤ 100 := by simp at hn2; rcases hn2 with rfl | rfl | rfl | rfl | rfl <;> decide
    obtain ⟨d0, d1⟩ := (HSA.out.grow ho2 hbr).two_cells
    have f1 := (HSA.out.grow ho2 hbr).frozen 1
    have HS2 := Lib.hid ((HSA.out.grow ho2 hbr).put 1 (.string n2)); have HT2 := Lib.hid ((HTA.out.grow ho2 hcr).far hbc 1 (.string n2)); have HR2 := Lib.hid (hr2.far hlt 1 (.string n2))
    have HO2 := Lib.hid (only_far (only_trans HO1.out (only_trans (World.grownBy_alloc _ _ _) ho2)) hwb 1 (.string n2))
    clear ho2 hn2 HSA HTA HS1 HT1 HO1 hr1 hr2
    obtain ⟨w3, hw3⟩ : ∃ w3, w3 = w2.setCell ⟨B, 1, none⟩ (.string n2) := ⟨_, rfl⟩
    rw [← hw3] at HS2 HT2 HR2 HO2
    have c0 := HS2.out.cell 0 (.string a) rfl
    have c1 := HS2.out.cell 1 (.string n2) rfl
    go_wp2_with (first | (rw [← hw3]; clear hw3 d0 d1 f1) | fail)
    refine (l2Bad_any _ R _ a HR2.out (by omega) ha1 (by omega)).mono ?_
    rintro e w5 ⟨t, rfl, hz, hr5, ho5⟩
    have HS5 := Lib.hid ((HS2.out.grow ho5 hbr).put 0 (.string t))
    obtain ⟨d0, d1⟩ := (HS2.out.grow ho5 hbr).two_cells
    have f0 := (HS2.out.grow ho5 hbr).frozen 0
    have HT5 := Lib.hid ((HT2.out.grow ho5 hcr).far hbc 0 (.string t))
    have HR5 := Lib.hid (hr5.far hlt 0 (.string t))
    have HO5 := Lib.hid (only_far (only_trans HO2.out ho5) hwb 0 (.string t))
    clear hr5 ho5 c0 c1 HR2 HS2 HT2 HO2
    obtain ⟨w6, hw6⟩ : ∃ w6, w6 = w5.setCell ⟨B, 0, none⟩ (.string t) := ⟨_, rfl⟩
    rw [← hw6] at HS5 HT5 HR5 HO5
    have HT6 := Lib.hid (HT5.out.two (.string t) (.string n2))
    have e0 := HS5.out.cell 0 (.string t) rfl
    have e1 := HS5.out.cell 1 (.string n2) rfl
    have g0 := HT5.out.cell 0 (.string ⟨#[]⟩) rfl
    have g1 := HT5.out.cell 1 (.string ⟨#[]⟩) rfl
    have g2 := HT5.out.frozen 0
    have g3 := HT5.out.frozen 1
    go_wp2_with (first | (rw [← hw6]; clear hw6 d0 d1 f0) | fail)
    refine bodyPost_ret (results_cell_row rfl _ _ (B + 1) _ #[.string t, .string n2] _ _ rfl HT6.out Tryz.underlying142 rfl rotSize) rfl ⟨t, n2, rfl, by omega, by omega, ((HR5.out.far (by omega) 0 (.string t)).far (by omega) 1 (.string n2)).mono (by omega), only_far (only_far HO5.out (by omega) 0 (.string t)) (by omega) 1 (.string n2)⟩
  · have b0 : ((x : Int) == 0) = false := by rw [beq_eq_false_iff_ne]; omega
    have HS2 := HS1; have HT2 := HT1; have HO2 := HO1; have HR2 := Lib.hid hr1
    clear h0 HS1 HT1 HO1 hr1
    have c0 := HS2.out.cell 0 (.string a) rfl
    have c1 := HS2.out.cell 1 (.string n) rfl
    go_wp2_with fail
    refine (l2Bad_any _ R _ a HR2.out (by omega) ha1 (by omega)).mono ?_
    rintro e w5 ⟨t, rfl, hz, hr5, ho5⟩
    have HS5 := Lib.hid ((HS2.out.grow ho5 hbr).put 0 (.string t))
    obtain ⟨d0, d1⟩ := (HS2.out.grow ho5 hbr).two_cells
    have f0 := (HS2.out.grow ho5 hbr).frozen 0
    have HT5 := Lib.hid ((HT2.out.grow ho5 hcr).far hbc 0 (.string t))
    have HR5 := Lib.hid (hr5.far hlt 0 (.string t))
    have HO5 := Lib.hid (only_far (only_trans HO2.out ho5) hwb 0 (.string t))
    clear hr5 ho5 c0 c1 HR2 HS2 HT2 HO2
    obtain ⟨w6, hw6⟩ : ∃ w6, w6 = w5.setCell ⟨B, 0, none⟩ (.string t) := ⟨_, rfl⟩
    rw [← hw6] at HS5 HT5 HR5 HO5
    have HT6 := Lib.hid (HT5.out.two (.string t) (.string n))
    have e0 := HS5.out.cell 0 (.string t) rfl
    have e1 := HS5.out.cell 1 (.string n) rfl
    have g0 := HT5.out.cell 0 (.string ⟨#[]⟩) rfl
    have g1 := HT5.out.cell 1 (.string ⟨#[]⟩) rfl
    have g2 := HT5.out.frozen 0
    have g3 := HT5.out.frozen 1
    go_wp2_with (first | (rw [← hw6]; clear hw6 d0 d1 f0) | fail)
    refine bodyPost_ret (results_cell_row rfl _ _ (B + 1) _ #[.string t, .string n] _ _ rfl HT6.out Tryz.underlying142 rfl rotSize) rfl ⟨t, n, rfl, by omega, by omega, ((HR5.out.far (by omega) 0 (.string t)).far (by omega) 1 (.string n)).mono (by omega), only_far (only_far HO5.out (by omega) 0 (.string t)) (by omega) 1 (.string n)⟩
structure Kept (w w' : World) (R : Nat) (v : Value) : Prop where
  os : w'.os = w.os
  tape : w'.tape = w.tape
  output : w'.output = w.output
  size : w.heap.size ≤ w'.heap.size
  block : ∀ k, k < w.heap.size → k ≠ R → v.ownBlock ≠ some k → w'.heap[k]? = w.heap[k]?
theorem Kept.of_only {a b : World} {R : Nat} (h : a.grownBy b (some R)) (v : Value) : Kept a b R v :=
  ⟨h.os, h.tape, h.output, h.size, fun k hk hn _ => h.block k hk (by intro e; injection e with e; exact hn e)⟩
theorem Kept.only {a b c : World} {R : Nat} {v : Value} (h : Kept a b R v) (g : b.grownBy c (some R)) : Kept a c R v :=
  ⟨g.os.trans h.os, g.tape.trans h.tape, g.output.trans h.output, Nat.le_trans h.size g.size, fun k hk hn hv => (g.block k (Nat.lt_of_lt_of_le hk h.size) (by intro e; injection e with e; exact hn e)).trans (h.block k hk hn hv)⟩
theorem Kept.own {a b c : World} {R : Nat} {v : Value} (h : Kept a b R v) (g : b.grownBy c v.ownBlock) : Kept a c R v :=
  ⟨g.os.trans h.os, g.tape.trans h.tape, g.output.trans h.output, Nat.le_trans h.size g.size, fun k hk hn hv => (g.block k (Nat.lt_of_lt_of_le hk h.size) (by intro e; exact hv e.symm)).trans (h.block k hk hn hv)⟩
theorem Kept.trans {a b c : World} {R : Nat} {v : Value} (h : Kept a b R v) (k : Kept b c R v) : Kept a c R v :=
  ⟨k.os.trans h.os, k.tape.trans h.tape, k.output.trans h.output, Nat.le_trans h.size k.size, fun i hi hn hv => (k.block i (Nat.lt_of_lt_of_le hi h.size) hn hv).trans (h.block i hi hn hv)⟩
theorem Kept.far {a b : World} {R p : Nat} {v : Value} (h : Kept a b R v) (hp : a.heap.size ≤ p) (i : Nat) (u : Value) : Kept a (b.setCell ⟨p, i, none⟩ u) R v :=
  ⟨h.os, h.tape, h.output, by simpa [World.setCell] using h.size, fun k hk hn hv => (Below.heap_setCell b ⟨p, i, none⟩ u k (by show k ≠ p; omega)).trans (h.block k hk hn hv)⟩
theorem Kept.below {a b : World} {R B : Nat} {v : Value} (h : Kept a b R v) (hB : B ≤ a.heap.size) (hR : B ≤ R) (hv : ∀ k, v.ownBlock = some k → B ≤ k) : Below B a b :=
  ⟨h.os, h.tape, h.output, h.size, fun k hk => h.block k (by omega) (by omega) (by intro e; have := hv k e; omega)⟩
theorem Kept.sb {a b : World} {R p : Nat} {v : Value} {cs : Array Value} {T : TypeId} (h : Kept a b R v) (hs : SB a p cs T) (hp : p ≠ R) (hv : v.ownBlock ≠ some p) : SB b p cs T := (h.block p hs.lt hp hv).trans hs
theorem rotV_append (a b : List (ByteArray × ByteArray)) : rotV a ++ rotV b = rotV (a ++ b) := by
  induction a with
  | nil => rfl
  | cons x r ih =>
    have e : ∀ l : List (ByteArray × ByteArray), rotV (x :: l) = [.string x.1, .string x.2] ++ rotV l := fun l => rfl
    rw [List.cons_append, e, e, ← ih, List.append_assoc]
theorem own_news {w : World} {base g n cap : Nat} {rs : List (ByteArray × ByteArray)} (h : w.ownsRow base 142 2 (.slice (some ⟨g, 0, none⟩) n cap) n (rotV rs)) : ∀ j u, (rotV rs)[j]? = some u → w.cell? ((⟨g, 0, none⟩ : Addr).add j) = some u := fun j u hu => by
  rw [add_none, Nat.zero_add]
  have hl : j < n * 2 := by
    have h1 := h.1
    have := (List.getElem?_eq_some_iff.1 hu).1
    omega
  rw [h.cellAt j hl]; exact hu
theorem rotV_one : ∀ (rs : List (ByteArray × ByteArray)), ∀ u ∈ rotV rs, u.oneCell' = true
  | [], u, h => by simp [rotV] at h
  | x :: r, u, h => by
    have e : rotV (x :: r) = [.string x.1, .string x.2] ++ rotV r := rfl
    rw [e] at h
    rcases List.mem_append.1 h with h | h
    · simp at h; rcases h with rfl | rfl <;> rfl
    · exact rotV_one r u h
theorem own_ne_type {w : World} {base : Nat} {e : TypeId} {size n : Nat} {v : Value} {xs : List Value} (h : w.ownsRow base e size v n xs) {p : Nat} {cs : Array Value} {T : TypeId} (hs : SB w p cs T) (hT : T ≠ e) : v.ownBlock ≠ some p := by
  intro hv
  obtain ⟨_, ⟨rfl, _⟩ | ⟨g, cap, cur, rfl, _, hg, _⟩⟩ := h
  · cases hv
  · injection hv with hv
    simp only at hv
    subst hv
    have hs' : w.heap[g]? = some (.cells cs T (0, 0)) := hs
    rw [hs'] at hg
    injection hg with hg
    injection hg with _ hg
    exact hT hg
def RsZ (rs : List (ByteArray × ByteArray)) : Prop := ∀ r ∈ rs, 1 ≤ r.1.size ∧ r.1.size ≤ 100 ∧ r.2.size ≤ 100
def WhBad (w : World) (R N base : Nat) (v : Value) (e : Ending) (w' : World) : Prop :=
  ∃ (v' : Value) (rs' : List (ByteArray × ByteArray)) (p' : ByteArray), e = .returned (.agg #[v', .string p']) ∧ w'.ownsRow base 142 2 v' rs'.length (rotV rs') ∧ rs'.length ≤ 6 ∧ p'.size ≤ 20 ∧ Rdr w' R N ∧ Kept w w' R v
set_option maxHeartbeats 8000000 in
set_option maxRecDepth 100000 in
theorem l6Bad_any (w : World) (R N base g cap : Nat) (rs : List (ByteArray × ByteArray)) (p : ByteArray) (h : Rdr w R N) (hN : N ≤ 50000) (hRb : R < base) (hbw : base ≤ w.heap.size) (ho : w.ownsRow base 142 2 (.slice (some ⟨g, 0, none⟩) rs.length cap) rs.length (rotV rs)) (h1 : 1 ≤ rs.length) (h3 : rs.length ≤ 3) (hz : RsZ rs) (hp : p.size ≤ 20) :
    Calls Tryz.prog 74 #[.pointer (some ⟨R, 0, none⟩), .agg #[.slice (some ⟨g, 0, none⟩) rs.length cap, .string p]] w (WhBad w R (N + 20) base (.slice (some ⟨g, 0, none⟩) rs.length cap)) := by
  obtain ⟨iR, hi, hz0, hz1, hz2⟩ := info_parts Tryz.infoR
  have HI := Lib.hid hi; have HZ0 := Lib.hid hz0; have HZ1 := Lib.hid hz1; have HZ2 := Lib.hid hz2
  clear hi hz0 hz1 hz2
  have hlt0 := h.lt
  have hgb : base ≤ g ∧ g < w.heap.size := ho.lt g rfl
  obtain ⟨w0, hw0⟩ : ∃ w0, w0 = (w.alloc (.cells #[.slice (some ⟨g, 0, none⟩) rs.length cap, .string p] 25)).alloc (.cells #[.slice none 0 0, .string ⟨#[]⟩] 25) := ⟨_, rfl⟩
  have hs0 : SB w0 w.heap.size #[.slice (some ⟨g, 0, none⟩) rs.length cap, .string p] 25 := by rw [hw0]; exact block_kept3 (heap_alloc_new w _) _
  have ht0 : SB w0 (w.heap.size + 1) #[.slice none 0 0, .string ⟨#[]⟩] 25 := by
    rw [hw0]
    have := heap_alloc_new (w.alloc (.cells #[.slice (some ⟨g, 0, none⟩) rs.length cap, .string p] 25)) (.cells #[.slice none 0 0, .string ⟨#[]⟩] 25)
    rw [szalloc3] at this
    exact this
  have hr0 : Rdr w0 R N := by rw [hw0]; exact (h.alloc _).alloc _
  have hk0 : Kept w w0 R (.slice (some ⟨g, 0, none⟩) rs.length cap) := by rw [hw0]; exact Kept.of_only (only_trans (World.grownBy_alloc w _ (some R)) (World.grownBy_alloc _ _ (some R))) _
  have hw00 : w0.ownsRow base 142 2 (.slice (some ⟨g, 0, none⟩) rs.length cap) rs.length (rotV rs) := by rw [hw0]; exact (ho.alloc _).alloc _
  obtain ⟨B, hB⟩ : ∃ B, B = w.heap.size := ⟨_, rfl⟩
  have hwb : w.heap.size ≤ B := by omega
  have hlt : R < B := by omega
  have hbr : B ≠ R := by omega
  have hcr : B + 1 ≠ R := by omega
  have hbc : B + 1 ≠ B := by omega
  have hgB : g < B := by omega
  have hgR : g ≠ R := by omega
  have HNA := Lib.hid (show (Value.slice (some ⟨g, 0, none⟩) rs.length cap).ownBlock ≠ some B by intro e; injection e with e; simp only at e; omega)
  have HNB := Lib.hid (show (Value.slice (some ⟨g, 0, none⟩) rs.length cap).ownBlock ≠ some (B + 1) by intro e; injection e with e; simp only at e; omega)
  have HNR := Lib.hid (show (Value.slice (some ⟨g, 0, none⟩) rs.length cap).ownBlock = none ∨ (Value.slice (some ⟨g, 0, none⟩) rs.length cap).ownBlock ≠ some R by exact .inr (by intro e; injection e with e; simp only at e; omega))
  rw [← hB] at hs0 ht0
  have HS0 := Lib.hid hs0; have HT0 := Lib.hid ht0; have HK0 := Lib.hid hk0; have HW0 := Lib.hid hw00; have HZ := Lib.hid hz
  obtain ⟨c0, c1⟩ := hs0.two_cells
  clear hs0 ht0 hk0 hw00 h hlt0 ho hz
  go_enter Tryz.func74, Tryz.ntmps74
  go_wp2_with fail
  rw [← hw0, ← hB]
  have HBE := Lib.hid hB; clear hw0 hB
  go_wp2_with fail
  refine (pick_pos _ R N _ hr0 (by omega) (by omega) (by omega)).mono ?_
  rintro e w1 ⟨k, rfl, hk, hr1, ho1⟩
  have HS1 := Lib.hid (HS0.out.grow ho1 hbr); have HT1 := Lib.hid (HT0.out.grow ho1 hcr); have HK1 := Lib.hid (HK0.out.only ho1); have HW1 := Lib.hid (HW0.out.kept ho1 HNR.out)
  clear ho1 HS0 HT0 HK0 HW0 hr0 c0 c1
  go_wp2_with fail
  refine (pick_pos _ R _ _ hr1 (by omega) (by omega) (by omega)).mono ?_
  rintro e w2 ⟨x, rfl, hx, hr2, ho2⟩
  have HS2 := Lib.hid (HS1.out.grow ho2 hbr); have HT2 := Lib.hid (HT1.out.grow ho2 hcr); have HK2 := Lib.hid (HK1.out.only ho2); have HW2 := Lib.hid (HW1.out.kept ho2 HNR.out)
  clear ho2 HS1 HT1 HK1 HW1 hr1
  have hkr : k < rs.length := by omega
  by_cases h0 : x = 0
  · subst h0
    obtain ⟨c0, c1⟩ := HS2.out.two_cells
    have hrl := length_rotV rs
    obtain ⟨r1, r2⟩ := rotV_at rs k hkr
    have c2 : w2.cell? ⟨g, k * 2, none⟩ = some (.string rs[k].1) := by rw [HW2.out.cellAt _ (by omega), r1]
    have c3 : w2.cell? ⟨g, k * 2 + 1, none⟩ = some (.string rs[k].2) := by rw [HW2.out.cellAt _ (by omega), r2]
    obtain ⟨y1, y2, y3⟩ := HZ.out _ (List.getElem_mem hkr)
    have hcon := l5Bad_any w2.drew R _ rs[k].1 rs[k].2 hr2 (by omega) y1 y2 y3
    have hset := fun (r : ByteArray × ByteArray) => rotV_set rs k hkr r
    generalize rs[k].1 = a at c2 hcon
    generalize rs[k].2 = n at c3 hcon
    have HCON := Lib.hid hcon; have HSET := Lib.hid hset
    have hRg : R < g := by omega
    have hBg : B ≠ g := by omega
    have hCg : B + 1 ≠ g := by omega
    clear hcon hset hr2 r1 r2 y1 y2 y3
    go_wp2_with fail
    go_region_with (first | (go_at_call 136; refine HCON.out.mono ?_; rintro _ w7 ⟨a7, n7, rfl, hza, hzn, hr7, ho7⟩; obtain ⟨d0, d1⟩ := (HS2.out.grow (only_of_drew ho7) hbr).two_cells; have q0 := (HW2.out.kept (only_of_drew ho7) HNR.out).cellAt (k * 2) (by omega); have q1 := (HW2.out.kept (only_of_drew ho7) HNR.out).cellAt (k * 2 + 1) (by omega); have p0 := (HW2.out.kept (only_of_drew ho7) HNR.out).frozenAt (k * 2); have p1 := (HW2.out.kept (only_of_drew ho7) HNR.out).frozenAt (k * 2 + 1); rw [(rotV_at rs k hkr).1] at q0; rw [(rotV_at rs k hkr).2] at q1) | fail)
    all_goals
      have hst := ((HW2.out.kept (only_of_drew ho7) HNR.out).stored (k * 2) (.string a7))
      have hst2 := hst.1.stored (k * 2 + 1) (.string n7)
      have hw9 := hst2.1
      rw [HSET.out (a7, n7)] at hw9
      have HW := Lib.hid hw9
      have HK := Lib.hid (((HK2.out.only (only_of_drew ho7)).own hst.2).own hst2.2)
      have HS := Lib.hid (((HS2.out.grow (only_of_drew ho7) hbr).far hBg (k * 2) (.string a7)).far hBg (k * 2 + 1) (.string n7))
      have HT := Lib.hid (((HT2.out.grow (only_of_drew ho7) hcr).far hCg (k * 2) (.string a7)).far hCg (k * 2 + 1) (.string n7))
      have HR := Lib.hid ((hr7.far hRg (k * 2) (.string a7)).far hRg (k * 2 + 1) (.string n7))
      clear hst hst2 hw9 hr7 ho7 c0 c1 c2 c3 d0 d1 q0 q1 p0 p1
      have HT6 := Lib.hid (HT.out.two (.slice (some ⟨g, 0, none⟩) rs.length cap) (.string p))
      obtain ⟨e0, e1⟩ := HS.out.two_cells
      obtain ⟨g0, g1⟩ := HT.out.two_cells
      have g2 := HT.out.frozen 0
      have g3 := HT.out.frozen 1
      go_wp2_with fail
      refine bodyPost_ret (results_cell_row rfl _ _ (B + 1) _ #[.slice (some ⟨g, 0, none⟩) rs.length cap, .string p] _ _ rfl HT6.out Tryz.underlying25 rfl whlSize) rfl ⟨_, (rs.set k (a7, n7)), p, rfl, by rw [List.length_set]; exact own_set (own_set HW.out HNB.out 0 _) HNB.out 1 _, by rw [List.length_set]; omega, hp, ((HR.out.far (by omega) 0 _).far (by omega) 1 _).mono (by omega), (HK.out.far (by omega) 0 _).far (by omega) 1 _⟩
  · have b0 : ((x : Int) == 0) = false := by rw [beq_eq_false_iff_ne]; omega
    by_cases h1 : x = 1
    · subst h1
      clear b0 h0
      go_wp2_with fail
      refine (l4Any_any _ R _ hr2 (by omega)).mono ?_
      rintro e w3 ⟨q3, rfl, hq3, hr3, ho3⟩
      obtain ⟨d0, d1⟩ := (HS2.out.grow ho3 hbr).two_cells
      have f1 := (HS2.out.grow ho3 hbr).frozen 1
      have hzq : (pT q3).size ≤ 20 := by rw [pT_size, hq3.len]; omega
      generalize pT q3 = p3 at hzq ⊢
      have hs := (HS2.out.grow ho3 hbr).put 1 (.string p3)
      have ht := (HT2.out.grow ho3 hcr).far hbc 1 (.string p3)
      have hr := hr3.far hlt 1 (.string p3)
      have hkk := (HK2.out.only ho3).far hwb 1 (.string p3)
      have hww := own_set (HW2.out.kept ho3 HNR.out) HNA.out 1 (.string p3)
      obtain ⟨w4, hw4⟩ : ∃ w4, w4 = w3.setCell ⟨B, 1, none⟩ (.string p3) := ⟨_, rfl⟩
      rw [← hw4] at hs ht hr hkk hww
      have HS := Lib.hid hs; have HT := Lib.hid ht; have HR := Lib.hid hr; have HK := Lib.hid hkk; have HW := Lib.hid hww
      clear hs ht hr hkk hww hr3 ho3 hq3 HS2 HT2 HK2 HW2
      have HT6 := Lib.hid (HT.out.two (.slice (some ⟨g, 0, none⟩) rs.length cap) (.string p3))
      obtain ⟨e0, e1⟩ := HS.out.two_cells
      obtain ⟨g0, g1⟩ := HT.out.two_cells
      have g2 := HT.out.frozen 0
      have g3 := HT.out.frozen 1
      go_wp2_with (first | (rw [← hw4]; clear hw4 d0 d1 f1) | fail)
      refine bodyPost_ret (results_cell_row rfl _ _ (B + 1) _ #[.slice (some ⟨g, 0, none⟩) rs.length cap, .string p3] _ _ rfl HT6.out Tryz.underlying25 rfl whlSize) rfl ⟨_, rs, p3, rfl, own_set (own_set HW.out HNB.out 0 _) HNB.out 1 _, by omega, hzq, ((HR.out.far (by omega) 0 _).far (by omega) 1 _).mono (by omega), (HK.out.far (by omega) 0 _).far (by omega) 1 _⟩
    · have b1 : ((x : Int) == 1) = false := by rw [beq_eq_false_iff_ne]; omega
      by_cases h2 : x = 2
      · subst h2
        clear b0 h0 b1 h1
        obtain ⟨d0, d1⟩ := HS2.out.two_cells
        have f1 := HS2.out.frozen 0
        have hs := HS2.out.put 0 (.slice none 0 0)
        have ht := HT2.out.far hbc 0 (.slice none 0 0)
        have hr := hr2.far hlt 0 (.slice none 0 0)
        have hkk := HK2.out.far hwb 0 (.slice none 0 0)
        obtain ⟨w4, hw4⟩ : ∃ w4, w4 = w2.setCell ⟨B, 0, none⟩ (.slice none 0 0) := ⟨_, rfl⟩
        rw [← hw4] at hs ht hr hkk
        have HS := Lib.hid hs; have HT := Lib.hid ht; have HR := Lib.hid hr; have HK := Lib.hid hkk; have HW := Lib.hid (World.ownsRow_nil w4 base 142 2)
        have HNB := Lib.hid (show (Value.slice none 0 0).ownBlock ≠ some (B + 1) by intro e; cases e)
        clear hs ht hr hkk hr2 HS2 HT2 HK2 HW2
        have HT6 := Lib.hid (HT.out.two (.slice none 0 0) (.string p))
        obtain ⟨e0, e1⟩ := HS.out.two_cells
        obtain ⟨g0, g1⟩ := HT.out.two_cells
        have g2 := HT.out.frozen 0
        have g3 := HT.out.frozen 1
        go_wp2_with (first | (rw [← hw4]; clear hw4 d0 d1 f1) | fail)
        refine bodyPost_ret (results_cell_row rfl _ _ (B + 1) _ #[.slice none 0 0, .string p] _ _ rfl HT6.out Tryz.underlying25 rfl whlSize) rfl ⟨_, [], p, rfl, own_set (own_set HW.out HNB.out 0 _) HNB.out 1 _, by simp, hp, ((HR.out.far (by omega) 0 _).far (by omega) 1 _).mono (by omega), (HK.out.far (by omega) 0 _).far (by omega) 1 _⟩
      · have b2 : ((x : Int) == 2) = false := by rw [beq_eq_false_iff_ne]; omega
        by_cases h3 : x = 3
        · subst h3
          clear b0 h0 b1 h1 b2 h2
          obtain ⟨c0, c1⟩ := HS2.out.two_cells
          have hbz : base ≤ w2.heap.size := Nat.le_trans hbw HK2.out.size
          go_wp2_with (at_builtin; refine wpList_append_own _ rfl _ _ 23 rfl base 142 iR (.agg #[.string ByteArray.empty, .string ByteArray.empty]) 2 32 Tryz.undR HI.out HZ0.out HZ1.out HZ2.out rfl (by decide) _ rs.length _ rfl HW2.out ⟨g, 0, none⟩ rs.length cap (rotV rs) rfl (length_rotV rs) (own_news HW2.out) (rotV_one rs) (by unfold maxLen; omega) (by omega) hbz ?_)
          intro v' w6 ho' hg' _
          rw [rotV_append] at ho'
          have hl2 : rs.length + rs.length = (rs ++ rs).length := by simp
          obtain ⟨A7, c7, e7⟩ := slot_slice ho'
          subst e7
          rw [hl2] at ho'
          have hs6 : SB w6 B #[.slice (some ⟨g, 0, none⟩) rs.length cap, .string p] 25 := SB.own HS2.out hg' HNA.out
          have ht6 : SB w6 (B + 1) #[.slice none 0 0, .string ⟨#[]⟩] 25 := SB.own HT2.out hg' HNB.out
          have HNB := Lib.hid (own_ne_type ho' ht6 (by decide))
          have hna := own_ne_type ho' hs6 (by decide)
          obtain ⟨d0, d1⟩ := hs6.two_cells
          have f0 := hs6.frozen 0
          rw [← hl2] at ho'
          have hs := hs6.put 0 (.slice A7 (rs.length + rs.length) c7)
          have ht := ht6.far hbc 0 (.slice A7 (rs.length + rs.length) c7)
          have hr := (hr2.own hg' (fun k' e => by injection e with e; simp only at e; omega)).far hlt 0 (.slice A7 (rs.length + rs.length) c7)
          have hkk := (HK2.out.own hg').far hwb 0 (.slice A7 (rs.length + rs.length) c7)
          have hww := own_set ho' (by rw [hl2]; exact hna) 0 (.slice A7 (rs.length + rs.length) c7)
          obtain ⟨w8, hw8⟩ : ∃ w8, w8 = w6.setCell ⟨B, 0, none⟩ (.slice A7 (rs.length + rs.length) c7) := ⟨_, rfl⟩
          rw [← hw8] at hs ht hr hkk hww
          have HS := Lib.hid hs; have HT := Lib.hid ht; have HR := Lib.hid hr; have HK := Lib.hid hkk; have HW := Lib.hid hww
          rw [← hl2] at HNB
          have HL2 := Lib.hid hl2
          clear hs ht hr hkk hww hr2 HS2 HT2 HK2 HW2 c0 c1 hs6 ht6 hg' hna ho' hl2
          have HT6 := Lib.hid (HT.out.two (.slice A7 (rs.length + rs.length) c7) (.string p))
          obtain ⟨e0, e1⟩ := HS.out.two_cells
          obtain ⟨g0, g1⟩ := HT.out.two_cells
          have g2 := HT.out.frozen 0
          have g3 := HT.out.frozen 1
          go_wp2_with (first | (rw [← hw8]; clear hw8 d0 d1 f0) | fail)
          refine bodyPost_ret (results_cell_row rfl _ _ (B + 1) _ #[.slice A7 (rs.length + rs.length) c7, .string p] _ _ rfl HT6.out Tryz.underlying25 rfl whlSize) rfl ⟨_, (rs ++ rs), p, rfl, by rw [← HL2.out]; exact own_set (own_set HW.out HNB.out 0 _) HNB.out 1 _, by rw [← HL2.out]; omega, hp, ((HR.out.far (by omega) 0 _).far (by omega) 1 _).mono (by omega), (HK.out.far (by omega) 0 _).far (by omega) 1 _⟩
        · have b3 : ((x : Int) == 3) = false := by rw [beq_eq_false_iff_ne]; omega
          clear h0 h1 h2 h3
          have HS := HS2; have HT := HT2; have HR := Lib.hid hr2; have HK := HK2; have HW := HW2
          clear HS2 HT2 hr2 HK2 HW2
          have HT6 := Lib.hid (HT.out.two (.slice (some ⟨g, 0, none⟩) rs.length cap) (.string p))
          obtain ⟨e0, e1⟩ := HS.out.two_cells
          obtain ⟨g0, g1⟩ := HT.out.two_cells
          have g2 := HT.out.frozen 0
          have g3 := HT.out.frozen 1
          go_wp2_with fail
          refine bodyPost_ret (results_cell_row rfl _ _ (B + 1) _ #[.slice (some ⟨g, 0, none⟩) rs.length cap, .string p] _ _ rfl HT6.out Tryz.underlying25 rfl whlSize) rfl ⟨_, rs, p, rfl, own_set (own_set HW.out HNB.out 0 _) HNB.out 1 _, by omega, hp, ((HR.out.far (by omega) 0 _).far (by omega) 1 _).mono (by omega), (HK.out.far (by omega) 0 _).far (by omega) 1 _⟩
def MaBad (w : World) (R N base : Nat) (v : Value) (e : Ending) (w' : World) : Prop :=
  ∃ (v' : Value) (rs' : List (ByteArray × ByteArray)) (p' g' l' : ByteArray), e = .returned (.agg #[v', .string p', .string g', .string l']) ∧ w'.ownsRow base 142 2 v' rs'.length (rotV rs') ∧ rs'.length ≤ 6 ∧ p'.size ≤ 20 ∧ g'.size ≤ 10 ∧ l'.size ≤ 20 ∧ Rdr w' R N ∧ Kept w w' R v
set_option maxHeartbeats 8000000 in
set_option maxRecDepth 100000 in
theorem l8Bad_any (w : World) (R N base b cap : Nat) (rs : List (ByteArray × ByteArray)) (p g l : ByteArray) (h : Rdr w R N) (hN : N ≤ 40000) (hRb : R < base) (hbw : base ≤ w.heap.size) (ho : w.ownsRow base 142 2 (.slice (some ⟨b, 0, none⟩) rs.length cap) rs.length (rotV rs)) (h1 : 1 ≤ rs.length) (h3 : rs.length ≤ 3) (hz : RsZ rs) (hp : p.size ≤ 20) (hg1 : 1 ≤ g.size) (hg : g.size ≤ 3) (hl : l.size ≤ 20) :
    Calls Tryz.prog 42 #[.pointer (some ⟨R, 0, none⟩), .agg #[.slice (some ⟨b, 0, none⟩) rs.length cap, .string p, .string g, .string l]] w (MaBad w R (N + 100) base (.slice (some ⟨b, 0, none⟩) rs.length cap)) := by
  have hlt0 := h.lt
  have hgb : base ≤ b ∧ b < w.heap.size := ho.lt b rfl
  obtain ⟨w0, hw0⟩ : ∃ w0, w0 = (w.alloc (.cells #[.slice (some ⟨b, 0, none⟩) rs.length cap, .string p, .string g, .string l] 27)).alloc (.cells #[.slice none 0 0, .string ⟨#[]⟩, .string ⟨#[]⟩, .string ⟨#[]⟩] 27) := ⟨_, rfl⟩
  have hs0 : SB w0 w.heap.size #[.slice (some ⟨b, 0, none⟩) rs.length cap, .string p, .string g, .string l] 27 := by rw [hw0]; exact block_kept3 (heap_alloc_new w _) _
  have ht0 : SB w0 (w.heap.size + 1) #[.slice none 0 0, .string ⟨#[]⟩, .string ⟨#[]⟩, .string ⟨#[]⟩] 27 := by
    rw [hw0]
    have := heap_alloc_new (w.alloc (.cells #[.slice (some ⟨b, 0, none⟩) rs.length cap, .string p, .string g, .string l] 27)) (.cells #[.slice none 0 0, .string ⟨#[]⟩, .string ⟨#[]⟩, .string ⟨#[]⟩] 27)
    rw [szalloc3] at this
    exact this
  have hr0 : Rdr w0 R N := by rw [hw0]; exact (h.alloc _).alloc _
  have hk0 : Kept w w0 R (.slice (some ⟨b, 0, none⟩) rs.length cap) := by rw [hw0]; exact Kept.of_only (only_trans (World.grownBy_alloc w _ (some R)) (World.grownBy_alloc _ _ (some R))) _
  have hw00 : w0.ownsRow base 142 2 (.slice (some ⟨b, 0, none⟩) rs.length cap) rs.length (rotV rs) := by rw [hw0]; exact (ho.alloc _).alloc _
  obtain ⟨B, hB⟩ : ∃ B, B = w.heap.size := ⟨_, rfl⟩
  have hwb : w.heap.size ≤ B := by omega
  have hlt : R < B := by omega
  have hbr : B ≠ R := by omega
  have hcr : B + 1 ≠ R := by omega
  have hbc : B + 1 ≠ B := by omega
  have HNA := Lib.hid (show (Value.slice (some ⟨b, 0, none⟩) rs.length cap).ownBlock ≠ some B by intro e; injection e with e; simp only at e; omega)
  have HNB := Lib.hid (show (Value.slice (some ⟨b, 0, none⟩) rs.length cap).ownBlock ≠ some (B + 1) by intro e; injection e with e; simp only at e; omega)
  have HNR := Lib.hid (show (Value.slice (some ⟨b, 0, none⟩) rs.length cap).ownBlock = none ∨ (Value.slice (some ⟨b, 0, none⟩) rs.length cap).ownBlock ≠ some R by exact .inr (by intro e; injection e with e; simp only at e; omega))
  rw [← hB] at hs0 ht0
  have HS0 := Lib.hid hs0; have HT0 := Lib.hid ht0; have HK0 := Lib.hid hk0; have HW0 := Lib.hid hw00; have HZ := Lib.hid hz
  clear hs0 ht0 hk0 hw00 h hlt0 ho hz
  go_enter Tryz.func42, Tryz.ntmps42
  go_wp2_with fail
  rw [← hw0, ← hB]
  have HBE := Lib.hid hB; clear hw0 hB
  refine (pick_pos _ R N _ hr0 (by omega) (by omega) (by omega)).mono ?_
  rintro e w1 ⟨x, rfl, hx, hr1, ho1⟩
  have HSX := Lib.hid (HS0.out.grow ho1 hbr); have HTX := Lib.hid (HT0.out.grow ho1 hcr); have HKX := Lib.hid (HK0.out.only ho1); have HWX := Lib.hid (HW0.out.kept ho1 HNR.out); have HRX := Lib.hid hr1
  clear ho1 HS0 HT0 HK0 HW0 hr0 hr1
  by_cases h0 : x = 0
  · subst h0
    obtain ⟨⟨c0, c1, c2, c3⟩, _⟩ := HSX.out.all4
    go_wp2_with fail
    refine (l6Bad_any w1 R _ base b cap rs p HRX.out (by omega) hRb (Nat.le_trans hbw HKX.out.size) HWX.out h1 h3 HZ.out hp).mono ?_
    rintro e w3 ⟨v3, rs3, p3, rfl, how3, hl3, hzp3, hr3, hk3⟩
    obtain ⟨A3, c3', e3⟩ := slot_slice how3
    subst e3
    have hs3 := hk3.sb HSX.out hbr HNA.out
    have ht3 := hk3.sb HTX.out hcr HNB.out
    obtain ⟨⟨d0, d1, d2, d3⟩, f0, f1, f2, f3⟩ := hs3.all4
    have hna := own_ne_type how3 hs3 (by decide)
    have HNB3 := Lib.hid (own_ne_type how3 ht3 (by decide))
    have hs := (hs3.put 0 (.slice A3 rs3.length c3')).put 1 (.string p3)
    have ht := (ht3.far hbc 0 (.slice A3 rs3.length c3')).far hbc 1 (.string p3)
    have hr := (hr3.far hlt 0 (.slice A3 rs3.length c3')).far hlt 1 (.string p3)
    have hkk := ((HKX.out.trans hk3).far hwb 0 (.slice A3 rs3.length c3')).far hwb 1 (.string p3)
    have hww := own_set (own_set how3 hna 0 (.slice A3 rs3.length c3')) hna 1 (.string p3)
    obtain ⟨w9, hw9⟩ : ∃ w9, w9 = (w3.setCell ⟨B, 0, none⟩ (.slice A3 rs3.length c3')).setCell ⟨B, 1, none⟩ (.string p3) := ⟨_, rfl⟩
    rw [← hw9] at hs ht hr hkk hww
    have HS := Lib.hid (show SB w9 B #[.slice A3 rs3.length c3', .string p3, .string g, .string l] 27 from hs); have HT := Lib.hid ht; have HR := Lib.hid hr; have HK := Lib.hid hkk; have HW := Lib.hid hww
    have HNB := HNB3
    clear hs ht hr hkk hww hr3 hk3 hs3 ht3 how3 hna HSX HTX HRX HKX HWX c0 c1 c2 c3 HNB3
    have HT6 := Lib.hid (HT.out.four (.slice A3 rs3.length c3') (.string p3) (.string g) (.string l))
    obtain ⟨⟨e0, e1, e2, e3⟩, _⟩ := HS.out.all4
    obtain ⟨⟨g0, g1, g2, g3⟩, j0, j1, j2, j3⟩ := HT.out.all4
    go_wp2_with (first | (rw [← hw9]; clear hw9 d0 d1 d2 d3 f0 f1 f2 f3) | fail)
    refine bodyPost_ret (results_cell_row rfl _ _ (B + 1) _ #[.slice A3 rs3.length c3', .string p3, .string g, .string l] _ _ rfl HT6.out Tryz.underlying27 rfl macSize) rfl ⟨_, rs3, p3, g, l, rfl, own_set (own_set (own_set (own_set HW.out HNB.out 0 _) HNB.out 1 _) HNB.out 2 _) HNB.out 3 _, hl3, hzp3, by omega, hl, ((((HR.out.far (by omega) 0 _).far (by omega) 1 _).far (by omega) 2 _).far (by omega) 3 _).mono (by omega), ((((HK.out.far (by omega) 0 _).far (by omega) 1 _).far (by omega) 2 _).far (by omega) 3 _)⟩
  · have b0 : ((x : Int) == 0) = false := by rw [beq_eq_false_iff_ne]; omega
    by_cases h1x : x = 1
    · subst h1x
      clear b0 h0
      have hz1 : (g ++ ⟨#[97]⟩ : ByteArray).size ≤ 10 := by rw [ByteArray.size_append]; show g.size + 1 ≤ 10; omega
      have HZ1 := Lib.hid hz1; clear hz1
      obtain ⟨⟨d0, d1, d2, d3⟩, f0, f1, f2, f3⟩ := HSX.out.all4
      have hs := HSX.out.put 2 (.string (g ++ ⟨#[97]⟩))
      have ht := HTX.out.far hbc 2 (.string (g ++ ⟨#[97]⟩))
      have hr := HRX.out.far hlt 2 (.string (g ++ ⟨#[97]⟩))
      have hkk := HKX.out.far hwb 2 (.string (g ++ ⟨#[97]⟩))
      have hww := own_set HWX.out HNA.out 2 (.string (g ++ ⟨#[97]⟩))
      obtain ⟨w9, hw9⟩ : ∃ w9, w9 = w1.setCell ⟨B, 2, none⟩ (.string (g ++ ⟨#[97]⟩)) := ⟨_, rfl⟩
      rw [← hw9] at hs ht hr hkk hww
      have HS := Lib.hid hs; have HT := Lib.hid ht; have HR := Lib.hid hr; have HK := Lib.hid hkk; have HW := Lib.hid hww
      clear hs ht hr hkk hww HSX HTX HRX HKX HWX
      have HT6 := Lib.hid (HT.out.four (.slice (some ⟨b, 0, none⟩) rs.length cap) (.string p) (.string (g ++ ⟨#[97]⟩)) (.string l))
      obtain ⟨⟨e0, e1, e2, e3⟩, _⟩ := HS.out.all4
      obtain ⟨⟨g0, g1, g2, g3⟩, j0, j1, j2, j3⟩ := HT.out.all4
      go_wp2_with (first | (rw [← hw9]; clear hw9 d0 d1 d2 d3 f0 f1 f2 f3) | fail)
      refine bodyPost_ret (results_cell_row rfl _ _ (B + 1) _ #[.slice (some ⟨b, 0, none⟩) rs.length cap, .string p, .string (g ++ ⟨#[97]⟩), .string l] _ _ rfl HT6.out Tryz.underlying27 rfl macSize) rfl ⟨_, rs, p, (g ++ ⟨#[97]⟩), l, rfl, own_set (own_set (own_set (own_set HW.out HNB.out 0 _) HNB.out 1 _) HNB.out 2 _) HNB.out 3 _, by omega, hp, HZ1.out, hl, ((((HR.out.far (by omega) 0 _).far (by omega) 1 _).far (by omega) 2 _).far (by omega) 3 _).mono (by omega), ((((HK.out.far (by omega) 0 _).far (by omega) 1 _).far (by omega) 2 _).far (by omega) 3 _)⟩
    · have b1 : ((x : Int) == 1) = false := by rw [beq_eq_false_iff_ne]; omega
      by_cases h2x : x = 2
      · subst h2x
        clear b0 h0 b1 h1x
        go_wp2_with fail
        refine (l2Some_any _ R _ HRX.out (by omega)).mono ?_
        rintro e w3 ⟨q3, rfl, hq3, hr3, ho3⟩
        have hzq : (pT q3).size ≤ 20 := by rw [pT_size, hq3.len]; omega
        generalize pT q3 = l3 at hzq ⊢
        have hsx := HSX.out.grow ho3 hbr; have htx := HTX.out.grow ho3 hcr; have hkx := HKX.out.only ho3; have hwx := HWX.out.kept ho3 HNR.out
        clear HSX HTX HRX HKX HWX
        have HSX := Lib.hid hsx; have HTX := Lib.hid htx; have HKX := Lib.hid hkx; have HWX := Lib.hid hwx; have HRX := Lib.hid hr3
        clear hsx htx hkx hwx hr3 ho3 hq3
        obtain ⟨⟨d0, d1, d2, d3⟩, f0, f1, f2, f3⟩ := HSX.out.all4
        have hs := HSX.out.put 3 (.string l3)
        have ht := HTX.out.far hbc 3 (.string l3)
        have hr := HRX.out.far hlt 3 (.string l3)
        have hkk := HKX.out.far hwb 3 (.string l3)
        have hww := own_set HWX.out HNA.out 3 (.string l3)
        obtain ⟨w9, hw9⟩ : ∃ w9, w9 = w3.setCell ⟨B, 3, none⟩ (.string l3) := ⟨_, rfl⟩
        rw [← hw9] at hs ht hr hkk hww
        have HS := Lib.hid hs; have HT := Lib.hid ht; have HR := Lib.hid hr; have HK := Lib.hid hkk; have HW := Lib.hid hww
        clear hs ht hr hkk hww HSX HTX HRX HKX HWX
        have HT6 := Lib.hid (HT.out.four (.slice (some ⟨b, 0, none⟩) rs.length cap) (.string p) (.string g) (.string l3))
        obtain ⟨⟨e0, e1, e2, e3⟩, _⟩ := HS.out.all4
        obtain ⟨⟨g0, g1, g2, g3⟩, j0, j1, j2, j3⟩ := HT.out.all4
        go_wp2_with (first | (rw [← hw9]; clear hw9 d0 d1 d2 d3 f0 f1 f2 f3) | fail)
        refine bodyPost_ret (results_cell_row rfl _ _ (B + 1) _ #[.slice (some ⟨b, 0, none⟩) rs.length cap, .string p, .string g, .string l3] _ _ rfl HT6.out Tryz.underlying27 rfl macSize) rfl ⟨_, rs, p, g, l3, rfl, own_set (own_set (own_set (own_set HW.out HNB.out 0 _) HNB.out 1 _) HNB.out 2 _) HNB.out 3 _, by omega, hp, by omega, hzq, ((((HR.out.far (by omega) 0 _).far (by omega) 1 _).far (by omega) 2 _).far (by omega) 3 _).mono (by omega), ((((HK.out.far (by omega) 0 _).far (by omega) 1 _).far (by omega) 2 _).far (by omega) 3 _)⟩
      · have b2 : ((x : Int) == 2) = false := by rw [beq_eq_false_iff_ne]; omega
        by_cases h3x : x = 3
        · subst h3x
          clear b0 h0 b1 h1x b2 h2x
          have hz1 : (g.extract 1 g.size ++ ⟨#[107]⟩ : ByteArray).size ≤ 10 := by rw [ByteArray.size_append, ByteArray.size_extract]; show _ + 1 ≤ 10; omega
          have HZ1 := Lib.hid hz1; clear hz1
          have y1 : (1 : Int) ≤ (g.size : Int) := by omega
          have y2 : (g.extract 1 g.size).size ≤ 3 := by rw [ByteArray.size_extract]; omega
          obtain ⟨⟨d0, d1, d2, d3⟩, f0, f1, f2, f3⟩ := HSX.out.all4
          have hs := HSX.out.put 2 (.string (g.extract 1 g.size ++ ⟨#[107]⟩))
          have ht := HTX.out.far hbc 2 (.string (g.extract 1 g.size ++ ⟨#[107]⟩))
          have hr := HRX.out.far hlt 2 (.string (g.extract 1 g.size ++ ⟨#[107]⟩))
          have hkk := HKX.out.far hwb 2 (.string (g.extract 1 g.size ++ ⟨#[107]⟩))
          have hww := own_set HWX.out HNA.out 2 (.string (g.extract 1 g.size ++ ⟨#[107]⟩))
          obtain ⟨w9, hw9⟩ : ∃ w9, w9 = w1.setCell ⟨B, 2, none⟩ (.string (g.extract 1 g.size ++ ⟨#[107]⟩)) := ⟨_, rfl⟩
          rw [← hw9] at hs ht hr hkk hww
          have HS := Lib.hid hs; have HT := Lib.hid ht; have HR := Lib.hid hr; have HK := Lib.hid hkk; have HW := Lib.hid hww
          clear hs ht hr hkk hww HSX HTX HRX HKX HWX
          have HT6 := Lib.hid (HT.out.four (.slice (some ⟨b, 0, none⟩) rs.length cap) (.string p) (.string (g.extract 1 g.size ++ ⟨#[107]⟩)) (.string l))
          obtain ⟨⟨e0, e1, e2, e3⟩, _⟩ := HS.out.all4
          obtain ⟨⟨g0, g1, g2, g3⟩, j0, j1, j2, j3⟩ := HT.out.all4
          go_wp2_with (first | (rw [← hw9]; clear hw9 d0 d1 d2 d3 f0 f1 f2 f3) | fail)
          refine bodyPost_ret (results_cell_row rfl _ _ (B + 1) _ #[.slice (some ⟨b, 0, none⟩) rs.length cap, .string p, .string (g.extract 1 g.size ++ ⟨#[107]⟩), .string l] _ _ rfl HT6.out Tryz.underlying27 rfl macSize) rfl ⟨_, rs, p, (g.extract 1 g.size ++ ⟨#[107]⟩), l, rfl, own_set (own_set (own_set (own_set HW.out HNB.out 0 _) HNB.out 1 _) HNB.out 2 _) HNB.out 3 _, by omega, hp, HZ1.out, hl, ((((HR.out.far (by omega) 0 _).far (by omega) 1 _).far (by omega) 2 _).far (by omega) 3 _).mono (by omega), ((((HK.out.far (by omega) 0 _).far (by omega) 1 _).far (by omega) 2 _).far (by omega) 3 _)⟩
        · have b3 : ((x : Int) == 3) = false := by rw [beq_eq_false_iff_ne]; omega
          clear h0 h1x h2x h3x
          have HS := HSX; have HT := HTX; have HR := HRX; have HK := HKX; have HW := HWX
          clear HSX HTX HRX HKX HWX
          have HT6 := Lib.hid (HT.out.four (.slice (some ⟨b, 0, none⟩) rs.length cap) (.string p) (.string g) (.string l))
          obtain ⟨⟨e0, e1, e2, e3⟩, _⟩ := HS.out.all4
          obtain ⟨⟨g0, g1, g2, g3⟩, j0, j1, j2, j3⟩ := HT.out.all4
          go_wp2_with fail
          refine bodyPost_ret (results_cell_row rfl _ _ (B + 1) _ #[.slice (some ⟨b, 0, none⟩) rs.length cap, .string p, .string g, .string l] _ _ rfl HT6.out Tryz.underlying27 rfl macSize) rfl ⟨_, rs, p, g, l, rfl, own_set (own_set (own_set (own_set HW.out HNB.out 0 _) HNB.out 1 _) HNB.out 2 _) HNB.out 3 _, by omega, hp, by omega, hl, ((((HR.out.far (by omega) 0 _).far (by omega) 1 _).far (by omega) 2 _).far (by omega) 3 _).mono (by omega), ((((HK.out.far (by omega) 0 _).far (by omega) 1 _).far (by omega) 2 _).far (by omega) 3 _)⟩
theorem l8Off_any (w : World) (R N : Nat) (s : ByteArray) (h : Rdr w R N) (hN : N ≤ 1000000) (h1 : 1 ≤ s.size) (h2 : s.size ≤ 3) :
    Calls Tryz.prog 43 #[.pointer (some ⟨R, 0, none⟩), .string s] w (StrD w R (N + 1) 10) := by
  go_enter Tryz.func43, Tryz.ntmps43
  go_wp2_with fail
  refine (pick_pos _ R N _ h (by omega) (by omega) (by omega)).mono ?_
  rintro e w1 ⟨x, rfl, hx, hr1, ho1⟩
  have HO1 := Lib.hid ho1; clear ho1 h
  by_cases h0 : x = 0
  · subst h0
    go_wp2_with fail
    go_ret
    exact ⟨_, rfl, by rw [ByteArray.size_append]; show s.size + 1 ≤ 10; omega, hr1, HO1.out⟩
  · have b0 : ((x : Int) == 0) = false := by rw [beq_eq_false_iff_ne]; omega
    by_cases h1x : x = 1
    · subst h1x
      clear b0 h0
      have y1 : (1 : Int) ≤ (s.size : Int) := by omega
      have y2 : (s.extract 1 s.size).size ≤ 3 := by rw [ByteArray.size_extract]; omega
      go_wp2_with fail
      go_ret
      exact ⟨_, rfl, by rw [ByteArray.size_append]; show (s.extract 1 s.size).size + 1 ≤ 10; omega, hr1, HO1.out⟩
    · have b1 : ((x : Int) == 1) = false := by rw [beq_eq_false_iff_ne]; omega
      clear h0 h1x
      go_wp2_with fail
      go_ret
      exact ⟨s, rfl, by omega, hr1, HO1.out⟩
theorem Rd.far {w : World} {B p : Nat} {A : Option Addr} {xs : List Value} (h : Rd w B A xs) (hA : ∀ x, A = some x → x.block ≠ p) (i : Nat) (u : Value) : Rd (w.setCell ⟨p, i, none⟩ u) B A xs := fun hn => by
  obtain ⟨b, off, e, hb, hc⟩ := h hn
  refine ⟨b, off, e, hb, fun j hj => ?_⟩
  have hbp : b ≠ p := hA _ e
  exact (World.cell?_of_block (a := ⟨b, off + j, none⟩) (Below.heap_setCell w ⟨p, i, none⟩ u b hbp)).trans (hc j hj)
theorem rotT_sizes {rs : List (ByteArray × ByteArray)} (h : ∀ r ∈ rs, RotT r) : RsZ rs := fun r hr => by
  have := (h r hr).siz
  exact ⟨by omega, by omega, by omega⟩
end Go.Proofs.YtnbdimbhklbadaaGreatDoor
