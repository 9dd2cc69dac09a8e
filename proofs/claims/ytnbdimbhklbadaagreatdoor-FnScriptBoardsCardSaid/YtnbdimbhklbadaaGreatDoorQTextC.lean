/-
  Contracts of functions and plain laws that the law's proof uses (parts: TextC). Conditions: what each theorem names.
-/
import Derived.Laws.Rows
import Derived.Laws.Tables
import Derived.Deep.AppendLies
import Derived.BigRegion
import Derived.Deep.RegionHeld3
import Derived.Deep.RegionLaw
import Derived.Test.YtnbdimbhklbadaaGreatDoorQTextA
import Derived.Test.YtnbdimbhklbadaaGreatDoorQBsA
namespace Go.Proofs.YtnbdimbhklbadaaGreatDoor
open Go.RowKit Pl
set_option linter.unusedVariables false
theorem l1Some_to (w : World) (R N n : Nat) (m : Int) (hm : m = (n : Int)) (h : Rdr w R N) (hN : N + n ≤ 1000000000) (hn : n ≤ 1000000) :
    Calls Tryz.prog 71 #[.pointer (some ⟨R, 0, none⟩), .int .i64 m] w fun e w' => ∃ q : List Nat, e = .returned (.string (pT q)) ∧ q.length = n ∧ Lo q ∧ Rdr w' R (N + n) ∧ w.grownBy w' (some R) := by
  subst hm
  refine (l1Some_any w R N n h hN hn).mono ?_
  rintro e w' ⟨l, rfl, hl, hall, hr, ho⟩
  obtain ⟨q, hq, hlo⟩ := pT_of_wv (s := mk l) (by rw [tl_mk]; exact hall)
  refine ⟨q, by rw [hq], ?_, hlo, hr, ho⟩
  have := congrArg ByteArray.size hq
  rw [size_mk, pT_size] at this
  omega
def RotT (r : ByteArray × ByteArray) : Prop := ∃ q n, r = (pT q, pT n) ∧ Prm q ∧ Lo n ∧ n.length ≤ 3
theorem RotT.siz {r : ByteArray × ByteArray} (h : RotT r) : r.1.size = 10 ∧ r.2.size ≤ 3 := by
  obtain ⟨q, n, rfl, hq, _, hn⟩ := h
  exact ⟨by rw [pT_size]; exact hq.len, by rw [pT_size]; exact hn⟩
theorem lo_snoc {l : List Nat} (h : Lo l) {x : Nat} (hx : x < 10) : Lo (l ++ [x]) := lo_append h (fun y hy => by simp at hy; subst hy; exact hx)
set_option maxHeartbeats 2000000 in
theorem l5Notches_any (w : World) (R N : Nat) (h : Rdr w R N) (hN : N ≤ 100000) :
    Calls Tryz.prog 283 #[.pointer (some ⟨R, 0, none⟩), .int .i64 3] w fun e w' => ∃ n, e = .returned (.string (pT n)) ∧ Lo n ∧ n.length ≤ 3 ∧ Rdr w' R (N + 5) ∧ w.grownBy w' (some R) := by
  go_enter Tryz.func283, Tryz.ntmps283
  go_wp2_with fail
  refine (pick_pos _ R N _ h (by omega) (by omega) (by omega)).mono ?_
  rintro e w1 ⟨m, rfl, hm, hr1, ho1⟩
  have HO1 := Lib.hid ho1; clear ho1 h
  go_wp2_with fail
  refine (pick_pos _ R _ _ hr1 (by omega) (by omega) (by omega)).mono ?_
  rintro e w2 ⟨x0, rfl, hx0, hr2, ho2⟩
  have HO2 := Lib.hid (only_trans HO1.out ho2); clear ho2 HO1 hr1
  go_wp2_with fail
  go_loopw [5, 7] (fun ov xv wr => ∃ (x : Nat) (nt : List Nat), ov = .string (pT nt) ∧ xv = .int .i64 x ∧ Hid (Lo nt) ∧ nt.length ≤ m ∧ x ≤ 20 ∧ Rdr wr R (N + 2 + nt.length) ∧ w.grownBy wr (some R)) (fun _ xv _ => 20 - (intOf xv).toNat)
  case atStart => exact ⟨x0, [], rfl, rfl, Lib.hid (fun x hx => by simp at hx), by simp, by omega, hr2.mono (by simp), HO2.out⟩
  case round =>
    obtain ⟨x, nt, rfl, rfl, HL, hnl, hx, hr, ho⟩ := hrel
    have HO := Lib.hid ho; clear ho HO2 hr2
    have hzt := pT_size nt
    have hz1 : (pT nt).size ≤ nt.length := by omega
    have hz2 : nt.length ≤ (pT nt).size := by omega
    clear hzt
    by_cases hlt : x < 10
    · by_cases hlm : nt.length < m
      · have hsn : pT nt ++ mk [letter x] = pT (nt ++ [x]) := pT_snoc nt x
        have HSN := Lib.hid hsn; have HL2 := Lib.hid (lo_snoc HL.out hlt); clear hsn
        obtain ⟨T, hT⟩ : ∃ T, T = pT nt := ⟨_, rfl⟩
        rw [← hT] at HSN hz1 hz2 ⊢
        clear hT
        go_wp2_with fail
        refine (l1Letter_is _ _ x (by omega) (by omega)).mono ?_
        rintro _ w3 ⟨rfl, hb3⟩
        have HO3 := Lib.hid (only_trans HO.out (only_of_below hb3 (some R)))
        have hr3 := hr.below hb3
        clear hb3
        have hzc : (mk [letter x]).size ≤ 1 := by rw [size_mk]; simp
        generalize mk [letter x] = c at HSN hzc ⊢
        go_wp2_with fail
        refine (pick_pos _ R _ _ hr3 (by omega) (by omega) (by omega)).mono ?_
        rintro e w4 ⟨y, rfl, hy, hr4, ho4⟩
        have HO4 := Lib.hid (only_trans HO3.out ho4); clear ho4
        go_wp2_with fail
        go_roundw
        case rel => exact ⟨x + 1 + y, nt ++ [x], by rw [HSN.out], by go_num, HL2, by simp; omega, by omega, hr4.mono (by simp; omega), HO4.out⟩
        case measure => simp [intOf]; omega
      · go_wp2_with fail
        go_ret
        exact ⟨nt, rfl, HL.out, by omega, hr.mono (by omega), HO.out⟩
    · go_wp2_with fail
      go_ret
      exact ⟨nt, rfl, HL.out, by omega, hr.mono (by omega), HO.out⟩
theorem only_far {a b : World} {R p : Nat} (h : a.grownBy b (some R)) (hp : a.heap.size ≤ p) (i : Nat) (u : Value) : a.grownBy (b.setCell ⟨p, i, none⟩ u) (some R) :=
  ⟨h.os, h.tape, h.output, by simpa [World.setCell] using h.size, fun k hk hn => (Below.heap_setCell b ⟨p, i, none⟩ u k (by show k ≠ p; omega)).trans (h.block k hk hn)⟩
theorem Rdr.far {w : World} {R N p : Nat} (h : Rdr w R N) (hp : R < p) (i : Nat) (u : Value) : Rdr (w.setCell ⟨p, i, none⟩ u) R N := by
  obtain ⟨A, cap, q, bs, hb', h0, h1, h2, h3⟩ := h
  exact ⟨A, cap, q, bs, (Below.heap_setCell _ _ _ _ (by show R ≠ p; omega)).trans hb', h0, h1, h2, h3.keep fun k hk => Below.heap_setCell _ _ _ _ (by show k ≠ p; omega)⟩
abbrev SB (w : World) (p : Nat) (cs : Array Value) (T : TypeId) : Prop := w.heap[p]? = some (.cells cs T (0, 0))
theorem SB.grow {w w' : World} {p R : Nat} {cs : Array Value} {T : TypeId} (h : SB w p cs T) (hg : w.grownBy w' (some R)) (hn : p ≠ R) : SB w' p cs T :=
  (hg.block p (Array.getElem?_eq_some_iff.1 h).1 (by intro e; injection e with e; exact hn e)).trans h
theorem SB.below {w w' : World} {p : Nat} {cs : Array Value} {T : TypeId} (h : SB w p cs T) (hb : Below w.heap.size w w') : SB w' p cs T :=
  (hb.block p (Array.getElem?_eq_some_iff.1 h).1).trans h
theorem SB.far {w : World} {p q : Nat} {cs : Array Value} {T : TypeId} (h : SB w p cs T) (hn : p ≠ q) (i : Nat) (u : Value) : SB (w.setCell ⟨q, i, none⟩ u) p cs T :=
  (Below.heap_setCell _ _ _ _ (by exact hn)).trans h
theorem SB.put {w : World} {p : Nat} {cs : Array Value} {T : TypeId} (h : SB w p cs T) (i : Nat) (u : Value) : SB (w.setCell ⟨p, i, none⟩ u) p (cs.setIfInBounds i u) T := set_block2 h i u
theorem SB.two {w : World} {p : Nat} {a b : Value} {T : TypeId} (h : SB w p #[a, b] T) (u v : Value) : SB ((w.setCell ⟨p, 0, none⟩ u).setCell ⟨p, 1, none⟩ v) p #[u, v] T := (h.put 0 u).put 1 v
theorem SB.lt {w : World} {p : Nat} {cs : Array Value} {T : TypeId} (h : SB w p cs T) : p < w.heap.size := (Array.getElem?_eq_some_iff.1 h).1
theorem SB.cell {w : World} {p : Nat} {cs : Array Value} {T : TypeId} (h : SB w p cs T) (i : Nat) (u : Value) (hi : cs[i]? = some u) : w.cell? ⟨p, i, none⟩ = some u := by rw [cell_of_row w p i _ _ _ h]; exact hi
theorem SB.frozen {w : World} {p : Nat} {cs : Array Value} {T : TypeId} (h : SB w p cs T) (i : Nat) : w.frozen? ⟨p, i, none⟩ = false := by
  have h2 : w.heap[p]? = some (.cells cs T (0, 0)) := h
  simp [World.frozen?, h2]
theorem SB.made (w : World) (cs : Array Value) (T : TypeId) : SB (w.alloc (.cells cs T)) w.heap.size cs T := heap_alloc_new _ _
def RDrawn (w : World) (R N : Nat) (e : Ending) (w' : World) : Prop := ∃ r : ByteArray × ByteArray, e = .returned (.agg #[.string r.1, .string r.2]) ∧ RotT r ∧ Rdr w' R N ∧ w.grownBy w' (some R)
theorem rotSize : (Tryz.prog.info? 142).map (·.size) = some 2 := by kernel_rfl
theorem l5Some_any (w : World) (R N : Nat) (h : Rdr w R N) (hN : N ≤ 90000) :
    Calls Tryz.prog 253 #[.pointer (some ⟨R, 0, none⟩)] w (RDrawn w R (N + 11)) := by
  have hlt := h.lt
  have h0 := h.alloc (.cells #[.string ByteArray.empty, .string ByteArray.empty] 142)
  have HO0 := Lib.hid (World.grownBy_alloc w (.cells #[.string ByteArray.empty, .string ByteArray.empty] 142) (some R))
  have HN0 := Lib.hid (SB.made w #[.string ByteArray.empty, .string ByteArray.empty] 142)
  clear h
  go_enter Tryz.func253, Tryz.ntmps253
  go_wp2_with fail
  refine (l2Some_any _ R _ h0 (by omega)).mono ?_
  rintro e w1 ⟨q, rfl, hq, hr1, ho1⟩
  have HQ := Lib.hid hq; have HO1 := Lib.hid (only_trans HO0.out ho1); have HK1 := Lib.hid (HN0.out.grow ho1 (by omega)); clear hq ho1 h0
  go_wp2_with fail
  refine (l1Some_to _ R _ 1 _ rfl hr1 (by omega) (by omega)).mono ?_
  rintro e w2 ⟨l, rfl, hl, hall, hr2, ho2⟩
  have hk2 := HK1.out.grow ho2 (by omega)
  have HO2 := Lib.hid (only_trans HO1.out ho2)
  have HL := Lib.hid hl; have HA := Lib.hid hall; clear ho2 hl hall
  have c0 := hk2.cell 0 _ rfl
  have c1 := hk2.cell 1 _ rfl
  have f0 := hk2.frozen 0
  have f1 := hk2.frozen 1
  have HK2 := Lib.hid hk2; clear hk2
  go_wp2_with fail
  refine bodyPost_ret (results_cell_row rfl _ _ w.heap.size _ #[.string (pT q), .string (pT l)] _ _ rfl (HK2.out.two _ _) Tryz.underlying142 rfl rotSize) rfl ⟨(pT q, pT l), rfl, ⟨q, l, rfl, HQ.out, HA.out, by rw [HL.out]; omega⟩, (hr2.far hlt _ _).far hlt _ _, only_far (only_far HO2.out (Nat.le_refl _) _ _) (Nat.le_refl _) _ _⟩
theorem four_wirings {t : ByteArray} (h : t ∈ [mk [98, 97, 100, 99, 102, 101, 104, 103, 106, 105], mk [99, 98, 101, 100, 103, 102, 105, 104, 97, 106], mk [102, 103, 104, 105, 106, 97, 98, 99, 100, 101], mk [97, 100, 99, 102, 101, 104, 103, 106, 105, 98]]) : ∃ q, t = pT q ∧ Prm q := by
  have key : ∀ q : List Nat, q.length = 10 → (∀ n ∈ q, n < 10) → q.Nodup → Prm q := fun q a b c => { len := a, lt := b, nodup := c }
  simp only [List.mem_cons, List.not_mem_nil, or_false] at h
  rcases h with rfl | rfl | rfl | rfl
  · exact ⟨[1, 0, 3, 2, 5, 4, 7, 6, 9, 8], rfl, key _ (by decide) (by decide) (by decide)⟩
  · exact ⟨[2, 1, 4, 3, 6, 5, 8, 7, 0, 9], rfl, key _ (by decide) (by decide) (by decide)⟩
  · exact ⟨[5, 6, 7, 8, 9, 0, 1, 2, 3, 4], rfl, key _ (by decide) (by decide) (by decide)⟩
  · exact ⟨[0, 3, 2, 5, 4, 7, 6, 9, 8, 1], rfl, key _ (by decide) (by decide) (by decide)⟩
theorem four_halves {t : ByteArray} (h : t ∈ [mk [97, 98, 99, 100, 101], mk [98, 97, 99, 100, 101], mk [98, 99, 100, 101, 97], mk [101, 100, 99, 98, 97]]) : ∃ q : List Nat, t = pT q ∧ q.length = 5 ∧ Lo q ∧ Prm (q ++ q.map fun x => (x + 5) % 10) := by
  have key : ∀ q : List Nat, q.length = 10 → (∀ n ∈ q, n < 10) → q.Nodup → Prm q := fun q a b c => { len := a, lt := b, nodup := c }
  simp only [List.mem_cons, List.not_mem_nil, or_false] at h
  rcases h with rfl | rfl | rfl | rfl
  · exact ⟨[0, 1, 2, 3, 4], rfl, rfl, by unfold Lo; decide, key _ (by decide) (by decide) (by decide)⟩
  · exact ⟨[1, 0, 2, 3, 4], rfl, rfl, by unfold Lo; decide, key _ (by decide) (by decide) (by decide)⟩
  · exact ⟨[1, 2, 3, 4, 0], rfl, rfl, by unfold Lo; decide, key _ (by decide) (by decide) (by decide)⟩
  · exact ⟨[4, 3, 2, 1, 0], rfl, rfl, by unfold Lo; decide, key _ (by decide) (by decide) (by decide)⟩
set_option maxHeartbeats 2000000 in
set_option maxRecDepth 100000 in
theorem l5Any_any (w : World) (R N : Nat) (h : Rdr w R N) (hN : N ≤ 80000) :
    Calls Tryz.prog 254 #[.pointer (some ⟨R, 0, none⟩)] w (RDrawn w R (N + 18)) := by
  have hlt := h.lt
  have h0 := h.alloc (.cells #[.string ByteArray.empty, .string ByteArray.empty] 142)
  have HO0 := Lib.hid (World.grownBy_alloc w (.cells #[.string ByteArray.empty, .string ByteArray.empty] 142) (some R))
  have HN0 := Lib.hid (SB.made w #[.string ByteArray.empty, .string ByteArray.empty] 142)
  clear h
  obtain ⟨B, hB⟩ : ∃ B, B = w.heap.size := ⟨_, rfl⟩
  rw [← hB] at HN0 hlt
  have HBE := Lib.hid hB
  go_enter Tryz.func254, Tryz.ntmps254
  go_wp2_with fail
  rw [← hB]
  clear hB
  refine (l2Any_any _ R _ h0 (by omega)).mono ?_
  rintro e w1 ⟨q, rfl, hq, hr1, ho1⟩
  have HQ := Lib.hid hq; have HO1 := Lib.hid (only_trans HO0.out ho1); have HK1 := Lib.hid (HN0.out.grow ho1 (by omega)); clear hq ho1 h0 HO0 HN0
  go_wp2_with fail
  refine (l5Notches_any _ R _ hr1 (by omega)).mono ?_
  rintro e w2 ⟨l, rfl, hall, hl, hr2, ho2⟩
  have HL := Lib.hid hl; have HA := Lib.hid hall
  have HO2 := Lib.hid (only_trans HO1.out ho2); have HK2 := Lib.hid (HK1.out.grow ho2 (by omega)); clear hl hall ho2 hr1 HK1 HO1
  have hsz2 := HO2.out.size
  have hBC : B < w2.heap.size := HK2.out.lt
  have HR3 := Lib.hid (hr2.alloc (.cells #[.string (pT q), .string (pT l)] 142)); clear hr2
  have HO3 := Lib.hid (only_trans HO2.out (World.grownBy_alloc w2 (.cells #[.string (pT q), .string (pT l)] 142) (some R)))
  have HC3 := Lib.hid (SB.made w2 #[.string (pT q), .string (pT l)] 142)
  have HK3 := Lib.hid (HK2.out.below ((Below.refl _ _).alloc (Nat.le_refl _) (.cells #[.string (pT q), .string (pT l)] 142)))
  clear HK2 HO2
  go_wp2_with fail
  obtain ⟨C, hC⟩ : ∃ C, C = w2.heap.size := ⟨_, rfl⟩
  have hwb : w.heap.size ≤ B := by rw [HBE.out]; exact Nat.le_refl _
  have hwc : w.heap.size ≤ C := by omega
  rw [← hC] at HC3 hBC ⊢
  obtain ⟨w3, hw3⟩ : ∃ w3, w3 = w2.alloc (.cells #[.string (pT q), .string (pT l)] 142) := ⟨_, rfl⟩
  rw [← hw3] at HR3 HO3 HC3 HK3 ⊢
  clear hw3 hC hsz2
  have hne : C ≠ B := by omega
  have hne2 : B ≠ C := by omega
  have hrc : R < C := by omega
  refine (pick_pos _ R _ _ HR3.out (by omega) (by omega) (by omega)).mono ?_
  rintro e w4 ⟨x, rfl, hx, hr4, ho4⟩
  have HO4 := Lib.hid (only_trans HO3.out ho4); have HK4 := Lib.hid (HK3.out.grow ho4 (by omega)); have HC4 := Lib.hid (HC3.out.grow ho4 (by omega)); clear ho4 HO3 HK3 HC3 HR3
  by_cases x0 : x = 0
  · subst x0
    go_wp2_with fail
    refine (of_any _ R _ w4.heap.size 4 [mk [98, 97, 100, 99, 102, 101, 104, 103, 106, 105], mk [99, 98, 101, 100, 103, 102, 105, 104, 97, 106], mk [102, 103, 104, 105, 106, 97, 98, 99, 100, 101], mk [97, 100, 99, 102, 101, 104, 103, 106, 105, 98]] (hr4.alloc _) (by omega) (by simp) (by simp) (heap_alloc_new _ _)).mono ?_
    rintro e w5 ⟨t, ht, rfl, hr5, ho5⟩
    obtain ⟨q5, rfl, hq5⟩ := four_wirings ht
    have ho5' := only_trans (World.grownBy_alloc _ _ _) ho5
    have HO5 := Lib.hid (only_trans HO4.out ho5'); have HK5 := Lib.hid (HK4.out.grow ho5' (by omega)); have HC5 := Lib.hid (HC4.out.grow ho5' (by omega)); have HQ5 := Lib.hid hq5; clear ho5 ho5' HO4 HK4 HC4 hq5 ht hr4
    have c0 := HC5.out.cell 0 _ rfl
    have c1 := HC5.out.cell 1 _ rfl
    have k0 := HK5.out.cell 0 _ rfl
    have k1 := HK5.out.cell 1 _ rfl
    have e0 := HC5.out.frozen 0
    have f0 := HK5.out.frozen 0
    have f1 := HK5.out.frozen 1
    go_wp2_with fail
    refine bodyPost_ret (results_cell_row rfl _ _ B _ #[.string (pT (q5)), .string (pT l)] _ _ rfl ((HK5.out.far (Ne.symm hne) _ _).two _ _) Tryz.underlying142 rfl rotSize) rfl ⟨(pT (q5), pT l), rfl, ⟨q5, l, rfl, HQ5.out, HA.out, HL.out⟩, (((hr5.far hrc _ _).far hlt _ _).far hlt _ _).mono (by omega), only_far (only_far (only_far HO5.out hwc _ _) hwb _ _) hwb _ _⟩
  · have x0b : ((x : Int) == 0) = false := by rw [beq_eq_false_iff_ne]; omega
    by_cases x1 : x = 1
    · subst x1
      clear x0 x0b
      go_wp2_with fail
      refine (of_any _ R _ w4.heap.size 4 [mk [97, 98, 99, 100, 101], mk [98, 97, 99, 100, 101], mk [98, 99, 100, 101, 97], mk [101, 100, 99, 98, 97]] (hr4.alloc _) (by omega) (by simp) (by simp) (heap_alloc_new _ _)).mono ?_
      rintro e w5 ⟨t, ht, rfl, hr5, ho5⟩
      obtain ⟨q5, rfl, hq5, hlo, hp5⟩ := four_halves ht
      have ho5' := only_trans (World.grownBy_alloc _ _ _) ho5
      have HO5 := Lib.hid (only_trans HO4.out ho5'); have HK5 := Lib.hid (HK4.out.grow ho5' (by omega)); have HC5 := Lib.hid (HC4.out.grow ho5' (by omega)); clear ho5 ho5' HO4 HK4 HC4 ht hr4
      have hz5 : (pT q5).size ≤ 5 := by rw [pT_size]; omega
      have hap := pT_append q5 (q5.map fun x => (x + 5) % 10)
      have hz6 : (pT (q5.map fun x => (x + 5) % 10)).size ≤ 5 := by rw [pT_size, List.length_map]; omega
      have hsh := fun w' => sShiftWord_pT w' q5 5 hlo (by omega) (by omega)
      have HP5 := Lib.hid hp5; have HAP := Lib.hid hap; have HSH := Lib.hid hsh
      clear hq5 hlo hp5 hap hsh
      obtain ⟨T, hT⟩ : ∃ T, T = pT q5 := ⟨_, rfl⟩
      obtain ⟨U, hU⟩ : ∃ U, U = pT (q5.map fun x => (x + 5) % 10) := ⟨_, rfl⟩
      rw [← hT, ← hU] at HAP HSH
      rw [← hT] at hz5 ⊢
      rw [← hU] at hz6
      clear hT hU
      go_wp2_with fail
      refine (HSH.out _).mono ?_
      rintro _ w6 ⟨rfl, hb6⟩
      have HO6 := Lib.hid (only_trans HO5.out (only_of_below hb6 (some R))); have HK6 := Lib.hid (HK5.out.below hb6); have HC6 := Lib.hid (HC5.out.below hb6); have hr6 := hr5.below hb6
      clear hb6 HO5 HK5 HC5 hr5
      have c0 := HC6.out.cell 0 _ rfl
      have c1 := HC6.out.cell 1 _ rfl
      have k0 := HK6.out.cell 0 _ rfl
      have k1 := HK6.out.cell 1 _ rfl
      have e0 := HC6.out.frozen 0
      have f0 := HK6.out.frozen 0
      have f1 := HK6.out.frozen 1
      go_wp2_with fail
      rw [HAP.out]
      refine bodyPost_ret (results_cell_row rfl _ _ B _ #[.string (pT (q5 ++ q5.map fun x => (x + 5) % 10)), .string (pT l)] _ _ rfl ((HK6.out.far (Ne.symm hne) _ _).two _ _) Tryz.underlying142 rfl rotSize) rfl ⟨(pT (q5 ++ q5.map fun x => (x + 5) % 10), pT l), rfl, ⟨q5 ++ q5.map fun x => (x + 5) % 10, l, rfl, HP5.out, HA.out, HL.out⟩, (((hr6.far hrc _ _).far hlt _ _).far hlt _ _).mono (by omega), only_far (only_far (only_far HO6.out hwc _ _) hwb _ _) hwb _ _⟩
    · have x1b : ((x : Int) == 1) = false := by rw [beq_eq_false_iff_ne]; omega
      have c0 := HC4.out.cell 0 _ rfl
      have c1 := HC4.out.cell 1 _ rfl
      have k0 := HK4.out.cell 0 _ rfl
      have k1 := HK4.out.cell 1 _ rfl
      have e0 := HC4.out.frozen 0
      have f0 := HK4.out.frozen 0
      have f1 := HK4.out.frozen 1
      go_wp2_with fail
      refine bodyPost_ret (results_cell_row rfl _ _ B _ #[.string (pT q), .string (pT l)] _ _ rfl (HK4.out.two _ _) Tryz.underlying142 rfl rotSize) rfl ⟨(pT q, pT l), rfl, ⟨q, l, rfl, HQ.out, HA.out, HL.out⟩, ((hr4.far hlt _ _).far hlt _ _).mono (by omega), only_far (only_far HO4.out hwb _ _) hwb _ _⟩
def rotV (l : List (ByteArray × ByteArray)) : List Value := l.flatMap fun r => [.string r.1, .string r.2]
theorem length_rotV (l : List (ByteArray × ByteArray)) : (rotV l).length = l.length * 2 := by
  induction l with
  | nil => rfl
  | cons x r ih =>
    have : rotV (x :: r) = [.string x.1, .string x.2] ++ rotV r := rfl
    rw [this, List.length_append, ih, List.length_cons]
    simp only [List.length_cons, List.length_nil]; omega
theorem rotV_snoc (l : List (ByteArray × ByteArray)) (x : ByteArray × ByteArray) : rotV l ++ [.string x.1, .string x.2] = rotV (l ++ [x]) := by simp [rotV]
theorem rotV_at : ∀ (l : List (ByteArray × ByteArray)) (k : Nat) (h : k < l.length), (rotV l)[k * 2]? = some (.string l[k].1) ∧ (rotV l)[k * 2 + 1]? = some (.string l[k].2)
  | [], k, h => by simp at h
  | x :: r, 0, h => ⟨rfl, rfl⟩
  | x :: r, k + 1, h => by
    have ih := rotV_at r k (by simpa using h)
    have e : rotV (x :: r) = .string x.1 :: .string x.2 :: rotV r := rfl
    rw [e, show (k + 1) * 2 = k * 2 + 1 + 1 by omega]
    simpa using ih
theorem rotV_set : ∀ (l : List (ByteArray × ByteArray)) (k : Nat) (h : k < l.length) (x : ByteArray × ByteArray), ((rotV l).set (k * 2) (.string x.1)).set (k * 2 + 1) (.string x.2) = rotV (l.set k x)
  | [], k, h, x => by simp at h
  | y :: r, 0, h, x => rfl
  | y :: r, k + 1, h, x => by
    have ih := rotV_set r k (by simpa using h) x
    have e : rotV (y :: r) = .string y.1 :: .string y.2 :: rotV r := rfl
    have e2 : rotV ((y :: r).set (k + 1) x) = .string y.1 :: .string y.2 :: rotV (r.set k x) := rfl
    rw [e, e2, show (k + 1) * 2 = k * 2 + 1 + 1 by omega, List.set_cons_succ, List.set_cons_succ, List.set_cons_succ, List.set_cons_succ, ih]
theorem Tryz.infoR : (Tryz.prog.info? 142).map (fun i => (i.zero, i.size, i.bytes)) = some (some (.agg #[.string ByteArray.empty, .string ByteArray.empty]), 2, 32) := by kernel_rfl
theorem Tryz.undR : Tryz.prog.underlying 23 = some (.slice 142) := by kernel_rfl
theorem whlSize : (Tryz.prog.info? 25).map (·.size) = some 2 := by kernel_rfl
theorem rot_new (w : World) (a b : ByteArray) (t : TypeId) : ∀ (j : Nat) u, [Value.string a, Value.string b][j]? = some u → (w.alloc (.cells #[.string a, .string b] t)).cell? ((⟨w.heap.size, 0, none⟩ : Addr).add j) = some u :=
  World.news_of_block (cs := #[.string a, .string b]) (t := t) (fr := (0, 0)) (heap_alloc_new w _)
theorem rot_one (a b : ByteArray) : ∀ u ∈ [Value.string a, Value.string b], u.oneCell' = true := by
  intro u hu
  simp at hu
  rcases hu with rfl | rfl <;> rfl
structure RBk (w : World) (B : Nat) (v : Value) (rs : List (ByteArray × ByteArray)) : Prop where
  own : w.ownsRow B 142 2 v rs.length (rotV rs)
  rot : ∀ r ∈ rs, RotT r
section
variable {w w' : World} {B R : Nat} {v v' : Value} {rs : List (ByteArray × ByteArray)}
theorem RBk.only (h : RBk w B v rs) (hg : w.grownBy w' (some R)) (hR : R < B) : RBk w' B v rs :=
  ⟨h.own.kept hg (by
    cases hv : v.ownBlock with
    | none => exact .inl rfl
    | some k => exact .inr (by have := (h.own.lt k hv).1; intro e; injection e with e; omega)), h.rot⟩
theorem RBk.below (h : RBk w B v rs) (hb : Below w.heap.size w w') : RBk w' B v rs := ⟨ownsRow_below h.own hb, h.rot⟩
theorem RBk.alloc (h : RBk w B v rs) (o : Obj) : RBk (w.alloc o) B v rs := ⟨h.own.alloc o, h.rot⟩
theorem RBk.drew (h : RBk w B v rs) : RBk w.drew B v rs := ⟨h.own.drew, h.rot⟩
theorem RBk.drewN (h : RBk w B v rs) (n : Nat) : RBk (w.drewN n) B v rs := h.below (below_drewN' (Below.refl _ _) n)
theorem RBk.mono {B' : Nat} (h : RBk w B v rs) (hB : B' ≤ B) : RBk w B' v rs := by
  obtain ⟨⟨h1, h2⟩, hr⟩ := h
  refine ⟨⟨h1, ?_⟩, hr⟩
  rcases h2 with h2 | ⟨g, cap, cur, hv, hg, h3⟩
  · exact .inl h2
  · exact .inr ⟨g, cap, cur, hv, Nat.le_trans hB hg, h3⟩
theorem RBk.far (h : RBk w B v rs) {q : Nat} (hq : v.ownBlock ≠ some q) (i : Nat) (u : Value) : RBk (w.setCell ⟨q, i, none⟩ u) B v rs :=
  ⟨h.own.kept (row := some q) ⟨rfl, rfl, rfl, by simp [World.setCell], fun k _ hn => Below.heap_setCell w ⟨q, i, none⟩ u k (by intro e; exact hn (by rw [e]))⟩ (.inr hq), h.rot⟩
theorem RBk.slice (h : RBk w B v rs) : ∃ A cap, v = .slice A rs.length cap ∧ rs.length ≤ cap ∧ cap ≤ maxLen ∧ Rd w w.heap.size A (rotV rs) := ownsRow_rd h.own
theorem RBk.at (h : RBk w B v rs) {k : Nat} (hk : k < rs.length) :
    ∃ g cap, v = .slice (some ⟨g, 0, none⟩) rs.length cap ∧ B ≤ g ∧ g < w.heap.size ∧ rs.length ≤ cap ∧ w.cell? ⟨g, k * 2, none⟩ = some (.string rs[k].1) ∧ w.cell? ⟨g, k * 2 + 1, none⟩ = some (.string rs[k].2) ∧
      w.frozen? ⟨g, k * 2, none⟩ = false ∧ w.frozen? ⟨g, k * 2 + 1, none⟩ = false ∧
      (∀ r : ByteArray × ByteArray, RotT r → RBk ((w.setCell ⟨g, k * 2, none⟩ (.string r.1)).setCell ⟨g, k * 2 + 1, none⟩ (.string r.2)) B v (rs.set k r)) := by
  obtain ⟨ho, hr⟩ := h
  have h0 := ho
  obtain ⟨hx, ⟨_, h3⟩ | ⟨g, cap, cur, rfl, hg, hrest⟩⟩ := ho
  · omega
  · have hlen := length_rotV rs
    refine ⟨g, cap, rfl, hg, (h0.lt g rfl).2, hrest.2.1, ?_, ?_, h0.frozenAt _, h0.frozenAt _, fun r hrt => ⟨?_, fun x hx => ?_⟩⟩
    · rw [h0.cellAt _ (by omega), (rotV_at rs k hk).1]
    · rw [h0.cellAt _ (by omega), (rotV_at rs k hk).2]
    · have h2 := ((h0.stored (k * 2) (.string r.1)).1.stored (k * 2 + 1) (.string r.2)).1
      rw [rotV_set rs k hk r] at h2
      rw [List.length_set]; exact h2
    · rcases List.mem_or_eq_of_mem_set hx with hx | rfl
      · exact hr x hx
      · exact hrt
theorem RBk.cells {g n cap : Nat} (h : RBk w B (.slice (some ⟨g, 0, none⟩) n cap) rs) {k : Nat} (hk : k < rs.length) :
    B ≤ g ∧ g < w.heap.size ∧ w.cell? ⟨g, k * 2, none⟩ = some (.string rs[k].1) ∧ w.cell? ⟨g, k * 2 + 1, none⟩ = some (.string rs[k].2) ∧
      w.frozen? ⟨g, k * 2, none⟩ = false ∧ w.frozen? ⟨g, k * 2 + 1, none⟩ = false ∧
      (∀ r : ByteArray × ByteArray, RotT r → RBk ((w.setCell ⟨g, k * 2, none⟩ (.string r.1)).setCell ⟨g, k * 2 + 1, none⟩ (.string r.2)) B (.slice (some ⟨g, 0, none⟩) n cap) (rs.set k r)) := by
  obtain ⟨g', cap', hv, h1, h2, h3, h4, h5, h6, h7, h8⟩ := h.at hk
  simp only [Value.slice.injEq, Option.some.injEq, Addr.mk.injEq, and_true] at hv
  obtain ⟨rfl, rfl, rfl⟩ := hv
  exact ⟨h1, h2, h4, h5, h6, h7, h8⟩
theorem RBk.app (h : RBk w B v rs) (r : ByteArray × ByteArray) (hr : RotT r) (ho : w'.ownsRow B 142 2 v' (rs.length + 1) (rotV rs ++ [.string r.1, .string r.2])) : RBk w' B v' (rs ++ [r]) := by
  refine ⟨?_, fun x hx => ?_⟩
  · rw [rotV_snoc] at ho
    rw [List.length_append]; exact ho
  · rcases List.mem_append.1 hx with hx | hx
    · exact h.rot x hx
    · simp at hx; subst hx; exact hr
end
theorem RBk.nil (w : World) (B : Nat) : RBk w B (.slice none 0 0) [] := ⟨World.ownsRow_nil _ _ _ _, by simp⟩
theorem only_own {a b c : World} {R : Nat} {v : Value} (h : a.grownBy b (some R)) (hg : b.grownBy c v.ownBlock) (hv : ∀ k, v.ownBlock = some k → a.heap.size ≤ k) : a.grownBy c (some R) :=
  ⟨hg.os.trans h.os, hg.tape.trans h.tape, hg.output.trans h.output, Nat.le_trans h.size hg.size, fun i hi hn => (hg.block i (Nat.lt_of_lt_of_le hi h.size) (by intro e; have := hv i e.symm; omega)).trans (h.block i hi hn)⟩
theorem Rdr.own {b c : World} {R N : Nat} {v : Value} (h : Rdr b R N) (hg : b.grownBy c v.ownBlock) (hv : ∀ k, v.ownBlock = some k → R < k) : Rdr c R N := by
  have hl := h.lt
  obtain ⟨A, cap, q, bs, hb', h0, h1, h2, h3⟩ := h
  exact ⟨A, cap, q, bs, (hg.block R hl (by intro e; have := hv R e.symm; omega)).trans hb', h0, h1, h2, h3.keep fun k hk => hg.block k (by omega) (by intro e; have := hv k e.symm; omega)⟩
theorem SB.own {b c : World} {p : Nat} {cs : Array Value} {T : TypeId} {v : Value} (h : SB b p cs T) (hg : b.grownBy c v.ownBlock) (hv : v.ownBlock ≠ some p) : SB c p cs T :=
  (hg.block p h.lt (by intro e; exact hv e.symm)).trans h
theorem ownBlock_ne {w : World} {base p : Nat} {e : TypeId} {size : Nat} {v : Value} {n : Nat} {xs : List Value} (h : w.ownsRow base e size v n xs) (hp : p < base) : v.ownBlock ≠ some p := fun e' => by have := (h.lt p e').1; omega
def WDrawn (w : World) (R N n : Nat) (e : Ending) (w' : World) : Prop :=
  ∃ v rs q, e = .returned (.agg #[v, .string (pT q)]) ∧ RBk w' w.heap.size v rs ∧ Prm q ∧ 1 ≤ rs.length ∧ rs.length ≤ n ∧ Rdr w' R N ∧ w.grownBy w' (some R)
abbrev whC (v u : Value) : Array Value := #[v, u]
abbrev noWh : Array Value := #[.slice none 0 0, .string ByteArray.empty]
set_option maxHeartbeats 4000000 in
set_option maxRecDepth 100000 in
theorem l6Some_any (w : World) (R N n : Nat) (m : Int) (hm : m = (n : Int)) (h : Rdr w R N) (hN : N ≤ 70000) (h1 : 1 ≤ n) (hn : n ≤ 3) :
    Calls Tryz.prog 201 #[.pointer (some ⟨R, 0, none⟩), .int .i64 m] w (WDrawn w R (N + 50) n) := by
  subst hm
  obtain ⟨iR, hi, hz0, hz1, hz2⟩ := info_parts Tryz.infoR
  have HI := Lib.hid hi; have HZ0 := Lib.hid hz0; have HZ1 := Lib.hid hz1; have HZ2 := Lib.hid hz2
  clear hi hz0 hz1 hz2
  have hlt := h.lt
  have h0 := h.alloc (.cells noWh 25)
  have HO0 := Lib.hid (World.grownBy_alloc w (.cells noWh 25) (some R))
  have HN0 := Lib.hid (SB.made w noWh 25)
  clear h
  obtain ⟨B, hB⟩ : ∃ B, B = w.heap.size := ⟨_, rfl⟩
  rw [← hB] at HN0 hlt
  have HBE := Lib.hid hB
  go_enter Tryz.func201, Tryz.ntmps201
  go_wp2_with fail
  rw [← hB]
  clear hB
  refine (l4Board_any _ R _ 5 h0 (by omega) (by omega)).mono ?_
  rintro e w1 ⟨q, rfl, hq, hr1, ho1⟩
  have HQ := Lib.hid hq; have HO1 := Lib.hid (only_trans HO0.out ho1); have HK1 := Lib.hid (HN0.out.grow ho1 (by omega)); clear hq ho1 h0 HO0 HN0
  have hBC : B < w1.heap.size := HK1.out.lt
  have HR2 := Lib.hid (hr1.alloc (.cells (whC (.slice none 0 0) (.string (pT q))) 25)); clear hr1
  have HO2 := Lib.hid (only_trans HO1.out (World.grownBy_alloc w1 (.cells (whC (.slice none 0 0) (.string (pT q))) 25) (some R)))
  have HC2 := Lib.hid (SB.made w1 (whC (.slice none 0 0) (.string (pT q))) 25)
  have HK2 := Lib.hid (HK1.out.below ((Below.refl _ _).alloc (Nat.le_refl _) (.cells (whC (.slice none 0 0) (.string (pT q))) 25)))
  clear HK1 HO1
  go_wp2_with fail
  obtain ⟨C, hC⟩ : ∃ C, C = w1.heap.size := ⟨_, rfl⟩
  have hwb : w.heap.size ≤ B := by rw [HBE.out]; exact Nat.le_refl _
  rw [← hC] at HC2 hBC ⊢
  obtain ⟨w2, hw2⟩ : ∃ w2, w2 = w1.alloc (.cells #[.slice none 0 0, .string (pT q)] 25) := ⟨_, rfl⟩
  rw [← hw2] at HR2 HO2 HC2 HK2 ⊢
  clear hw2 hC
  go_loopw [6] (fun i wr => ∃ (k : Nat) (v : Value) (rs : List (ByteArray × ByteArray)), i = .int .i64 k ∧ k ≤ n ∧ Hid (rs.length = k) ∧ Hid (RBk wr (C + 1) v rs) ∧ Hid (SB wr C (whC v (.string (pT q))) 25) ∧ Hid (SB wr B noWh 25) ∧ Rdr wr R (N + 10 + 11 * k) ∧ w.grownBy wr (some R)) (fun i _ => n - (intOf i).toNat)
  case atStart => exact ⟨0, _, [], rfl, by omega, Lib.hid rfl, Lib.hid (RBk.nil _ _), HC2, HK2, HR2.out.mono (by omega), HO2.out⟩
  case round =>
    obtain ⟨k, v, rs, rfl, hk, HL, HV, HC, HK, hr, ho⟩ := hrel
    have HO := Lib.hid ho; have HR := Lib.hid hr; clear ho hr HO2 HR2 HC2 HK2
    by_cases hlt2 : k < n
    · obtain ⟨A3, c3, e3⟩ := slot_slice HV.out.own
      subst e3
      have hz : C + 1 ≤ wr.heap.size := HC.out.lt
      have hcon := l5Some_any wr.drew R _ HR.out (by omega)
      have hcr : C ≠ R := by omega
      have hrl : rs.length ≤ 3 := by rw [HL.out]; omega
      have HCON := Lib.hid hcon; clear hcon
      go_wp2_with fail
      have c0 := HC.out.cell 0 (.slice A3 rs.length c3) rfl
      have f0 := HC.out.frozen 0
      go_region_law (first | (refine step_append_lies _ (by rfl) (.tmp 16) (.tmp 19) 23 (by rfl) (C + 1) 142 iR _ 2 32 Tryz.undR HI.out HZ0.out HZ1.out HZ2.out rfl (by decide) (.slice A3 rs.length c3) rs.length _ (by rfl) ((HV.out.only (only_of_drew ho7) (by omega)).own.alloc _) ⟨w7.heap.size, 0, none⟩ 1 1 [.string r7.1, .string r7.2] (by rfl) rfl (rot_new w7 _ _ _) (rot_one _ _) (by decide) (by unfold maxLen; omega) (by omega) (Nat.le_trans hz (Nat.le_trans ho7.size (by simp))) w7.heap.size.succ (by simp) ?_; intro g5 c5 w8 ho5 hg5 hat5 hlt5; have c8 := (SB.own (SB.below (HC.out.grow (only_of_drew ho7) hcr) ((Below.refl _ _).alloc (Nat.le_refl _) _)) hg5 (ownBlock_ne HV.out.own (Nat.lt_succ_self _))).cell 0 _ rfl; have f8 := (SB.own (SB.below (HC.out.grow (only_of_drew ho7) hcr) ((Below.refl _ _).alloc (Nat.le_refl _) _)) hg5 (ownBlock_ne HV.out.own (Nat.lt_succ_self _))).frozen 0) | (go_simp; go_at_call 253; refine HCON.out.mono ?_; rintro _ w7 ⟨r7, rfl, hrt, hr7, ho7⟩; have c7 := (HC.out.grow (only_of_drew ho7) hcr).cell 0 (.slice A3 rs.length c3) rfl; have c7a := fun o => (SB.below (HC.out.grow (only_of_drew ho7) hcr) ((Below.refl _ _).alloc (Nat.le_refl _) o)).cell 0 (.slice A3 rs.length c3) rfl) | fail)
      all_goals
        have hbr : B ≠ R := by omega
        have hv8 := ((HV.out.only (only_of_drew ho7) (by omega)).alloc (.cells #[.string r7.1, .string r7.2] 142)).app r7 hrt ho5
        have hk8 := (SB.own (SB.below (HK.out.grow (only_of_drew ho7) hbr) ((Below.refl _ _).alloc (Nat.le_refl _) (.cells #[.string r7.1, .string r7.2] 142))) hg5 (ownBlock_ne HV.out.own (by omega))).far (show B ≠ C by omega) 0 (.slice (some ⟨g5, 0, none⟩) (rs.length + 1) c5)
        have hc8 := (SB.own (SB.below (HC.out.grow (only_of_drew ho7) hcr) ((Below.refl _ _).alloc (Nat.le_refl _) (.cells #[.string r7.1, .string r7.2] 142))) hg5 (ownBlock_ne HV.out.own (by omega))).put 0 (.slice (some ⟨g5, 0, none⟩) (rs.length + 1) c5)
        have hr8 := (Rdr.own (hr7.alloc (.cells #[.string r7.1, .string r7.2] 142)) hg5 (fun k' e => by have := (HV.out.own.lt k' e).1; omega)).far (show R < C by omega) 0 (.slice (some ⟨g5, 0, none⟩) (rs.length + 1) c5)
        have ho8 := only_far (only_own (only_trans HO.out (only_trans (only_of_drew ho7) (World.grownBy_alloc _ (.cells #[.string r7.1, .string r7.2] 142) _))) hg5 (fun k' e => by have := (HV.out.own.lt k' e).1; omega)) (show w.heap.size ≤ C by omega) 0 (.slice (some ⟨g5, 0, none⟩) (rs.length + 1) c5)
        have hv9 := hv8.far (ownBlock_ne ho5 (Nat.lt_succ_self C)) 0 (.slice (some ⟨g5, 0, none⟩) (rs.length + 1) c5)
        have HV9 := Lib.hid hv9; have HK9 := Lib.hid hk8; have HC9 := Lib.hid hc8; have HR9 := Lib.hid hr8; have HO9 := Lib.hid ho8
        clear hv8 hk8 hc8 hr8 ho8 hv9 ho5 hg5 hat5 hlt5 ho7 hr7 hrt c7 c7a c8 f8 c0 f0
        go_wp2_with fail
        go_roundw
        case rel => exact ⟨k + 1, _, rs ++ [r7], by go_num, by omega, Lib.hid (by simp [HL.out]), HV9, HC9, HK9, HR9.out.mono (by omega), HO9.out⟩
        case measure => simp [intOf]; omega
    · obtain ⟨A3, c3, e3⟩ := slot_slice HV.out.own
      subst e3
      have c0 := HC.out.cell 0 (.slice A3 rs.length c3) rfl
      have c1 := HC.out.cell 1 (.string (pT q)) rfl
      have k0 := HK.out.cell 0 (.slice none 0 0) rfl
      have k1 := HK.out.cell 1 (.string ByteArray.empty) rfl
      have f0 := HK.out.frozen 0
      have f1 := HK.out.frozen 1
      have hnb := ownBlock_ne HV.out.own (show B < C + 1 by omega)
      have hkn : k = n := by omega
      have hln := HL.out
      have HNB := Lib.hid hnb; have HLN := Lib.hid hln; clear hnb hln
      go_wp2_with fail
      (try simp only [Exit.inBlock, Exit.then])
      refine bodyPost_ret (results_cell_row rfl _ _ B _ #[.slice A3 rs.length c3, .string (pT q)] _ _ rfl (HK.out.two _ _) Tryz.underlying25 rfl whlSize) rfl ⟨.slice A3 rs.length c3, rs, q, rfl, ((HV.out.mono (by omega)).far HNB.out _ _).far HNB.out _ _, HQ.out, by have := HLN.out; omega, by have := HLN.out; omega, ((HR.out.far hlt _ _).far hlt _ _).mono (by omega), only_far (only_far HO.out hwb _ _) hwb _ _⟩
set_option maxHeartbeats 4000000 in
set_option maxRecDepth 100000 in
theorem l6Any_any (w : World) (R N : Nat) (h : Rdr w R N) (hN : N ≤ 60000) :
    Calls Tryz.prog 202 #[.pointer (some ⟨R, 0, none⟩)] w (WDrawn w R (N + 120) 3) := by
  have hlt := h.lt
  have h0 := h.alloc (.cells noWh 25)
  have HO0 := Lib.hid (World.grownBy_alloc w (.cells noWh 25) (some R))
  have HN0 := Lib.hid (SB.made w noWh 25)
  clear h
  obtain ⟨B, hB⟩ : ∃ B, B = w.heap.size := ⟨_, rfl⟩
  rw [← hB] at HN0 hlt
  have HBE := Lib.hid hB
  go_enter Tryz.func202, Tryz.ntmps202
  go_wp2_with fail
  rw [← hB]
  clear hB
  refine (pick_pos _ R _ _ h0 (by omega) (by omega) (by omega)).mono ?_
  rintro e w1 ⟨x, rfl, hx, hr1, ho1⟩
  have HO1 := Lib.hid (only_trans HO0.out ho1); have HK1 := Lib.hid (HN0.out.grow ho1 (by omega)); clear ho1 h0 HO0 HN0
  have hB1 : B < w1.heap.size := HK1.out.lt
  go_wp2_with fail
  refine (l6Some_any _ R _ (1 + x) _ (by omega) hr1 (by omega) (by omega) (by omega)).mono ?_
  rintro e w2 ⟨v, rs, q, rfl, hv, hq, hl1, hl2, hr2, ho2⟩
  have HO2 := Lib.hid (only_trans HO1.out ho2); have HK2 := Lib.hid (HK1.out.grow ho2 (by omega)); have HQ := Lib.hid hq
  have HV2 := Lib.hid (hv.mono (show B + 1 ≤ w1.heap.size from hB1))
  have hvc : v.ownBlock ≠ some w2.heap.size := fun e' => by have := (hv.own.lt _ e').2; omega
  obtain ⟨A3, c3, e3⟩ := slot_slice hv.own
  subst e3
  clear ho2 HK1 HO1 hv hq hr1 hB1
  obtain ⟨M, hM⟩ : ∃ M, M = rs.length := ⟨_, rfl⟩
  rw [← hM] at HV2 hvc ⊢
  have hl1' : 1 ≤ M := by omega
  have hl3 : M ≤ 3 := by omega
  have HM := Lib.hid hM.symm; clear hM hl1 hl2
  have hBC : B < w2.heap.size := HK2.out.lt
  have HR3 := Lib.hid (hr2.alloc (.cells (whC (.slice A3 M c3) (.string (pT q))) 25)); clear hr2
  have HO3 := Lib.hid (only_trans HO2.out (World.grownBy_alloc w2 (.cells (whC (.slice A3 M c3) (.string (pT q))) 25) (some R)))
  have HC3 := Lib.hid (SB.made w2 (whC (.slice A3 M c3) (.string (pT q))) 25)
  have HK3 := Lib.hid (HK2.out.below ((Below.refl _ _).alloc (Nat.le_refl _) (.cells (whC (.slice A3 M c3) (.string (pT q))) 25)))
  have HV3 := Lib.hid (HV2.out.alloc (.cells (whC (.slice A3 M c3) (.string (pT q))) 25))
  clear HK2 HO2 HV2
  go_wp2_with fail
  obtain ⟨C, hC⟩ : ∃ C, C = w2.heap.size := ⟨_, rfl⟩
  have hwb : w.heap.size ≤ B := by rw [HBE.out]; exact Nat.le_refl _
  rw [← hC] at HC3 hBC hvc ⊢
  have HVC := Lib.hid hvc; clear hvc
  obtain ⟨w3, hw3⟩ : ∃ w3, w3 = w2.alloc (.cells #[.slice A3 M c3, .string (pT q)] 25) := ⟨_, rfl⟩
  rw [← hw3] at HR3 HO3 HC3 HK3 HV3 ⊢
  clear hw3 hC
  go_loopw [4] (fun i wr => ∃ (k : Nat) (rs : List (ByteArray × ByteArray)), i = .int .i64 k ∧ k ≤ M ∧ Hid (rs.length = M) ∧ Hid (RBk wr (B + 1) (.slice A3 M c3) rs) ∧ Hid (SB wr C (whC (.slice A3 M c3) (.string (pT q))) 25) ∧ Hid (SB wr B noWh 25) ∧ Rdr wr R (N + 1 + 50 + 19 * k) ∧ w.grownBy wr (some R)) (fun i _ => M - (intOf i).toNat)
  case atStart => exact ⟨0, rs, rfl, by omega, HM, HV3, HC3, HK3, HR3.out, HO3.out⟩
  case round =>
    obtain ⟨k, rs, rfl, hk, HL, HV, HC, HK, hr, ho⟩ := hrel
    have HO := Lib.hid ho; clear ho HO3 HR3 HC3 HK3 HV3
    have c0 := HC.out.cell 0 (.slice A3 M c3) rfl
    by_cases hlt2 : k < M
    · go_wp2_with fail
      refine (pick_pos _ R _ _ hr (by omega) (by omega) (by omega)).mono ?_
      rintro e w5 ⟨y, rfl, hy, hr5, ho5⟩
      have HO5 := Lib.hid (only_trans HO.out ho5); have HC5 := Lib.hid (HC.out.grow ho5 (by omega)); have HK5 := Lib.hid (HK.out.grow ho5 (by omega)); have HV5 := Lib.hid (HV.out.only ho5 (by omega))
      clear ho5 c0 HO HC HK HV hr
      by_cases y0 : y = 0
      · subst y0
        have hkr : k < rs.length := by rw [HL.out]; exact hlt2
        obtain ⟨g, cap, hv, hg, hgw, hcl, _⟩ := HV5.out.at hkr
        simp only [Value.slice.injEq] at hv
        obtain ⟨rfl, hMr, rfl⟩ := hv
        clear hMr
        have hgC : g ≠ C := fun e' => HVC.out (by rw [e']; rfl)
        have hcon := l5Any_any w5.drew R _ hr5 (by omega)
        have hcr : C ≠ R := by omega
        have HCON := Lib.hid hcon; clear hcon
        have c5 := HC5.out.cell 0 (.slice (some ⟨g, 0, none⟩) M c3) rfl
        go_wp2_with fail
        go_region_with (go_at_call 254; refine HCON.out.mono ?_; rintro _ w7 ⟨r7, rfl, hrt, hr7, ho7⟩; have c7 := (HC5.out.grow (only_of_drew ho7) hcr).cell 0 (.slice (some ⟨g, 0, none⟩) M c3) rfl; obtain ⟨_, _, g0, g1, e0, e1, hput⟩ := (HV5.out.only (only_of_drew ho7) (show R < B + 1 by omega)).cells hkr; have HPUT := Lib.hid (hput r7 hrt); clear hput)
        all_goals
          have hk8 := ((HK5.out.grow (only_of_drew ho7) (show B ≠ R by omega)).far (show B ≠ g by omega) (k * 2) (.string r7.1)).far (show B ≠ g by omega) (k * 2 + 1) (.string r7.2)
          have hc8 := ((HC5.out.grow (only_of_drew ho7) hcr).far (Ne.symm hgC) (k * 2) (.string r7.1)).far (Ne.symm hgC) (k * 2 + 1) (.string r7.2)
          have hr8 := (hr7.far (show R < g by omega) (k * 2) (.string r7.1)).far (show R < g by omega) (k * 2 + 1) (.string r7.2)
          have ho8 := only_far (only_far (only_trans HO5.out (only_of_drew ho7)) (show w.heap.size ≤ g by omega) (k * 2) (.string r7.1)) (show w.heap.size ≤ g by omega) (k * 2 + 1) (.string r7.2)
          have HK9 := Lib.hid hk8; have HC9 := Lib.hid hc8; have HR9 := Lib.hid hr8; have HO9 := Lib.hid ho8
          clear hk8 hc8 hr8 ho8 ho7 hr7 hrt c7 c5 g0 g1 e0 e1
          go_wp2_with fail
          go_roundw
          case rel => exact ⟨k + 1, _, by go_num, by omega, Lib.hid (by rw [List.length_set]; exact HL.out), HPUT, HC9, HK9, HR9.out.mono (by omega), HO9.out⟩
          case measure => simp [intOf]; omega
      · have hyb : ((y : Int) == 0) = false := by rw [beq_eq_false_iff_ne]; omega
        go_wp2_with fail
        go_roundw
        case rel => exact ⟨k + 1, rs, by go_num, by omega, HL, HV5, HC5, HK5, hr5.mono (by omega), HO5.out⟩
        case measure => simp [intOf]; omega
    · have c1 := HC.out.cell 1 (.string (pT q)) rfl
      have k0 := HK.out.cell 0 (.slice none 0 0) rfl
      have k1 := HK.out.cell 1 (.string ByteArray.empty) rfl
      have f0 := HK.out.frozen 0
      have f1 := HK.out.frozen 1
      have hnb := ownBlock_ne HV.out.own (show B < B + 1 by omega)
      have HNB := Lib.hid hnb; clear hnb
      go_wp2_with fail
      refine bodyPost_ret (results_cell_row rfl _ _ B _ #[.slice A3 M c3, .string (pT q)] _ _ rfl (HK.out.two _ _) Tryz.underlying25 rfl whlSize) rfl ⟨.slice A3 M c3, rs, q, rfl, ((HV.out.mono (by omega)).far HNB.out _ _).far HNB.out _ _, HQ.out, by have := HL.out; omega, by have := HL.out; omega, ((hr.far hlt _ _).far hlt _ _).mono (by omega), only_far (only_far HO.out hwb _ _) hwb _ _⟩
theorem results_st_tmp {fn : Func} {p u : Tmp} {ty : TypeId} (h : fn.results = #[.cell p ty, .tmp u]) (tmps : Array Value) (w : World) (g : Nat) (t : TypeId) (cs : Array Value) (fr : Nat × Nat) (d : TypeDesc)
    (hp : tmps.getD p undef = .pointer (some ⟨g, 0, none⟩)) (hg : w.heap[g]? = some (.cells cs t fr))
    (hu : Tryz.prog.underlying ty = some d) (hd : (∃ fs, d = .struct fs)) (hi : (Tryz.prog.info? ty).map (·.size) = some cs.size) :
    (results fn tmps).run Tryz.prog w = .ok (.tuple #[.agg cs, tmps.getD u undef]) w := by
  obtain ⟨fs, rfl⟩ := hd
  have hp' : tmps[p]?.getD undef = .pointer (some ⟨g, 0, none⟩) := by simpa using hp
  simp [results, h, hp', asAddr, run_loadVar_row w g t ty cs fr _ hg hu rfl hi]
def setW (ws nt : List Nat) (k : Nat) : List Nat := ws.take k ++ nt.take 1 ++ ws.drop (k + 1)
theorem setW_len {ws nt : List Nat} {k : Nat} (hk : k < ws.length) (hn : 0 < nt.length) : (setW ws nt k).length = ws.length := by unfold setW; simp; omega
theorem setW_lo {ws nt : List Nat} {k : Nat} (h : Lo ws) (h2 : Lo nt) : Lo (setW ws nt k) := lo_append (lo_append (lo_take h k) (lo_take h2 1)) (lo_drop h (k + 1))
theorem setW_text (ws nt : List Nat) (k : Nat) : (pT ws).extract 0 k ++ (pT nt).extract 0 1 ++ (pT ws).extract (k + 1) (pT ws).size = pT (setW ws nt k) := by
  unfold setW
  rw [pT_extract, pT_extract, pT_extract, pT_append, pT_append, pT_size, List.drop_zero, List.drop_zero, Nat.sub_zero, Nat.sub_zero, List.take_of_length_le (l := ws.drop (k + 1)) (by simp)]
def WWDrawn (w : World) (R N : Nat) (e : Ending) (w' : World) : Prop :=
  ∃ v rs q ws, e = .returned (.tuple #[.agg #[v, .string (pT q)], .string (pT ws)]) ∧ RBk w' w.heap.size v rs ∧ Prm q ∧ 1 ≤ rs.length ∧ rs.length ≤ 3 ∧ ws.length = rs.length ∧ Lo ws ∧ Rdr w' R N ∧ w.grownBy w' (some R)
set_option maxHeartbeats 8000000 in
set_option maxRecDepth 100000 in
theorem l7Some_any (w : World) (R N : Nat) (h : Rdr w R N) (hN : N ≤ 50000) :
    Calls Tryz.prog 135 #[.pointer (some ⟨R, 0, none⟩)] w (WWDrawn w R (N + 200)) := by
  have hlt := h.lt
  have h0 := h.alloc (.cells noWh 25)
  have HO0 := Lib.hid (World.grownBy_alloc w (.cells noWh 25) (some R))
  have HN0 := Lib.hid (SB.made w noWh 25)
  clear h
  obtain ⟨B, hB⟩ : ∃ B, B = w.heap.size := ⟨_, rfl⟩
  rw [← hB] at HN0 hlt
  have HBE := Lib.hid hB
  go_enter Tryz.func135, Tryz.ntmps135
  go_wp2_with fail
  rw [← hB]
  clear hB
  refine (pick_pos _ R _ _ h0 (by omega) (by omega) (by omega)).mono ?_
  rintro e w1 ⟨x, rfl, hx, hr1, ho1⟩
  have HO1 := Lib.hid (only_trans HO0.out ho1); have HK1 := Lib.hid (HN0.out.grow ho1 (by omega)); clear ho1 h0 HO0 HN0
  have hB1 : B < w1.heap.size := HK1.out.lt
  have hx3 : ((x : Int) + 2) / 3 ≤ 2 := by omega
  go_wp2_with fail
  refine (l6Some_any _ R _ (1 + (x + 2) / 3) _ (by omega) hr1 (by omega) (by omega) (by omega)).mono ?_
  rintro e w2 ⟨v, rs, q, rfl, hv, hq, hl1, hl2, hr2, ho2⟩
  have HO2 := Lib.hid (only_trans HO1.out ho2); have HK2 := Lib.hid (HK1.out.grow ho2 (by omega)); have HQ := Lib.hid hq
  have HV2 := Lib.hid (hv.mono (show B + 1 ≤ w1.heap.size from hB1))
  have hvc : v.ownBlock ≠ some w2.heap.size := fun e' => by have := (hv.own.lt _ e').2; omega
  obtain ⟨A3, c3, e3⟩ := slot_slice hv.own
  subst e3
  have hl3 : rs.length ≤ 3 := by omega
  clear ho2 HK1 HO1 hv hq hr1 hB1 hl2
  have hBC : B < w2.heap.size := HK2.out.lt
  have HR3 := Lib.hid (hr2.alloc (.cells (whC (.slice A3 rs.length c3) (.string (pT q))) 25)); clear hr2
  have HO3 := Lib.hid (only_trans HO2.out (World.grownBy_alloc w2 (.cells (whC (.slice A3 rs.length c3) (.string (pT q))) 25) (some R)))
  have HC3 := Lib.hid (SB.made w2 (whC (.slice A3 rs.length c3) (.string (pT q))) 25)
  have HK3 := Lib.hid (HK2.out.below ((Below.refl _ _).alloc (Nat.le_refl _) (.cells (whC (.slice A3 rs.length c3) (.string (pT q))) 25)))
  have HV3 := Lib.hid (HV2.out.alloc (.cells (whC (.slice A3 rs.length c3) (.string (pT q))) 25))
  clear HK2 HO2 HV2
  go_wp2_with fail
  obtain ⟨C, hC⟩ : ∃ C, C = w2.heap.size := ⟨_, rfl⟩
  have hwb : w.heap.size ≤ B := by rw [HBE.out]; exact Nat.le_refl _
  rw [← hC] at HC3 hBC hvc ⊢
  have HVC := Lib.hid hvc; clear hvc
  obtain ⟨w3, hw3⟩ : ∃ w3, w3 = w2.alloc (.cells #[.slice A3 rs.length c3, .string (pT q)] 25) := ⟨_, rfl⟩
  rw [← hw3] at HR3 HO3 HC3 HK3 HV3 ⊢
  clear hw3 hC
  refine (pick_pos _ R _ _ HR3.out (by omega) (by omega) (by omega)).mono ?_
  rintro e w4 ⟨y, rfl, hy, hr4, ho4⟩
  have HO4 := Lib.hid (only_trans HO3.out ho4); have HC4 := Lib.hid (HC3.out.grow ho4 (by omega)); have HK4 := Lib.hid (HK3.out.grow ho4 (by omega)); have HV4 := Lib.hid (HV3.out.only ho4 (by omega))
  clear ho4 HO3 HC3 HK3 HV3 HR3
  by_cases y0 : y = 0
  · subst y0
    clear HV4
    have hC4 := HC4.out.lt
    go_wp2_with fail
    refine (l6Any_any _ R _ hr4 (by omega)).mono ?_
    rintro e w5 ⟨v5, rs5, q5, rfl, hv5, hq5, hm1, hm3, hr5, ho5⟩
    have hc5 := HC4.out.grow ho5 (by omega)
    have d0 := hc5.cell 0 (.slice A3 rs.length c3) rfl
    have d1 := hc5.cell 1 (.string (pT q)) rfl
    have g0 := hc5.frozen 0
    have g1 := hc5.frozen 1
    have hvc5 := ownBlock_ne hv5.own hC4
    obtain ⟨A5, c5, e5⟩ := slot_slice hv5.own
    subst e5
    have HC6 := Lib.hid (hc5.two (.slice A5 rs5.length c5) (.string (pT q5)))
    have HK6 := Lib.hid (((HK4.out.grow ho5 (show B ≠ R by omega)).far (show B ≠ C by omega) 0 (.slice A5 rs5.length c5)).far (show B ≠ C by omega) 1 (.string (pT q5)))
    have HV6 := Lib.hid (((hv5.mono (show B + 1 ≤ w4.heap.size by omega)).far hvc5 0 (.slice A5 rs5.length c5)).far hvc5 1 (.string (pT q5)))
    have HR6 := Lib.hid ((hr5.far (show R < C by omega) 0 (.slice A5 rs5.length c5)).far (show R < C by omega) 1 (.string (pT q5)))
    have HO6 := Lib.hid (only_far (only_far (only_trans HO4.out ho5) (show w.heap.size ≤ C by omega) 0 (.slice A5 rs5.length c5)) (show w.heap.size ≤ C by omega) 1 (.string (pT q5)))
    have HVC6 := Lib.hid hvc5; have HQ6 := Lib.hid hq5
    have HC6b := HC6; have HK6b := HK6; have HV6b := HV6; have HR6b := HR6; have HO6b := HO6
    clear HC4 HK4 HO4 hc5 hv5 hr5 ho5 hvc5 hq5
    have c6 := HC6.out.cell 0 (.slice A5 rs5.length c5) rfl
    go_wp2_with fail
    clear d0 d1 g0 g1 c6 HC6b HK6b HV6b HR6b HO6b
    generalize (w5.setCell ⟨C, 0, none⟩ (.slice A5 rs5.length c5)).setCell ⟨C, 1, none⟩ (.string (pT q5)) = w6 at HC6 HK6 HV6 HR6 HO6 ⊢
    obtain ⟨M, hM⟩ : ∃ M, M = rs5.length := ⟨_, rfl⟩
    rw [← hM] at HC6 HV6 HVC6 ⊢
    have hM1 : 1 ≤ M := by omega
    have hM3 : M ≤ 3 := by omega
    have HM := Lib.hid hM.symm; clear hM hm1 hm3
    refine (l1Some_to _ R _ M _ rfl HR6.out (by omega) (by omega)).mono ?_
    rintro e w7 ⟨ws, rfl, hwl, hwlo, hr7, ho7⟩
    have HO7 := Lib.hid (only_trans HO6.out ho7); have HC7 := Lib.hid (HC6.out.grow ho7 (by omega)); have HK7 := Lib.hid (HK6.out.grow ho7 (by omega)); have HV7 := Lib.hid (HV6.out.only ho7 (by omega))
    have HWL := Lib.hid hwl; have HLO := Lib.hid hwlo
    clear ho7 hwl hwlo HO6 HC6 HK6 HV6 HR6
    go_wp2_with fail
    go_loopw [5, 6] (fun sv i wr => ∃ (k : Nat) (ws : List Nat), sv = .string (pT ws) ∧ i = .int .i64 k ∧ k ≤ M ∧ Hid (ws.length = M) ∧ Hid (Lo ws) ∧ Hid (RBk wr (B + 1) (.slice A5 M c5) rs5) ∧ Hid (SB wr C (whC (.slice A5 M c5) (.string (pT q5))) 25) ∧ Hid (SB wr B noWh 25) ∧ Rdr wr R (N + 190 + k) ∧ w.grownBy wr (some R)) (fun _ i _ => M - (intOf i).toNat)
    case atStart => exact ⟨0, ws, rfl, rfl, by omega, HWL, HLO, HV7, HC7, HK7, hr7.mono (by omega), HO7.out⟩
    case round =>
      clear HWL HLO HV7 HC7 HK7 hr7 HO7
      obtain ⟨k, us, rfl, rfl, hk, HWL, HLO, HV, HC, HK, hr, ho⟩ := hrel
      have HO := Lib.hid ho; clear ho
      have hz1 : (pT us).size ≤ M := by rw [pT_size, HWL.out]; exact Nat.le_refl _
      have hz2 : M ≤ (pT us).size := by rw [pT_size, HWL.out]; exact Nat.le_refl _
      have c0 := HC.out.cell 0 (.slice A5 M c5) rfl
      by_cases hlt2 : k < M
      · have hkr : k < rs5.length := by rw [HM.out]; exact hlt2
        obtain ⟨g, cap, hv, hg, hgw, hcl, _, c2, _⟩ := HV.out.at hkr
        simp only [Value.slice.injEq] at hv
        obtain ⟨rfl, hMr, rfl⟩ := hv
        clear hMr
        obtain ⟨pq, nt, hrt, _, hnlo, hn3⟩ := HV.out.rot _ (List.getElem_mem hkr)
        rw [hrt] at c2
        simp only at c2
        have hlt3 : k < (pT us).size := by omega
        by_cases hnp : 0 < nt.length
        · have hzn1 : 1 ≤ (pT nt).size := by rw [pT_size]; exact hnp
          have hzn2 : (pT nt).size ≤ 3 := by rw [pT_size]; exact hn3
          have htx := setW_text us nt k
          have HTX := Lib.hid htx; have HSL := Lib.hid (setW_len (nt := nt) (show k < us.length by rw [HWL.out]; exact hlt2) hnp); have HSO := Lib.hid (setW_lo (k := k) HLO.out hnlo)
          rw [HWL.out] at HSL
          clear htx hnlo hrt hn3 hcl
          obtain ⟨T, hT⟩ : ∃ T, T = pT us := ⟨_, rfl⟩
          obtain ⟨U, hU⟩ : ∃ U, U = pT nt := ⟨_, rfl⟩
          rw [← hT, ← hU] at HTX
          rw [← hT] at hz1 hz2 hlt3 ⊢
          rw [← hU] at hzn1 hzn2 c2
          have HTE := Lib.hid hT
          clear hT hU
          have hzu : ¬ ((U.size : Int) ≤ 0) := by omega
          go_wp2_with fail
          refine (pick_pos _ R _ _ hr (by omega) (by omega) (by omega)).mono ?_
          rintro e w8 ⟨y8, rfl, hy8, hr8, ho8⟩
          have hv8 := HV.out.only ho8 (show R < B + 1 by omega)
          have hc8 := HC.out.grow ho8 (show C ≠ R by omega)
          have HK8 := Lib.hid (HK.out.grow ho8 (show B ≠ R by omega)); have HO8 := Lib.hid (only_trans HO.out ho8)
          have c4 : w8.cell? ⟨g, k * 2 + 1, none⟩ = some (.string U) := by
            have e1 := ho8.cell_far ⟨g, k * 2 + 1, none⟩ hgw (by intro e'; injection e' with e'; have e2 : g = R := e'; omega)
            rw [e1]; exact c2
          have c5' := hc8.cell 0 (.slice (some ⟨g, 0, none⟩) M c5) rfl
          have HV8 := Lib.hid hv8; have HC8 := Lib.hid hc8
          clear ho8 hv8 hc8 HV HC HK HO
          by_cases z0 : y8 = 0
          · subst z0
            have hx2 : (k : Int) + 1 ≤ (T.size : Int) := by omega
            have b1 : (0 : Int) ≤ (k : Int) := by omega
            have a1 : ((k : Int) + 1).toNat = k + 1 := by omega
            have q1 : (T.extract 0 k).size ≤ 10 := by simp [ByteArray.size_extract]; omega
            have q2 : (U.extract 0 1).size ≤ 10 := by simp [ByteArray.size_extract]; omega
            have q3 : (T.extract (k + 1) T.size).size ≤ 10 := by simp [ByteArray.size_extract]; omega
            have q4 : (T.extract 0 k ++ U.extract 0 1).size ≤ 20 := by rw [ByteArray.size_append]; omega
            go_wp2_with fail
            go_quiet (fail)
            go_wp2_with fail
            go_roundw
            case rel => exact ⟨k + 1, _, by rw [HTX.out], by go_num, by omega, HSL, HSO, Lib.hid (HV8.out.drewN _), Lib.hid HC8.out, Lib.hid HK8.out, (hr8.drewN _).mono (by omega), only_drewN HO8.out _⟩
            case measure => simp [intOf]; omega
          · have hyb : ((y8 : Int) == 0) = false := by rw [beq_eq_false_iff_ne]; omega
            go_wp2_with fail
            go_roundw
            case rel => exact ⟨k + 1, us, by rw [HTE.out], by go_num, by omega, HWL, HLO, HV8, HC8, HK8, hr8.mono (by omega), HO8.out⟩
            case measure => simp [intOf]; omega
        · have hzn : (pT nt).size = 0 := by rw [pT_size]; omega
          have hzn2 : ((pT nt).size : Int) ≤ 0 := by omega
          clear hrt hn3 hcl hnlo hzn
          go_wp2_with fail
          go_roundw
          case rel => exact ⟨k + 1, us, rfl, by go_num, by omega, HWL, HLO, HV, HC, HK, hr.mono (by omega), HO.out⟩
          case measure => simp [intOf]; omega
      · have c1 := HC.out.cell 1 (.string (pT q5)) rfl
        have k0 := HK.out.cell 0 (.slice none 0 0) rfl
        have k1 := HK.out.cell 1 (.string ByteArray.empty) rfl
        have f0 := HK.out.frozen 0
        have f1 := HK.out.frozen 1
        have hnb := ownBlock_ne HV.out.own (show B < B + 1 by omega)
        have hk3 : (pT us).size ≤ k := by omega
        have HNB := Lib.hid hnb; clear hnb hz1 hz2
        have HWM : us.length = rs5.length := by rw [HWL.out, HM.out]
        have HWM := Lib.hid HWM
        go_wp2_with fail
        refine bodyPost_ret (results_st_tmp rfl _ _ B _ #[.slice A5 M c5, .string (pT q5)] _ _ rfl (HK.out.two _ _) Tryz.underlying25 ⟨_, rfl⟩ whlSize) rfl ⟨.slice A5 M c5, rs5, q5, us, rfl, ((HV.out.mono (by omega)).far HNB.out _ _).far HNB.out _ _, HQ6.out, by have := HM.out; omega, by have := HM.out; omega, HWM.out, HLO.out, ((hr.far hlt _ _).far hlt _ _).mono (by omega), only_far (only_far HO.out hwb _ _) hwb _ _⟩
  · have hyb : ((y : Int) == 0) = false := by rw [beq_eq_false_iff_ne]; omega
    have HR4 := Lib.hid hr4; clear hr4
    have c6 := HC4.out.cell 0 (.slice A3 rs.length c3) rfl
    go_wp2_with fail
    clear c6
    obtain ⟨M, hM⟩ : ∃ M, M = rs.length := ⟨_, rfl⟩
    rw [← hM] at HC4 HV4 HVC ⊢
    have hM1 : 1 ≤ M := by omega
    have hM3 : M ≤ 3 := by omega
    have HM := Lib.hid hM.symm; clear hM hl1 hl3
    refine (l1Some_to _ R _ M _ rfl HR4.out (by omega) (by omega)).mono ?_
    rintro e w7 ⟨ws, rfl, hwl, hwlo, hr7, ho7⟩
    have HO7 := Lib.hid (only_trans HO4.out ho7); have HC7 := Lib.hid (HC4.out.grow ho7 (by omega)); have HK7 := Lib.hid (HK4.out.grow ho7 (by omega)); have HV7 := Lib.hid (HV4.out.only ho7 (by omega))
    have HWL := Lib.hid hwl; have HLO := Lib.hid hwlo
    clear ho7 hwl hwlo HO4 HC4 HK4 HV4 HR4
    go_wp2_with fail
    go_loopw [5, 6] (fun sv i wr => ∃ (k : Nat) (ws : List Nat), sv = .string (pT ws) ∧ i = .int .i64 k ∧ k ≤ M ∧ Hid (ws.length = M) ∧ Hid (Lo ws) ∧ Hid (RBk wr (B + 1) (.slice A3 M c3) rs) ∧ Hid (SB wr C (whC (.slice A3 M c3) (.string (pT q))) 25) ∧ Hid (SB wr B noWh 25) ∧ Rdr wr R (N + 190 + k) ∧ w.grownBy wr (some R)) (fun _ i _ => M - (intOf i).toNat)
    case atStart => exact ⟨0, ws, rfl, rfl, by omega, HWL, HLO, HV7, HC7, HK7, hr7.mono (by omega), HO7.out⟩
    case round =>
      clear HWL HLO HV7 HC7 HK7 hr7 HO7
      obtain ⟨k, us, rfl, rfl, hk, HWL, HLO, HV, HC, HK, hr, ho⟩ := hrel
      have HO := Lib.hid ho; clear ho
      have hz1 : (pT us).size ≤ M := by rw [pT_size, HWL.out]; exact Nat.le_refl _
      have hz2 : M ≤ (pT us).size := by rw [pT_size, HWL.out]; exact Nat.le_refl _
      have c0 := HC.out.cell 0 (.slice A3 M c3) rfl
      by_cases hlt2 : k < M
      · have hkr : k < rs.length := by rw [HM.out]; exact hlt2
        obtain ⟨g, cap, hv, hg, hgw, hcl, _, c2, _⟩ := HV.out.at hkr
        simp only [Value.slice.injEq] at hv
        obtain ⟨rfl, hMr, rfl⟩ := hv
        clear hMr
        obtain ⟨pq, nt, hrt, _, hnlo, hn3⟩ := HV.out.rot _ (List.getElem_mem hkr)
        rw [hrt] at c2
        simp only at c2
        have hlt3 : k < (pT us).size := by omega
        by_cases hnp : 0 < nt.length
        · have hzn1 : 1 ≤ (pT nt).size := by rw [pT_size]; exact hnp
          have hzn2 : (pT nt).size ≤ 3 := by rw [pT_size]; exact hn3
          have htx := setW_text us nt k
          have HTX := Lib.hid htx; have HSL := Lib.hid (setW_len (nt := nt) (show k < us.length by rw [HWL.out]; exact hlt2) hnp); have HSO := Lib.hid (setW_lo (k := k) HLO.out hnlo)
          rw [HWL.out] at HSL
          clear htx hnlo hrt hn3 hcl
          obtain ⟨T, hT⟩ : ∃ T, T = pT us := ⟨_, rfl⟩
          obtain ⟨U, hU⟩ : ∃ U, U = pT nt := ⟨_, rfl⟩
          rw [← hT, ← hU] at HTX
          rw [← hT] at hz1 hz2 hlt3 ⊢
          rw [← hU] at hzn1 hzn2 c2
          have HTE := Lib.hid hT
          clear hT hU
          have hzu : ¬ ((U.size : Int) ≤ 0) := by omega
          go_wp2_with fail
          refine (pick_pos _ R _ _ hr (by omega) (by omega) (by omega)).mono ?_
          rintro e w8 ⟨y8, rfl, hy8, hr8, ho8⟩
          have hv8 := HV.out.only ho8 (show R < B + 1 by omega)
          have hc8 := HC.out.grow ho8 (show C ≠ R by omega)
          have HK8 := Lib.hid (HK.out.grow ho8 (show B ≠ R by omega)); have HO8 := Lib.hid (only_trans HO.out ho8)
          have c4 : w8.cell? ⟨g, k * 2 + 1, none⟩ = some (.string U) := by
            have e1 := ho8.cell_far ⟨g, k * 2 + 1, none⟩ hgw (by intro e'; injection e' with e'; have e2 : g = R := e'; omega)
            rw [e1]; exact c2
          have c5' := hc8.cell 0 (.slice (some ⟨g, 0, none⟩) M c3) rfl
          have HV8 := Lib.hid hv8; have HC8 := Lib.hid hc8
          clear ho8 hv8 hc8 HV HC HK HO
          by_cases z0 : y8 = 0
          · subst z0
            have hx2 : (k : Int) + 1 ≤ (T.size : Int) := by omega
            have b1 : (0 : Int) ≤ (k : Int) := by omega
            have a1 : ((k : Int) + 1).toNat = k + 1 := by omega
            have q1 : (T.extract 0 k).size ≤ 10 := by simp [ByteArray.size_extract]; omega
            have q2 : (U.extract 0 1).size ≤ 10 := by simp [ByteArray.size_extract]; omega
            have q3 : (T.extract (k + 1) T.size).size ≤ 10 := by simp [ByteArray.size_extract]; omega
            have q4 : (T.extract 0 k ++ U.extract 0 1).size ≤ 20 := by rw [ByteArray.size_append]; omega
            go_wp2_with fail
            go_quiet (fail)
            go_wp2_with fail
            go_roundw
            case rel => exact ⟨k + 1, _, by rw [HTX.out], by go_num, by omega, HSL, HSO, Lib.hid (HV8.out.drewN _), Lib.hid HC8.out, Lib.hid HK8.out, (hr8.drewN _).mono (by omega), only_drewN HO8.out _⟩
            case measure => simp [intOf]; omega
          · have hyb : ((y8 : Int) == 0) = false := by rw [beq_eq_false_iff_ne]; omega
            go_wp2_with fail
            go_roundw
            case rel => exact ⟨k + 1, us, by rw [HTE.out], by go_num, by omega, HWL, HLO, HV8, HC8, HK8, hr8.mono (by omega), HO8.out⟩
            case measure => simp [intOf]; omega
        · have hzn : (pT nt).size = 0 := by rw [pT_size]; omega
          have hzn2 : ((pT nt).size : Int) ≤ 0 := by omega
          clear hrt hn3 hcl hnlo hzn
          go_wp2_with fail
          go_roundw
          case rel => exact ⟨k + 1, us, rfl, by go_num, by omega, HWL, HLO, HV, HC, HK, hr.mono (by omega), HO.out⟩
          case measure => simp [intOf]; omega
      · have c1 := HC.out.cell 1 (.string (pT q)) rfl
        have k0 := HK.out.cell 0 (.slice none 0 0) rfl
        have k1 := HK.out.cell 1 (.string ByteArray.empty) rfl
        have f0 := HK.out.frozen 0
        have f1 := HK.out.frozen 1
        have hnb := ownBlock_ne HV.out.own (show B < B + 1 by omega)
        have hk3 : (pT us).size ≤ k := by omega
        have HNB := Lib.hid hnb; clear hnb hz1 hz2
        have HWM : us.length = rs.length := by rw [HWL.out, HM.out]
        have HWM := Lib.hid HWM
        go_wp2_with fail
        refine bodyPost_ret (results_st_tmp rfl _ _ B _ #[.slice A3 M c3, .string (pT q)] _ _ rfl (HK.out.two _ _) Tryz.underlying25 ⟨_, rfl⟩ whlSize) rfl ⟨.slice A3 M c3, rs, q, us, rfl, ((HV.out.mono (by omega)).far HNB.out _ _).far HNB.out _ _, HQ.out, by have := HM.out; omega, by have := HM.out; omega, HWM.out, HLO.out, ((hr.far hlt _ _).far hlt _ _).mono (by omega), only_far (only_far HO.out hwb _ _) hwb _ _⟩
theorem macSize : (Tryz.prog.info? 27).map (·.size) = some 4 := by kernel_rfl
theorem SB.four {w : World} {p : Nat} {a b c d : Value} {T : TypeId} (h : SB w p #[a, b, c, d] T) (e f g i : Value) : SB ((((w.setCell ⟨p, 0, none⟩ e).setCell ⟨p, 1, none⟩ f).setCell ⟨p, 2, none⟩ g).setCell ⟨p, 3, none⟩ i) p #[e, f, g, i] T := (((h.put 0 e).put 1 f).put 2 g).put 3 i
theorem SB.all4 {w : World} {p : Nat} {a b c d : Value} {T : TypeId} (h : SB w p #[a, b, c, d] T) :
    (w.cell? ⟨p, 0, none⟩ = some a ∧ w.cell? ⟨p, 1, none⟩ = some b ∧ w.cell? ⟨p, 2, none⟩ = some c ∧ w.cell? ⟨p, 3, none⟩ = some d) ∧ (w.frozen? ⟨p, 0, none⟩ = false ∧ w.frozen? ⟨p, 1, none⟩ = false ∧ w.frozen? ⟨p, 2, none⟩ = false ∧ w.frozen? ⟨p, 3, none⟩ = false) :=
  ⟨⟨h.cell 0 a rfl, h.cell 1 b rfl, h.cell 2 c rfl, h.cell 3 d rfl⟩, h.frozen 0, h.frozen 1, h.frozen 2, h.frozen 3⟩
abbrev noMac : Array Value := #[.slice none 0 0, .string ByteArray.empty, .string ByteArray.empty, .string ByteArray.empty]
abbrev macC (v : Value) (q rg pl : List Nat) : Array Value := #[v, .string (pT q), .string (pT rg), .string (pT pl)]
def MDrawn (w : World) (R N : Nat) (e : Ending) (w' : World) : Prop :=
  ∃ v rs q rg pl ws, e = .returned (.tuple #[.agg (macC v q rg pl), .string (pT ws)]) ∧ RBk w' w.heap.size v rs ∧ Prm q ∧ Prm pl ∧ 1 ≤ rs.length ∧ rs.length ≤ 3 ∧ rg.length = rs.length ∧ Lo rg ∧ ws.length = rs.length ∧ Lo ws ∧ Rdr w' R N ∧ w.grownBy w' (some R)
set_option maxHeartbeats 8000000 in
set_option maxRecDepth 100000 in
theorem l8Any_any (w : World) (R N : Nat) (h : Rdr w R N) (hN : N ≤ 40000) :
    Calls Tryz.prog 69 #[.pointer (some ⟨R, 0, none⟩)] w (MDrawn w R (N + 300)) := by
  have hlt := h.lt
  have h0 := h.alloc (.cells noMac 27)
  have HO0 := Lib.hid (World.grownBy_alloc w (.cells noMac 27) (some R))
  have HN0 := Lib.hid (SB.made w noMac 27)
  clear h
  obtain ⟨B, hB⟩ : ∃ B, B = w.heap.size := ⟨_, rfl⟩
  rw [← hB] at HN0 hlt
  have HBE := Lib.hid hB
  go_enter Tryz.func69, Tryz.ntmps69
  go_wp2_with fail
  rw [← hB]
  clear hB
  have hz0 : B < (w.alloc (.cells noMac 27)).heap.size := HN0.out.lt
  refine (l7Some_any _ R _ h0 (by omega)).mono ?_
  rintro e w2 ⟨v, rs, q, ws, rfl, hv, hq, hl1, hl3, hwl, hlo, hr2, ho2⟩
  have HO2 := Lib.hid (only_trans HO0.out ho2); have HK2 := Lib.hid (HN0.out.grow ho2 (by omega)); have HQ := Lib.hid hq
  have HV2 := Lib.hid (hv.mono (show B + 1 ≤ _ from hz0))
  have hvc : v.ownBlock ≠ some w2.heap.size := fun e' => by have := (hv.own.lt _ e').2; omega
  obtain ⟨A3, c3, e3⟩ := slot_slice hv.own
  subst e3
  have HWL := Lib.hid hwl; have HLO := Lib.hid hlo
  have hzw : (pT ws).size ≤ 3 := by rw [pT_size]; omega
  obtain ⟨M, hM⟩ : ∃ M, M = rs.length := ⟨_, rfl⟩
  have hwz : ((pT ws).size : Int) = (M : Int) := by rw [pT_size, hM, hwl]
  clear ho2 hv hq hz0 HO0 HN0 hwl hlo
  have hBC : B < w2.heap.size := HK2.out.lt
  have HR3 := Lib.hid (hr2.alloc (.cells (whC (.slice A3 rs.length c3) (.string (pT q))) 25)); clear hr2
  have HO3 := Lib.hid (only_trans HO2.out (World.grownBy_alloc w2 (.cells (whC (.slice A3 rs.length c3) (.string (pT q))) 25) (some R)))
  have HC3 := Lib.hid (SB.made w2 (whC (.slice A3 rs.length c3) (.string (pT q))) 25)
  have HK3 := Lib.hid (HK2.out.below ((Below.refl _ _).alloc (Nat.le_refl _) (.cells (whC (.slice A3 rs.length c3) (.string (pT q))) 25)))
  have HV3 := Lib.hid (HV2.out.alloc (.cells (whC (.slice A3 rs.length c3) (.string (pT q))) 25))
  clear HK2 HO2 HV2
  have HWZ := Lib.hid hwz; have HM := Lib.hid hM; clear hwz hM
  obtain ⟨T, hT⟩ : ∃ T, T = pT ws := ⟨_, rfl⟩
  rw [← hT] at hzw HWZ ⊢
  have HTE := Lib.hid hT; clear hT
  go_wp2_with fail
  obtain ⟨C, hC⟩ : ∃ C, C = w2.heap.size := ⟨_, rfl⟩
  have hwb : w.heap.size ≤ B := by rw [HBE.out]; exact Nat.le_refl _
  rw [← hC] at HC3 hBC hvc ⊢
  obtain ⟨w3, hw3⟩ : ∃ w3, w3 = w2.alloc (.cells #[.slice A3 rs.length c3, .string (pT q)] 25) := ⟨_, rfl⟩
  rw [← hw3] at HR3 HO3 HC3 HK3 HV3 ⊢
  clear hw3 hC hvc
  have hcr : C ≠ R := by omega
  have hbr : B ≠ R := by omega
  have hcon := l1Some_to w3.drew R _ M _ HWZ.out HR3.out (by have := HM.out; omega) (by have := HM.out; omega)
  have hcon2 := fun (w' : World) (h' : Rdr w' R _) => l4Any_any w' R (N + 200 + M) h' (by have := HM.out; omega)
  have HCON := Lib.hid hcon; have HCON2 := Lib.hid hcon2; clear hcon hcon2
  have c0 := HC3.out.cell 0 (.slice A3 rs.length c3) rfl
  have c1 := HC3.out.cell 1 (.string (pT q)) rfl
  go_region_with (first | (go_at_call 71; refine HCON.out.mono ?_; rintro _ w7 ⟨rg, rfl, hrl, hrlo, hr7, ho7⟩; have c70 := (HC3.out.grow (only_of_drew ho7) hcr).cell 0 (.slice A3 rs.length c3) rfl; have c71 := (HC3.out.grow (only_of_drew ho7) hcr).cell 1 (.string (pT q)) rfl) | (go_at_call 17; refine (HCON2.out _ hr7).mono ?_; rintro _ w8 ⟨pl, rfl, hpl, hr8, ho8⟩; have c80 := ((HC3.out.grow (only_of_drew ho7) hcr).grow ho8 hcr).cell 0 (.slice A3 rs.length c3) rfl; have c81 := ((HC3.out.grow (only_of_drew ho7) hcr).grow ho8 hcr).cell 1 (.string (pT q)) rfl; obtain ⟨⟨k0, k1, k2, k3⟩, f0, f1, f2, f3⟩ := ((HK3.out.grow (only_of_drew ho7) hbr).grow ho8 hbr).all4) | fail)
  all_goals
    have hv8 := (HV3.out.only (only_of_drew ho7) (show R < B + 1 by omega)).only ho8 (show R < B + 1 by omega)
    have hnb := ownBlock_ne hv8.own (show B < B + 1 by omega)
    have HK9 := Lib.hid (((HK3.out.grow (only_of_drew ho7) hbr).grow ho8 hbr).four (.slice A3 rs.length c3) (.string (pT q)) (.string (pT rg)) (.string (pT pl)))
    have HV9 := Lib.hid ((((hv8.far hnb 0 (.slice A3 rs.length c3)).far hnb 1 (.string (pT q))).far hnb 2 (.string (pT rg))).far hnb 3 (.string (pT pl)))
    have HR9 := Lib.hid ((((hr8.far hlt 0 (.slice A3 rs.length c3)).far hlt 1 (.string (pT q))).far hlt 2 (.string (pT rg))).far hlt 3 (.string (pT pl)))
    have HO9 := Lib.hid (only_far (only_far (only_far (only_far (only_trans (only_trans HO3.out (only_of_drew ho7)) ho8) hwb 0 (.slice A3 rs.length c3)) hwb 1 (.string (pT q))) hwb 2 (.string (pT rg))) hwb 3 (.string (pT pl)))
    have HRL := Lib.hid hrl; have HRO := Lib.hid hrlo; have HPL := Lib.hid hpl
    clear hv8 hnb hrl hrlo hpl hr7 hr8 ho7 ho8 k0 k1 k2 k3 f0 f1 f2 f3 c70 c71 c80 c81 c0 c1
    go_wp2_with fail
    refine bodyPost_ret (results_st_tmp rfl _ _ B _ (macC (.slice A3 rs.length c3) q rg pl) _ _ rfl HK9.out Tryz.underlying27 ⟨_, rfl⟩ macSize) rfl ⟨.slice A3 rs.length c3, rs, q, rg, pl, ws, by rw [← HTE.out]; rfl, HV9.out.mono (by omega), HQ.out, HPL.out, by omega, hl3, by rw [HRL.out]; exact HM.out, HRO.out, HWL.out, HLO.out, HR9.out.mono (by have := HM.out; omega), HO9.out⟩
end Go.Proofs.YtnbdimbhklbadaaGreatDoor
