/-
  Contracts of the laws' own marks: what is written into a slice that the caller holds, and that it is found there again. No conditions but those that each theorem names.
-/
import Derived.Test.YtlnppdpbhoapfaaDoorTexts
import Derived.Test.YtlnppdpbhoapfaaDoorPlainK
import Derived.Test.YtlnppdpbhoapfaaDoorWords
namespace Go.Proofs.YtlnppdpbhoapfaaDoor
open Go.RowKit Pl
set_option linter.unusedVariables false

/-- the digits of a number -/
def mtD (k : Nat) : List UInt8 := if h : k = 0 then [] else mtD (k / 10) ++ [UInt8.ofNat (48 + k % 10)]
theorem mtD_zero : mtD 0 = [] := by rw [mtD]; rfl
theorem mtD_pos {k : Nat} (h : k ≠ 0) : mtD k = mtD (k / 10) ++ [UInt8.ofNat (48 + k % 10)] := by rw [mtD, dif_neg h]
theorem mtD_length (k : Nat) : (mtD k).length ≤ k := by
  induction k using Nat.strongRecOn with
  | ind k ih =>
    by_cases h : k = 0
    · subst h; rw [mtD_zero]; simp
    · rw [mtD_pos h, List.length_append]
      have := ih (k / 10) (by omega)
      simp; omega
/-- the mark with a number -/
def mt (k : Nat) : ByteArray := mk (109 :: mtD k)

set_option maxHeartbeats 2000000 in
theorem markText_any (w : World) (k0 : Nat) (h1 : 1 ≤ k0) (hk : k0 ≤ 10000000) :
    Calls Tryd.prog 22 #[.int .i64 k0] w fun e w' => e = .returned (.string (mt k0)) ∧ Below w.heap.size w w' := by
  have hcv := fun (v : Int) (h0 : 0 ≤ v) (h2 : v < 256) => conv_one (P := Tryd.prog) 28 9 5 Tryd.underlying28 Tryd.underlying5 Tryd.underlying9 v h0 h2
  have HCV := Lib.hid hcv; clear hcv
  go_enter Tryd.func22, Tryd.ntmps22
  go_wp2_with fail
  go_loopw [0, 3] (fun i o wr => ∃ (k : Nat) (l : List UInt8), k ≤ k0 ∧ i = .int .i64 k ∧ o = .string (mk l) ∧ mtD k ++ l = mtD k0 ∧ Below w.heap.size w wr) (fun i _ _ => (intOf i).toNat)
  case atStart => exact ⟨k0, [], Nat.le_refl _, rfl, rfl, by simp, Below.refl _ _⟩
  case round =>
    obtain ⟨k, l, hkk, rfl, rfl, hl, hb⟩ := hrel
    have hz : (mk l).size ≤ 10000000 := by
      have h2 := congrArg List.length hl
      rw [List.length_append] at h2
      have h3 := mtD_length k0
      rw [size_mk]; omega
    have HL := Lib.hid hl; have HB := Lib.hid hb; clear hl hb
    by_cases hpos : 0 < k
    · have hm := HCV.out (48 + (k : Int) % 10) (by omega) (by omega)
      have hv : (48 + (k : Int) % 10).toNat = 48 + k % 10 := by omega
      rw [hv] at hm
      have hz1 : (mk [UInt8.ofNat (48 + k % 10)]).size ≤ 1 := by rw [size_mk]; simp
      have hnx : mtD (k / 10) ++ ([UInt8.ofNat (48 + k % 10)] ++ l) = mtD k0 := by
        rw [← HL.out, mtD_pos (show k ≠ 0 by omega), List.append_assoc]
      generalize UInt8.ofNat (48 + k % 10) = d at hm hz1 hnx
      have HNX := Lib.hid hnx; clear hnx hv
      go_wp2_with fail
      go_roundw
      case rel => exact ⟨k / 10, _, by omega, by go_num, by rw [mk_append], HNX.out, HB.out.alloc HB.out.size _⟩
      case measure => simp [intOf]; omega
    · have hk0 : k = 0 := by omega
      subst hk0
      have hl2 := HL.out
      rw [mtD_zero, List.nil_append] at hl2
      have HL2 := Lib.hid hl2; clear hl2 HL
      go_wp2_with fail
      go_ret
      refine ⟨?_, HB.out⟩
      rw [mt, ← HL2.out]
      exact str_eq (by rw [append_tl]; rfl)

theorem markText_is (w : World) (k0 : Nat) (m : Int) (hm : m = (k0 : Int)) (h1 : 1 ≤ k0) (hk : k0 ≤ 10000000) :
    Calls Tryd.prog 22 #[.int .i64 m] w fun e w' => e = .returned (.string (mt k0)) ∧ Below w.heap.size w w' := by
  subst hm; exact markText_any w k0 h1 hk

def mks (n k0 : Nat) : List ByteArray := (List.range n).map fun j => mt (k0 + j)
theorem length_mks (n k0 : Nat) : (mks n k0).length = n := by simp [mks]
theorem mks_get (n k0 j : Nat) (h : j < (mks n k0).length) : (mks n k0)[j] = mt (k0 + j) := by simp [mks]

theorem own_at {w : World} {base : Nat} {e : TypeId} {size n cap : Nat} {A : Option Addr} {xs : List Value} (h : w.ownsRow base e size (.slice A n cap) n xs) (hn : 0 < n) : ∃ g, A = some ⟨g, 0, none⟩ ∧ base ≤ g := by
  obtain ⟨h1, ⟨h2, rfl⟩ | ⟨g, cap', cur, h2, h3, h4⟩⟩ := h
  · omega
  · injection h2 with h2; exact ⟨g, h2, h3⟩















































theorem one_keep {wr W W' : World} {a1 : Addr} {u1 : Value} (h : W.cell? a1 = some u1 ∧ Below wr.heap.size wr W) (hb : Below W.heap.size W W') : W'.cell? a1 = some u1 ∧ Below wr.heap.size wr W' := by
  obtain ⟨h1, h5⟩ := h
  exact ⟨(hb.cell (World.block_lt_of_cell? _ _ h1)).trans h1, h5.trans (hb.mono h5.size)⟩

theorem one_keep2 {w W W' : World} {a1 : Addr} {u1 : Value} (h : W.cell? a1 = some u1 ∧ Below w.heap.size w W) (hb : Below W.heap.size W W') : W'.cell? a1 = some u1 ∧ Below w.heap.size w W' := by
  obtain ⟨h1, h5⟩ := h
  exact ⟨(hb.cell (World.block_lt_of_cell? _ _ h1)).trans h1, h5.trans (hb.mono h5.size)⟩



































def mke (n k0 : Nat) : List (ByteArray × ByteArray) := (List.range n).map fun j => (mt (k0 + 2 * j), mt (k0 + 2 * j + 1))
theorem length_mke (n k0 : Nat) : (mke n k0).length = n := by simp [mke]
theorem mke_get (n k0 j : Nat) (h : j < (mke n k0).length) : (mke n k0)[j] = (mt (k0 + 2 * j), mt (k0 + 2 * j + 1)) := by simp [mke]

set_option maxHeartbeats 2000000 in
theorem markEntryS_any (w : World) (B : Nat) (v : Value) (n k0 : Nat) (xs0 : List Value) (h : w.ownsRow B 38 2 v n xs0) (hn : n ≤ 1048576) (h1 : 1 ≤ k0) (hk : k0 ≤ 5000000) :
    Calls Tryd.prog 8 #[v, .int .i64 k0] w fun e w' => e = .returned (.int .i64 (k0 + 2 * n : Nat)) ∧ w'.ownsRow B 38 2 v n (entV (mke n k0)) ∧ w.grownBy w' v.ownBlock := by
  obtain ⟨A, cap, rfl⟩ := slot_slice h
  have HO := Lib.hid h; clear h
  have hcap : n ≤ cap := by obtain ⟨A', cap', he, h2, _⟩ := ownsRow_rd HO.out; simp only [Value.slice.injEq] at he; omega
  go_enter Tryd.func8, Tryd.ntmps8
  go_wp2_with fail
  go_loopw [1, 5] (fun c i wr => ∃ (k : Nat) (xs : List Value), k ≤ n ∧ i = .int .i64 k ∧ c = .int .i64 (k0 + 2 * k : Nat) ∧ wr.ownsRow B 38 2 (.slice A n cap) n xs ∧ (∀ j, j < k → xs[2 * j]? = some (.string (mt (k0 + 2 * j))) ∧ xs[2 * j + 1]? = some (.string (mt (k0 + 2 * j + 1)))) ∧ w.grownBy wr (Value.slice A n cap).ownBlock) (fun _ i _ => n - (intOf i).toNat)
  case atStart => exact ⟨0, xs0, Nat.zero_le _, rfl, rfl, HO.out, fun j hj => absurd hj (Nat.not_lt_zero _), only_refl _ _⟩
  case round =>
    obtain ⟨k, xs, hkk, rfl, rfl, hown, hall, hg⟩ := hrel
    have HOW := Lib.hid hown; have HA := Lib.hid hall; have HG := Lib.hid hg; clear hown hall hg HO
    by_cases hlt : k < n
    · obtain ⟨g, rfl, hgB⟩ := own_at HOW.out (by omega)
      go_wp2_with fail
      refine (markText_any _ (k0 + 2 * k) (by omega) (by omega)).mono ?_
      rintro _ w2 ⟨rfl, hb2⟩
      have ho2 := ownsRow_below HOW.out hb2
      have hg2 := only_trans HG.out (only_of_below hb2 _)
      have hlen := ho2.1
      have d0 : w2.cell? ⟨g, k * 2, none⟩ = some (xs[k * 2]'(by omega)) := by rw [ho2.cellAt _ (by omega), List.getElem?_eq_getElem (by omega)]
      have f0 : w2.frozen? ⟨g, k * 2, none⟩ = false := ho2.frozenAt _
      have q1 := (ho2.stored (k * 2) (.string (mt (k0 + 2 * k)))).1
      have q3 : w.grownBy (w2.setCell ⟨g, k * 2, none⟩ (.string (mt (k0 + 2 * k)))) (some g) := only_setCell hg2 _ _
      have hlx : xs.length = n * 2 := hlen
      have Q1 := Lib.hid q1; have Q3 := Lib.hid q3; clear q1 q3 hg2 hb2 ho2
      generalize xs[k * 2]'(by omega) = z0 at d0
      obtain ⟨s, hs⟩ : ∃ s, s = mt (k0 + 2 * k) := ⟨_, rfl⟩
      rw [← hs] at Q1 Q3 ⊢
      have HS := Lib.hid hs; have HLX := Lib.hid hlx; clear hlen hs hlx
      go_wp2_with fail
      obtain ⟨w3, hw3⟩ : ∃ w3, w3 = w2.setCell ⟨g, k * 2, none⟩ (.string s) := ⟨_, rfl⟩
      rw [← hw3] at Q1 Q3 ⊢
      clear hw3 d0 f0
      have hcast : ((k0 + 2 * k : Nat) : Int) + 1 = ((k0 + 2 * k + 1 : Nat) : Int) := by omega
      refine (markText_is _ (k0 + 2 * k + 1) _ (by omega) (by omega) (by omega)).mono ?_
      rintro _ w4 ⟨rfl, hb4⟩
      have ho4 := ownsRow_below Q1.out hb4
      have hg4 := only_trans Q3.out (only_of_below hb4 _)
      have hlen := ho4.1
      have hlx := HLX.out
      have d1 : w4.cell? ⟨g, k * 2 + 1, none⟩ = some ((xs.set (k * 2) (.string s))[k * 2 + 1]'(by rw [List.length_set]; omega)) := by rw [ho4.cellAt _ (by omega), List.getElem?_eq_getElem (by rw [List.length_set]; omega)]
      have f1 : w4.frozen? ⟨g, k * 2 + 1, none⟩ = false := ho4.frozenAt _
      have q1 := (ho4.stored (k * 2 + 1) (.string (mt (k0 + 2 * k + 1)))).1
      have q2 : ∀ j, j < k + 1 → ((xs.set (k * 2) (.string s)).set (k * 2 + 1) (.string (mt (k0 + 2 * k + 1))))[2 * j]? = some (.string (mt (k0 + 2 * j))) ∧ ((xs.set (k * 2) (.string s)).set (k * 2 + 1) (.string (mt (k0 + 2 * k + 1))))[2 * j + 1]? = some (.string (mt (k0 + 2 * j + 1))) := by
        intro j hjk
        by_cases hje : j = k
        · subst hje
          rw [Nat.mul_comm j 2, List.getElem?_set_ne (by omega), List.getElem?_set_self (by omega), List.getElem?_set_self (by simp; omega)]
          exact ⟨by rw [HS.out], rfl⟩
        · rw [List.getElem?_set_ne (by omega), List.getElem?_set_ne (by omega), List.getElem?_set_ne (by omega), List.getElem?_set_ne (by omega)]; exact HA.out j (by omega)
      have q3 : w.grownBy (w4.setCell ⟨g, k * 2 + 1, none⟩ (.string (mt (k0 + 2 * k + 1)))) (some g) := only_setCell hg4 _ _
      have P1 := Lib.hid q1; have P2 := Lib.hid q2; have P3 := Lib.hid q3; clear q1 q2 q3 hg4 hb4 ho4
      generalize (xs.set (k * 2) (.string s))[k * 2 + 1]'(by rw [List.length_set]; omega) = z1 at d1
      generalize mt (k0 + 2 * k + 1) = s2 at P1 P2 P3 ⊢
      clear hlen hlx
      go_wp2_with fail
      go_roundw
      case rel => exact ⟨k + 1, _, by omega, by go_num, by go_num, P1.out, P2.out, P3.out⟩
      case measure => simp [intOf]; omega
    · have hkn : k = n := by omega
      subst hkn
      go_wp2_with fail
      go_ret
      have hx : xs = entV (mke k k0) := entV_of (by have := HOW.out.1; rw [length_mke]; omega) fun j hj => by
        rw [mke_get]
        exact HA.out j (by rw [length_mke] at hj; exact hj)
      refine ⟨rfl, ?_, HG.out⟩
      rw [← hx]; exact HOW.out

set_option maxHeartbeats 2000000 in
theorem heldEntryS_any (w : World) (A : Option Addr) (cap n k0 : Nat) (h : Rd w w.heap.size A (entV (mke n k0))) (hc : n ≤ cap) (hn : n ≤ 1048576) (h1 : 1 ≤ k0) (hk : k0 ≤ 5000000) :
    Calls Tryd.prog 9 #[.slice A n cap, .int .i64 k0] w fun e w' => e = .returned (.int .i64 (k0 + 2 * n : Nat)) ∧ Below w.heap.size w w' := by
  have HR := Lib.hid h; clear h
  go_enter Tryd.func9, Tryd.ntmps9
  go_wp2_with fail
  go_loopw [1, 5] (fun c i wr => ∃ (k : Nat), k ≤ n ∧ i = .int .i64 k ∧ c = .int .i64 (k0 + 2 * k : Nat) ∧ Below w.heap.size w wr) (fun _ i _ => n - (intOf i).toNat)
  case atStart => exact ⟨0, Nat.zero_le _, rfl, rfl, Below.refl _ _⟩
  case round =>
    obtain ⟨k, hkk, rfl, rfl, hb⟩ := hrel
    have HBL := Lib.hid hb; clear hb
    by_cases hlt : k < n
    · obtain ⟨b, off, rfl, hbb, c0, c1⟩ := (HR.out.below HBL.out).ent (show k < (mke n k0).length by rw [length_mke]; exact hlt)
      rw [mke_get] at c0 c1
      simp only at c0 c1
      obtain ⟨s, hs⟩ : ∃ s, s = mt (k0 + 2 * k) := ⟨_, rfl⟩
      obtain ⟨t, ht⟩ : ∃ t, t = mt (k0 + 2 * k + 1) := ⟨_, rfl⟩
      rw [← hs] at c0
      rw [← ht] at c1
      have HS := Lib.hid hs; have HT := Lib.hid ht; clear hs ht
      have hM1 := fun (W : World) => markText_any W (k0 + 2 * k) (by omega) (by omega)
      rw [← HS.out] at hM1
      have hM2 := fun (W : World) (m : Int) (hm : m = ((k0 + 2 * k + 1 : Nat) : Int)) => markText_is W (k0 + 2 * k + 1) m hm (by omega) (by omega)
      rw [← HT.out] at hM2
      have HM1 := Lib.hid hM1; have HM2 := Lib.hid hM2; clear hM1 hM2
      have HC1 := Lib.hid c1; clear c1
      go_wp2_with fail
      go_region_held3 (fun W => W.cell? ⟨b, off + k * 2, none⟩ = some (.string s) ∧ Below wr.heap.size wr W) (first | assumption | exact ⟨c0, (Below.refl _ _).drew⟩ | exact one_keep (by assumption) (by assumption)) ((go_at_call 22; refine (HM1.out _).mono ?_; rintro _ w7 ⟨rfl, hb7⟩))
      rename_i hS
      have c1 := (hS.2.cell (World.block_lt_of_cell? _ _ HC1.out)).trans HC1.out
      have B1 := Lib.hid (HBL.out.trans (hS.2.mono HBL.out.size))
      clear hS c0
      go_wp2_with fail
      go_region_held3 (fun W => W.cell? ⟨b, off + k * 2 + 1, none⟩ = some (.string t) ∧ Below w.heap.size w W) (first | assumption | exact ⟨c1, B1.out.drew⟩ | exact one_keep2 (by assumption) (by assumption)) ((go_at_call 22; refine (HM2.out _ _ (by omega)).mono ?_; rintro _ w7 ⟨rfl, hb7⟩))
      rename_i hS
      have B2 := Lib.hid hS.2
      clear hS c1
      go_wp2_with fail
      go_roundw
      case rel => exact ⟨k + 1, by omega, by go_num, by go_num, B2.out⟩
      case measure => simp [intOf]; omega
    · have hkn : k = n := by omega
      subst hkn
      go_wp2_with fail
      go_ret
      exact ⟨rfl, HBL.out⟩

theorem own_apart {wA wB : World} {b1 b2 : Nat} {e1 e2 : TypeId} {z1 z2 n1 n2 : Nat} {v1 v2 : Value} {x1 x2 : List Value} (h1 : wA.ownsRow b1 e1 z1 v1 n1 x1) (h2 : wB.ownsRow b2 e2 z2 v2 n2 x2) (hle : wA.heap.size ≤ b2) : v1.ownBlock = none ∨ v1.ownBlock ≠ v2.ownBlock := by
  cases hv : v1.ownBlock with
  | none => exact .inl rfl
  | some k =>
    refine .inr fun e => ?_
    have := (h1.lt k hv).2
    have := (h2.lt k e.symm).1
    omega
theorem own_apart' {a b : Option Nat} (h : a = none ∨ a ≠ b) : b = none ∨ b ≠ a := by
  cases b with
  | none => exact .inl rfl
  | some k =>
    refine .inr fun e => ?_
    rcases h with h | h
    · rw [h] at e; cases e
    · exact h e.symm
theorem own_rd {w : World} {base : Nat} {e : TypeId} {size n cap : Nat} {A : Option Addr} {xs : List Value} (h : w.ownsRow base e size (.slice A n cap) n xs) : Rd w w.heap.size A xs := by
  obtain ⟨A', cap', he, _, _, hr⟩ := ownsRow_rd h
  simp only [Value.slice.injEq] at he
  rw [he.1]; exact hr
theorem own_le {w : World} {base : Nat} {e : TypeId} {size n cap : Nat} {A : Option Addr} {xs : List Value} (h : w.ownsRow base e size (.slice A n cap) n xs) : n ≤ cap := by
  obtain ⟨A', cap', he, h1, _, hr⟩ := ownsRow_rd h
  simp only [Value.slice.injEq] at he
  omega
theorem dec_len (es : List (ByteArray × ByteArray)) (s : ByteArray) (h : ¬ 1048576 < s.size) : ((decW es s).getD []).length ≤ 1048576 := by
  cases hd : decW es s with
  | none => simp
  | some l => have := (decW_some hd).2.2; simp; omega
theorem open_len (es : List (ByteArray × ByteArray)) (s sheet : ByteArray) (st : Int) (h : ¬ 1048576 < s.size) : ((openW es s sheet st).getD []).length ≤ 1048576 := by
  cases hd : openW es s sheet st with
  | none => simp
  | some l =>
    have h1 := open_seal hd
    obtain ⟨c, p, h2, _, _, _, _, _, _, h8⟩ := sealW_some h1
    have := (encW_some h2).2.2.2.2.1
    simp; omega

end Go.Proofs.YtlnppdpbhoapfaaDoor
