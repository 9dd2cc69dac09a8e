/-
  Contracts of functions and plain laws that the law's proof uses (parts: DrawCk). Conditions: what each theorem names.
-/
import Derived.Test.YtnbdimbhklbadaaGreatDoorQMnA
import Derived.Test.YtnbdimbhklbadaaGreatDoorQDrawMa
import Derived.Test.YtnbdimbhklbadaaGreatDoorQTextF
namespace Go.Proofs.YtnbdimbhklbadaaGreatDoor
open Go.RowKit Pl
set_option linter.unusedVariables false
def MnZ (ms : List LnkZ) : Prop := ∀ x ∈ ms, x.1.size ≤ 2 ∧ x.2.1.size ≤ 2 ∧ -1 ≤ x.2.2 ∧ x.2.2 ≤ 1000
theorem mnZ_snoc {ms : List LnkZ} {x : LnkZ} (h : MnZ ms) (hx : x.1.size ≤ 2 ∧ x.2.1.size ≤ 2 ∧ -1 ≤ x.2.2 ∧ x.2.2 ≤ 1000) : MnZ (ms ++ [x]) := fun y hy => by
  rcases List.mem_append.1 hy with h1 | h1
  · exact h y h1
  · rw [List.mem_singleton.1 h1]; exact hx
theorem mnZ_nil : MnZ [] := fun x hx => by cases hx
theorem linkZ_snoc (l : List LnkZ) (x : LnkZ) : linkZ l ++ [Value.string x.1, .string x.2.1, .int .i64 x.2.2] = linkZ (l ++ [x]) := by unfold linkZ; rw [List.flatMap_append]; simp
theorem linkZ_append (a b : List LnkZ) : linkZ a ++ linkZ b = linkZ (a ++ b) := by unfold linkZ; rw [List.flatMap_append]
theorem own_apart_lt {w : World} {P R : Nat} {e : TypeId} {s n : Nat} {v : Value} {xs : List Value} (h : w.ownsRow P e s v n xs) (hR : R < P) : v.ownBlock = none ∨ v.ownBlock ≠ some R := by
  cases hv : v.ownBlock with
  | none => exact .inl rfl
  | some k => exact .inr (by have := (h.lt k hv).1; intro e; injection e with e; omega)
def MnDrawn (w : World) (R N : Nat) (e : Ending) (w' : World) : Prop :=
  ∃ (A : Option Addr) (c : Nat) (ms : List LnkZ), e = .returned (.slice A ms.length c) ∧ w'.ownsRow w.heap.size 50 3 (.slice A ms.length c) ms.length (linkZ ms) ∧ 1 ≤ ms.length ∧ ms.length ≤ 12 ∧ MnZ ms ∧ Rdr w' R N ∧ w.grownBy w' (some R)
set_option maxHeartbeats 8000000 in
set_option maxRecDepth 100000 in
theorem l12Menu_any (w : World) (R N : Nat) (h : Rdr w R N) (hN : N ≤ 90000) :
    Calls Tryz.prog 70 #[.pointer (some ⟨R, 0, none⟩)] w (MnDrawn w R (N + 60)) := by
  obtain ⟨iL, hi, hz0, hz1, hz2⟩ := info_parts Tryz.infoL
  have HI := Lib.hid hi; have HZ0 := Lib.hid hz0; have HZ1 := Lib.hid hz1; have HZ2 := Lib.hid hz2
  clear hi hz0 hz1 hz2
  have hlt := h.lt
  obtain ⟨w0, hw0⟩ : ∃ w0, w0 = w.alloc (.cells #[] 50) := ⟨_, rfl⟩
  obtain ⟨P, hP⟩ : ∃ P, P = w.heap.size := ⟨_, rfl⟩
  have how : w0.ownsRow P 50 3 (.slice (some ⟨P, 0, none⟩) 0 0) 0 (linkZ []) := by rw [hw0, hP]; exact World.ownsRow_made w #[] 0 (Nat.le_refl _) (by decide) rfl
  have hr0 : Rdr w0 R N := by rw [hw0]; exact h.alloc _
  have ho0 : w.grownBy w0 (some R) := by rw [hw0]; exact World.grownBy_alloc w _ (some R)
  have HO0 := Lib.hid how; have HR0 := Lib.hid hr0; have HG0 := Lib.hid ho0; have HPE := Lib.hid hP; have HW0 := Lib.hid hw0
  have hRP : R < P := by omega
  clear how hr0 ho0 h
  go_enter Tryz.func70, Tryz.ntmps70
  go_upto_region 2 with fail
  rw [← HW0.out, ← HPE.out]
  clear hw0 hP
  go_wp2_with fail
  refine (num_any _ R _ _ 4 [4, 6, 10, 3] (HR0.out.alloc _) (by omega) (by simp) (by simp) (heap_alloc_new _ _)).mono ?_
  rintro e w1 ⟨s, hs, rfl, hr1, ho1⟩
  have hsb : 3 ≤ s ∧ s ≤ 10 := by simp at hs; omega
  have HG1 := Lib.hid (only_trans HG0.out (only_trans (World.grownBy_alloc _ _ _) ho1))
  have HO1 := Lib.hid (((HO0.out.alloc _).kept ho1 (.inr (by simp [Value.ownBlock]; omega)) : w1.ownsRow P 50 3 (.slice (some ⟨P, 0, none⟩) 0 0) 0 (linkZ [])))
  clear ho1 hs HO0 HG0 HR0
  obtain ⟨hs3, hs10⟩ := hsb
  go_wp2_with fail
  refine (pick_pos _ R _ _ hr1 (by omega) (by omega) (by omega)).mono ?_
  rintro e w2 ⟨ky, rfl, hky, hr2, ho2⟩
  have HG2 := Lib.hid (only_trans HG1.out ho2); have HO2 := Lib.hid (HO1.out.kept ho2 (.inr (by simp [Value.ownBlock]; omega)))
  clear ho2 HG1 HO1 hr1
  go_wp2_with fail
  refine (pick_pos _ R _ _ hr2 (by omega) (by omega) (by omega)).mono ?_
  rintro e w3 ⟨n0, rfl, hn0, hr3, ho3⟩
  have HG3 := Lib.hid (only_trans HG2.out ho3); have HO3 := Lib.hid (HO2.out.kept ho3 (.inr (by simp [Value.ownBlock]; omega)))
  have HR3 := Lib.hid hr3
  clear ho3 HG2 HO2 hr2 hr3
  have hn9 : n0 + 1 ≤ 9 := by omega
  go_wp2_with fail
  go_loopw [3, 5, 6] (fun o ky i wr => ∃ (k kz : Nat) (ms : List LnkZ), i = .int .i64 k ∧ ky = .int .i64 kz ∧ Hid (ms.length + k = n0 + 1) ∧ Hid (kz ≤ 3 + 3 * ms.length) ∧ Hid (wr.ownsRow P 50 3 o ms.length (linkZ ms)) ∧ Hid (MnZ ms) ∧ Hid (Rdr wr R (N + 3 + 3 * ms.length)) ∧ Hid (w.grownBy wr (some R))) (fun _ _ i _ => (intOf i).toNat)
  case atStart => exact ⟨n0 + 1, ky, [], by go_num, rfl, Lib.hid (by simp), Lib.hid (by simp; omega), HO3, Lib.hid mnZ_nil, Lib.hid (HR3.out.mono (by simp)), HG3⟩
  case round =>
    obtain ⟨k, kz, ms, rfl, rfl, HL, HKZ, HO, HM, HR, HG⟩ := hrel
    clear HO3 HG3 HR3
    obtain ⟨A3, c3, e3⟩ := slot_slice HO.out
    subst e3
    by_cases hk : 0 < k
    · have hk9 : k ≤ 9 := by have := HL.out; omega
      have hkz : kz ≤ 30 := by have := HL.out; have := HKZ.out; omega
      have hml : ms.length ≤ 8 := by have := HL.out; omega
      go_wp2_with fail
      refine (pick_pos _ R _ _ HR.out (by omega) (by omega) (by omega)).mono ?_
      rintro e w4 ⟨x, rfl, hx, hr4, ho4⟩
      have HG4 := Lib.hid (only_trans HG.out ho4); have HO4 := Lib.hid (HO.out.kept ho4 (own_apart_lt HO.out hRP))
      clear ho4 HG HO HR
      have v1 : IntKind.i64.wrap (s - 1) = s - 1 := by rw [IntKind.wrap_i64]; omega
      go_wp2_with fail
      refine (pick_pos _ R _ _ hr4 (by omega) (by omega) (by omega)).mono ?_
      rintro e w5 ⟨y, rfl, hy, hr5, ho5⟩
      have HG5 := Lib.hid (only_trans HG4.out ho5); have HO5 := Lib.hid (HO4.out.kept ho5 (own_apart_lt HO4.out hRP))
      clear ho5 HG4 HO4 hr4 v1
      go_wp2_with fail
      refine (pick_pos _ R _ _ hr5 (by omega) (by omega) (by omega)).mono ?_
      rintro e w6 ⟨z, rfl, hz, hr6, ho6⟩
      have HG6 := Lib.hid (only_trans HG5.out ho6); have HO6 := Lib.hid (HO5.out.kept ho6 (own_apart_lt HO5.out hRP))
      clear ho6 HG5 HO5 hr5
      have hy1 : 0 ≤ ((x : Int) + 1 + (y : Int)) % s := Int.emod_nonneg _ (by omega)
      have hy2 : ((x : Int) + 1 + (y : Int)) % s < s := Int.emod_lt_of_pos _ (by omega)
      generalize ((x : Int) + 1 + (y : Int)) % s = yy at hy1 hy2 ⊢
      go_wp2_with fail
      refine (l1Letter_any _ _ (by omega)).mono ?_
      rintro _ w7 ⟨rfl, hb7⟩
      have hr7 := hr6.below hb7
      have HG7 := Lib.hid (only_trans HG6.out (only_of_below hb7 _)); have HO7 := Lib.hid (ownsRow_below HO6.out hb7)
      clear HG6 HO6 hr6 hb7
      go_wp2_with fail
      refine (l1Letter_any _ _ (by omega)).mono ?_
      rintro _ w8 ⟨rfl, hb8⟩
      have hr8 := hr7.below hb8
      have HG8 := Lib.hid (only_trans HG7.out (only_of_below hb8 _)); have HO8 := Lib.hid (ownsRow_below HO7.out hb8)
      have hz1 : (mk [letter ((x : Int) % 10).toNat]).size ≤ 2 := by rw [size_mk]; simp
      have hz2 : (mk [letter (yy % 10).toNat]).size ≤ 2 := by rw [size_mk]; simp
      generalize mk [letter ((x : Int) % 10).toNat] = S1 at hz1 ⊢
      generalize mk [letter (yy % 10).toNat] = S2 at hz2 ⊢
      clear HG7 HO7 hr7 hb8
      have hPw : P ≤ w8.heap.size := by rw [HPE.out]; exact HG8.out.size
      go_wp2_with (at_builtin; refine wpList_append_own _ rfl _ _ 28 rfl P 50 iL _ 3 40 Tryz.undL HI.out HZ0.out HZ1.out HZ2.out rfl (by decide) _ ms.length _ rfl (HO8.out.alloc _) ⟨w8.heap.size, 0, none⟩ 1 1 [.string S1, .string S2, .int .i64 ((kz : Int) + 1 + (z : Int))] rfl rfl (three_new w8 _ _ _ _) (three_one _ _ _) (by unfold maxLen; omega) (by omega) (by simp; omega) ?_)
      intro v' w9 ho' hg' _
      have hls := linkZ_snoc ms (S1, S2, (kz : Int) + 1 + (z : Int))
      rw [hls, show ms.length + 1 = (ms ++ [(S1, S2, (kz : Int) + 1 + (z : Int))]).length by simp] at ho'
      have hr9 : Rdr w9 R _ := (hr8.alloc _).own hg' (fun k' e => by have := (HO8.out.lt k' e).1; omega)
      have hg9 : w.grownBy w9 (some R) := only_own (only_trans HG8.out (World.grownBy_alloc _ _ _)) hg' (fun k' e => by have := (HO8.out.lt k' e).1; have := HPE.out; omega)
      have HO9 := Lib.hid ho'; have HR9 := Lib.hid hr9; have HG9 := Lib.hid hg9
      clear ho' hg' hls hr9 hg9 hr8
      go_wp2_with fail
      go_roundw
      case rel => exact ⟨k - 1, kz + 1 + z, ms ++ [(S1, S2, (kz : Int) + 1 + (z : Int))], by go_num, by go_num, Lib.hid (by have := HL.out; simp; omega), Lib.hid (by have := HKZ.out; simp; omega), HO9, Lib.hid (mnZ_snoc HM.out ⟨hz1, hz2, by simp only; omega, by simp only; omega⟩), Lib.hid (HR9.out.mono (by simp; omega)), HG9⟩
      case measure => simp [intOf]; omega
    · obtain rfl : k = 0 := by omega
      go_wp2_with fail
      go_ret
      have hl := HL.out
      exact ⟨A3, c3, ms, rfl, by rw [← HPE.out]; exact HO.out, by omega, by omega, HM.out, HR.out.mono (by omega), HG.out⟩
theorem linkZ_set0 : ∀ (l : List LnkZ) (k : Nat) (h : k < l.length) (s : ByteArray), (linkZ l).set (k * 3) (.string s) = linkZ (l.set k (s, l[k].2))
  | [], k, h, s => by simp at h
  | y :: r, 0, h, s => rfl
  | y :: r, k + 1, h, s => by
    have hr : k < r.length := by simpa using h
    have ih := linkZ_set0 r k hr s
    have e : linkZ (y :: r) = .string y.1 :: .string y.2.1 :: .int .i64 y.2.2 :: linkZ r := rfl
    have e2 : linkZ ((y :: r).set (k + 1) (s, (y :: r)[k + 1].2)) = .string y.1 :: .string y.2.1 :: .int .i64 y.2.2 :: linkZ (r.set k (s, r[k].2)) := rfl
    rw [e, e2, show (k + 1) * 3 = k * 3 + 1 + 1 + 1 by omega, List.set_cons_succ, List.set_cons_succ, List.set_cons_succ, ih]
theorem linkZ_set1 : ∀ (l : List LnkZ) (k : Nat) (h : k < l.length) (s : ByteArray), (linkZ l).set (k * 3 + 1) (.string s) = linkZ (l.set k (l[k].1, s, l[k].2.2))
  | [], k, h, s => by simp at h
  | y :: r, 0, h, s => rfl
  | y :: r, k + 1, h, s => by
    have hr : k < r.length := by simpa using h
    have ih := linkZ_set1 r k hr s
    have e : linkZ (y :: r) = .string y.1 :: .string y.2.1 :: .int .i64 y.2.2 :: linkZ r := rfl
    have e2 : linkZ ((y :: r).set (k + 1) ((y :: r)[k + 1].1, s, (y :: r)[k + 1].2.2)) = .string y.1 :: .string y.2.1 :: .int .i64 y.2.2 :: linkZ (r.set k (r[k].1, s, r[k].2.2)) := rfl
    rw [e, e2, show (k + 1) * 3 + 1 = k * 3 + 1 + 1 + 1 + 1 by omega, List.set_cons_succ, List.set_cons_succ, List.set_cons_succ, ih]
theorem linkZ_set2 : ∀ (l : List LnkZ) (k : Nat) (h : k < l.length) (z : Int), (linkZ l).set (k * 3 + 2) (.int .i64 z) = linkZ (l.set k (l[k].1, l[k].2.1, z))
  | [], k, h, s => by simp at h
  | y :: r, 0, h, s => rfl
  | y :: r, k + 1, h, s => by
    have hr : k < r.length := by simpa using h
    have ih := linkZ_set2 r k hr s
    have e : linkZ (y :: r) = .string y.1 :: .string y.2.1 :: .int .i64 y.2.2 :: linkZ r := rfl
    have e2 : linkZ ((y :: r).set (k + 1) ((y :: r)[k + 1].1, (y :: r)[k + 1].2.1, s)) = .string y.1 :: .string y.2.1 :: .int .i64 y.2.2 :: linkZ (r.set k (r[k].1, r[k].2.1, s)) := rfl
    rw [e, e2, show (k + 1) * 3 + 2 = k * 3 + 2 + 1 + 1 + 1 by omega, List.set_cons_succ, List.set_cons_succ, List.set_cons_succ, ih]
theorem mnZ_set {ms : List LnkZ} {k : Nat} {x : LnkZ} (h : MnZ ms) (hx : x.1.size ≤ 2 ∧ x.2.1.size ≤ 2 ∧ -1 ≤ x.2.2 ∧ x.2.2 ≤ 1000) : MnZ (ms.set k x) := fun y hy => by
  rcases List.mem_or_eq_of_mem_set hy with h1 | rfl
  · exact h y h1
  · exact hx
theorem mnZ_append {a b : List LnkZ} (ha : MnZ a) (hb : MnZ b) : MnZ (a ++ b) := fun y hy => by
  rcases List.mem_append.1 hy with h1 | h1
  · exact ha y h1
  · exact hb y h1
theorem linkZ_one : ∀ (l : List LnkZ), ∀ u ∈ linkZ l, u.oneCell' = true
  | [], u, h => by simp [linkZ] at h
  | x :: r, u, h => by
    have e : linkZ (x :: r) = [.string x.1, .string x.2.1, .int .i64 x.2.2] ++ linkZ r := rfl
    rw [e] at h
    rcases List.mem_append.1 h with h | h
    · simp at h; rcases h with rfl | rfl | rfl <;> rfl
    · exact linkZ_one r u h
theorem own_newsZ {w : World} {base g n cap : Nat} {l : List LnkZ} (h : w.ownsRow base 50 3 (.slice (some ⟨g, 0, none⟩) n cap) n (linkZ l)) : ∀ j u, (linkZ l)[j]? = some u → w.cell? ((⟨g, 0, none⟩ : Addr).add j) = some u := fun j u hu => by
  rw [add_none, Nat.zero_add]
  have hl : j < n * 3 := by
    have h1 := h.1
    have := (List.getElem?_eq_some_iff.1 hu).1
    omega
  rw [h.cellAt j hl]; exact hu
theorem linkZ_get {l : List LnkZ} {k : Nat} (hk : k < l.length) : (linkZ l)[k * 3]? = some (.string l[k].1) ∧ (linkZ l)[k * 3 + 1]? = some (.string l[k].2.1) ∧ (linkZ l)[k * 3 + 2]? = some (.int .i64 l[k].2.2) := by
  have hlen := length_linkZ l
  refine ⟨?_, ?_, ?_⟩
  · have hs := linkZ_set0 l k hk l[k].1
    rw [show (l[k].1, l[k].2) = l[k] from rfl, List.set_getElem_self] at hs
    rw [← hs, List.getElem?_set_self (by omega)]
  · have hs := linkZ_set1 l k hk l[k].2.1
    rw [show (l[k].1, l[k].2.1, l[k].2.2) = l[k] from rfl, List.set_getElem_self] at hs
    rw [← hs, List.getElem?_set_self (by omega)]
  · have hs := linkZ_set2 l k hk l[k].2.2
    rw [show (l[k].1, l[k].2.1, l[k].2.2) = l[k] from rfl, List.set_getElem_self] at hs
    rw [← hs, List.getElem?_set_self (by omega)]
theorem own_cutZ {w : World} {base g n cap : Nat} {l : List LnkZ} (h : w.ownsRow base 50 3 (.slice (some ⟨g, 0, none⟩) n cap) n (linkZ l)) : w.ownsRow base 50 3 (.slice (some ⟨g, 0, none⟩) 0 cap) 0 (linkZ []) := by
  obtain ⟨h1, h2⟩ := h
  rcases h2 with ⟨h2, _⟩ | ⟨g', cap', cur, hv, hb, hg, hn, hc, hs, ht⟩
  · cases h2
  · injection hv with e1 e2 e3
    injection e1 with e1
    injection e1 with e1
    subst e1; subst e3
    exact ⟨rfl, .inr ⟨_, _, cur, rfl, hb, hg, Nat.zero_le _, hc, hs, by simp [linkZ]⟩⟩
theorem kept_fresh {w w2 w5 : World} {R : Nat} {v : Value} {o : Obj} {c : Nat} (h : Kept w w2 R v) (hg : (w2.alloc o).grownBy w5 (Value.slice (some ⟨w2.heap.size, 0, none⟩) 0 c).ownBlock) : Kept w w5 R v :=
  ⟨hg.os.trans h.os, hg.tape.trans h.tape, hg.output.trans h.output, by have h1 := hg.size; have h2 := h.size; simp at h1; omega, fun k hk hn hv => by
    have h2 := h.size
    rw [hg.block k (by simp; omega) (by simp [Value.ownBlock]; omega), heap_alloc_old (h := (by omega : k < w2.heap.size))]
    exact h.block k hk hn hv⟩
theorem kept_grown {w w5 w6 : World} {R : Nat} {v v5 : Value} (h : Kept w w5 R v) (hg : w5.grownBy w6 v5.ownBlock) (hv5 : ∀ k, v5.ownBlock = some k → w.heap.size ≤ k) : Kept w w6 R v :=
  ⟨hg.os.trans h.os, hg.tape.trans h.tape, hg.output.trans h.output, Nat.le_trans h.size hg.size, fun k hk hn hv => by
    have h2 := h.size
    rw [hg.block k (by omega) (fun e => by have := hv5 k e.symm; omega)]
    exact h.block k hk hn hv⟩
def MnBad (w : World) (R N base : Nat) (v : Value) (e : Ending) (w' : World) : Prop :=
  ∃ (A : Option Addr) (c : Nat) (ms : List LnkZ), e = .returned (.slice A ms.length c) ∧ w'.ownsRow base 50 3 (.slice A ms.length c) ms.length (linkZ ms) ∧ ms.length ≤ 24 ∧ MnZ ms ∧ Rdr w' R N ∧ Kept w w' R v
set_option maxHeartbeats 8000000 in
set_option maxRecDepth 100000 in
theorem l12Bad_any (w : World) (R N base b cap : Nat) (ms : List LnkZ) (h : Rdr w R N) (hN : N ≤ 90000) (hRb : R < base) (hbw : base ≤ w.heap.size) (ho : w.ownsRow base 50 3 (.slice (some ⟨b, 0, none⟩) ms.length cap) ms.length (linkZ ms)) (h1 : 1 ≤ ms.length) (h12 : ms.length ≤ 12) (hz : MnZ ms) :
    Calls Tryz.prog 44 #[.pointer (some ⟨R, 0, none⟩), .slice (some ⟨b, 0, none⟩) ms.length cap] w (MnBad w R (N + 3) base (.slice (some ⟨b, 0, none⟩) ms.length cap)) := by
  obtain ⟨iL, hi, hz0, hz1, hz2⟩ := info_parts Tryz.infoL
  have HI := Lib.hid hi; have HZ0 := Lib.hid hz0; have HZ1 := Lib.hid hz1; have HZ2 := Lib.hid hz2
  clear hi hz0 hz1 hz2
  have hgb : base ≤ b ∧ b < w.heap.size := ho.lt b rfl
  obtain ⟨M, hM⟩ : ∃ M, M = ms.length := ⟨_, rfl⟩
  rw [← hM] at ho ⊢
  have hRne : (Value.slice (some ⟨b, 0, none⟩) M cap).ownBlock = none ∨ (Value.slice (some ⟨b, 0, none⟩) M cap).ownBlock ≠ some R := own_apart_lt ho hRb
  have HNR := Lib.hid hRne; have HO := Lib.hid ho; have HZ := Lib.hid hz; have HM := Lib.hid hM
  have hRb2 : R < b := by omega
  have hM12 : M ≤ 12 := by omega
  have hM1 : 1 ≤ M := by omega
  clear ho hz hRne hM h1 h12
  go_enter Tryz.func44, Tryz.ntmps44
  go_wp2_with fail
  refine (pick_pos _ R N _ h (by omega) (by omega) (by omega)).mono ?_
  rintro e w1 ⟨k, rfl, hk, hr1, ho1⟩
  have HK1 := Lib.hid (Kept.of_only ho1 (.slice (some ⟨b, 0, none⟩) M cap)); have HO1 := Lib.hid (HO.out.kept ho1 HNR.out)
  clear ho1 HO h
  go_wp2_with fail
  refine (pick_pos _ R _ _ hr1 (by omega) (by omega) (by omega)).mono ?_
  rintro e w2 ⟨x, rfl, hx, hr2, ho2⟩
  have HK2 := Lib.hid (HK1.out.only ho2); have HO2 := Lib.hid (HO1.out.kept ho2 HNR.out)
  clear ho2 HO1 HK1 hr1
  have hkM : k < M := by omega
  have hkm : k < ms.length := by rw [← HM.out]; exact hkM
  obtain ⟨y1, y2, y3, y4⟩ := HZ.out _ (List.getElem_mem hkm)
  have f0 := HO2.out.frozenAt (k * 3)
  have f1 := HO2.out.frozenAt (k * 3 + 1)
  have f2 := HO2.out.frozenAt (k * 3 + 2)
  have c0 : w2.cell? ⟨b, k * 3, none⟩ = some (.string ms[k].1) := by rw [HO2.out.cellAt _ (by omega), (linkZ_get hkm).1]
  have c1 : w2.cell? ⟨b, k * 3 + 1, none⟩ = some (.string ms[k].2.1) := by rw [HO2.out.cellAt _ (by omega), (linkZ_get hkm).2.1]
  have c2 : w2.cell? ⟨b, k * 3 + 2, none⟩ = some (.int .i64 ms[k].2.2) := by rw [HO2.out.cellAt _ (by omega), (linkZ_get hkm).2.2]
  have HS0 := Lib.hid (fun s => linkZ_set0 ms k hkm s); have HS1 := Lib.hid (fun s => linkZ_set1 ms k hkm s); have HS2 := Lib.hid (fun s => linkZ_set2 ms k hkm s)
  have FIN := Lib.hid (fun (y : LnkZ) (hy : y.1.size ≤ 2 ∧ y.2.1.size ≤ 2 ∧ -1 ≤ y.2.2 ∧ y.2.2 ≤ 1000) (w' : World) (N' : Nat) (hN' : N' ≤ N + 3) (ho : w'.ownsRow base 50 3 (.slice (some ⟨b, 0, none⟩) M cap) M (linkZ (ms.set k y))) (hr : Rdr w' R N') (hkp : Kept w w' R (.slice (some ⟨b, 0, none⟩) M cap)) =>
    (show MnBad w R (N + 3) base (.slice (some ⟨b, 0, none⟩) M cap) (.returned (.slice (some ⟨b, 0, none⟩) M cap)) w' from ⟨some ⟨b, 0, none⟩, cap, ms.set k y, by rw [List.length_set, ← HM.out], by rw [List.length_set, ← HM.out]; exact ho, by rw [List.length_set, ← HM.out]; omega, mnZ_set HZ.out hy, hr.mono hN', hkp⟩))
  generalize ms[k] = q at *
  by_cases h0 : x = 0
  · subst h0
    have hst := HO2.out.stored (k * 3) (.string q.2.1)
    rw [HS0.out] at hst
    have HST := Lib.hid hst.1; have HSG := Lib.hid hst.2
    clear hst f1 f2 c2
    go_wp2_with fail
    go_ret
    exact FIN.out (q.2.1, q.2) ⟨y2, y2, y3, y4⟩ _ _ (by omega) HST.out (hr2.far hRb2 _ _) (HK2.out.own HSG.out)
  · have b0 : ((x : Int) == 0) = false := by rw [beq_eq_false_iff_ne]; omega
    by_cases h1x : x = 1
    · subst h1x
      clear b0 h0
      go_wp2_with fail
      refine (num_any _ R _ w2.heap.size 4 [0, 61, -1, 1] (hr2.alloc _) (by omega) (by simp) (by simp) (heap_alloc_new _ _)).mono ?_
      rintro e w4 ⟨s, hs, rfl, hr4, ho4⟩
      have hsb : -1 ≤ s ∧ s ≤ 1000 := by simp at hs; omega
      have ho4' := only_trans (World.grownBy_alloc w2 _ (some R)) ho4
      have how4 := HO2.out.kept ho4' HNR.out
      have d2 : w4.cell? ⟨b, k * 3 + 2, none⟩ = some (.int .i64 q.2.2) := by rw [how4.cellAt _ (by omega), ← HO2.out.cellAt _ (by omega)]; exact c2
      have g2 := how4.frozenAt (k * 3 + 2)
      have hst := how4.stored (k * 3 + 2) (.int .i64 s)
      rw [HS2.out] at hst
      have HST := Lib.hid hst.1; have HSG := Lib.hid hst.2; have HK4 := Lib.hid (HK2.out.only ho4')
      clear hst f0 f1 f2 c0 c1 c2 ho4 ho4' how4 hs
      go_wp2_with fail
      go_ret
      exact FIN.out (q.1, q.2.1, s) ⟨y1, y2, hsb.1, hsb.2⟩ _ _ (by omega) HST.out (hr4.far hRb2 _ _) (HK4.out.own HSG.out)
    · have b1 : ((x : Int) == 1) = false := by rw [beq_eq_false_iff_ne]; omega
      by_cases h2x : x = 2
      · subst h2x
        clear b0 h0 b1 h1x
        go_wp2_with fail
        refine (of_any _ R _ w2.heap.size 3 [⟨#[]⟩, ⟨#[107]⟩, ⟨#[97, 98]⟩] (hr2.alloc _) (by omega) (by simp) (by simp) (heap_alloc_new _ _)).mono ?_
        rintro e w4 ⟨s, hs, rfl, hr4, ho4⟩
        have hsb : s.size ≤ 2 := by simp at hs; rcases hs with rfl | rfl | rfl <;> decide
        have ho4' := only_trans (World.grownBy_alloc w2 _ (some R)) ho4
        have how4 := HO2.out.kept ho4' HNR.out
        have d1 : w4.cell? ⟨b, k * 3 + 1, none⟩ = some (.string q.2.1) := by rw [how4.cellAt _ (by omega), ← HO2.out.cellAt _ (by omega)]; exact c1
        have g1 := how4.frozenAt (k * 3 + 1)
        have hst := how4.stored (k * 3 + 1) (.string s)
        rw [HS1.out] at hst
        have HST := Lib.hid hst.1; have HSG := Lib.hid hst.2; have HK4 := Lib.hid (HK2.out.only ho4')
        clear hst f0 f1 f2 c0 c1 c2 ho4 ho4' how4 hs
        go_wp2_with fail
        go_ret
        exact FIN.out (q.1, s, q.2.2) ⟨y1, hsb, y3, y4⟩ _ _ (by omega) HST.out (hr4.far hRb2 _ _) (HK4.out.own HSG.out)
      · have b2 : ((x : Int) == 2) = false := by rw [beq_eq_false_iff_ne]; omega
        by_cases h3x : x = 3
        · subst h3x
          clear b0 h0 b1 h1x b2 h2x f0 f1 f2 c0 c1 c2 FIN HS0 HS1 HS2
          obtain ⟨P, hP⟩ : ∃ P, P = w2.heap.size := ⟨_, rfl⟩
          have how : (w2.alloc (.cells #[] 50)).ownsRow w2.heap.size 50 3 (.slice (some ⟨w2.heap.size, 0, none⟩) 0 0) 0 (linkZ []) := World.ownsRow_made w2 #[] 0 (Nat.le_refl _) (by decide) rfl
          have HW := Lib.hid how
          have HN2 := Lib.hid (own_newsZ (HO2.out.alloc (.cells #[] 50)))
          have hlen : (linkZ ms).length = M * 3 := by rw [length_linkZ, HM.out]
          have HLE := Lib.hid hlen; have HON := Lib.hid (linkZ_one ms)
          have hbz : base ≤ w2.heap.size := Nat.le_trans hbw HK2.out.size
          have HPE := Lib.hid hP
          clear how hlen hP
          go_wp2_with (at_builtin; refine wpList_append_own _ rfl _ _ 28 rfl w2.heap.size 50 iL _ 3 40 Tryz.undL HI.out HZ0.out HZ1.out HZ2.out rfl (by decide) _ 0 _ rfl HW.out ⟨b, 0, none⟩ M cap (linkZ ms) rfl HLE.out HN2.out HON.out (by unfold maxLen; omega) (by omega) (by simp) ?_)
          intro v1 w5 ho5 hg5 _
          have hP5 : P ≤ w5.heap.size := by have := hg5.size; simp at this; rw [HPE.out]; omega
          have hbP : b < P := by rw [HPE.out]; exact (HO2.out.lt b rfl).2
          have how5 : w5.ownsRow base 50 3 (.slice (some ⟨b, 0, none⟩) M cap) M (linkZ ms) := (HO2.out.alloc _).kept hg5 (.inr (by simp [Value.ownBlock]; rw [← HPE.out]; omega))
          have hk5 : Kept w w5 R (.slice (some ⟨b, 0, none⟩) M cap) := kept_fresh HK2.out hg5
          have hr5 : Rdr w5 R _ := (hr2.alloc _).own hg5 (fun k e => by simp [Value.ownBlock] at e; rw [← HPE.out] at e; omega)
          rw [linkZ_append, List.nil_append, ← HPE.out] at ho5
          have HW5 := Lib.hid ho5; have HN5 := Lib.hid (own_newsZ how5); have HO5 := Lib.hid how5; have HK5 := Lib.hid hk5
          obtain ⟨A5, c5, e5⟩ := slot_slice ho5
          subst e5
          have hbl5 := HK5.out.size
          clear ho5 hg5 how5 hk5 HN2 HW
          go_wp2_with (at_builtin; refine wpList_append_own _ rfl _ _ 28 rfl P 50 iL _ 3 40 Tryz.undL HI.out HZ0.out HZ1.out HZ2.out rfl (by decide) _ M _ rfl HW5.out ⟨b, 0, none⟩ M cap (linkZ ms) rfl HLE.out HN5.out HON.out (by unfold maxLen; omega) (by omega) (by omega) ?_)
          intro v2 w6 ho6 hg6 _
          have hr6 : Rdr w6 R _ := hr5.own hg6 (fun k e => by have := (HW5.out.lt k e).1; omega)
          have hk6 : Kept w w6 R (.slice (some ⟨b, 0, none⟩) M cap) := kept_grown HK5.out hg6 (fun k e => by have := (HW5.out.lt k e).1; have := HK2.out.size; have := HPE.out; omega)
          rw [linkZ_append] at ho6
          obtain ⟨A6, c6, e6⟩ := slot_slice ho6
          subst e6
          have hlen2 : M + M = (ms ++ ms).length := by rw [List.length_append, HM.out]
          have HO6 := Lib.hid ho6; have HK6 := Lib.hid hk6; have HR6 := Lib.hid hr6; have HL6 := Lib.hid hlen2
          clear ho6 hg6 hk6 hr6 hr5 hlen2
          go_wp2_with fail
          go_ret
          refine ⟨A6, c6, ms ++ ms, by rw [← HL6.out]; rfl, ?_, by rw [← HL6.out]; omega, mnZ_append HZ.out HZ.out, HR6.out.mono (by omega), HK6.out⟩
          rw [← HL6.out]; exact own_mono3 HO6.out (by rw [HPE.out]; exact hbz)
        · have b3 : ((x : Int) == 3) = false := by rw [beq_eq_false_iff_ne]; omega
          by_cases h4x : x = 4
          · subst h4x
            clear b0 h0 b1 h1x b2 h2x b3 h3x f0 f1 f2 c0 c1 c2 FIN HS0 HS1 HS2
            go_wp2_with fail
            go_ret
            exact ⟨some ⟨b, 0, none⟩, cap, [], rfl, own_cutZ HO2.out, by simp, mnZ_nil, hr2.mono (by omega), HK2.out⟩
          · have b4 : ((x : Int) == 4) = false := by rw [beq_eq_false_iff_ne]; omega
            clear h0 h1x h2x h3x h4x f0 f1 f2 c0 c1 c2 FIN HS0 HS1 HS2
            go_wp2_with fail
            go_ret
            exact ⟨some ⟨b, 0, none⟩, cap, ms, by rw [← HM.out]; rfl, by rw [← HM.out]; exact HO2.out, by rw [← HM.out]; omega, HZ.out, hr2.mono (by omega), HK2.out⟩
def L13D (w : World) (R N : Nat) (e : Ending) (w' : World) : Prop :=
  ∃ (v : Value) (rs : List (ByteArray × ByteArray)) (q rg pl ws : List Nat) (A : Option Addr) (c : Nat) (ms : List LnkZ), e = .returned (.tuple #[.agg (macC v q rg pl), .string (pT ws), .slice A ms.length c]) ∧ RBk w' w.heap.size v rs ∧ Prm q ∧ Prm pl ∧ 1 ≤ rs.length ∧ rs.length ≤ 3 ∧ rg.length = rs.length ∧ Lo rg ∧ ws.length = rs.length ∧ Lo ws ∧ w'.ownsRow w.heap.size 50 3 (.slice A ms.length c) ms.length (linkZ ms) ∧ 1 ≤ ms.length ∧ ms.length ≤ 12 ∧ MnZ ms ∧ Rdr w' R N ∧ w.grownBy w' (some R)
theorem results_st_tmpC {fn : Func} {p u v : Tmp} {ty : TypeId} (h : fn.results = #[.cell p ty, .tmp u, .tmp v]) (tmps : Array Value) (w : World) (g : Nat) (t : TypeId) (cs : Array Value) (fr : Nat × Nat) (d : TypeDesc)
    (hp : tmps.getD p undef = .pointer (some ⟨g, 0, none⟩)) (hg : w.heap[g]? = some (.cells cs t fr))
    (hu : Tryz.prog.underlying ty = some d) (hd : (∃ fs, d = .struct fs)) (hi : (Tryz.prog.info? ty).map (·.size) = some cs.size) :
    (results fn tmps).run Tryz.prog w = .ok (.tuple #[.agg cs, tmps.getD u undef, tmps.getD v undef]) w := by
  obtain ⟨fs, rfl⟩ := hd
  have hp' : tmps[p]?.getD undef = .pointer (some ⟨g, 0, none⟩) := by simpa using hp
  simp [results, h, hp', asAddr, run_loadVar_row w g t ty cs fr _ hg hu rfl hi]
theorem own_kindsK {w : World} {b1 b2 s1 s2 n1 n2 : Nat} {e1 e2 : TypeId} {v1 v2 : Value} {x1 x2 : List Value} (h1 : w.ownsRow b1 e1 s1 v1 n1 x1) (h2 : w.ownsRow b2 e2 s2 v2 n2 x2) (he : e1 ≠ e2) : v1.ownBlock = none ∨ v1.ownBlock ≠ v2.ownBlock := by
  obtain ⟨_, ⟨rfl, _⟩ | ⟨g, cap, cur, rfl, hb, hg, _⟩⟩ := h1
  · exact .inl rfl
  · refine .inr fun e => ?_
    obtain ⟨_, ⟨rfl, _⟩ | ⟨g2, cap2, cur2, rfl, hb2, hg2, _⟩⟩ := h2
    · simp [Value.ownBlock] at e
    · have e3 : g = g2 := by simpa [Value.ownBlock] using e
      subst e3
      rw [hg] at hg2; injection hg2 with hg2; injection hg2 with _ hg2; exact he hg2
theorem bel_onK {a W W' : World} (h : Below a.heap.size a W) (hb : Below W.heap.size W W') : Below a.heap.size a W' := h.trans (hb.mono h.size)
theorem l13_fin {w w9 : World} {R N P M cap c : Nat} {A Am : Option Addr} {rs : List (ByteArray × ByteArray)} {q rg pl ws : List Nat} {ms : List LnkZ} {a0 a1 a2 a3 : Value} {T1 T2 T3 : ByteArray} (hPw : P = w.heap.size) (hRP : R < P) (hM : M = rs.length) (hs : SB w9 P #[a0, a1, a2, a3] 27) (hv : RBk w9 (P + 1) (.slice A M cap) rs)
    (hq : Prm q) (hpl : Prm pl) (h1 : 1 ≤ M) (h3 : M ≤ 3) (hrl : rg.length = rs.length) (hro : Lo rg) (hwl : ws.length = rs.length) (hlo : Lo ws) (hom : w9.ownsRow (P + 1) 50 3 (.slice Am ms.length c) ms.length (linkZ ms)) (hm1 : 1 ≤ ms.length) (hm12 : ms.length ≤ 12) (hmz : MnZ ms) (hr : Rdr w9 R N) (hg : w.grownBy w9 (some R)) (e1 : T1 = pT q) (e2 : T2 = pT rg) (e3 : T3 = pT pl) :
    SB ((((w9.setCell ⟨P, 0, none⟩ (.slice A M cap)).setCell ⟨P, 1, none⟩ (.string T1)).setCell ⟨P, 2, none⟩ (.string T2)).setCell ⟨P, 3, none⟩ (.string T3)) P #[.slice A M cap, .string T1, .string T2, .string T3] 27 ∧
    L13D w R N (.returned (.tuple #[.agg #[.slice A M cap, .string T1, .string T2, .string T3], .string (pT ws), .slice Am ms.length c])) ((((w9.setCell ⟨P, 0, none⟩ (.slice A M cap)).setCell ⟨P, 1, none⟩ (.string T1)).setCell ⟨P, 2, none⟩ (.string T2)).setCell ⟨P, 3, none⟩ (.string T3)) := by
  subst e1; subst e2; subst e3; subst hM
  refine ⟨hs.four _ _ _ _, .slice A rs.length cap, rs, q, rg, pl, ws, Am, c, ms, rfl, ?_, hq, hpl, h1, h3, hrl, hro, hwl, hlo, ?_, hm1, hm12, hmz, ?_, ?_⟩
  · have hn := ownBlock_ne hv.own (show P < P + 1 by omega)
    exact ((((hv.far hn 0 _).far hn 1 _).far hn 2 _).far hn 3 _).mono (by omega)
  · have hn := ownBlock_ne hom (show P < P + 1 by omega)
    exact own_mono3 (own_set (own_set (own_set (own_set hom hn 0 _) hn 1 _) hn 2 _) hn 3 _) (by omega)
  · exact (((hr.far hRP 0 _).far hRP 1 _).far hRP 2 _).far hRP 3 _
  · exact only_far (only_far (only_far (only_far hg (by omega) 0 _) (by omega) 1 _) (by omega) 2 _) (by omega) 3 _
set_option maxHeartbeats 8000000 in
set_option maxRecDepth 100000 in
theorem l13Some_any (w : World) (R N : Nat) (h : Rdr w R N) (hN : N ≤ 30000) :
    Calls Tryz.prog 41 #[.pointer (some ⟨R, 0, none⟩)] w (L13D w R (N + 500)) := by
  obtain ⟨iL, hi, hz0, hz1, hz2⟩ := info_parts Tryz.infoL
  have HI := Lib.hid hi; have HZ0 := Lib.hid hz0; have HZ1 := Lib.hid hz1; have HZ2 := Lib.hid hz2
  clear hi hz0 hz1 hz2
  have hlt := h.lt
  obtain ⟨w0, hw0⟩ : ∃ w0, w0 = w.alloc (.cells #[.slice none 0 0, .string ⟨#[]⟩, .string ⟨#[]⟩, .string ⟨#[]⟩] 27) := ⟨_, rfl⟩
  obtain ⟨P, hP⟩ : ∃ P, P = w.heap.size := ⟨_, rfl⟩
  have hs0 : SB w0 P #[.slice none 0 0, .string ⟨#[]⟩, .string ⟨#[]⟩, .string ⟨#[]⟩] 27 := by rw [hw0, hP]; exact SB.made w _ _
  have hr0 : Rdr w0 R N := by rw [hw0]; exact h.alloc _
  have ho0 : w.grownBy w0 (some R) := by rw [hw0]; exact World.grownBy_alloc w _ (some R)
  have HS0 := Lib.hid hs0; have HR0 := Lib.hid hr0; have HG0 := Lib.hid ho0; have HPE := Lib.hid hP; have HW0 := Lib.hid hw0
  have hRP : R < P := by omega
  have hPR : P ≠ R := by omega
  have hz0 : P < w0.heap.size := hs0.lt
  clear hs0 hr0 ho0 h
  go_enter Tryz.func41, Tryz.ntmps41
  go_upto_region 1 with fail
  rw [← HW0.out, ← HPE.out]
  clear hw0 hP
  go_wp2_with fail
  refine (l8Any_any _ R N HR0.out (by omega)).mono ?_
  rintro e w1 ⟨v, rs, q, rg, pl, ws, rfl, hrb, hq, hpl, h1, h3, hrl, hrlo, hwl, hlo, hr1, ho1⟩
  obtain ⟨A, cap, e3⟩ := slot_slice hrb.own
  subst e3
  obtain ⟨w2, hw2⟩ : ∃ w2, w2 = w1.alloc (.cells #[.slice A rs.length cap, .string (pT q), .string (pT rg), .string (pT pl)] 27) := ⟨_, rfl⟩
  obtain ⟨B, hB⟩ : ∃ B, B = w1.heap.size := ⟨_, rfl⟩
  have hs2 : SB w2 B #[.slice A rs.length cap, .string (pT q), .string (pT rg), .string (pT pl)] 27 := by rw [hw2, hB]; exact SB.made w1 _ _
  have hr2 : Rdr w2 R (N + 300) := by rw [hw2]; exact hr1.alloc _
  have ho2 : w.grownBy w2 (some R) := by rw [hw2]; exact only_trans (only_trans HG0.out ho1) (World.grownBy_alloc w1 _ (some R))
  have hrb2 : RBk w2 (P + 1) (.slice A rs.length cap) rs := by rw [hw2]; exact (hrb.mono hz0).alloc _
  have hP2 : SB w2 P #[.slice none 0 0, .string ⟨#[]⟩, .string ⟨#[]⟩, .string ⟨#[]⟩] 27 := by rw [hw2]; exact (HS0.out.grow ho1 hPR).below ((Below.refl _ _).alloc (Nat.le_refl _) _)
  have hBP : P < B := by rw [hB]; exact (HS0.out.grow ho1 hPR).lt
  have hBR : B ≠ R := by omega
  have HS2 := Lib.hid hs2; have HR2 := Lib.hid hr2; have HG2 := Lib.hid ho2; have HV2 := Lib.hid hrb2; have HP2 := Lib.hid hP2; have HW2 := Lib.hid (And.intro hw2 hB)
  have HQ := Lib.hid hq; have HPL := Lib.hid hpl; have HRL := Lib.hid hrl; have HRO := Lib.hid hrlo; have HWL := Lib.hid hwl; have HLO := Lib.hid hlo
  clear hs2 hr2 ho2 hrb2 hP2 hq hpl hrl hrlo hwl hlo hrb hr1 ho1 HG0 HR0 HS0 hz0
  obtain ⟨M, hM⟩ : ∃ M, M = rs.length := ⟨_, rfl⟩
  have HM := Lib.hid hM
  rw [← hM] at hw2 HS2 HV2 HW2 h1 h3 ⊢
  clear hM
  obtain ⟨T1, hT1⟩ : ∃ T, T = pT q := ⟨_, rfl⟩
  obtain ⟨T2, hT2⟩ : ∃ T, T = pT rg := ⟨_, rfl⟩
  obtain ⟨T3, hT3⟩ : ∃ T, T = pT pl := ⟨_, rfl⟩
  obtain ⟨U, hU⟩ : ∃ U, U = pT ws := ⟨_, rfl⟩
  have HTT := Lib.hid (And.intro hT1 (And.intro hT2 (And.intro hT3 hU)))
  unfold macC
  rw [← hT1, ← hT2, ← hT3] at HS2 HW2
  rw [← hT1, ← hT2, ← hT3, ← hU]
  clear hT1 hT2 hT3 hU hw2
  go_upto_region 2 with fail
  rw [← HW2.out.1, ← HW2.out.2]
  go_wp2_with fail
  refine (pick_pos _ R _ _ HR2.out (by omega) (by omega) (by omega)).mono ?_
  rintro e w3 ⟨x, rfl, hx, hr3, ho3⟩
  have HG3 := Lib.hid (only_trans HG2.out ho3); have HS3 := Lib.hid (HS2.out.grow ho3 hBR); have HP3 := Lib.hid (HP2.out.grow ho3 hPR); have HV3 := Lib.hid (HV2.out.only ho3 (by omega)); have HR3 := Lib.hid hr3
  have hPw3 : P < w3.heap.size := HP3.out.lt
  clear ho3 hr3 HG2 HS2 HP2 HV2 HR2 HW2 hB
  by_cases hx0 : x = 0
  · subst hx0
    obtain ⟨⟨c0, c1, c2, c3⟩, _⟩ := HS3.out.all4
    go_upto_region 3 with fail
    go_region_with (first | (go_at_call 70; refine (l12Menu_any w3.drew R _ HR3.out (by omega)).mono ?_; rintro _ w7 ⟨Am, c, ms, rfl, hom, hm1, hm12, hmz, hr7, ho7⟩; obtain ⟨⟨d0, d1, d2, d3⟩, _⟩ := (HS3.out.grow (only_of_drew ho7) hBR).all4; obtain ⟨⟨k0, k1, k2, k3⟩, f0, f1, f2, f3⟩ := (HP3.out.grow (only_of_drew ho7) hPR).all4) | fail)
    all_goals
      obtain ⟨t1, t2, t3, t4⟩ := HTT.out
      have hf := l13_fin HPE.out hRP HM.out (HP3.out.grow (only_of_drew ho7) hPR) (HV3.out.only (only_of_drew ho7) (by omega)) HQ.out HPL.out h1 h3 HRL.out HRO.out HWL.out HLO.out (own_mono3 hom (show P + 1 ≤ w3.drew.heap.size from hPw3)) hm1 hm12 hmz (hr7.mono (show _ ≤ N + 500 by omega)) (only_trans HG3.out (only_of_drew ho7)) t1 t2 t3
      have HF := Lib.hid hf
      clear t1 t2 t3 t4 hf hom hmz hr7 ho7 k0 k1 k2 k3 f0 f1 f2 f3 d0 d1 d2 d3 c0 c1 c2 c3
      go_wp2_with fail
      refine bodyPost_ret (results_st_tmpC rfl _ _ P _ #[.slice A M cap, .string T1, .string T2, .string T3] _ _ rfl HF.out.1 Tryz.underlying27 ⟨_, rfl⟩ macSize) rfl ?_
      rw [← HTT.out.2.2.2] at HF
      exact HF.out.2
  · have hxb : ((x : Int) == 0) = false := by rw [beq_eq_false_iff_ne]; omega
    clear hx0
    go_wp2_with fail
    refine (pick_pos _ R _ _ HR3.out (by omega) (by omega) (by omega)).mono ?_
    rintro e w4 ⟨n1, rfl, hn1, hr4, ho4⟩
    have HG4 := Lib.hid (only_trans HG3.out ho4); have HS4 := Lib.hid (HS3.out.grow ho4 hBR); have HP4 := Lib.hid (HP3.out.grow ho4 hPR); have HV4 := Lib.hid (HV3.out.only ho4 (by omega))
    clear ho4 HG3 HS3 HP3 HV3 HR3 hxb
    go_wp2_with fail
    refine (l1Some_to _ R _ (2 + n1) _ (by omega) hr4 (by omega) (by omega)).mono ?_
    rintro e w5 ⟨us, rfl, hul, hulo, hr5, ho5⟩
    have HG5 := Lib.hid (only_trans HG4.out ho5); have HS5 := Lib.hid (HS4.out.grow ho5 hBR); have HP5 := Lib.hid (HP4.out.grow ho5 hPR); have HV5 := Lib.hid (HV4.out.only ho5 (by omega))
    have HUL := Lib.hid (And.intro hul hulo)
    clear ho5 hr4 HG4 HS4 HP4 HV4 hul hulo
    obtain ⟨T, hT⟩ : ∃ T, T = pT us := ⟨_, rfl⟩
    rw [← hT]
    have HT := Lib.hid hT
    clear hT
    go_wp2_with fail
    refine (pick_pos _ R _ _ hr5 (by omega) (by omega) (by omega)).mono ?_
    rintro e w6 ⟨y, rfl, hy, hr6, ho6⟩
    have HG6 := Lib.hid (only_trans HG5.out ho6); have HS6 := Lib.hid (HS5.out.grow ho6 hBR); have HP6 := Lib.hid (HP5.out.grow ho6 hPR); have HV6 := Lib.hid (HV5.out.only ho6 (by omega)); have HR6 := Lib.hid (hr6.mono (show _ ≤ N + 400 by omega))
    clear ho6 hr5 hr6 HG5 HS5 HP5 HV5
    go_upto_if 32 with fail
    go_cut [7] (fun s7 wx => ∃ us : List Nat, s7 = .string (pT us) ∧ Hid (2 ≤ us.length ∧ us.length ≤ 10 ∧ Lo us) ∧ Hid (w.grownBy wx (some R)) ∧ Hid (SB wx B #[.slice A M cap, .string T1, .string T2, .string T3] 27) ∧ Hid (SB wx P #[.slice none 0 0, .string ⟨#[]⟩, .string ⟨#[]⟩, .string ⟨#[]⟩] 27) ∧ Hid (RBk wx (P + 1) (.slice A M cap) rs) ∧ Hid (Rdr wx R (N + 410)))
    case first =>
      by_cases hy0 : y = 0
      · subst hy0
        go_wp2_with fail
        refine (pick_pos _ R _ _ HR6.out (by omega) (by omega) (by omega)).mono ?_
        rintro e w7 ⟨a, rfl, ha, hr7, ho7⟩
        have HG7 := Lib.hid (only_trans HG6.out ho7); have HS7 := Lib.hid (HS6.out.grow ho7 hBR); have HP7 := Lib.hid (HP6.out.grow ho7 hPR); have HV7 := Lib.hid (HV6.out.only ho7 (by omega))
        clear ho7 HG6 HS6 HP6 HV6
        go_wp2_with fail
        refine (l1Letter_is _ _ a (by omega) (by omega)).mono ?_
        rintro _ w8 ⟨rfl, hb8⟩
        have hr8 := hr7.below hb8
        have HG8 := Lib.hid (only_trans HG7.out (only_of_below hb8 _)); have HS8 := Lib.hid (HS7.out.below hb8); have HP8 := Lib.hid (HP7.out.below hb8); have HV8 := Lib.hid (HV7.out.below hb8)
        clear hb8 hr7 HG7 HS7 HP7 HV7
        go_wp2_with fail
        refine (pick_pos _ R _ _ hr8 (by omega) (by omega) (by omega)).mono ?_
        rintro e w9 ⟨b, rfl, hb, hr9, ho9⟩
        have HG9 := Lib.hid (only_trans HG8.out ho9); have HS9 := Lib.hid (HS8.out.grow ho9 hBR); have HP9 := Lib.hid (HP8.out.grow ho9 hPR); have HV9 := Lib.hid (HV8.out.only ho9 (by omega)); have HR9 := Lib.hid hr9
        clear ho9 hr8 hr9 HG8 HS8 HP8 HV8
        have hmm := l21Many_one w9 (letter a) (2 + b) (by omega)
        rw [show ((2 + b : Nat) : Int) = 2 + (b : Int) by omega] at hmm
        have HMM := Lib.hid hmm
        clear hmm
        go_wp2_with fail
        refine HMM.out.mono ?_
        rintro _ _ ⟨rfl, rfl⟩
        go_wp2_with fail
        go_meet
        exact ⟨List.replicate (2 + b) a, by unfold pT; rw [List.map_replicate], Lib.hid ⟨by simp, by simp; omega, fun x hx => by rw [List.eq_of_mem_replicate hx]; omega⟩, HG9, HS9, HP9, HV9, Lib.hid (HR9.out.mono (by omega))⟩
      · have hyb : ((y : Int) == 0) = false := by rw [beq_eq_false_iff_ne]; omega
        go_wp2_with fail
        go_meet
        exact ⟨us, by rw [HT.out], Lib.hid ⟨by have := HUL.out.1; omega, by have := HUL.out.1; omega, HUL.out.2⟩, HG6, HS6, HP6, HV6, Lib.hid (HR6.out.mono (by omega))⟩
    case rest =>
      obtain ⟨us, rfl, HUS, HG7, HS7, HP7, HV7, HR7⟩ := hcut
      clear HG6 HS6 HP6 HV6 HR6 HUL HT
      go_wp2_with fail
      refine (pick_pos _ R _ _ HR7.out (by omega) (by omega) (by omega)).mono ?_
      rintro e w8 ⟨t, rfl, ht, hr8, ho8⟩
      have HG8 := Lib.hid (only_trans HG7.out ho8); have HS8 := Lib.hid (HS7.out.grow ho8 hBR); have HP8 := Lib.hid (HP7.out.grow ho8 hPR); have HV8 := Lib.hid (HV7.out.only ho8 (by omega)); have HR8 := Lib.hid hr8
      clear ho8 hr8 HG7 HS7 HP7 HV7 HR7
      obtain ⟨us2, usl, uso⟩ := HUS.out
      have hsz : ((pT us).size : Int) = (us.length : Int) := by rw [pT_size]
      have HSZ := Lib.hid hsz
      obtain ⟨⟨c0, c1, c2, c3⟩, _⟩ := HS8.out.all4
      have hwha := HV8.out
      rw [HM.out] at hwha
      have hpm := l8Perms_any w8 A cap rs q rg pl ws (t + us.length) ((t : Int) + ((pT us).size : Int)) (by rw [hsz]; omega) (by omega) (hwha.wha (by rw [← HM.out]; exact h1) (by rw [← HM.out]; exact h3)) HQ.out HPL.out HWL.out HLO.out HRL.out HRO.out
      rw [← HM.out] at hpm
      unfold macC at hpm
      obtain ⟨t1, t2, t3, t4⟩ := HTT.out
      rw [← t1, ← t2, ← t3, ← t4] at hpm
      have hz10 : (pT us).size ≤ 10 := by rw [pT_size]; omega
      have HPM := Lib.hid hpm
      clear hpm t1 t2 t3 t4 hwha hsz
      obtain ⟨T, hT⟩ : ∃ T, T = pT us := ⟨_, rfl⟩
      rw [← hT] at HPM HSZ hz10 ⊢
      have HT := Lib.hid hT
      clear hT
      go_wp2_with fail
      refine HPM.out.mono ?_
      rintro _ w9 ⟨vp, ps, rfl, hop, hpl2, hprm, hb9⟩
      obtain ⟨Ap, cp, rfl⟩ := slot_slice hop
      have hpn : strV (pTs ps) ≠ [] := by
        intro e
        have := congrArg List.length e
        rw [length_strV, pTs_len, List.length_nil] at this; omega
      obtain ⟨pb, po, hpe, -, -⟩ := own_rd3' hop hpn
      subst hpe
      have HR9 := Lib.hid (HR8.out.below hb9); have HG9 := Lib.hid (only_trans HG8.out (only_of_below hb9 _)); have HS9 := Lib.hid (HS8.out.below hb9); have HP9 := Lib.hid (HP8.out.below hb9); have HV9 := Lib.hid (HV8.out.below hb9)
      have hB8 := HS8.out.lt
      have HOP := Lib.hid (own_mono3 hop (show P + 1 ≤ w8.heap.size by omega)); have HPN := Lib.hid hpl2; have HPR := Lib.hid hprm
      obtain ⟨w10, hw10⟩ : ∃ w10, w10 = w9.alloc (.cells #[] 50) := ⟨_, rfl⟩
      obtain ⟨C, hC⟩ : ∃ C, C = w9.heap.size := ⟨_, rfl⟩
      have hal : Below w9.heap.size w9 w10 := by rw [hw10]; exact (Below.refl _ _).alloc (Nat.le_refl _) _
      have how : w10.ownsRow (P + 1) 50 3 (.slice (some ⟨C, 0, none⟩) 0 0) 0 (linkZ []) := by rw [hw10, hC]; exact World.ownsRow_made w9 #[] 0 (by have := HS9.out.lt; omega) (by decide) rfl
      have HR10 := Lib.hid (HR9.out.below hal); have HG10 := Lib.hid (only_trans HG9.out (only_of_below hal _)); have HS10 := Lib.hid (HS9.out.below hal); have HP10 := Lib.hid (HP9.out.below hal); have HV10 := Lib.hid (HV9.out.below hal); have HOP10 := Lib.hid (ownsRow_below HOP.out hal); have HOW := Lib.hid how; have HW10 := Lib.hid (And.intro hw10 hC)
      obtain ⟨np, hnp⟩ : ∃ np, np = ps.length := ⟨_, rfl⟩
      rw [← hnp] at HOP10 hpl2 HPN ⊢
      have HNP := Lib.hid hnp
      obtain ⟨nu, hnu⟩ : ∃ nu, nu = us.length := ⟨_, rfl⟩
      rw [← hnu] at hpl2 HSZ us2 usl HPN
      have HNU := Lib.hid hnu
      have hTz : T.size = nu := by have := HSZ.out; omega
      have HTZ := Lib.hid hTz
      clear hpl2 hTz hop hpn hprm hb9 hal how hw10 hC hnp hnu HOP HR9 HG9 HS9 HP9 HV9 HR8 HG8 HS8 HP8 HV8 c0 c1 c2 c3 HPM hB8
      go_wp2_with fail
      rw [← HW10.out.1, ← HW10.out.2]
      go_loopw [10, 11] (fun ov iv wr => ∃ (j : Nat) (ms : List LnkZ), j ≤ nu ∧ iv = .int .i64 (j : Int) ∧ Hid (ms.length = j) ∧ Hid (wr.ownsRow (P + 1) 50 3 ov ms.length (linkZ ms)) ∧ Hid (MnZ ms) ∧ Hid (Rdr wr R (N + 410 + 1)) ∧ Hid (w.grownBy wr (some R)) ∧ Hid (SB wr B #[.slice A M cap, .string T1, .string T2, .string T3] 27) ∧ Hid (SB wr P #[.slice none 0 0, .string ⟨#[]⟩, .string ⟨#[]⟩, .string ⟨#[]⟩] 27) ∧ Hid (RBk wr (P + 1) (.slice A M cap) rs) ∧ Hid (wr.ownsRow (P + 1) 9 1 (.slice (some ⟨pb, po, none⟩) np cp) np (strV (pTs ps)))) (fun _ iv _ => nu - (intOf iv).toNat)
      case atStart => exact ⟨0, [], Nat.zero_le _, rfl, Lib.hid rfl, HOW, Lib.hid mnZ_nil, HR10, HG10, HS10, HP10, HV10, HOP10⟩
      case round =>
        clear HOW HR10 HG10 HS10 HP10 HV10 HOP10
        obtain ⟨j, ms, hj, rfl, HL, HO, HMZ, HR, HG, HS, HP, HV, HPS⟩ := hrel
        obtain ⟨A3, c3, e3⟩ := slot_slice HO.out
        subst e3
        by_cases hlt : j < nu
        · have hju : j < us.length := by rw [← HNU.out]; exact hlt
          have hu10 : nth us j < 10 := nth_lt uso j
          have htj : t + j < ps.length := by rw [← HNP.out, HPN.out]; omega
          have hd1 := fun (w' : World) => l1Digit_nth w' us uso j (j : Int) rfl hju (by rw [← HNU.out]; omega)
          rw [← HT.out] at hd1
          have hpr : Prm ps[t + j] := HPR.out _ (List.getElem_mem htj)
          have hd2 := fun (w' : World) => l2Image_any w' ps[t + j] hpr.toTen.lt (nth us j) (nth us j : Int) rfl (by rw [hpr.len]; exact hu10) (by rw [hpr.len]; omega)
          have hz10' : nth ps[t + j] (nth us j) < 10 := nth_lt hpr.toTen.lt _
          have hd3 := fun (w' : World) => l1Letter_is w' (nth ps[t + j] (nth us j) : Int) (nth ps[t + j] (nth us j)) (by omega) (by omega)
          have hcp : wr.cell? ⟨pb, po + (t + j), none⟩ = some (.string (pT ps[t + j])) := by
            have hne : strV (pTs ps) ≠ [] := by
              intro e
              have := congrArg List.length e
              rw [length_strV, pTs_len, List.length_nil] at this; omega
            obtain ⟨pb', po', hpe, -, hcell⟩ := own_rd3' HPS.out hne
            simp only [Option.some.injEq, Addr.mk.injEq, and_true] at hpe
            obtain ⟨rfl, rfl⟩ := hpe
            rw [hcell (t + j) (by rw [length_strV, pTs_len]; exact htj)]
            simp [strV, pTs]
          generalize nth ps[t + j] (nth us j) = z at hd2 hd3 hz10'
          generalize pT ps[t + j] = Y at hd2 hcp
          generalize nth us j = u at hd1 hd2 hu10
          have HD1 := Lib.hid hd1; have HD2 := Lib.hid hd2; have HD3 := Lib.hid hd3
          have v1 : IntKind.i64.wrap ((t : Int) + (j : Int)) = (t : Int) + (j : Int) := by rw [IntKind.wrap_i64]; omega
          have v2 : (0 : Int) ≤ (t : Int) + (j : Int) := by omega
          have v3 : (t : Int) + (j : Int) < (np : Int) := by have := HPN.out; omega
          have v4 : ((t : Int) + (j : Int)).toNat = t + j := by omega
          have v5 : (j : Int) < (T.size : Int) := by have := HTZ.out; omega
          have HCP := Lib.hid (fun (W : World) (hb : Below wr.heap.size wr W) => (hb.cell (p := ⟨pb, po + (t + j), none⟩) (World.block_lt_of_cell? _ _ hcp)).trans hcp)
          have hbr : Below wr.heap.size wr wr := Below.refl _ _
          have hbd : Below wr.heap.size wr wr.drew := (Below.refl _ _).drew
          clear hpr hd1 hd2 hd3 hcp hju htj
          go_upto_region 13 with fail
          go_region_held3 (fun W => W.cell? ⟨pb, po + (t + j), none⟩ = some (.string Y)) (first | with_reducible assumption | with_reducible exact HCP.out _ (by with_reducible assumption) | fail) (first | (go_at_call 25; refine (HD1.out _).mono ?_; rintro _ _ ⟨rfl, rfl⟩) | (go_at_call 24; refine (HD2.out _).mono ?_; rintro _ _ ⟨rfl, rfl⟩) | (go_at_call 73; refine (HD3.out _).mono ?_; rintro _ w7 ⟨rfl, hb7⟩; have b7 := bel_onK (a := wr) (by with_reducible assumption) hb7) | fail)
          all_goals
            have HR7 := Lib.hid (HR.out.below b7); have HG7 := Lib.hid (only_trans HG.out (only_of_below b7 _)); have HS7 := Lib.hid (HS.out.below b7); have HP7 := Lib.hid (HP.out.below b7); have HV7 := Lib.hid (HV.out.below b7); have HPS7 := Lib.hid (ownsRow_below HPS.out b7); have HO7 := Lib.hid (ownsRow_below HO.out b7)
            have hBw := HS7.out.lt
            have hml : ms.length ≤ 10 := by have := HL.out; omega
            have hz1 : (mk [letter z]).size ≤ 2 := by rw [size_mk]; simp
            have hz2 : (T.extract j (j + 1)).size ≤ 2 := by rw [ByteArray.size_extract]; omega
            generalize mk [letter z] = Z at hz1 ⊢
            have w1 : IntKind.i64.wrap ((j : Int) + 1) = (j : Int) + 1 := by rw [IntKind.wrap_i64]; omega
            have w2 : IntKind.i64.wrap ((t : Int) + (j : Int) + 1) = (t : Int) + (j : Int) + 1 := by rw [IntKind.wrap_i64]; omega
            have a1 : ((j : Int) + 1).toNat = j + 1 := by omega
            have b2 : (j : Int) ≤ (j : Int) + 1 := by omega
            have b3 : (j : Int) + 1 ≤ (T.size : Int) := by omega
            clear hb7 b7 HR HG HS HP HV HPS HO hbr hbd
            go_wp2_with (at_builtin; refine wpList_append_own _ rfl _ _ 28 rfl (P + 1) 50 iL _ 3 40 Tryz.undL HI.out HZ0.out HZ1.out HZ2.out rfl (by decide) _ ms.length _ rfl (HO7.out.alloc _) ⟨w7.heap.size, 0, none⟩ 1 1 [.string (T.extract j (j + 1)), .string Z, .int .i64 ((t : Int) + (j : Int) + 1)] rfl rfl (three_new w7 _ _ _ _) (three_one _ _ _) (by unfold maxLen; omega) (by omega) (by simp; omega) ?_)
            intro v' w9 ho' hg' _
            have hls := linkZ_snoc ms (T.extract j (j + 1), Z, (t : Int) + (j : Int) + 1)
            rw [hls, show ms.length + 1 = (ms ++ [(T.extract j (j + 1), Z, (t : Int) + (j : Int) + 1)]).length by simp] at ho'
            have hbk : ∀ k, (Value.slice A3 ms.length c3).ownBlock = some k → P + 1 ≤ k := fun k e => (HO7.out.lt k e).1
            have hr9 : Rdr w9 R _ := (HR7.out.alloc _).own hg' (fun k' e => by have := hbk k' e; omega)
            have hg9 : w.grownBy w9 (some R) := only_own (only_trans HG7.out (World.grownBy_alloc _ _ _)) hg' (fun k' e => by have := hbk k' e; have := HPE.out; omega)
            have hal : Below w7.heap.size w7 (w7.alloc (.cells #[.string (T.extract j (j + 1)), .string Z, .int .i64 ((t : Int) + (j : Int) + 1)] 50)) := (Below.refl _ _).alloc (Nat.le_refl _) _
            have hs9 : SB w9 B #[.slice A M cap, .string T1, .string T2, .string T3] 27 := SB.own (HS7.out.below hal) hg' (own_ne_type HO7.out HS7.out (by decide))
            have hp9 : SB w9 P #[.slice none 0 0, .string ⟨#[]⟩, .string ⟨#[]⟩, .string ⟨#[]⟩] 27 := SB.own (HP7.out.below hal) hg' (own_ne_type HO7.out HP7.out (by decide))
            have hv9 : RBk w9 (P + 1) (.slice A M cap) rs := ⟨(HV7.out.alloc _).own.kept hg' (own_kindsK (HV7.out.own) HO7.out (by decide)), HV7.out.rot⟩
            have hps9 : w9.ownsRow (P + 1) 9 1 (.slice (some ⟨pb, po, none⟩) np cp) np (strV (pTs ps)) := (HPS7.out.alloc _).kept hg' (own_kindsK HPS7.out HO7.out (by decide))
            have HO9 := Lib.hid ho'; have HR9 := Lib.hid hr9; have HG9 := Lib.hid hg9; have HS9 := Lib.hid hs9; have HP9 := Lib.hid hp9; have HV9 := Lib.hid hv9; have HPS9 := Lib.hid hps9
            clear ho' hg' hls hr9 hg9 hs9 hp9 hv9 hps9 hbk hal
            go_wp2_with fail
            go_roundw
            case rel => exact ⟨j + 1, ms ++ [(T.extract j (j + 1), Z, (t : Int) + (j : Int) + 1)], by omega, by go_num, Lib.hid (by have := HL.out; simp; omega), HO9, Lib.hid (mnZ_snoc HMZ.out ⟨hz2, hz1, by simp only; omega, by simp only; omega⟩), HR9, HG9, HS9, HP9, HV9, HPS9⟩
            case measure => simp [intOf]; omega
        · have hje : j = nu := by omega
          have hv5 : ¬ (j : Int) < (T.size : Int) := by have := HTZ.out; omega
          have hl := HL.out
          obtain ⟨t1, t2, t3, t4⟩ := HTT.out
          have hf := l13_fin HPE.out hRP HM.out HP.out HV.out HQ.out HPL.out h1 h3 HRL.out HRO.out HWL.out HLO.out HO.out (by omega) (by omega) HMZ.out (HR.out.mono (show _ ≤ N + 500 by omega)) HG.out t1 t2 t3
          rw [← t4] at hf
          have HF := Lib.hid hf
          obtain ⟨⟨c0, c1, c2, c4⟩, _⟩ := HS.out.all4
          obtain ⟨⟨k0, k1, k2, k3⟩, f0, f1, f2, f3⟩ := HP.out.all4
          clear hf t1 t2 t3 t4 hl
          go_wp2_with fail
          refine bodyPost_ret (results_st_tmpC rfl _ _ P _ #[.slice A M cap, .string T1, .string T2, .string T3] _ _ rfl HF.out.1 Tryz.underlying27 ⟨_, rfl⟩ macSize) rfl ?_
          exact HF.out.2
theorem own_keptK {w w' : World} {R base : Nat} {v v2 : Value} {e : TypeId} {s n : Nat} {xs : List Value} (h : w.ownsRow base e s v2 n xs) (hk : Kept w w' R v) (hR : R < base) (hv : v2.ownBlock = none ∨ v2.ownBlock ≠ v.ownBlock) : w'.ownsRow base e s v2 n xs := by
  obtain ⟨h1, h2 | ⟨g, cap, cur, rfl, hb, hg, h3⟩⟩ := h
  · exact ⟨h1, .inl h2⟩
  · refine ⟨h1, .inr ⟨g, cap, cur, rfl, hb, ?_, h3⟩⟩
    rw [hk.block g (Array.getElem?_eq_some_iff.1 hg).1 (by omega) (fun e => by
      rcases hv with h4 | h4
      · cases h4
      · exact h4 e.symm)]
    exact hg
theorem grown_keptK {w w1 w2 : World} {R : Nat} {v : Value} (h : w.grownBy w1 (some R)) (hk : Kept w1 w2 R v) (hv : ∀ k, v.ownBlock = some k → w.heap.size ≤ k) : w.grownBy w2 (some R) :=
  ⟨hk.os.trans h.os, hk.tape.trans h.tape, hk.output.trans h.output, Nat.le_trans h.size hk.size, fun i hi hn => (hk.block i (Nat.lt_of_lt_of_le hi h.size) (by intro e; exact hn (by rw [e])) (by intro e; have := hv i e; omega)).trans (h.block i hi hn)⟩
def OpD (w : World) (R N : Nat) (e : Ending) (w' : World) : Prop :=
  ∃ (A : Option Addr) (cap : Nat) (rs : List (ByteArray × ByteArray)) (p g l o : ByteArray) (Am : Option Addr) (cm : Nat) (ms : List LnkZ), e = .returned (.tuple #[.agg #[.slice A rs.length cap, .string p, .string g, .string l], .string o, .slice Am ms.length cm]) ∧ w'.ownsRow w.heap.size 142 2 (.slice A rs.length cap) rs.length (rotV rs) ∧ w'.ownsRow w.heap.size 50 3 (.slice Am ms.length cm) ms.length (linkZ ms) ∧ rs.length ≤ 6 ∧ p.size ≤ 20 ∧ g.size ≤ 10 ∧ l.size ≤ 20 ∧ o.size ≤ 10 ∧ ms.length ≤ 24 ∧ MnZ ms ∧ Rdr w' R N ∧ w.grownBy w' (some R)
set_option maxHeartbeats 8000000 in
set_option maxRecDepth 100000 in
theorem l13Open_any (w : World) (R N : Nat) (h : Rdr w R N) (hN : N ≤ 20000) :
    Calls Tryz.prog 15 #[.pointer (some ⟨R, 0, none⟩)] w (OpD w R (N + 700)) := by
  obtain ⟨w0, hw0⟩ : ∃ w0, w0 = w.alloc (.cells #[.slice none 0 0, .string ⟨#[]⟩, .string ⟨#[]⟩, .string ⟨#[]⟩] 27) := ⟨_, rfl⟩
  obtain ⟨P, hP⟩ : ∃ P, P = w.heap.size := ⟨_, rfl⟩
  have hlt := h.lt
  have hs0 : SB w0 P #[.slice none 0 0, .string ⟨#[]⟩, .string ⟨#[]⟩, .string ⟨#[]⟩] 27 := by rw [hw0, hP]; exact SB.made w _ _
  have hr0 : Rdr w0 R N := by rw [hw0]; exact h.alloc _
  have ho0 : w.grownBy w0 (some R) := by rw [hw0]; exact World.grownBy_alloc w _ (some R)
  have HS0 := Lib.hid hs0; have HR0 := Lib.hid hr0; have HG0 := Lib.hid ho0; have HPE := Lib.hid hP; have HW0 := Lib.hid hw0
  have hRP : R < P := by omega
  have hPR : P ≠ R := by omega
  have hz0 : P + 1 ≤ w0.heap.size := hs0.lt
  clear hs0 hr0 ho0 h
  go_enter Tryz.func15, Tryz.ntmps15
  go_upto_region 1 with fail
  rw [← HW0.out, ← HPE.out]
  clear hw0 hP
  go_wp2_with fail
  refine (l13Some_any _ R N HR0.out (by omega)).mono ?_
  rintro e w1 ⟨v, rs, q, rg, pl, ws, Am, cm, ms, rfl, hrb, hq, hpl, h1, h3, hrl, hrlo, hwl, hlo, hom, hm1, hm12, hmz, hr1, ho1⟩
  obtain ⟨b, cap, e3⟩ := own_some hrb.own (by omega)
  subst e3
  obtain ⟨mb, cm', e4⟩ := own_some hom (by omega)
  simp only [Value.slice.injEq] at e4
  obtain ⟨rfl, -, rfl⟩ := e4
  have HRT := Lib.hid (rotT_sizes hrb.rot)
  have hzq : (pT q).size ≤ 20 := by rw [pT_size, hq.len]; omega
  have hzp : (pT pl).size ≤ 20 := by rw [pT_size, hpl.len]; omega
  have hzr1 : 1 ≤ (pT rg).size := by rw [pT_size, hrl]; exact h1
  have hzr3 : (pT rg).size ≤ 3 := by rw [pT_size, hrl]; exact h3
  have hzw1 : 1 ≤ (pT ws).size := by rw [pT_size, hwl]; exact h1
  have hzw3 : (pT ws).size ≤ 3 := by rw [pT_size, hwl]; exact h3
  unfold macC
  generalize pT q = T1 at hzq ⊢
  generalize pT pl = T3 at hzp ⊢
  generalize pT rg = T2 at hzr1 hzr3 ⊢
  generalize pT ws = U at hzw1 hzw3 ⊢
  obtain ⟨w2, hw2⟩ : ∃ w2, w2 = w1.alloc (.cells #[.slice (some ⟨b, 0, none⟩) rs.length cap, .string T1, .string T2, .string T3] 27) := ⟨_, rfl⟩
  obtain ⟨B, hB⟩ : ∃ B, B = w1.heap.size := ⟨_, rfl⟩
  have hal : Below w1.heap.size w1 w2 := by rw [hw2]; exact (Below.refl _ _).alloc (Nat.le_refl _) _
  have hs2 : SB w2 B #[.slice (some ⟨b, 0, none⟩) rs.length cap, .string T1, .string T2, .string T3] 27 := by rw [hw2, hB]; exact SB.made w1 _ _
  have hr2 := hr1.below hal
  have ho2 := only_trans (only_trans HG0.out ho1) (only_of_below hal (some R))
  have hP2 : SB w2 P #[.slice none 0 0, .string ⟨#[]⟩, .string ⟨#[]⟩, .string ⟨#[]⟩] 27 := (HS0.out.grow ho1 hPR).below hal
  have hro2 := own_mono3 (ownsRow_below hrb.own hal) hz0
  have hmo2 := own_mono3 (ownsRow_below hom hal) hz0
  have hz2 : P + 1 ≤ w2.heap.size := hP2.lt
  have HP2 := Lib.hid hP2; have HG2 := Lib.hid ho2; have HM2 := Lib.hid hmo2; have HW2 := Lib.hid (And.intro hw2 hB); have HMZ := Lib.hid hmz
  obtain ⟨⟨c0, c1, c2, c3⟩, _⟩ := hs2.all4
  have hbd := l8Bad_any w2 R _ (P + 1) b cap rs T1 T2 T3 hr2 (by omega) (by omega) hz2 hro2 h1 h3 HRT.out hzq hzr1 hzr3 hzp
  have hbne : (Value.slice (some ⟨b, 0, none⟩) rs.length cap).ownBlock ≠ some P := by intro e; injection e with e; have := (hro2.lt b rfl).1; simp only at e; omega
  have hbge : ∀ k, (Value.slice (some ⟨b, 0, none⟩) rs.length cap).ownBlock = some k → P ≤ k := fun k e => by have := (hro2.lt k e).1; omega
  have hbm := own_kindsK hmo2 hro2 (by decide)
  have HBD := Lib.hid hbd; have HBN := Lib.hid (And.intro hbne (And.intro hbge hbm))
  clear hw2 hB hal hs2 hr2 ho2 hP2 hro2 hmo2 hbd hbne hbge hbm hrb hq hpl hrl hrlo hwl hlo hom hmz hr1 ho1 HG0 HS0 HR0 hz2
  go_upto_region 2 with fail
  rw [← HW2.out.1, ← HW2.out.2]
  go_wp2_with fail
  refine HBD.out.mono ?_
  rintro _ w4 ⟨v4, rs4, p4, g4, l4, rfl, how4, hl4, hzp4, hzg4, hzl4, hr4, hk4⟩
  obtain ⟨A4, c4', e4⟩ := slot_slice how4
  subst e4
  have hP4 := hk4.sb HP2.out hPR HBN.out.1
  have hG4 := grown_keptK HG2.out hk4 (fun k e => by rw [← HPE.out]; exact HBN.out.2.1 k e)
  have hM4 := own_keptK HM2.out hk4 (by omega) HBN.out.2.2
  have HP4 := Lib.hid hP4; have HG4 := Lib.hid hG4; have HM4 := Lib.hid hM4; have HO4 := Lib.hid how4
  clear hP4 hG4 hM4 how4 hk4 HP2 HG2 HM2 HBN HBD c0 c1 c2 c3
  go_wp2_with fail
  refine (l8Off_any w4 R _ U hr4 (by omega) hzw1 hzw3).mono ?_
  rintro _ w5 ⟨o5, rfl, hzo, hr5, ho5⟩
  have HP5 := Lib.hid (HP4.out.grow ho5 hPR); have HG5 := Lib.hid (only_trans HG4.out ho5)
  have HO5 := Lib.hid (HO4.out.kept ho5 (own_apart_lt HO4.out (by omega))); have HM5 := Lib.hid (HM4.out.kept ho5 (own_apart_lt HM4.out (by omega)))
  clear ho5 hr4 HP4 HG4 HO4 HM4
  have hz5 : P + 1 ≤ w5.heap.size := HP5.out.lt
  have hmb := l12Bad_any w5 R _ (P + 1) mb cm ms hr5 (by omega) (by omega) hz5 HM5.out hm1 hm12 HMZ.out
  have HMB := Lib.hid hmb
  clear hmb hr5
  go_wp2_with fail
  refine HMB.out.mono ?_
  rintro _ w6 ⟨Am6, cm6, ms6, rfl, hom6, hml6, hmz6, hr6, hk6⟩
  have hP6 := hk6.sb HP5.out hPR (fun e => by have := (HM5.out.lt P e).1; omega)
  have hG6 := grown_keptK HG5.out hk6 (fun k e => by have := (HM5.out.lt k e).1; have := HPE.out; omega)
  have hO6 := own_keptK HO5.out hk6 (by omega) (own_kindsK HO5.out HM5.out (by decide))
  obtain ⟨⟨k0, k1, k2, k3⟩, f0, f1, f2, f3⟩ := hP6.all4
  have HSF := Lib.hid (hP6.four (.slice A4 rs4.length c4') (.string p4) (.string g4) (.string l4))
  have hnO := ownBlock_ne hO6 (show P < P + 1 by omega)
  have hnM := ownBlock_ne hom6 (show P < P + 1 by omega)
  have HOF := Lib.hid (own_mono3 (own_set (own_set (own_set (own_set hO6 hnO 0 (.slice A4 rs4.length c4')) hnO 1 (.string p4)) hnO 2 (.string g4)) hnO 3 (.string l4)) (show w.heap.size ≤ P + 1 by have := HPE.out; omega))
  have HMF := Lib.hid (own_mono3 (own_set (own_set (own_set (own_set hom6 hnM 0 (.slice A4 rs4.length c4')) hnM 1 (.string p4)) hnM 2 (.string g4)) hnM 3 (.string l4)) (show w.heap.size ≤ P + 1 by have := HPE.out; omega))
  have HRF := Lib.hid ((((hr6.far hRP 0 (.slice A4 rs4.length c4')).far hRP 1 (.string p4)).far hRP 2 (.string g4)).far hRP 3 (.string l4))
  have HGF := Lib.hid (only_far (only_far (only_far (only_far hG6 (show w.heap.size ≤ P by have := HPE.out; omega) 0 (.slice A4 rs4.length c4')) (show w.heap.size ≤ P by have := HPE.out; omega) 1 (.string p4)) (show w.heap.size ≤ P by have := HPE.out; omega) 2 (.string g4)) (show w.heap.size ≤ P by have := HPE.out; omega) 3 (.string l4))
  have HMZ6 := Lib.hid hmz6
  clear hP6 hG6 hO6 hnO hnM hom6 hr6 hk6 hmz6 HMB
  go_wp2_with fail
  refine bodyPost_ret (results_st_tmpC rfl _ _ P _ #[.slice A4 rs4.length c4', .string p4, .string g4, .string l4] _ _ rfl HSF.out Tryz.underlying27 ⟨_, rfl⟩ macSize) rfl ⟨A4, c4', rs4, p4, g4, l4, o5, Am6, cm6, ms6, rfl, HOF.out, HMF.out, hl4, hzp4, hzg4, hzl4, hzo, hml6, HMZ6.out, HRF.out.mono (by omega), HGF.out⟩
def CkD (w : World) (e : Ending) (w' : World) : Prop :=
  ∃ (A : Option Addr) (cap : Nat) (rs : List (ByteArray × ByteArray)) (p g l o : ByteArray) (Am : Option Addr) (cm : Nat) (ms : List LnkZ), e = .returned (.tuple #[.agg #[.slice A rs.length cap, .string p, .string g, .string l], .string o, .slice Am ms.length cm]) ∧ Rd w' w'.heap.size A (rotV rs) ∧ rs.length ≤ cap ∧ Rd w' w'.heap.size Am (linkZ ms) ∧ ms.length ≤ cm ∧ rs.length ≤ 6 ∧ p.size ≤ 20 ∧ g.size ≤ 10 ∧ l.size ≤ 20 ∧ o.size ≤ 10 ∧ ms.length ≤ 24 ∧ MnZ ms ∧ Below w.heap.size w w'
set_option maxHeartbeats 8000000 in
set_option maxRecDepth 100000 in
theorem drawCheckMenu_any (w : World) (A : Option Addr) (cap : Nat) (bs : List UInt8) (h : Rd w w.heap.size A (bytesV bs)) (hc : bs.length ≤ cap) :
    Calls Tryz.prog 4 #[.slice A bs.length cap] w (CkD w) := by
  have hb0 : Below w.heap.size w (w.alloc (.cells #[.slice none 0 0, .string ⟨#[]⟩, .string ⟨#[]⟩, .string ⟨#[]⟩] 27)) := (Below.refl _ _).alloc (Nat.le_refl _) _
  have hs0 := SB.made w #[.slice none 0 0, .string ⟨#[]⟩, .string ⟨#[]⟩, .string ⟨#[]⟩] 27
  obtain ⟨w0, hw0⟩ : ∃ w0, w0 = w.alloc (.cells #[.slice none 0 0, .string ⟨#[]⟩, .string ⟨#[]⟩, .string ⟨#[]⟩] 27) := ⟨_, rfl⟩
  rw [← hw0] at hb0 hs0
  have hop := l21Open_any w0 A cap bs ((h.below hb0).mono hb0.size) hc
  obtain ⟨P, hP⟩ : ∃ P, P = w.heap.size := ⟨_, rfl⟩
  have hpw : w.heap.size ≤ P := by omega
  rw [← hP] at hs0
  have HOP := Lib.hid hop; have HB0 := Lib.hid hb0; have HS0 := Lib.hid hs0
  clear hop hb0 hs0 h
  go_enter Tryz.func4, Tryz.ntmps4
  go_wp2_with fail
  rw [← hw0, ← hP]
  clear hw0 hP
  refine HOP.out.mono ?_
  rintro _ w1 ⟨rfl, hr1, hb1, hz1⟩
  obtain ⟨R, hR⟩ : ∃ R, R = w0.heap.size := ⟨_, rfl⟩
  rw [← hR] at hr1 hz1 ⊢
  have hpr : P < R := by rw [hR]; exact HS0.out.lt
  have HS1 := Lib.hid (HS0.out.below hb1); have HB1 := Lib.hid (HB0.out.trans (hb1.mono HB0.out.size))
  have HZ1 := Lib.hid hz1
  clear hb1 HB0 HS0 HOP hR hz1
  have hpn : P ≠ R := by omega
  go_wp2_with fail
  refine (l13Open_any _ R 0 hr1 (by omega)).mono ?_
  rintro _ w2 ⟨A2, c2, rs, p, g, l, o, Am, cm, ms, rfl, hro, hmo, hrl, hzp, hzg, hzl, hzo, hml, hmz, hr2, ho2⟩
  have hsz2 : R < w2.heap.size := hr2.lt
  have HS2 := Lib.hid (HS1.out.grow ho2 hpn); have HB2 := Lib.hid (HB1.out.trans (below_of_only ho2 HB1.out.size (by omega)))
  have HRO := Lib.hid (own_mono3 hro (show R + 1 ≤ w1.heap.size by rw [HZ1.out]; exact Nat.le_refl _)); have HMO := Lib.hid (own_mono3 hmo (show R + 1 ≤ w1.heap.size by rw [HZ1.out]; exact Nat.le_refl _)); have HMZ := Lib.hid hmz
  have HR2 := Lib.hid hr2
  clear hro hmo hmz hr2 ho2 hr1 HS1 HB1
  obtain ⟨w3, hw3⟩ : ∃ w3, w3 = w2.alloc (.cells #[.slice A2 rs.length c2, .string p, .string g, .string l] 27) := ⟨_, rfl⟩
  obtain ⟨B, hB⟩ : ∃ B, B = w2.heap.size := ⟨_, rfl⟩
  have hal : Below w2.heap.size w2 w3 := by rw [hw3]; exact (Below.refl _ _).alloc (Nat.le_refl _) _
  have hs3 : SB w3 B #[.slice A2 rs.length c2, .string p, .string g, .string l] 27 := by rw [hw3, hB]; exact SB.made w2 _ _
  have HS3 := Lib.hid (HS2.out.below hal); have HB3 := Lib.hid (HB2.out.trans (hal.mono HB2.out.size)); have HRO3 := Lib.hid (ownsRow_below HRO.out hal); have HMO3 := Lib.hid (ownsRow_below HMO.out hal); have HR3 := Lib.hid (HR2.out.below hal); have HK3 := Lib.hid hs3; have HW3 := Lib.hid (And.intro hw3 hB)
  have hBR : B ≠ R := by omega
  have hBP : P ≠ B := by omega
  have hBw : w.heap.size ≤ B := by rw [hB]; exact HB2.out.size
  clear hw3 hB hal hs3 HS2 HB2 HRO HMO HR2
  go_upto_region 3 with fail
  rw [← HW3.out.1, ← HW3.out.2]
  go_wp2_with fail
  refine (pick_pos _ R _ _ HR3.out (by omega) (by omega) (by omega)).mono ?_
  rintro e w4 ⟨x, rfl, hx, hr4, ho4⟩
  have HS4 := Lib.hid (HS3.out.grow ho4 hpn); have HK4 := Lib.hid (HK3.out.grow ho4 hBR); have HB4 := Lib.hid (HB3.out.trans (below_of_only ho4 HB3.out.size (by omega))); have HRO4 := Lib.hid (HRO3.out.kept ho4 (own_apart_lt HRO3.out (by omega))); have HMO4 := Lib.hid (HMO3.out.kept ho4 (own_apart_lt HMO3.out (by omega)))
  have HR4 := Lib.hid hr4
  clear ho4 hr4 HS3 HK3 HB3 HRO3 HMO3 HR3
  go_upto_if 19 with fail
  go_cut [] (fun wx => ∃ l' : ByteArray, l'.size ≤ 20 ∧ Hid (SB wx B #[.slice A2 rs.length c2, .string p, .string g, .string l'] 27) ∧ Hid (SB wx P #[.slice none 0 0, .string ⟨#[]⟩, .string ⟨#[]⟩, .string ⟨#[]⟩] 27) ∧ Hid (Below w.heap.size w wx) ∧ Hid (wx.ownsRow (R + 1) 142 2 (.slice A2 rs.length c2) rs.length (rotV rs)) ∧ Hid (wx.ownsRow (R + 1) 50 3 (.slice Am ms.length cm) ms.length (linkZ ms)))
  case first =>
    by_cases hx0 : x = 0
    · subst hx0
      go_wp2_with fail
      refine (l4Any_any _ R _ HR4.out (by omega)).mono ?_
      rintro e w5 ⟨pl, rfl, hpl, hr5, ho5⟩
      have hs5 := HS4.out.grow ho5 hpn
      have hk5 := HK4.out.grow ho5 hBR
      have hb5 := HB4.out.trans (below_of_only ho5 HB4.out.size (by omega))
      have hro5 := HRO4.out.kept ho5 (own_apart_lt HRO4.out (by omega))
      have hmo5 := HMO4.out.kept ho5 (own_apart_lt HMO4.out (by omega))
      obtain ⟨⟨k0, k1, k2, k3⟩, f0, f1, f2, f3⟩ := hk5.all4
      have hz : (pT pl).size ≤ 20 := by rw [pT_size, hpl.len]; omega
      generalize pT pl = L at hz ⊢
      have HKF := Lib.hid (show SB (w5.setCell ⟨B, 3, none⟩ (.string L)) B #[.slice A2 rs.length c2, .string p, .string g, .string L] 27 from hk5.put 3 _)
      have HSF := Lib.hid (hs5.far hBP 3 (.string L))
      have HBF := Lib.hid (hb5.setCell (p := ⟨B, 3, none⟩) hBw (.string L))
      have HROF := Lib.hid (own_set hro5 (own_ne_type hro5 hk5 (by decide)) 3 (.string L)); have HMOF := Lib.hid (own_set hmo5 (own_ne_type hmo5 hk5 (by decide)) 3 (.string L))
      clear hs5 hk5 hb5 hro5 hmo5 hpl hr5 ho5
      go_wp2_with fail
      go_meet
      exact ⟨L, hz, HKF, HSF, HBF, HROF, HMOF⟩
    · have hxb : ((x : Int) == 0) = false := by rw [beq_eq_false_iff_ne]; omega
      go_wp2_with fail
      go_meet
      exact ⟨l, hzl, HK4, HS4, HB4, HRO4, HMO4⟩
  case rest =>
    obtain ⟨l', hzl', HK, HS, HB, HRO, HMO⟩ := hcut
    clear HK4 HS4 HB4 HRO4 HMO4 HR4
    obtain ⟨⟨d0, d1, d2, d3⟩, _⟩ := HK.out.all4
    obtain ⟨⟨k0, k1, k2, k3⟩, f0, f1, f2, f3⟩ := HS.out.all4
    have hnO := ownBlock_ne HRO.out (show P < R + 1 by omega)
    have hnM := ownBlock_ne HMO.out (show P < R + 1 by omega)
    have HSF := Lib.hid (HS.out.four (.slice A2 rs.length c2) (.string p) (.string g) (.string l'))
    have HOF := Lib.hid (own_set (own_set (own_set (own_set HRO.out hnO 0 (.slice A2 rs.length c2)) hnO 1 (.string p)) hnO 2 (.string g)) hnO 3 (.string l'))
    have HMF := Lib.hid (own_set (own_set (own_set (own_set HMO.out hnM 0 (.slice A2 rs.length c2)) hnM 1 (.string p)) hnM 2 (.string g)) hnM 3 (.string l'))
    have HBF := Lib.hid ((((HB.out.setCell hpw (p := ⟨P, 0, none⟩) (.slice A2 rs.length c2)).setCell hpw (p := ⟨P, 1, none⟩) (.string p)).setCell hpw (p := ⟨P, 2, none⟩) (.string g)).setCell hpw (p := ⟨P, 3, none⟩) (.string l'))
    clear hnO hnM
    go_wp2_with fail
    refine bodyPost_ret (results_st_tmpC rfl _ _ P _ #[.slice A2 rs.length c2, .string p, .string g, .string l'] _ _ rfl HSF.out Tryz.underlying27 ⟨_, rfl⟩ macSize) rfl ⟨A2, c2, rs, p, g, l', o, Am, cm, ms, rfl, own_rd3' HOF.out, own_le3 HOF.out, own_rd3' HMF.out, own_le3 HMF.out, hrl, hzp, hzg, hzl', hzo, hml, HMZ.out, HBF.out⟩
end Go.Proofs.YtnbdimbhklbadaaGreatDoor
