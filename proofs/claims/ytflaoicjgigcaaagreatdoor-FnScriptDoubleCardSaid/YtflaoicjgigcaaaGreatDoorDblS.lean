/-
  What the reference's DoubleIndicator answers. Conditions: what each theorem names.
-/
import Derived.Test.YtflaoicjgigcaaaGreatDoorEncB
namespace Go.Proofs.YtflaoicjgigcaaaGreatDoor
open Go.RowKit Pl
set_option linter.unusedVariables false

theorem twice_wv {y : ByteArray} (h : wv (tl y) = true) (hz : y.size ≤ 100) : wv (tl (y ++ y)) = true := by
  rw [append_tl, tl_mk]
  unfold wv
  rw [List.length_append, length_tl, List.all_append]
  have : (tl y).all isL = true := List.all_eq_true.2 fun c hc => wv_mem h hc
  simp [this]; omega

set_option maxHeartbeats 4000000 in
set_option maxRecDepth 100000 in
theorem sDoubleInd_no (w : World) (A : Option Addr) (cap : Nat) (rs : List (ByteArray × ByteArray)) (p g l o y : ByteArray) (h : Rd w w.heap.size A (rotV rs)) (hc : rs.length ≤ cap) (hl : rs.length ≤ 100) (hn : ¬ (SetV rs p g l o ∧ SetV rs p g l y)) :
    Calls Tryz.prog 16 #[.agg #[.slice A rs.length cap, .string p, .string g, .string l], .string o, .string y] w fun e w' => e = .returned (.tuple #[.string ⟨#[]⟩, .bool false]) ∧ Below w.heap.size w w' := by
  obtain ⟨w0, hw0⟩ : ∃ w0, w0 = w.alloc (.cells #[.slice A rs.length cap, .string p, .string g, .string l] 27) := ⟨_, rfl⟩
  have hb0 : Below w.heap.size w w0 := by rw [hw0]; exact (Below.refl _ _).alloc (Nat.le_refl _) _
  have hs0 := SB.made w #[.slice A rs.length cap, .string p, .string g, .string l] 27
  rw [← hw0] at hs0
  have hrd0 := (h.below hb0).mono hb0.size
  by_cases hv : SetV rs p g l o
  · have hny : ¬ SetV rs p g l y := fun e => hn ⟨hv, e⟩
    have hcon := fun (w' : World) (h' : Rd w' w'.heap.size A (rotV rs)) => sFits_any w' A cap rs p g l o true h' hc hl (by simp [hv])
    have hcon2 := fun (w' : World) (h' : Rd w' w'.heap.size A (rotV rs)) => sFits_any w' A cap rs p g l y false h' hc hl (by simp [hny])
    obtain ⟨M, hM⟩ : ∃ M, M = rs.length := ⟨_, rfl⟩
    have HB0 := Lib.hid hb0; have HCON := Lib.hid hcon; have HCN2 := Lib.hid hcon2; have HRD := Lib.hid hrd0
    rw [← hM] at hw0 HCON HCN2 hs0 ⊢
    obtain ⟨P, hP⟩ : ∃ P, P = w.heap.size := ⟨_, rfl⟩
    rw [← hP] at hs0
    have HS0 := Lib.hid hs0
    obtain ⟨⟨c0, c1, c2, c3⟩, _⟩ := hs0.all4
    clear h hb0 hcon hcon2 hM hc hl hs0 hn hv hny hrd0
    go_enter Tryz.func16, Tryz.ntmps16
    go_wp2_with fail
    rw [← hw0]
    rw [← hP]
    clear hw0 hP
    go_wp2_with fail
    refine (HCON.out _ HRD.out).mono ?_
    rintro _ w1 ⟨rfl, hb1⟩
    have HB1 := Lib.hid (HB0.out.trans (hb1.mono HB0.out.size)); have HRD1 := Lib.hid ((HRD.out.below hb1).mono hb1.size)
    obtain ⟨⟨d0, d1, d2, d3⟩, _⟩ := (HS0.out.below hb1).all4
    clear hb1 c0 c1 c2 c3
    go_wp2_with fail
    refine (HCN2.out _ HRD1.out).mono ?_
    rintro _ w2 ⟨rfl, hb2⟩
    have HB2 := Lib.hid (HB1.out.trans (hb2.mono HB1.out.size))
    clear hb2 d0 d1 d2 d3
    go_wp2_with fail
    go_ret2
    exact ⟨rfl, HB2.out⟩
  · have hcon := sFits_any w0 A cap rs p g l o false hrd0 hc hl (by simp [hv])
    obtain ⟨M, hM⟩ : ∃ M, M = rs.length := ⟨_, rfl⟩
    have HB0 := Lib.hid hb0; have HCON := Lib.hid hcon
    rw [← hM] at hw0 HCON hs0 ⊢
    obtain ⟨P, hP⟩ : ∃ P, P = w.heap.size := ⟨_, rfl⟩
    rw [← hP] at hs0
    obtain ⟨⟨c0, c1, c2, c3⟩, _⟩ := hs0.all4
    clear h hb0 hcon hM hc hl hs0 hn hv hrd0
    go_enter Tryz.func16, Tryz.ntmps16
    go_wp2_with fail
    rw [← hw0]
    rw [← hP]
    clear hw0 hP
    go_wp2_with fail
    refine HCON.out.mono ?_
    rintro _ w1 ⟨rfl, hb1⟩
    have HB1 := Lib.hid (HB0.out.trans (hb1.mono HB0.out.size))
    clear hb1 c0 c1 c2 c3
    go_wp2_with fail
    go_ret2
    exact ⟨rfl, HB1.out⟩

set_option maxHeartbeats 4000000 in
set_option maxRecDepth 100000 in
theorem sDoubleInd_yes (w : World) (A : Option Addr) (cap : Nat) (rs : List (ByteArray × ByteArray)) (p g l o y s : ByteArray) (h : Rd w w.heap.size A (rotV rs)) (hc : rs.length ≤ cap) (hl : rs.length ≤ 100) (hv : SetV rs p g l o) (hy : SetV rs p g l y) (hyz : y.size ≤ 3) (hen : SL8Is rs p g l o (y ++ y) s) :
    Calls Tryz.prog 16 #[.agg #[.slice A rs.length cap, .string p, .string g, .string l], .string o, .string y] w fun e w' => e = .returned (.tuple #[.string s, .bool true]) ∧ Below w.heap.size w w' := by
  obtain ⟨w0, hw0⟩ : ∃ w0, w0 = w.alloc (.cells #[.slice A rs.length cap, .string p, .string g, .string l] 27) := ⟨_, rfl⟩
  have hb0 : Below w.heap.size w w0 := by rw [hw0]; exact (Below.refl _ _).alloc (Nat.le_refl _) _
  have hs0 := SB.made w #[.slice A rs.length cap, .string p, .string g, .string l] 27
  rw [← hw0] at hs0
  have hrd0 := (h.below hb0).mono hb0.size
  have hcon := fun (w' : World) (h' : Rd w' w'.heap.size A (rotV rs)) => sFits_any w' A cap rs p g l o true h' hc hl (by simp [hv])
  have hcon2 := fun (w' : World) (h' : Rd w' w'.heap.size A (rotV rs)) => sFits_any w' A cap rs p g l y true h' hc hl (by simp [hy])
  have hen2 := fun (w' : World) (h' : Rd w' w'.heap.size A (rotV rs)) => hen w' A cap h' hc
  obtain ⟨M, hM⟩ : ∃ M, M = rs.length := ⟨_, rfl⟩
  have HB0 := Lib.hid hb0; have HCON := Lib.hid hcon; have HCN2 := Lib.hid hcon2; have HRD := Lib.hid hrd0; have HEN := Lib.hid hen2
  rw [← hM] at hw0 HCON HCN2 HEN hs0 ⊢
  obtain ⟨P, hP⟩ : ∃ P, P = w.heap.size := ⟨_, rfl⟩
  rw [← hP] at hs0
  have HS0 := Lib.hid hs0
  obtain ⟨⟨c0, c1, c2, c3⟩, _⟩ := hs0.all4
  have v1 : ¬ 9223372036854775807 < y.size + y.size := by omega
  clear h hb0 hcon hcon2 hM hc hl hs0 hv hy hrd0 hen hen2 hyz
  go_enter Tryz.func16, Tryz.ntmps16
  go_wp2_with fail
  rw [← hw0]
  rw [← hP]
  clear hw0 hP
  go_wp2_with fail
  refine (HCON.out _ HRD.out).mono ?_
  rintro _ w1 ⟨rfl, hb1⟩
  have HB1 := Lib.hid (HB0.out.trans (hb1.mono HB0.out.size)); have HRD1 := Lib.hid ((HRD.out.below hb1).mono hb1.size); have HS1 := Lib.hid (HS0.out.below hb1)
  obtain ⟨⟨d0, d1, d2, d3⟩, _⟩ := HS1.out.all4
  clear hb1 c0 c1 c2 c3
  go_wp2_with fail
  refine (HCN2.out _ HRD1.out).mono ?_
  rintro _ w2 ⟨rfl, hb2⟩
  have HB2 := Lib.hid (HB1.out.trans (hb2.mono HB1.out.size)); have HRD2 := Lib.hid ((HRD1.out.below hb2).mono hb2.size)
  obtain ⟨⟨c0, c1, c2, c3⟩, _⟩ := (HS1.out.below hb2).all4
  clear hb2 d0 d1 d2 d3
  go_wp2_with fail
  refine (HEN.out _ HRD2.out).mono ?_
  rintro _ w3 ⟨rfl, hb3⟩
  have HB3 := Lib.hid (HB2.out.trans (hb3.mono HB2.out.size))
  clear hb3 c0 c1 c2 c3
  go_wp2_with fail
  go_ret2
  exact ⟨rfl, HB3.out⟩

end Go.Proofs.YtflaoicjgigcaaaGreatDoor
