/-
  The walk of the law FnScriptShow: it returns true whatever the bytes are; nothing that was there is changed. No conditions.
-/
import Derived.Test.YtlbngohbbcdfkaaGreatDoorScriptS
import Derived.Test.YtlbngohbbcdfkaaGreatDoorMachP
import Derived.Test.YtlbngohbbcdfkaaGreatDoorDrawMa
namespace Go.Proofs.YtlbngohbbcdfkaaGreatDoor
open Go.RowKit Pl
set_option linter.unusedVariables false

theorem show_text (rs : List (ByteArray × ByteArray)) (p g o T : ByteArray) (q : List Nat) (hT : T = mk (machT rs p g q)) :
    tl (⟨#[109, 97, 99, 104, 105, 110, 101, 32]⟩ ++ T ++ ⟨#[10, 119, 105, 110, 100, 111, 119, 115, 32]⟩ ++ o ++ ⟨#[10]⟩ ++ ⟨#[115, 104, 111, 119, 10]⟩) = [machLine rs p g q, windLine o, [115, 104, 111, 119]].flatMap (· ++ [10]) := by
  subst hT
  simp only [append_tl, tl_mk]
  rw [show tl (⟨#[109, 97, 99, 104, 105, 110, 101, 32]⟩ : ByteArray) = [109, 97, 99, 104, 105, 110, 101, 32] from rfl, show tl (⟨#[10, 119, 105, 110, 100, 111, 119, 115, 32]⟩ : ByteArray) = [10, 119, 105, 110, 100, 111, 119, 115, 32] from rfl, show tl (⟨#[10]⟩ : ByteArray) = [10] from rfl, show tl (⟨#[115, 104, 111, 119, 10]⟩ : ByteArray) = [115, 104, 111, 119, 10] from rfl]
  simp [machLine, windLine]
theorem show_out (rs : List (ByteArray × ByteArray)) (p g o T : ByteArray) (q : List Nat) (hT : T = mk (machT rs p g q)) :
    mk ([111, 107, 10, 111, 107, 10] ++ (showT rs p g q o ++ [10])) = ⟨#[111, 107, 10, 111, 107, 10, 109, 97, 99, 104, 105, 110, 101, 32]⟩ ++ T ++ ⟨#[10, 119, 105, 110, 100, 111, 119, 115, 32]⟩ ++ o ++ ⟨#[10, 98, 111, 111, 107, 32, 45, 10]⟩ := by
  subst hT
  unfold showT
  simp only [append_tl, tl_mk]
  rw [show tl (⟨#[111, 107, 10, 111, 107, 10, 109, 97, 99, 104, 105, 110, 101, 32]⟩ : ByteArray) = [111, 107, 10, 111, 107, 10, 109, 97, 99, 104, 105, 110, 101, 32] from rfl, show tl (⟨#[10, 119, 105, 110, 100, 111, 119, 115, 32]⟩ : ByteArray) = [10, 119, 105, 110, 100, 111, 119, 115, 32] from rfl, show tl (⟨#[10, 98, 111, 111, 107, 32, 45, 10]⟩ : ByteArray) = [10, 98, 111, 111, 107, 32, 45, 10] from rfl]
  simp

set_option maxHeartbeats 8000000 in
set_option maxRecDepth 100000 in
theorem fnScriptShow_walk (w : World) (hml : GW w) (A : Option Addr) (cap : Nat) (bs : List UInt8) (h : Rd w w.heap.size A (bytesV bs)) (hc : bs.length ≤ cap) :
    Calls Tryz.prog 4 #[.slice A bs.length cap] w fun e w' => e = .returned (.bool true) ∧ Below w.heap.size w w' := by
  have HML := Lib.hid hml; clear hml
  by_cases hlen : 1048576 < bs.length
  · go_enter Tryz.func4, Tryz.ntmps4
    go_wp2_with fail
    go_ret
    exact ⟨rfl, Below.refl _ _⟩
  · go_enter Tryz.func4, Tryz.ntmps4
    go_wp2_with fail
    refine (drawKeyPerm_any w A cap bs h hc).mono ?_
    rintro _ w1 ⟨A1, c1, rs, p, g, l, o, rfl, hr1, hc1, hrz, hpz, hgz, hlz, hoz, _, hb1⟩
    have HB1 := Lib.hid hb1; clear hb1 h hc hlen
    obtain ⟨w2, hw2⟩ : ∃ w2, w2 = w1.alloc (.cells #[.slice A1 rs.length c1, .string p, .string g, .string l] 41) := ⟨_, rfl⟩
    have hal : Below w1.heap.size w1 w2 := by rw [hw2]; exact (Below.refl _ _).alloc (Nat.le_refl _) _
    have hs2 := SB.made w1 #[.slice A1 rs.length c1, .string p, .string g, .string l] 41
    rw [← hw2] at hs2
    have HB2 := Lib.hid (HB1.out.trans (hal.mono HB1.out.size)); have HR2 := Lib.hid ((hr1.below hal).mono hal.size)
    clear hal hr1 HB1
    by_cases hm : MachV rs p g l
    · obtain ⟨hv, q, hq, hi, rfl⟩ := hm
      have hfm := fun (w' : World) (h' : Rd w' w'.heap.size A1 (rotV rs)) => formatMachine_yes w' A1 c1 rs p g q h' hc1 hv hq hi
      have hsf := fun (w' : World) (h' : Rd w' w'.heap.size A1 (rotV rs)) => sFormatMachine_yes w' A1 c1 rs p g q h' hc1 hv hq hi
      obtain ⟨b, hb⟩ : ∃ b : Bool, b = true ↔ (wv (tl o) = true ∧ o.size = rs.length) := ⟨decide (wv (tl o) = true ∧ o.size = rs.length), by simp⟩
      have hrf := fun (w' : World) (h' : Rd w' w'.heap.size A1 (rotV rs)) => rcFits_yes w' A1 c1 rs p g (pT q) o b h' hc1 ⟨hv, q, hq, hi, rfl⟩ hb
      have hse := fun (w' : World) (h' : Rd w' w'.heap.size A1 (rotV rs)) => rcSetup_ok w' A1 c1 rs p g o q h' hc1 hv hq hi (by omega)
      have zm := @machT_len rs p g q hv
      have zw : (mk (machT rs p g q)).size ≤ 110 := by rw [size_mk]; exact zm
      obtain ⟨T, hT⟩ : ∃ T, T = mk (machT rs p g q) := ⟨_, rfl⟩
      have hrun : b = true → ∀ (w' : World), GW w' → _ := fun e w' hg => run_show w' hg _ rs p g o q hv hq hi (by have := (hb.1 e).2; have := hv.2.1; omega) (hb.1 e).1 (show_text rs p g o T q hT)
      rw [show_out rs p g o T q hT] at hrun
      rw [← hT] at hfm hsf hse zw
      have HFM := Lib.hid hfm; have HSF := Lib.hid hsf; have HRF := Lib.hid hrf; have HSE := Lib.hid hse; have HRUN := Lib.hid hrun
      have HS2 := Lib.hid hs2
      obtain ⟨P, hP⟩ : ∃ P, P = w1.heap.size := ⟨_, rfl⟩
      rw [← hP] at HS2
      clear hfm hsf hrf hse hrun hb hv hq hi hT zm hs2
      generalize pT q = l at hw2 HS2 HFM HSF HRF HSE hlz
      obtain ⟨⟨a0, a1, a2, a3⟩, _⟩ := HS2.out.all4
      go_wp2_with fail
      rw [← hw2]
      rw [← hP]
      clear hw2 hP
      go_wp2_with fail
      refine (HFM.out _ HR2.out).mono ?_
      rintro _ w3 ⟨rfl, hb3⟩
      have HB3 := Lib.hid (HB2.out.trans (hb3.mono HB2.out.size)); have HR3 := Lib.hid ((HR2.out.below hb3).mono hb3.size); have HS3 := Lib.hid (HS2.out.below hb3)
      obtain ⟨⟨d0, d1, d2, d3⟩, _⟩ := HS3.out.all4
      clear hb3 HB2 HR2 HS2 a0 a1 a2 a3 HFM
      go_wp2_with fail
      refine (HSF.out _ HR3.out).mono ?_
      rintro _ w4 ⟨rfl, hb4⟩
      have HB4 := Lib.hid (HB3.out.trans (hb4.mono HB3.out.size)); have HR4 := Lib.hid ((HR3.out.below hb4).mono hb4.size); have HS4 := Lib.hid (HS3.out.below hb4)
      obtain ⟨⟨e0, e1, e2, e3⟩, _⟩ := HS4.out.all4
      have hne : (T.toList == T.toList) = true := beq_self_eq_true _
      clear hb4 HB3 HR3 HS3 d0 d1 d2 d3
      go_wp2_with fail
      refine (HRF.out _ HR4.out).mono ?_
      rintro _ w5 ⟨rfl, hb5⟩
      have HB5 := Lib.hid (HB4.out.trans (hb5.mono HB4.out.size)); have HR5 := Lib.hid ((HR4.out.below hb5).mono hb5.size); have HS5 := Lib.hid (HS4.out.below hb5)
      obtain ⟨⟨f0, f1, f2, f3⟩, _⟩ := HS5.out.all4
      clear hb5 HB4 HR4 HS4 e0 e1 e2 e3 HRF
      cases b with
      | false =>
        go_wp2_with fail
        refine (HSF.out _ HR5.out).mono ?_
        rintro _ w6 ⟨rfl, hb6⟩
        have HB6 := Lib.hid (HB5.out.trans (hb6.mono HB5.out.size))
        clear hb6
        go_wp2_with fail
        go_ret
        exact ⟨rfl, HB6.out⟩
      | true =>
        go_wp2_with fail
        refine (HSE.out _ HR5.out).mono ?_
        rintro _ w6 ⟨rfl, hb6⟩
        have HB6 := Lib.hid (HB5.out.trans (hb6.mono HB5.out.size))
        clear hb6
        have y1 : ¬ 9223372036854775807 < 8 + T.size + 9 + o.size + 1 + 5 := by omega
        go_wp2_with fail
        refine (HRUN.out (by first | trivial | rfl) _ (HML.out.below HB6.out (Nat.le_refl _))).mono ?_
        rintro _ w7 ⟨rfl, hb7⟩
        have HB7 := Lib.hid (HB6.out.trans (hb7.mono HB6.out.size))
        clear hb7
        have y2 : ¬ 9223372036854775807 < 14 + T.size := by omega
        have y3 : ¬ 9223372036854775807 < 14 + T.size + 9 := by omega
        have y4 : ¬ 9223372036854775807 < 14 + T.size + 9 + o.size := by omega
        have y5 : ¬ 9223372036854775807 < 14 + T.size + 9 + o.size + 8 := by omega
        have hfin : ((⟨#[111, 107, 10, 111, 107, 10, 109, 97, 99, 104, 105, 110, 101, 32]⟩ ++ T ++ ⟨#[10, 119, 105, 110, 100, 111, 119, 115, 32]⟩ ++ o ++ ⟨#[10, 98, 111, 111, 107, 32, 45, 10]⟩ : ByteArray).toList == (⟨#[111, 107, 10, 111, 107, 10, 109, 97, 99, 104, 105, 110, 101, 32]⟩ ++ T ++ ⟨#[10, 119, 105, 110, 100, 111, 119, 115, 32]⟩ ++ o ++ ⟨#[10, 98, 111, 111, 107, 32, 45, 10]⟩ : ByteArray).toList) = true := beq_self_eq_true _
        go_wp2_with fail
        go_ret
        exact ⟨rfl, HB7.out⟩
    · have hl : rs.length ≤ 100 := by omega
      have hfm := fun (w' : World) (h' : Rd w' w'.heap.size A1 (rotV rs)) => formatMachine_no w' A1 c1 rs p g l h' hc1 hl hm
      have hsf := fun (w' : World) (h' : Rd w' w'.heap.size A1 (rotV rs)) => sFormatMachine_no w' A1 c1 rs p g l h' hc1 hl hm
      have hrf := fun (w' : World) (h' : Rd w' w'.heap.size A1 (rotV rs)) => rcFits_no w' A1 c1 rs p g l o h' hc1 hl hm
      obtain ⟨T, hT⟩ : ∃ T, T = mk [] := ⟨_, rfl⟩
      rw [← hT] at hfm hsf
      have HFM := Lib.hid hfm; have HSF := Lib.hid hsf; have HRF := Lib.hid hrf
      have HS2 := Lib.hid hs2
      obtain ⟨P, hP⟩ : ∃ P, P = w1.heap.size := ⟨_, rfl⟩
      rw [← hP] at HS2
      clear hfm hsf hrf hT hs2 hm
      obtain ⟨⟨a0, a1, a2, a3⟩, _⟩ := HS2.out.all4
      go_wp2_with fail
      rw [← hw2]
      rw [← hP]
      clear hw2 hP
      go_wp2_with fail
      refine (HFM.out _ HR2.out).mono ?_
      rintro _ w3 ⟨rfl, hb3⟩
      have HB3 := Lib.hid (HB2.out.trans (hb3.mono HB2.out.size)); have HR3 := Lib.hid ((HR2.out.below hb3).mono hb3.size); have HS3 := Lib.hid (HS2.out.below hb3)
      obtain ⟨⟨d0, d1, d2, d3⟩, _⟩ := HS3.out.all4
      clear hb3 HB2 HR2 HS2 a0 a1 a2 a3 HFM
      go_wp2_with fail
      refine (HSF.out _ HR3.out).mono ?_
      rintro _ w4 ⟨rfl, hb4⟩
      have HB4 := Lib.hid (HB3.out.trans (hb4.mono HB3.out.size)); have HR4 := Lib.hid ((HR3.out.below hb4).mono hb4.size); have HS4 := Lib.hid (HS3.out.below hb4)
      obtain ⟨⟨e0, e1, e2, e3⟩, _⟩ := HS4.out.all4
      have hne : (T.toList == T.toList) = true := beq_self_eq_true _
      clear hb4 HB3 HR3 HS3 d0 d1 d2 d3
      go_wp2_with fail
      refine (HRF.out _ HR4.out).mono ?_
      rintro _ w5 ⟨rfl, hb5⟩
      have HB5 := Lib.hid (HB4.out.trans (hb5.mono HB4.out.size)); have HR5 := Lib.hid ((HR4.out.below hb5).mono hb5.size); have HS5 := Lib.hid (HS4.out.below hb5)
      obtain ⟨⟨f0, f1, f2, f3⟩, _⟩ := HS5.out.all4
      clear hb5 HB4 HR4 HS4 e0 e1 e2 e3 HRF
      go_wp2_with fail
      refine (HSF.out _ HR5.out).mono ?_
      rintro _ w6 ⟨rfl, hb6⟩
      have HB6 := Lib.hid (HB5.out.trans (hb6.mono HB5.out.size))
      clear hb6
      go_wp2_with fail
      go_ret
      exact ⟨rfl, HB6.out⟩

end Go.Proofs.YtlbngohbbcdfkaaGreatDoor
