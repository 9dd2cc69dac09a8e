/-
  The walk of the law FnScriptKey: it returns true whatever the bytes are; nothing that was there is changed. No conditions.
-/
import Derived.Test.YtflaoicjgigcaaaGreatDoorKeyR
import Derived.Test.YtflaoicjgigcaaaGreatDoorMachP
import Derived.Test.YtflaoicjgigcaaaGreatDoorDrawMa
import Derived.Test.YtflaoicjgigcaaaGreatDoorRcNum
namespace Go.Proofs.YtflaoicjgigcaaaGreatDoor
open Go.RowKit Pl
set_option linter.unusedVariables false

theorem key_setup (rs : List (ByteArray × ByteArray)) (p g o T : ByteArray) (q : List Nat) (hT : T = mk (machT rs p g q)) :
    tl (⟨#[109, 97, 99, 104, 105, 110, 101, 32]⟩ ++ T ++ ⟨#[10, 119, 105, 110, 100, 111, 119, 115, 32]⟩ ++ o ++ ⟨#[10]⟩) = [machLine rs p g q, windLine o].flatMap (· ++ [10]) := by
  subst hT
  simp only [append_tl, tl_mk]
  rw [show tl (⟨#[109, 97, 99, 104, 105, 110, 101, 32]⟩ : ByteArray) = [109, 97, 99, 104, 105, 110, 101, 32] from rfl, show tl (⟨#[10, 119, 105, 110, 100, 111, 119, 115, 32]⟩ : ByteArray) = [10, 119, 105, 110, 100, 111, 119, 115, 32] from rfl, show tl (⟨#[10]⟩ : ByteArray) = [10] from rfl]
  simp [machLine, windLine]
theorem key_text (rs : List (ByteArray × ByteArray)) (p g o SU : ByteArray) (q : List Nat) (hS : tl SU = [machLine rs p g q, windLine o].flatMap (· ++ [10])) :
    tl (SU ++ ⟨#[107, 101, 121, 10]⟩) = [machLine rs p g q, windLine o, [107, 101, 121]].flatMap (· ++ [10]) := by
  simp only [append_tl, tl_mk]
  rw [hS, show tl (⟨#[107, 101, 121, 10]⟩ : ByteArray) = [107, 101, 121, 10] from rfl]
  simp
theorem fact_text (l : List UInt8) : tl (⟨#[102, 97, 99, 116, 111, 114, 115, 32]⟩ ++ mk l) = [102, 97, 99, 116, 111, 114, 115] ++ 32 :: l := by
  simp only [append_tl, tl_mk]
  rw [show tl (⟨#[102, 97, 99, 116, 111, 114, 115, 32]⟩ : ByteArray) = [102, 97, 99, 116, 111, 114, 115, 32] from rfl]
  simp
theorem key_out (s : ByteArray) : mk ([111, 107, 10, 111, 107, 10] ++ (tl s ++ [10])) = ⟨#[111, 107, 10, 111, 107, 10]⟩ ++ s ++ ⟨#[10]⟩ := by
  apply tl_inj
  simp only [append_tl, tl_mk]
  rw [show tl (⟨#[111, 107, 10, 111, 107, 10]⟩ : ByteArray) = [111, 107, 10, 111, 107, 10] from rfl, show tl (⟨#[10]⟩ : ByteArray) = [10] from rfl]
  simp

set_option maxHeartbeats 8000000 in
set_option maxRecDepth 100000 in
theorem fnScriptKey_walk (w : World) (hml : GW w) (A : Option Addr) (cap : Nat) (bs : List UInt8) (h : Rd w w.heap.size A (bytesV bs)) (hc : bs.length ≤ cap) :
    Calls Tryz.prog 3 #[.slice A bs.length cap] w fun e w' => e = .returned (.bool true) ∧ Below w.heap.size w w' := by
  have HML := Lib.hid hml; clear hml
  by_cases hlen : 1048576 < bs.length
  · go_enter Tryz.func3, Tryz.ntmps3
    go_wp2_with fail
    go_ret
    exact ⟨rfl, Below.refl _ _⟩
  · go_enter Tryz.func3, Tryz.ntmps3
    go_wp2_with fail
    refine (drawKeyPerm_any w A cap bs h hc).mono ?_
    rintro _ w1 ⟨A1, cx, rs, p, g, l, o, rfl, hr1, hc1, hrz, hpz, hgz, hlz, hoz, _, hb1⟩
    have HB1 := Lib.hid hb1; clear hb1 h hc hlen
    obtain ⟨w2, hw2⟩ : ∃ w2, w2 = w1.alloc (.cells #[.slice A1 rs.length cx, .string p, .string g, .string l] 27) := ⟨_, rfl⟩
    have hal : Below w1.heap.size w1 w2 := by rw [hw2]; exact (Below.refl _ _).alloc (Nat.le_refl _) _
    have hs2 := SB.made w1 #[.slice A1 rs.length cx, .string p, .string g, .string l] 27
    rw [← hw2] at hs2
    have HB2 := Lib.hid (HB1.out.trans (hal.mono HB1.out.size)); have HR2 := Lib.hid ((hr1.below hal).mono hal.size)
    clear hal hr1 HB1
    have hl : rs.length ≤ 100 := by omega
    by_cases hv : SetV rs p g l o
    · obtain ⟨Q, hQ, hk1, hk2⟩ := key_perm hv
      obtain ⟨⟨hwv, q, hq, hi, rfl⟩, hog, hwo⟩ := hv
      obtain ⟨n, hn, hfc⟩ := factorCount_any Q hQ
      have ho3 : o.size ≤ 3 := by have := hwv.1.2.1; have := hwv.2.1; omega
      obtain ⟨SU, hSU⟩ : ∃ SU : ByteArray, SU = ⟨#[109, 97, 99, 104, 105, 110, 101, 32]⟩ ++ mk (machT rs p g q) ++ ⟨#[10, 119, 105, 110, 100, 111, 119, 115, 32]⟩ ++ o ++ ⟨#[10]⟩ := ⟨_, rfl⟩
      have hsu := key_setup rs p g o _ q rfl
      rw [← hSU] at hsu
      have hSUz : SU.size ≤ 200 := by
        have zm := @machT_len rs p g q hwv
        rw [hSU]
        simp only [ByteArray.size_append, size_mk]
        have z1 : (⟨#[109, 97, 99, 104, 105, 110, 101, 32]⟩ : ByteArray).size = 8 := rfl
        have z2 : (⟨#[10, 119, 105, 110, 100, 111, 119, 115, 32]⟩ : ByteArray).size = 9 := rfl
        have z3 : (⟨#[10]⟩ : ByteArray).size = 1 := rfl
        omega
      have hse := fun (w' : World) (h' : Rd w' w'.heap.size A1 (rotV rs)) => rcSetup_ok w' A1 cx rs p g o q h' hc1 hwv hq hi (by omega)
      rw [← hSU] at hse
      have hfm := fun w' => formatCycles_any w' Q hQ
      have hSz : (mk (cycT Q)).size ≤ 120 := by rw [size_mk]; exact cycT_len hQ
      have hr1 := fun (w' : World) (hg' : GW w') => run_key w' hg' (SU ++ ⟨#[107, 101, 121, 10]⟩) rs p g o q Q hwv hq hi hog hwo hQ hk1 (key_text rs p g o SU q hsu)
      have hr2 := fun (w' : World) (hg' : GW w') => run_factors w' hg' (⟨#[102, 97, 99, 116, 111, 114, 115, 32]⟩ ++ mk (cycT Q)) Q hQ n hn hfc (fact_text (cycT Q))
      obtain ⟨S, hS⟩ : ∃ S, S = mk (cycT Q) := ⟨_, rfl⟩
      have hcs : cycT Q = tl S := by rw [hS, tl_mk]
      rw [hcs, key_out] at hr1
      rw [← hS] at hr2 hfm hSz
      obtain ⟨NN, hNN⟩ : ∃ NN, NN = mk (Lib.itoa (n : Int)) := ⟨_, rfl⟩
      have hnu : ∀ (w' : World), Calls Tryz.prog 12 #[.int .i64 n] w' fun e w'' => e = .returned (.string NN) ∧ Below w'.heap.size w' w'' := fun w' => by
        rw [hNN, itoa_nat]; exact rcNumber_any w' n (by omega)
      rw [← hNN] at hr2
      have hNz : NN.size ≤ 14 := by rw [hNN, size_mk]; exact (itoa_len n (by omega)).2
      have HK1 := Lib.hid (fun (w' : World) (h' : Rd w' w'.heap.size A1 (rotV rs)) => hk1 w' A1 cx h' hc1)
      have HK2 := Lib.hid (fun (w' : World) (h' : Rd w' w'.heap.size A1 (rotV rs)) => hk2 w' A1 cx h' hc1)
      have HSE := Lib.hid hse; have HR1 := Lib.hid hr1; have HRF := Lib.hid hr2; have HNU := Lib.hid hnu; have HFM := Lib.hid hfm; have HFC := Lib.hid hfc
      clear hse hr1 hr2 hnu hfm hfc hk1 hk2 hNN hS hcs hsu hSU hwv hq hi hog hwo hn hQ
      generalize pT q = l at hw2 hs2 HK1 HK2 HSE hlz
      generalize pT Q = KP at HK1 HK2 HFM HFC
      obtain ⟨M, hM⟩ : ∃ M, M = rs.length := ⟨_, rfl⟩
      rw [← hM] at hw2 hs2 HK1 HK2 HSE ⊢
      have HS2 := Lib.hid hs2
      obtain ⟨P, hP⟩ : ∃ P, P = w1.heap.size := ⟨_, rfl⟩
      rw [← hP] at HS2
      clear hs2 hM hc1 hl
      have hke : (KP.toList == KP.toList) = true := beq_self_eq_true _
      obtain ⟨⟨a0, a1, a2, a3⟩, _⟩ := HS2.out.all4
      go_wp2_with fail
      rw [← hw2]
      rw [← hP]
      clear hw2 hP
      go_wp2_with fail
      refine (HK1.out _ HR2.out).mono ?_
      rintro _ w3 ⟨rfl, hb3⟩
      have HB3 := Lib.hid (HB2.out.trans (hb3.mono HB2.out.size)); have HR3 := Lib.hid ((HR2.out.below hb3).mono hb3.size); have HS3 := Lib.hid (HS2.out.below hb3)
      obtain ⟨⟨d0, d1, d2, d3⟩, _⟩ := HS3.out.all4
      clear hb3 HB2 HR2 HS2 a0 a1 a2 a3 HK1
      go_wp2_with fail
      refine (HK2.out _ HR3.out).mono ?_
      rintro _ w4 ⟨rfl, hb4⟩
      have HB4 := Lib.hid (HB3.out.trans (hb4.mono HB3.out.size)); have HR4 := Lib.hid ((HR3.out.below hb4).mono hb4.size); have HS4 := Lib.hid (HS3.out.below hb4)
      clear hb4 HB3 HR3 HS3 d0 d1 d2 d3 HK2
      go_wp2_with fail
      refine (HFM.out _).mono ?_
      rintro _ w5 ⟨rfl, hb5⟩
      have HB5 := Lib.hid (HB4.out.trans (hb5.mono HB4.out.size)); have HR5 := Lib.hid ((HR4.out.below hb5).mono hb5.size); have HS5 := Lib.hid (HS4.out.below hb5)
      obtain ⟨⟨f0, f1, f2, f3⟩, _⟩ := HS5.out.all4
      clear hb5 HB4 HR4 HS4 HFM
      have y1 : ¬ 9223372036854775807 < SU.size + 4 := by omega
      have y2 : ¬ 9223372036854775807 < 6 + S.size := by omega
      have y3 : ¬ 9223372036854775807 < 6 + S.size + 1 := by omega
      have y4 : ¬ 9223372036854775807 < 8 + S.size := by omega
      have y5 : ¬ 9223372036854775807 < NN.size + 1 := by omega
      have hfin : ((⟨#[111, 107, 10, 111, 107, 10]⟩ ++ S ++ ⟨#[10]⟩ : ByteArray).toList == (⟨#[111, 107, 10, 111, 107, 10]⟩ ++ S ++ ⟨#[10]⟩ : ByteArray).toList) = true := beq_self_eq_true _
      have hfin2 : ((NN ++ ⟨#[10]⟩ : ByteArray).toList == (NN ++ ⟨#[10]⟩ : ByteArray).toList) = true := beq_self_eq_true _
      go_wp2_with fail
      refine (HSE.out _ HR5.out).mono ?_
      rintro _ w6 ⟨rfl, hb6⟩
      have HB6 := Lib.hid (HB5.out.trans (hb6.mono HB5.out.size))
      clear hb6 f0 f1 f2 f3
      go_wp2_with fail
      refine (HR1.out _ (HML.out.below HB6.out (Nat.le_refl _))).mono ?_
      rintro _ w7 ⟨rfl, hb7⟩
      have HB7 := Lib.hid (HB6.out.trans (hb7.mono HB6.out.size))
      clear hb7
      go_wp2_with fail
      refine (HRF.out _ (HML.out.below HB7.out (Nat.le_refl _))).mono ?_
      rintro _ w8 ⟨rfl, hb8⟩
      have HB8 := Lib.hid (HB7.out.trans (hb8.mono HB7.out.size))
      clear hb8
      go_wp2_with fail
      refine (HFC.out _).mono ?_
      rintro _ w9 ⟨rfl, hb9⟩
      have HB9 := Lib.hid (HB8.out.trans (hb9.mono HB8.out.size))
      clear hb9
      go_wp2_with fail
      refine (HNU.out _).mono ?_
      rintro _ w10 ⟨rfl, hb10⟩
      have HB10 := Lib.hid (HB9.out.trans (hb10.mono HB9.out.size))
      clear hb10
      go_wp2_with fail
      go_ret
      exact ⟨rfl, HB10.out⟩
    · have HK1 := Lib.hid (fun (w' : World) (h' : Rd w' w'.heap.size A1 (rotV rs)) => keyPerm_no w' A1 cx rs p g l o h' hc1 hl hv)
      have HK2 := Lib.hid (fun (w' : World) (h' : Rd w' w'.heap.size A1 (rotV rs)) => sKeyPerm_no w' A1 cx rs p g l o h' hc1 hl hv)
      obtain ⟨M, hM⟩ : ∃ M, M = rs.length := ⟨_, rfl⟩
      rw [← hM] at hw2 hs2 HK1 HK2 ⊢
      have HS2 := Lib.hid hs2
      obtain ⟨P, hP⟩ : ∃ P, P = w1.heap.size := ⟨_, rfl⟩
      rw [← hP] at HS2
      clear hs2 hM hc1 hl hv
      obtain ⟨⟨a0, a1, a2, a3⟩, _⟩ := HS2.out.all4
      go_wp2_with fail
      rw [← hw2]
      rw [← hP]
      clear hw2 hP
      go_wp2_with fail
      refine (HK1.out _ HR2.out).mono ?_
      rintro _ w3 ⟨rfl, hb3⟩
      have HB3 := Lib.hid (HB2.out.trans (hb3.mono HB2.out.size)); have HR3 := Lib.hid ((HR2.out.below hb3).mono hb3.size); have HS3 := Lib.hid (HS2.out.below hb3)
      obtain ⟨⟨d0, d1, d2, d3⟩, _⟩ := HS3.out.all4
      clear hb3 HB2 HR2 HS2 a0 a1 a2 a3 HK1
      go_wp2_with fail
      refine (HK2.out _ HR3.out).mono ?_
      rintro _ w4 ⟨rfl, hb4⟩
      have HB4 := Lib.hid (HB3.out.trans (hb4.mono HB3.out.size))
      clear hb4 HB3 HR3 HS3 d0 d1 d2 d3 HK2
      go_wp2_with fail
      go_ret
      exact ⟨rfl, HB4.out⟩

end Go.Proofs.YtflaoicjgigcaaaGreatDoor
