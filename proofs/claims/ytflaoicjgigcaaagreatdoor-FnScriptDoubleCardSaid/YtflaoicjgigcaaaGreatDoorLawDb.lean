/-
  The walk of the law FnScriptDouble: it returns true whatever the bytes are; nothing that was there is changed. No conditions.
-/
import Derived.Test.YtflaoicjgigcaaaGreatDoorEncB
import Derived.Test.YtflaoicjgigcaaaGreatDoorDblR
import Derived.Test.YtflaoicjgigcaaaGreatDoorDblS
import Derived.Test.YtflaoicjgigcaaaGreatDoorMachP
import Derived.Test.YtflaoicjgigcaaaGreatDoorDrawDb
namespace Go.Proofs.YtflaoicjgigcaaaGreatDoor
open Go.RowKit Pl
set_option linter.unusedVariables false

theorem db_setup (rs : List (ByteArray × ByteArray)) (p g o T : ByteArray) (q : List Nat) (hT : T = mk (machT rs p g q)) :
    tl (⟨#[109, 97, 99, 104, 105, 110, 101, 32]⟩ ++ T ++ ⟨#[10, 119, 105, 110, 100, 111, 119, 115, 32]⟩ ++ o ++ ⟨#[10]⟩) = [machLine rs p g q, windLine o].flatMap (· ++ [10]) := by
  subst hT
  simp only [append_tl, tl_mk]
  rw [show tl (⟨#[109, 97, 99, 104, 105, 110, 101, 32]⟩ : ByteArray) = [109, 97, 99, 104, 105, 110, 101, 32] from rfl, show tl (⟨#[10, 119, 105, 110, 100, 111, 119, 115, 32]⟩ : ByteArray) = [10, 119, 105, 110, 100, 111, 119, 115, 32] from rfl, show tl (⟨#[10]⟩ : ByteArray) = [10] from rfl]
  simp [machLine, windLine]
theorem db_text (rs : List (ByteArray × ByteArray)) (p g o SU y s D : ByteArray) (q : List Nat) (hS : tl SU = [machLine rs p g q, windLine o].flatMap (· ++ [10])) (h1 : D = dash s) :
    tl (SU ++ ⟨#[100, 111, 117, 98, 108, 101, 32]⟩ ++ y ++ ⟨#[10, 114, 101, 97, 100, 32]⟩ ++ D ++ ⟨#[10]⟩) = [machLine rs p g q, windLine o, dblLine y, readLine s].flatMap (· ++ [10]) := by
  subst h1
  simp only [append_tl, tl_mk]
  rw [hS, show tl (⟨#[100, 111, 117, 98, 108, 101, 32]⟩ : ByteArray) = [100, 111, 117, 98, 108, 101, 32] from rfl, show tl (⟨#[10, 114, 101, 97, 100, 32]⟩ : ByteArray) = [10, 114, 101, 97, 100, 32] from rfl, show tl (⟨#[10]⟩ : ByteArray) = [10] from rfl]
  simp [dblLine, readLine]
theorem db_out (a b : ByteArray) : mk ([111, 107, 10, 111, 107, 10] ++ (tl a ++ [10]) ++ (tl b ++ [10])) = ⟨#[111, 107, 10, 111, 107, 10]⟩ ++ a ++ ⟨#[10]⟩ ++ b ++ ⟨#[10]⟩ := by
  apply tl_inj
  simp only [append_tl, tl_mk]
  rw [show tl (⟨#[111, 107, 10, 111, 107, 10]⟩ : ByteArray) = [111, 107, 10, 111, 107, 10] from rfl, show tl (⟨#[10]⟩ : ByteArray) = [10] from rfl]
  simp

set_option maxHeartbeats 8000000 in
set_option maxRecDepth 100000 in
theorem fnScriptDouble_walk (w : World) (hml : GW w) (A : Option Addr) (cap : Nat) (bs : List UInt8) (h : Rd w w.heap.size A (bytesV bs)) (hc : bs.length ≤ cap) :
    Calls Tryz.prog 4 #[.slice A bs.length cap] w fun e w' => e = .returned (.bool true) ∧ Below w.heap.size w w' := by
  have HML := Lib.hid hml; clear hml
  by_cases hlen : 1048576 < bs.length
  · go_enter Tryz.func4, Tryz.ntmps4
    go_wp2_with fail
    go_ret
    exact ⟨rfl, Below.refl _ _⟩
  · go_enter Tryz.func4, Tryz.ntmps4
    go_wp2_with fail
    refine (drawDouble_any w A cap bs h hc).mono ?_
    rintro _ w1 ⟨A1, cx, rs, p, g, l, o, y, rfl, hr1, hc1, hrz, hpz, hgz, hlz, hoz, hyz, _, hb1⟩
    have HB1 := Lib.hid hb1; clear hb1 h hc hlen
    obtain ⟨w2, hw2⟩ : ∃ w2, w2 = w1.alloc (.cells #[.slice A1 rs.length cx, .string p, .string g, .string l] 27) := ⟨_, rfl⟩
    have hal : Below w1.heap.size w1 w2 := by rw [hw2]; exact (Below.refl _ _).alloc (Nat.le_refl _) _
    have hs2 := SB.made w1 #[.slice A1 rs.length cx, .string p, .string g, .string l] 27
    rw [← hw2] at hs2
    have HB2 := Lib.hid (HB1.out.trans (hal.mono HB1.out.size)); have HR2 := Lib.hid ((hr1.below hal).mono hal.size)
    clear hal hr1 HB1
    have hl : rs.length ≤ 100 := by omega
    by_cases hvx : SetV rs p g l o ∧ SetV rs p g l y
    · obtain ⟨hv, hy⟩ := hvx
      have hyg : y.size = o.size := by have := hv.2.1; have := hy.2.1; omega
      have hg3 : g.size ≤ 3 := by have := hv.1.1.1.2.1; have := hv.1.1.2.1; omega
      have hyo := hv.2.1
      have hyy : wv (tl (y ++ y)) = true := twice_wv hy.2.2 (by omega)
      obtain ⟨s, u, hs, hsz, huz, hE1, hE2, hE3, hE4⟩ := enc_pair hv hyy
      have hsz2 : s.size = 2 * o.size := by rw [hsz, ByteArray.size_append]; omega
      have hvo := hv; have hvy := hy
      obtain ⟨⟨hwv, q, hq, hi, rfl⟩, hog, hwo⟩ := hv
      have ho3 : o.size ≤ 3 := by have := hwv.1.2.1; have := hwv.2.1; omega
      have ho1 : 1 ≤ o.size := by have := hwv.1.1; have := hwv.2.1; omega
      have hsn : tl s ≠ [] := by intro e; have := congrArg List.length e; rw [length_tl, List.length_nil] at this; omega
      obtain ⟨SU, hSU⟩ : ∃ SU : ByteArray, SU = ⟨#[109, 97, 99, 104, 105, 110, 101, 32]⟩ ++ mk (machT rs p g q) ++ ⟨#[10, 119, 105, 110, 100, 111, 119, 115, 32]⟩ ++ o ++ ⟨#[10]⟩ := ⟨_, rfl⟩
      have hsu := db_setup rs p g o _ q rfl
      rw [← hSU] at hsu
      have hSUz : SU.size ≤ 200 := by
        have zm := @machT_len rs p g q hwv
        rw [hSU]
        simp only [ByteArray.size_append, size_mk]
        have z1 : (⟨#[109, 97, 99, 104, 105, 110, 101, 32]⟩ : ByteArray).size = 8 := rfl
        have z2 : (⟨#[10, 119, 105, 110, 100, 111, 119, 115, 32]⟩ : ByteArray).size = 9 := rfl
        have z3 : (⟨#[10]⟩ : ByteArray).size = 1 := rfl
        omega
      have hse := fun (w' : World) (h' : Rd w' w'.heap.size A1 (rotV rs)) => rcSetup_ok w' A1 cx rs p g o q h' hc1 hwv hq hi (by omega)
      rw [← hSU] at hse
      have hrun := fun (w' : World) (hg' : GW w') => run_double w' hg' _ rs p g o q y s u hwv hq hi hog hwo hvo hvy hs hsz2 hE1 hE2 (db_text rs p g o SU y s s q hsu (dash_word hsn).symm)
      rw [db_out] at hrun
      have HE1 := Lib.hid (fun (w' : World) (h' : Rd w' w'.heap.size A1 (rotV rs)) => doubleInd_yes w' A1 cx rs p g (pT q) o y s u h' hc1 hl hvo hvy (by omega) hE1)
      have HE3 := Lib.hid (fun (w' : World) (h' : Rd w' w'.heap.size A1 (rotV rs)) => sDoubleInd_yes w' A1 cx rs p g (pT q) o y s h' hc1 hl hvo hvy (by omega) hE4)
      have HSE := Lib.hid hse; have HRU := Lib.hid hrun
      have hsz3 : s.size ≤ 10 := by omega
      clear hse hrun hE1 hE2 hE3 hE4 hsu hSU hwv hq hi hog hwo hs huz hvo hvy hyy hsz hsz2 hyg hy hyo
      generalize pT q = l at hw2 hs2 HE1 HE3 HSE hlz
      obtain ⟨M, hM⟩ : ∃ M, M = rs.length := ⟨_, rfl⟩
      rw [← hM] at hw2 hs2 HE1 HE3 HSE ⊢
      have HS2 := Lib.hid hs2
      obtain ⟨P, hP⟩ : ∃ P, P = w1.heap.size := ⟨_, rfl⟩
      rw [← hP] at HS2
      clear hs2 hM hc1 hl
      have hke : (s.toList == s.toList) = true := beq_self_eq_true _
      obtain ⟨⟨a0, a1, a2, a3⟩, _⟩ := HS2.out.all4
      go_wp2_with fail
      rw [← hw2]
      rw [← hP]
      clear hw2 hP
      go_wp2_with fail
      refine (HE1.out _ HR2.out).mono ?_
      rintro _ w3 ⟨rfl, hb3⟩
      have HB3 := Lib.hid (HB2.out.trans (hb3.mono HB2.out.size)); have HR3 := Lib.hid ((HR2.out.below hb3).mono hb3.size); have HS3 := Lib.hid (HS2.out.below hb3)
      obtain ⟨⟨d0, d1, d2, d3⟩, _⟩ := HS3.out.all4
      clear hb3 HB2 HR2 HS2 a0 a1 a2 a3 HE1
      go_wp2_with fail
      refine (HE3.out _ HR3.out).mono ?_
      rintro _ w4 ⟨rfl, hb4⟩
      have HB4 := Lib.hid (HB3.out.trans (hb4.mono HB3.out.size)); have HR4 := Lib.hid ((HR3.out.below hb4).mono hb4.size); have HS4 := Lib.hid (HS3.out.below hb4)
      obtain ⟨⟨f0, f1, f2, f3⟩, _⟩ := HS4.out.all4
      clear hb4 HB3 HR3 HS3 d0 d1 d2 d3 HE3
      have y1 : ¬ 9223372036854775807 < SU.size + 7 := by omega
      have y2 : ¬ 9223372036854775807 < SU.size + 7 + y.size := by omega
      have y3 : ¬ 9223372036854775807 < SU.size + 7 + y.size + 6 := by omega
      have y4 : ¬ 9223372036854775807 < SU.size + 7 + y.size + 6 + s.size := by omega
      have y5 : ¬ 9223372036854775807 < SU.size + 7 + y.size + 6 + s.size + 1 := by omega
      have z1 : ¬ 9223372036854775807 < 6 + s.size := by omega
      have z2 : ¬ 9223372036854775807 < 6 + s.size + 1 := by omega
      have z3 : ¬ 9223372036854775807 < 6 + s.size + 1 + y.size := by omega
      have z4 : ¬ 9223372036854775807 < 6 + s.size + 1 + y.size + 1 := by omega
      have hfin : ((⟨#[111, 107, 10, 111, 107, 10]⟩ ++ s ++ ⟨#[10]⟩ ++ y ++ ⟨#[10]⟩ : ByteArray).toList == (⟨#[111, 107, 10, 111, 107, 10]⟩ ++ s ++ ⟨#[10]⟩ ++ y ++ ⟨#[10]⟩ : ByteArray).toList) = true := beq_self_eq_true _
      go_wp2_with fail
      refine (HSE.out _ HR4.out).mono ?_
      rintro _ w6 ⟨rfl, hb6⟩
      have HB6 := Lib.hid (HB4.out.trans (hb6.mono HB4.out.size))
      clear hb6 f0 f1 f2 f3 HB4 HR4 HS4
      go_wp2_with fail
      refine (HRU.out _ (HML.out.below HB6.out (Nat.le_refl _))).mono ?_
      rintro _ w7 ⟨rfl, hb7⟩
      have HB7 := Lib.hid (HB6.out.trans (hb7.mono HB6.out.size))
      clear hb7
      go_wp2_with fail
      go_ret
      exact ⟨rfl, HB7.out⟩
    · have HK1 := Lib.hid (fun (w' : World) (h' : Rd w' w'.heap.size A1 (rotV rs)) => doubleInd_no w' A1 cx rs p g l o y h' hc1 hl hvx)
      have HK2 := Lib.hid (fun (w' : World) (h' : Rd w' w'.heap.size A1 (rotV rs)) => sDoubleInd_no w' A1 cx rs p g l o y h' hc1 hl hvx)
      obtain ⟨M, hM⟩ : ∃ M, M = rs.length := ⟨_, rfl⟩
      rw [← hM] at hw2 hs2 HK1 HK2 ⊢
      have HS2 := Lib.hid hs2
      obtain ⟨P, hP⟩ : ∃ P, P = w1.heap.size := ⟨_, rfl⟩
      rw [← hP] at HS2
      clear hs2 hM hc1 hl hvx
      obtain ⟨⟨a0, a1, a2, a3⟩, _⟩ := HS2.out.all4
      go_wp2_with fail
      rw [← hw2]
      rw [← hP]
      clear hw2 hP
      go_wp2_with fail
      refine (HK1.out _ HR2.out).mono ?_
      rintro _ w3 ⟨rfl, hb3⟩
      have HB3 := Lib.hid (HB2.out.trans (hb3.mono HB2.out.size)); have HR3 := Lib.hid ((HR2.out.below hb3).mono hb3.size); have HS3 := Lib.hid (HS2.out.below hb3)
      obtain ⟨⟨d0, d1, d2, d3⟩, _⟩ := HS3.out.all4
      clear hb3 HB2 HR2 HS2 a0 a1 a2 a3 HK1
      go_wp2_with fail
      refine (HK2.out _ HR3.out).mono ?_
      rintro _ w4 ⟨rfl, hb4⟩
      have HB4 := Lib.hid (HB3.out.trans (hb4.mono HB3.out.size))
      clear hb4 HB3 HR3 HS3 d0 d1 d2 d3 HK2
      go_wp2_with fail
      go_ret
      exact ⟨rfl, HB4.out⟩

end Go.Proofs.YtflaoicjgigcaaaGreatDoor
