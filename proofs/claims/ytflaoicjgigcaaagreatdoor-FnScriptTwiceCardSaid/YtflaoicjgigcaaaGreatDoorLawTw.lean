/-
  The walk of the law FnScriptTwice: it returns true whatever the bytes are; nothing that was there is changed. No conditions.
-/
import Derived.Test.YtflaoicjgigcaaaGreatDoorEncB
import Derived.Test.YtflaoicjgigcaaaGreatDoorGrpI
import Derived.Test.YtflaoicjgigcaaaGreatDoorMachP
namespace Go.Proofs.YtflaoicjgigcaaaGreatDoor
open Go.RowKit Pl
set_option linter.unusedVariables false

theorem tw_setup (rs : List (ByteArray × ByteArray)) (p g o T : ByteArray) (q : List Nat) (hT : T = mk (machT rs p g q)) :
    tl (⟨#[109, 97, 99, 104, 105, 110, 101, 32]⟩ ++ T ++ ⟨#[10, 119, 105, 110, 100, 111, 119, 115, 32]⟩ ++ o ++ ⟨#[10]⟩) = [machLine rs p g q, windLine o].flatMap (· ++ [10]) := by
  subst hT
  simp only [append_tl, tl_mk]
  rw [show tl (⟨#[109, 97, 99, 104, 105, 110, 101, 32]⟩ : ByteArray) = [109, 97, 99, 104, 105, 110, 101, 32] from rfl, show tl (⟨#[10, 119, 105, 110, 100, 111, 119, 115, 32]⟩ : ByteArray) = [10, 119, 105, 110, 100, 111, 119, 115, 32] from rfl, show tl (⟨#[10]⟩ : ByteArray) = [10] from rfl]
  simp [machLine, windLine]
def encB : ByteArray := ⟨#[101, 110, 99, 105, 112, 104, 101, 114, 32]⟩
def winB : ByteArray := ⟨#[10, 119, 105, 110, 100, 111, 119, 115, 32]⟩
def encC : ByteArray := ⟨#[10, 101, 110, 99, 105, 112, 104, 101, 114, 32]⟩
theorem tw_text (rs : List (ByteArray × ByteArray)) (p g o SU x s D1 D2 : ByteArray) (q : List Nat) (hS : tl SU = [machLine rs p g q, windLine o].flatMap (· ++ [10])) (h1 : D1 = dash x) (h2 : D2 = dash s) :
    tl (SU ++ ⟨#[101, 110, 99, 105, 112, 104, 101, 114, 32]⟩ ++ D1 ++ ⟨#[10, 119, 105, 110, 100, 111, 119, 115, 32]⟩ ++ o ++ ⟨#[10, 101, 110, 99, 105, 112, 104, 101, 114, 32]⟩ ++ D2 ++ ⟨#[10]⟩) = [machLine rs p g q, windLine o, encLine x, windLine o, encLine s].flatMap (· ++ [10]) := by
  subst h1 h2
  simp only [append_tl, tl_mk]
  rw [hS, show tl (⟨#[101, 110, 99, 105, 112, 104, 101, 114, 32]⟩ : ByteArray) = [101, 110, 99, 105, 112, 104, 101, 114, 32] from rfl, show tl (⟨#[10, 119, 105, 110, 100, 111, 119, 115, 32]⟩ : ByteArray) = [10, 119, 105, 110, 100, 111, 119, 115, 32] from rfl, show tl (⟨#[10, 101, 110, 99, 105, 112, 104, 101, 114, 32]⟩ : ByteArray) = [10, 101, 110, 99, 105, 112, 104, 101, 114, 32] from rfl, show tl (⟨#[10]⟩ : ByteArray) = [10] from rfl]
  simp [encLine, windLine]
theorem tw_out (a b : ByteArray) : mk ([111, 107, 10, 111, 107, 10] ++ (tl a ++ [10]) ++ [111, 107, 10] ++ (tl b ++ [10])) = ⟨#[111, 107, 10, 111, 107, 10]⟩ ++ a ++ ⟨#[10, 111, 107, 10]⟩ ++ b ++ ⟨#[10]⟩ := by
  apply tl_inj
  simp only [append_tl, tl_mk]
  rw [show tl (⟨#[111, 107, 10, 111, 107, 10]⟩ : ByteArray) = [111, 107, 10, 111, 107, 10] from rfl, show tl (⟨#[10, 111, 107, 10]⟩ : ByteArray) = [10, 111, 107, 10] from rfl, show tl (⟨#[10]⟩ : ByteArray) = [10] from rfl]
  simp

set_option maxHeartbeats 8000000 in
set_option maxRecDepth 100000 in
theorem fnScriptTwice_walk (w : World) (hml : GW w) (A : Option Addr) (cap : Nat) (bs : List UInt8) (h : Rd w w.heap.size A (bytesV bs)) (hc : bs.length ≤ cap) :
    Calls Tryz.prog 5 #[.slice A bs.length cap] w fun e w' => e = .returned (.bool true) ∧ Below w.heap.size w w' := by
  have HML := Lib.hid hml; clear hml
  by_cases hlen : 1048576 < bs.length
  · go_enter Tryz.func5, Tryz.ntmps5
    go_wp2_with fail
    go_ret
    exact ⟨rfl, Below.refl _ _⟩
  · go_enter Tryz.func5, Tryz.ntmps5
    go_wp2_with fail
    refine (drawEncipher_any w A cap bs h hc).mono ?_
    rintro _ w1 ⟨A1, cx, rs, p, g, l, o, x, rfl, hr1, hc1, hrz, hpz, hgz, hlz, hoz, hxz, _, hb1⟩
    have HB1 := Lib.hid hb1; clear hb1 h hc hlen
    obtain ⟨w2, hw2⟩ : ∃ w2, w2 = w1.alloc (.cells #[.slice A1 rs.length cx, .string p, .string g, .string l] 27) := ⟨_, rfl⟩
    have hal : Below w1.heap.size w1 w2 := by rw [hw2]; exact (Below.refl _ _).alloc (Nat.le_refl _) _
    have hs2 := SB.made w1 #[.slice A1 rs.length cx, .string p, .string g, .string l] 27
    rw [← hw2] at hs2
    have HB2 := Lib.hid (HB1.out.trans (hal.mono HB1.out.size)); have HR2 := Lib.hid ((hr1.below hal).mono hal.size)
    clear hal hr1 HB1
    have hl : rs.length ≤ 100 := by omega
    by_cases hvx : SetV rs p g l o ∧ wv (tl x) = true
    · obtain ⟨hv, hx⟩ := hvx
      obtain ⟨s, u, hs, hsz, huz, hE1, hE2, hE3, _⟩ := enc_pair hv hx
      obtain ⟨⟨hwv, q, hq, hi, rfl⟩, hog, hwo⟩ := hv
      have hxs := wv_size hx
      have hgx : GrpIs x (grpT x) := fun w' => groupWord_yes w' x hx
      have hgs : GrpIs s (grpT s) := fun w' => groupWord_yes w' s hs
      have hGx : (grpT x).size ≤ 1500 := by have := grpT_size x; omega
      have hGs : (grpT s).size ≤ 1500 := by have := grpT_size s; omega
      have ho3 : o.size ≤ 3 := by have := hwv.1.2.1; have := hwv.2.1; omega
      obtain ⟨SU, hSU⟩ : ∃ SU : ByteArray, SU = ⟨#[109, 97, 99, 104, 105, 110, 101, 32]⟩ ++ mk (machT rs p g q) ++ ⟨#[10, 119, 105, 110, 100, 111, 119, 115, 32]⟩ ++ o ++ ⟨#[10]⟩ := ⟨_, rfl⟩
      have hsu := tw_setup rs p g o _ q rfl
      rw [← hSU] at hsu
      have hSUz : SU.size ≤ 200 := by
        have zm := @machT_len rs p g q hwv
        rw [hSU]
        simp only [ByteArray.size_append, size_mk]
        have z1 : (⟨#[109, 97, 99, 104, 105, 110, 101, 32]⟩ : ByteArray).size = 8 := rfl
        have z2 : (⟨#[10, 119, 105, 110, 100, 111, 119, 115, 32]⟩ : ByteArray).size = 9 := rfl
        have z3 : (⟨#[10]⟩ : ByteArray).size = 1 := rfl
        omega
      have hse := fun (w' : World) (h' : Rd w' w'.heap.size A1 (rotV rs)) => rcSetup_ok w' A1 cx rs p g o q h' hc1 hwv hq hi (by omega)
      rw [← hSU] at hse
      have hd1 := fun w' => rcDash_any w' x
      have hd2 := fun w' => rcDash_any w' s
      have hd3 := fun w' => rcDash_any w' (grpT s)
      have hd4 := fun w' => rcDash_any w' (grpT x)
      have zd1 := dash_size x; have zd2 := dash_size s; have zd3 := dash_size (grpT s); have zd4 := dash_size (grpT x)
      have hrun := fun (w' : World) (hg' : GW w') (D1 D2 : ByteArray) (e1 : D1 = dash x) (e2 : D2 = dash s) => run_twice w' hg' _ rs p g o q x s u (grpT x) (grpT s) hwv hq hi hog hwo hx hs (by omega) (by omega) huz hE1 hE2 hgx hgs hGx hGs (tw_text rs p g o SU x s D1 D2 q hsu e1 e2)
      have hrun := fun (w' : World) (hg' : GW w') => hrun w' hg' _ _ rfl rfl
      rw [tw_out] at hrun
      have HE1 := Lib.hid (fun (w' : World) (h' : Rd w' w'.heap.size A1 (rotV rs)) => hE1 w' A1 cx h' hc1)
      have HE3 := Lib.hid (fun (w' : World) (h' : Rd w' w'.heap.size A1 (rotV rs)) => hE3 w' A1 cx h' hc1)
      have HSE := Lib.hid hse; have HRU := Lib.hid hrun; have HD1 := Lib.hid hd1; have HD2 := Lib.hid hd2; have HD3 := Lib.hid hd3; have HD4 := Lib.hid hd4; have HGX := Lib.hid hgx; have HGS := Lib.hid hgs
      clear hse hrun hd1 hd2 hd3 hd4 hgx hgs hE1 hE2 hE3 hsu hSU hwv hq hi hog hwo hx hs huz
      generalize pT q = l at hw2 hs2 HE1 HE3 HSE hlz
      generalize dash x = D1 at HRU HD1 zd1
      generalize dash s = D2 at HRU HD2 zd2
      generalize dash (grpT s) = D3 at HRU HD3 zd3
      generalize dash (grpT x) = D4 at HRU HD4 zd4
      generalize grpT s = G1 at HGS HD3 zd3 hGs
      generalize grpT x = G2 at HGX HD4 zd4 hGx
      obtain ⟨M, hM⟩ : ∃ M, M = rs.length := ⟨_, rfl⟩
      rw [← hM] at hw2 hs2 HE1 HE3 HSE ⊢
      have HS2 := Lib.hid hs2
      obtain ⟨P, hP⟩ : ∃ P, P = w1.heap.size := ⟨_, rfl⟩
      rw [← hP] at HS2
      clear hs2 hM hc1 hl
      have hke : (s.toList == s.toList) = true := beq_self_eq_true _
      have hke2 : (u.toList == u.toList) = true := beq_self_eq_true _
      obtain ⟨⟨a0, a1, a2, a3⟩, _⟩ := HS2.out.all4
      go_wp2_with fail
      rw [← hw2]
      rw [← hP]
      clear hw2 hP
      go_wp2_with fail
      refine (HE1.out _ HR2.out).mono ?_
      rintro _ w3 ⟨rfl, hb3⟩
      have HB3 := Lib.hid (HB2.out.trans (hb3.mono HB2.out.size)); have HR3 := Lib.hid ((HR2.out.below hb3).mono hb3.size); have HS3 := Lib.hid (HS2.out.below hb3)
      obtain ⟨⟨d0, d1, d2, d3⟩, _⟩ := HS3.out.all4
      clear hb3 HB2 HR2 HS2 a0 a1 a2 a3 HE1
      go_wp2_with fail
      refine (HE3.out _ HR3.out).mono ?_
      rintro _ w4 ⟨rfl, hb4⟩
      have HB4 := Lib.hid (HB3.out.trans (hb4.mono HB3.out.size)); have HR4 := Lib.hid ((HR3.out.below hb4).mono hb4.size); have HS4 := Lib.hid (HS3.out.below hb4)
      obtain ⟨⟨f0, f1, f2, f3⟩, _⟩ := HS4.out.all4
      clear hb4 HB3 HR3 HS3 d0 d1 d2 d3 HE3
      have y1 : ¬ 9223372036854775807 < SU.size + 9 := by omega
      have y2 : ¬ 9223372036854775807 < SU.size + 9 + D1.size := by omega
      have y3 : ¬ 9223372036854775807 < SU.size + 9 + D1.size + 9 := by omega
      have y4 : ¬ 9223372036854775807 < SU.size + 9 + D1.size + 9 + o.size := by omega
      have y5 : ¬ 9223372036854775807 < SU.size + 9 + D1.size + 9 + o.size + 10 := by omega
      have y6 : ¬ 9223372036854775807 < SU.size + 9 + D1.size + 9 + o.size + 10 + D2.size := by omega
      have y7 : ¬ 9223372036854775807 < SU.size + 9 + D1.size + 9 + o.size + 10 + D2.size + 1 := by omega
      have z1 : ¬ 9223372036854775807 < 6 + D3.size := by omega
      have z2 : ¬ 9223372036854775807 < 6 + D3.size + 4 := by omega
      have z3 : ¬ 9223372036854775807 < 6 + D3.size + 4 + D4.size := by omega
      have z4 : ¬ 9223372036854775807 < 6 + D3.size + 4 + D4.size + 1 := by omega
      have hfin : ((⟨#[111, 107, 10, 111, 107, 10]⟩ ++ D3 ++ ⟨#[10, 111, 107, 10]⟩ ++ D4 ++ ⟨#[10]⟩ : ByteArray).toList == (⟨#[111, 107, 10, 111, 107, 10]⟩ ++ D3 ++ ⟨#[10, 111, 107, 10]⟩ ++ D4 ++ ⟨#[10]⟩ : ByteArray).toList) = true := beq_self_eq_true _
      go_wp2_with fail
      refine (HSE.out _ HR4.out).mono ?_
      rintro _ w6 ⟨rfl, hb6⟩
      have HB6 := Lib.hid (HB4.out.trans (hb6.mono HB4.out.size))
      clear hb6 f0 f1 f2 f3 HB4 HR4 HS4
      go_wp2_with fail
      refine (HD1.out _).mono ?_
      rintro _ _ ⟨rfl, rfl⟩
      go_wp2_with fail
      refine (HD2.out _).mono ?_
      rintro _ _ ⟨rfl, rfl⟩
      go_wp2_with fail
      refine (HRU.out _ (HML.out.below HB6.out (Nat.le_refl _))).mono ?_
      rintro _ w7 ⟨rfl, hb7⟩
      have HB7 := Lib.hid (HB6.out.trans (hb7.mono HB6.out.size))
      clear hb7
      go_wp2_with fail
      refine (HGS.out _).mono ?_
      rintro _ w8 ⟨rfl, hb8⟩
      have HB8 := Lib.hid (HB7.out.trans (hb8.mono HB7.out.size))
      clear hb8
      go_wp2_with fail
      refine (HD3.out _).mono ?_
      rintro _ _ ⟨rfl, rfl⟩
      go_wp2_with fail
      refine (HGX.out _).mono ?_
      rintro _ w9 ⟨rfl, hb9⟩
      have HB9 := Lib.hid (HB8.out.trans (hb9.mono HB8.out.size))
      clear hb9
      go_wp2_with fail
      refine (HD4.out _).mono ?_
      rintro _ _ ⟨rfl, rfl⟩
      go_wp2_with fail
      go_ret
      exact ⟨rfl, HB9.out⟩
    · have HK1 := Lib.hid (fun (w' : World) (h' : Rd w' w'.heap.size A1 (rotV rs)) => encipher_no w' A1 cx rs p g l o x h' hc1 hl hvx)
      have HK2 := Lib.hid (fun (w' : World) (h' : Rd w' w'.heap.size A1 (rotV rs)) => sEncipher_no w' A1 cx rs p g l o x h' hc1 hl hvx)
      obtain ⟨M, hM⟩ : ∃ M, M = rs.length := ⟨_, rfl⟩
      rw [← hM] at hw2 hs2 HK1 HK2 ⊢
      have HS2 := Lib.hid hs2
      obtain ⟨P, hP⟩ : ∃ P, P = w1.heap.size := ⟨_, rfl⟩
      rw [← hP] at HS2
      clear hs2 hM hc1 hl hvx
      obtain ⟨⟨a0, a1, a2, a3⟩, _⟩ := HS2.out.all4
      go_wp2_with fail
      rw [← hw2]
      rw [← hP]
      clear hw2 hP
      go_wp2_with fail
      refine (HK1.out _ HR2.out).mono ?_
      rintro _ w3 ⟨rfl, hb3⟩
      have HB3 := Lib.hid (HB2.out.trans (hb3.mono HB2.out.size)); have HR3 := Lib.hid ((HR2.out.below hb3).mono hb3.size); have HS3 := Lib.hid (HS2.out.below hb3)
      obtain ⟨⟨d0, d1, d2, d3⟩, _⟩ := HS3.out.all4
      clear hb3 HB2 HR2 HS2 a0 a1 a2 a3 HK1
      go_wp2_with fail
      refine (HK2.out _ HR3.out).mono ?_
      rintro _ w4 ⟨rfl, hb4⟩
      have HB4 := Lib.hid (HB3.out.trans (hb4.mono HB3.out.size))
      clear hb4 HB3 HR3 HS3 d0 d1 d2 d3 HK2
      go_wp2_with fail
      go_ret
      exact ⟨rfl, HB4.out⟩

end Go.Proofs.YtflaoicjgigcaaaGreatDoor
