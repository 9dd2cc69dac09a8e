/-
  The walk of the law FnScriptSeal: it returns true whatever the bytes are; nothing that was there is changed. No conditions.
-/
import Derived.Test.YtpccnaecdpnlkaaGreatDoorSealA
import Derived.Test.YtpccnaecdpnlkaaGreatDoorDrawSl
import Derived.Test.YtpccnaecdpnlkaaGreatDoorMachP
namespace Go.Proofs.YtpccnaecdpnlkaaGreatDoor
open Go.RowKit Pl
set_option linter.unusedVariables false

theorem sl_setup (rs : List (ByteArray × ByteArray)) (p g o T : ByteArray) (q : List Nat) (hT : T = mk (machT rs p g q)) :
    tl (⟨#[109, 97, 99, 104, 105, 110, 101, 32]⟩ ++ T ++ ⟨#[10, 119, 105, 110, 100, 111, 119, 115, 32]⟩ ++ o ++ ⟨#[10]⟩) = [machLine rs p g q, windLine o].flatMap (· ++ [10]) := by
  subst hT
  simp only [append_tl, tl_mk]
  rw [show tl (⟨#[109, 97, 99, 104, 105, 110, 101, 32]⟩ : ByteArray) = [109, 97, 99, 104, 105, 110, 101, 32] from rfl, show tl (⟨#[10, 119, 105, 110, 100, 111, 119, 115, 32]⟩ : ByteArray) = [10, 119, 105, 110, 100, 111, 119, 115, 32] from rfl, show tl (⟨#[10]⟩ : ByteArray) = [10] from rfl]
  simp [machLine, windLine]
theorem sl_text (rs : List (ByteArray × ByteArray)) (p g o y x SU T D : ByteArray) (q : List Nat) (hS : tl SU = [machLine rs p g q, windLine y].flatMap (· ++ [10])) (h1 : D = dash x) :
    tl (SU ++ ⟨#[115, 101, 97, 108, 32]⟩ ++ o ++ ⟨#[32]⟩ ++ y ++ ⟨#[32]⟩ ++ D ++ ⟨#[10, 111, 112, 101, 110, 32]⟩ ++ T ++ ⟨#[10]⟩) = [machLine rs p g q, windLine y, sealLine o y x, openLine T].flatMap (· ++ [10]) := by
  subst h1
  simp only [append_tl, tl_mk]
  rw [hS, show tl (⟨#[115, 101, 97, 108, 32]⟩ : ByteArray) = [115, 101, 97, 108, 32] from rfl, show tl (⟨#[10, 111, 112, 101, 110, 32]⟩ : ByteArray) = [10, 111, 112, 101, 110, 32] from rfl, show tl (⟨#[10]⟩ : ByteArray) = [10] from rfl, show tl (⟨#[32]⟩ : ByteArray) = [32] from rfl]
  simp [sealLine, openLine]
theorem sl_out (T y D : ByteArray) : mk ([111, 107, 10, 111, 107, 10] ++ (tl T ++ [10]) ++ (tl (y ++ ⟨#[32]⟩ ++ D) ++ [10])) = ⟨#[111, 107, 10, 111, 107, 10]⟩ ++ T ++ ⟨#[10]⟩ ++ y ++ ⟨#[32]⟩ ++ D ++ ⟨#[10]⟩ := by
  apply tl_inj
  simp only [append_tl, tl_mk]
  rw [show tl (⟨#[111, 107, 10, 111, 107, 10]⟩ : ByteArray) = [111, 107, 10, 111, 107, 10] from rfl, show tl (⟨#[10]⟩ : ByteArray) = [10] from rfl, show tl (⟨#[32]⟩ : ByteArray) = [32] from rfl]
  simp
theorem msgT_size (o s1 s2 : ByteArray) : (msgT o s1 s2).size ≤ o.size + s1.size + 2 * s2.size + 12 := by
  have zg := grpT_size s2
  unfold msgT
  simp only [ByteArray.size_append]
  rw [show (⟨#[32]⟩ : ByteArray).size = 1 from rfl, show (⟨#[61]⟩ : ByteArray).size = 1 from rfl]; omega

theorem run_msgEq (w : World) (a b c : ByteArray) : (Op.equalIn 10000 31 (.agg #[.string a, .string b, .string c]) (.agg #[.string a, .string b, .string c])).run Tryz.prog w = .ok true w := by
  rw [run_equalIn_struct w 9999 31 _ _ (by kernel_rfl) (by kernel_rfl)]
  simp [go_sem]

set_option maxHeartbeats 8000000 in
set_option maxRecDepth 100000 in
theorem fnScriptSeal_walk (w : World) (hml : GW w) (A : Option Addr) (cap : Nat) (bs : List UInt8) (h : Rd w w.heap.size A (bytesV bs)) (hc : bs.length ≤ cap) :
    Calls Tryz.prog 3 #[.slice A bs.length cap] w fun e w' => e = .returned (.bool true) ∧ Below w.heap.size w w' := by
  have HML := Lib.hid hml; clear hml
  by_cases hlen : 1048576 < bs.length
  · go_enter Tryz.func3, Tryz.ntmps3
    go_wp2_with fail
    go_ret
    exact ⟨rfl, Below.refl _ _⟩
  · go_enter Tryz.func3, Tryz.ntmps3
    go_wp2_with fail
    refine (drawSeal_any w A cap bs h hc).mono ?_
    rintro _ w1 ⟨A1, cx, rs, p, g, l, o, y, x, rfl, hr1, hc1, hrz, hpz, hgz, hlz, hoz, hyz, hxz, hb1⟩
    have HB1 := Lib.hid hb1; clear hb1 h hc hlen
    obtain ⟨w2, hw2⟩ : ∃ w2, w2 = w1.alloc (.cells #[.slice A1 rs.length cx, .string p, .string g, .string l] 27) := ⟨_, rfl⟩
    have hal : Below w1.heap.size w1 w2 := by rw [hw2]; exact (Below.refl _ _).alloc (Nat.le_refl _) _
    have hs2 := SB.made w1 #[.slice A1 rs.length cx, .string p, .string g, .string l] 27
    rw [← hw2] at hs2
    have HB2 := Lib.hid (HB1.out.trans (hal.mono HB1.out.size)); have HR2 := Lib.hid ((hr1.below hal).mono hal.size)
    clear hal hr1 HB1
    have hl : rs.length ≤ 100 := by omega
    have HEQ := Lib.hid run_msgEq
    by_cases hvx : SetV rs p g l o ∧ SetV rs p g l y ∧ wv (tl x) = true
    · obtain ⟨hv, hy, hx⟩ := hvx
      have hg3 : g.size ≤ 3 := by have := hv.1.1.1.2.1; have := hv.1.1.2.1; omega
      have hg1 : 1 ≤ g.size := by have := hv.1.1.1.1; have := hv.1.1.2.1; omega
      have hyo := hv.2.1
      have hyg := hy.2.1
      obtain ⟨s1, u1, hs1, hz1, hu1, hA1, hA2, hA4⟩ := enc_pair2 hv hy.2.2
      obtain ⟨s2, u2, hs2', hz2, hu2, hB1, hB2, hB4⟩ := enc_pair2 hy hx
      have hxs := wv_size hx
      have hvo := hv; have hvy := hy
      obtain ⟨⟨hwv, q, hq, hi, rfl⟩, hog, hwo⟩ := hv
      have ho3 : o.size ≤ 3 := by omega
      have ho1 : 1 ≤ o.size := by omega
      have hTz := msgT_size o s1 s2
      obtain ⟨SU, hSU⟩ : ∃ SU : ByteArray, SU = ⟨#[109, 97, 99, 104, 105, 110, 101, 32]⟩ ++ mk (machT rs p g q) ++ ⟨#[10, 119, 105, 110, 100, 111, 119, 115, 32]⟩ ++ y ++ ⟨#[10]⟩ := ⟨_, rfl⟩
      have hsu := sl_setup rs p g y _ q rfl
      rw [← hSU] at hsu
      have hSUz : SU.size ≤ 200 := by
        have zm := @machT_len rs p g q hwv
        rw [hSU]
        simp only [ByteArray.size_append, size_mk]
        have z1 : (⟨#[109, 97, 99, 104, 105, 110, 101, 32]⟩ : ByteArray).size = 8 := rfl
        have z2 : (⟨#[10, 119, 105, 110, 100, 111, 119, 115, 32]⟩ : ByteArray).size = 9 := rfl
        have z3 : (⟨#[10]⟩ : ByteArray).size = 1 := rfl
        omega
      have hse := fun (w' : World) (h' : Rd w' w'.heap.size A1 (rotV rs)) => rcSetup_ok w' A1 cx rs p g y q h' hc1 hwv hq hi (by omega)
      rw [← hSU] at hse
      have hd1 := fun w' => rcDash_any w' x
      have zd1 := dash_size x
      have hfm := fun w' => formatMessage_yes w' o s1 s2 (by omega) (by omega) hwo (by omega) hs1 hs2'
      have hrun := fun (w' : World) (hg' : GW w') => run_seal w' hg' _ rs p g o q y x s1 u1 s2 u2 hwv hq hi hvo hvy hx hs1 (by omega) hs2' hA1 hB1 hA2 hB2 (sl_text rs p g o y x SU (msgT o s1 s2) (dash x) q hsu rfl)
      rw [sl_out] at hrun
      have HE1 := Lib.hid (fun (w' : World) (h' : Rd w' w'.heap.size A1 (rotV rs)) => sealMessage_yes w' A1 cx rs p g (pT q) o y x s1 u1 s2 u2 h' hc1 hl hvo hvy hx hA1 hB1)
      have HE3 := Lib.hid (fun (w' : World) (h' : Rd w' w'.heap.size A1 (rotV rs)) => sSealMessage_yes w' A1 cx rs p g (pT q) o y x s1 s2 h' hc1 hl hvo hvy hx hA4 hB4)
      have HSE := Lib.hid hse; have HRU := Lib.hid hrun; have HD1 := Lib.hid hd1; have HFM := Lib.hid hfm
      clear hse hrun hd1 hfm hA1 hA2 hA4 hB1 hB2 hB4 hsu hSU hwv hq hi hog hwo hs1 hs2' hu1 hu2 hvo hvy hy hyo hx
      generalize pT q = l at hw2 hs2 HE1 HE3 HSE hlz
      generalize msgT o s1 s2 = T at HRU HFM hTz
      generalize dash x = D1 at HRU HD1 zd1
      obtain ⟨M, hM⟩ : ∃ M, M = rs.length := ⟨_, rfl⟩
      rw [← hM] at hw2 hs2 HE1 HE3 HSE ⊢
      have HS2 := Lib.hid hs2
      obtain ⟨P, hP⟩ : ∃ P, P = w1.heap.size := ⟨_, rfl⟩
      rw [← hP] at HS2
      clear hs2 hM hc1 hl
      obtain ⟨⟨a0, a1, a2, a3⟩, _⟩ := HS2.out.all4
      go_wp2_with fail
      rw [← hw2]
      rw [← hP]
      clear hw2 hP
      go_wp2_with fail
      refine (HE1.out _ HR2.out).mono ?_
      rintro _ w3 ⟨rfl, hb3⟩
      have HB3 := Lib.hid (HB2.out.trans (hb3.mono HB2.out.size)); have HR3 := Lib.hid ((HR2.out.below hb3).mono hb3.size); have HS3 := Lib.hid (HS2.out.below hb3)
      clear hb3 HB2 HR2 HS2 a0 a1 a2 a3 HE1
      obtain ⟨w4, hw4⟩ : ∃ w4, w4 = w3.alloc (.cells #[.string o, .string s1, .string s2] 31) := ⟨_, rfl⟩
      have hal : Below w3.heap.size w3 w4 := by rw [hw4]; exact (Below.refl _ _).alloc (Nat.le_refl _) _
      have hq4 := SB.made w3 #[.string o, .string s1, .string s2] 31
      rw [← hw4] at hq4
      have HB4 := Lib.hid (HB3.out.trans (hal.mono HB3.out.size)); have HR4 := Lib.hid ((HR3.out.below hal).mono hal.size); have HS4 := Lib.hid (HS3.out.below hal)
      obtain ⟨X, hX⟩ : ∃ X, X = w3.heap.size := ⟨_, rfl⟩
      rw [← hX] at hq4
      have HQ4 := Lib.hid hq4
      obtain ⟨⟨d0, d1, d2, d3⟩, _⟩ := HS4.out.all4
      clear hal hq4 HB3 HR3 HS3
      have l0 := d0; have l1 := d1; have l2 := d2; have l3 := d3
      rw [hw4] at l0 l1 l2 l3
      go_wp2_with fail
      rw [← hw4, ← hX]
      clear hw4 hX l0 l1 l2 l3
      refine (HE3.out _ HR4.out).mono ?_
      rintro _ w5 ⟨rfl, hb5⟩
      obtain ⟨w6, hw6⟩ : ∃ w6, w6 = w5.alloc (.cells #[.string o, .string s1, .string s2] 31) := ⟨_, rfl⟩
      have hal : Below w5.heap.size w5 w6 := by rw [hw6]; exact (Below.refl _ _).alloc (Nat.le_refl _) _
      have hb6 : Below w4.heap.size w4 w6 := hb5.trans (hal.mono hb5.size)
      have hq6 := SB.made w5 #[.string o, .string s1, .string s2] 31
      rw [← hw6] at hq6
      have HB6 := Lib.hid (HB4.out.trans (hb6.mono HB4.out.size)); have HR6 := Lib.hid ((HR4.out.below hb6).mono hb6.size); have HS6 := Lib.hid (HS4.out.below hb6); have HX6 := Lib.hid (HQ4.out.below hb6)
      obtain ⟨Y, hY⟩ : ∃ Y, Y = w5.heap.size := ⟨_, rfl⟩
      rw [← hY] at hq6
      obtain ⟨⟨f0, f1, f2, f3⟩, _⟩ := HS6.out.all4
      obtain ⟨x0, x1, x2⟩ := HX6.out.three
      obtain ⟨y0, y1, y2⟩ := hq6.three
      clear hal hb5 hb6 hq6 HB4 HR4 HS4 HQ4 d0 d1 d2 d3 HE3
      have heq := HEQ.out w6 o s1 s2
      have l0 := x0; have l1 := x1; have l2 := x2
      rw [hw6] at l0 l1 l2 heq
      have y1 : ¬ 9223372036854775807 < SU.size + 5 := by omega
      have y2 : ¬ 9223372036854775807 < SU.size + 5 + o.size := by omega
      have y3 : ¬ 9223372036854775807 < SU.size + 5 + o.size + 1 := by omega
      have y4 : ¬ 9223372036854775807 < SU.size + 5 + o.size + 1 + y.size := by omega
      have y5 : ¬ 9223372036854775807 < SU.size + 5 + o.size + 1 + y.size + 1 := by omega
      have y6 : ¬ 9223372036854775807 < SU.size + 5 + o.size + 1 + y.size + 1 + D1.size := by omega
      have y7 : ¬ 9223372036854775807 < SU.size + 5 + o.size + 1 + y.size + 1 + D1.size + 6 := by omega
      have y8 : ¬ 9223372036854775807 < SU.size + 5 + o.size + 1 + y.size + 1 + D1.size + 6 + T.size := by omega
      have y9 : ¬ 9223372036854775807 < SU.size + 5 + o.size + 1 + y.size + 1 + D1.size + 6 + T.size + 1 := by omega
      have z1 : ¬ 9223372036854775807 < 6 + T.size := by omega
      have z2 : ¬ 9223372036854775807 < 6 + T.size + 1 := by omega
      have z3 : ¬ 9223372036854775807 < 6 + T.size + 1 + y.size := by omega
      have z4 : ¬ 9223372036854775807 < 6 + T.size + 1 + y.size + 1 := by omega
      have z5 : ¬ 9223372036854775807 < 6 + T.size + 1 + y.size + 1 + D1.size := by omega
      have z6 : ¬ 9223372036854775807 < 6 + T.size + 1 + y.size + 1 + D1.size + 1 := by omega
      have hfin : ((⟨#[111, 107, 10, 111, 107, 10]⟩ ++ T ++ ⟨#[10]⟩ ++ y ++ ⟨#[32]⟩ ++ D1 ++ ⟨#[10]⟩ : ByteArray).toList == (⟨#[111, 107, 10, 111, 107, 10]⟩ ++ T ++ ⟨#[10]⟩ ++ y ++ ⟨#[32]⟩ ++ D1 ++ ⟨#[10]⟩ : ByteArray).toList) = true := beq_self_eq_true _
      clear hoz hyz hxz hz1 hz2 hTz zd1 hSUz hxs ho3 ho1 hg3 hg1 hyg hgz hpz hlz hrz
      go_wp2_with fail
      rw [← hw6, ← hY]
      clear hw6 hY l0 l1 l2
      refine (HFM.out _).mono ?_
      rintro _ w7 ⟨rfl, hb7⟩
      have HB7 := Lib.hid (HB6.out.trans (hb7.mono HB6.out.size)); have HR7 := Lib.hid ((HR6.out.below hb7).mono hb7.size); have HS7 := Lib.hid (HS6.out.below hb7)
      clear hb7 f0 f1 f2 f3 x0 x1 x2 y0 HB6 HR6 HS6 HX6 heq
      obtain ⟨⟨f0, f1, f2, f3⟩, _⟩ := HS7.out.all4
      go_wp2_with fail
      refine (HSE.out _ HR7.out).mono ?_
      rintro _ w8 ⟨rfl, hb8⟩
      have HB8 := Lib.hid (HB7.out.trans (hb8.mono HB7.out.size))
      clear hb8 f0 f1 f2 f3 HB7 HR7 HS7
      go_wp2_with fail
      refine (HD1.out _).mono ?_
      rintro _ _ ⟨rfl, rfl⟩
      go_wp2_with fail
      refine (HRU.out _ (HML.out.below HB8.out (Nat.le_refl _))).mono ?_
      rintro _ w9 ⟨rfl, hb9⟩
      have HB9 := Lib.hid (HB8.out.trans (hb9.mono HB8.out.size))
      clear hb9
      go_wp2_with fail
      refine (HD1.out _).mono ?_
      rintro _ _ ⟨rfl, rfl⟩
      go_wp2_with fail
      go_ret
      exact ⟨rfl, HB9.out⟩
    · have HK1 := Lib.hid (fun (w' : World) (h' : Rd w' w'.heap.size A1 (rotV rs)) => sealMessage_no w' A1 cx rs p g l o y x h' hc1 hl hvx)
      have HK2 := Lib.hid (fun (w' : World) (h' : Rd w' w'.heap.size A1 (rotV rs)) => sSealMessage_no w' A1 cx rs p g l o y x h' hc1 hl hvx)
      obtain ⟨M, hM⟩ : ∃ M, M = rs.length := ⟨_, rfl⟩
      rw [← hM] at hw2 hs2 HK1 HK2 ⊢
      have HS2 := Lib.hid hs2
      obtain ⟨P, hP⟩ : ∃ P, P = w1.heap.size := ⟨_, rfl⟩
      rw [← hP] at HS2
      clear hs2 hM hc1 hl hvx
      obtain ⟨⟨a0, a1, a2, a3⟩, _⟩ := HS2.out.all4
      go_wp2_with fail
      rw [← hw2]
      rw [← hP]
      clear hw2 hP
      go_wp2_with fail
      refine (HK1.out _ HR2.out).mono ?_
      rintro _ w3 ⟨rfl, hb3⟩
      have HB3 := Lib.hid (HB2.out.trans (hb3.mono HB2.out.size)); have HR3 := Lib.hid ((HR2.out.below hb3).mono hb3.size); have HS3 := Lib.hid (HS2.out.below hb3)
      clear hb3 HB2 HR2 HS2 a0 a1 a2 a3 HK1
      obtain ⟨w4, hw4⟩ : ∃ w4, w4 = w3.alloc (.cells #[.string ⟨#[]⟩, .string ⟨#[]⟩, .string ⟨#[]⟩] 31) := ⟨_, rfl⟩
      have hal : Below w3.heap.size w3 w4 := by rw [hw4]; exact (Below.refl _ _).alloc (Nat.le_refl _) _
      have hq4 := SB.made w3 #[.string ⟨#[]⟩, .string ⟨#[]⟩, .string ⟨#[]⟩] 31
      rw [← hw4] at hq4
      have HB4 := Lib.hid (HB3.out.trans (hal.mono HB3.out.size)); have HR4 := Lib.hid ((HR3.out.below hal).mono hal.size); have HS4 := Lib.hid (HS3.out.below hal)
      obtain ⟨X, hX⟩ : ∃ X, X = w3.heap.size := ⟨_, rfl⟩
      rw [← hX] at hq4
      have HQ4 := Lib.hid hq4
      obtain ⟨⟨d0, d1, d2, d3⟩, _⟩ := HS4.out.all4
      clear hal hq4 HB3 HR3 HS3
      have l0 := d0; have l1 := d1; have l2 := d2; have l3 := d3
      rw [hw4] at l0 l1 l2 l3
      go_wp2_with fail
      rw [← hw4, ← hX]
      clear hw4 hX l0 l1 l2 l3
      refine (HK2.out _ HR4.out).mono ?_
      rintro _ w5 ⟨rfl, hb5⟩
      obtain ⟨w6, hw6⟩ : ∃ w6, w6 = w5.alloc (.cells #[.string ⟨#[]⟩, .string ⟨#[]⟩, .string ⟨#[]⟩] 31) := ⟨_, rfl⟩
      have hal : Below w5.heap.size w5 w6 := by rw [hw6]; exact (Below.refl _ _).alloc (Nat.le_refl _) _
      have hb6 : Below w4.heap.size w4 w6 := hb5.trans (hal.mono hb5.size)
      have hq6 := SB.made w5 #[.string ⟨#[]⟩, .string ⟨#[]⟩, .string ⟨#[]⟩] 31
      rw [← hw6] at hq6
      have HB6 := Lib.hid (HB4.out.trans (hb6.mono HB4.out.size)); have HX6 := Lib.hid (HQ4.out.below hb6)
      obtain ⟨Y, hY⟩ : ∃ Y, Y = w5.heap.size := ⟨_, rfl⟩
      rw [← hY] at hq6
      obtain ⟨x0, x1, x2⟩ := HX6.out.three
      obtain ⟨y0, y1, y2⟩ := hq6.three
      clear hal hb5 hb6 hq6 HB4 HR4 HS4 HQ4 d0 d1 d2 d3 HK2
      have heq := HEQ.out w6 ⟨#[]⟩ ⟨#[]⟩ ⟨#[]⟩
      have l0 := x0; have l1 := x1; have l2 := x2
      rw [hw6] at l0 l1 l2 heq
      go_wp2_with fail
      rw [← hw6]
      go_ret
      exact ⟨rfl, HB6.out⟩

end Go.Proofs.YtpccnaecdpnlkaaGreatDoor
