/-
  The walk of the law FnScriptStep: it returns true whatever the bytes are; nothing that was there is changed. No conditions.
-/
import Derived.Test.YtoakpacpkkmgnaaGreatDoorStepQ
import Derived.Test.YtoakpacpkkmgnaaGreatDoorMachP
import Derived.Test.YtoakpacpkkmgnaaGreatDoorDrawMa
import Derived.Test.YtoakpacpkkmgnaaGreatDoorRcNum
namespace Go.Proofs.YtoakpacpkkmgnaaGreatDoor
open Go.RowKit Pl
set_option linter.unusedVariables false

theorem step_setup (rs : List (ByteArray × ByteArray)) (p g o T : ByteArray) (q : List Nat) (hT : T = mk (machT rs p g q)) :
    tl (⟨#[109, 97, 99, 104, 105, 110, 101, 32]⟩ ++ T ++ ⟨#[10, 119, 105, 110, 100, 111, 119, 115, 32]⟩ ++ o ++ ⟨#[10]⟩) = [machLine rs p g q, windLine o].flatMap (· ++ [10]) := by
  subst hT
  simp only [append_tl, tl_mk]
  rw [show tl (⟨#[109, 97, 99, 104, 105, 110, 101, 32]⟩ : ByteArray) = [109, 97, 99, 104, 105, 110, 101, 32] from rfl, show tl (⟨#[10, 119, 105, 110, 100, 111, 119, 115, 32]⟩ : ByteArray) = [10, 119, 105, 110, 100, 111, 119, 115, 32] from rfl, show tl (⟨#[10]⟩ : ByteArray) = [10] from rfl]
  simp [machLine, windLine]
theorem step_text (rs : List (ByteArray × ByteArray)) (p g o SU N : ByteArray) (q : List Nat) (n : Nat) (hS : tl SU = [machLine rs p g q, windLine o].flatMap (· ++ [10])) (hN : N = mk (Lib.itoa (n : Int))) :
    tl (SU ++ ⟨#[115, 116, 101, 112, 32]⟩ ++ N ++ ⟨#[10, 112, 101, 114, 105, 111, 100, 10]⟩) = [machLine rs p g q, windLine o, stepLine n, [112, 101, 114, 105, 111, 100]].flatMap (· ++ [10]) := by
  subst hN
  simp only [append_tl, tl_mk]
  rw [hS, show tl (⟨#[115, 116, 101, 112, 32]⟩ : ByteArray) = [115, 116, 101, 112, 32] from rfl, show tl (⟨#[10, 112, 101, 114, 105, 111, 100, 10]⟩ : ByteArray) = [10, 112, 101, 114, 105, 111, 100, 10] from rfl]
  simp [stepLine]
theorem step_out (s u : ByteArray) : mk ([111, 107, 10, 111, 107, 10] ++ (tl s ++ [10]) ++ (tl u ++ [10])) = ⟨#[111, 107, 10, 111, 107, 10]⟩ ++ s ++ ⟨#[10]⟩ ++ u ++ ⟨#[10]⟩ := by
  apply tl_inj
  simp only [append_tl, tl_mk]
  rw [show tl (⟨#[111, 107, 10, 111, 107, 10]⟩ : ByteArray) = [111, 107, 10, 111, 107, 10] from rfl, show tl (⟨#[10]⟩ : ByteArray) = [10] from rfl]
  simp

set_option maxHeartbeats 8000000 in
set_option maxRecDepth 100000 in
theorem fnScriptStep_walk (w : World) (hml : GW w) (A : Option Addr) (cap : Nat) (bs : List UInt8) (h : Rd w w.heap.size A (bytesV bs)) (hc : bs.length ≤ cap) (A2 : Option Addr) (cap2 : Nat) (bs2 : List UInt8) (h2 : Rd w w.heap.size A2 (bytesV bs2)) (hc2 : bs2.length ≤ cap2) :
    Calls Tryz.prog 3 #[.slice A bs.length cap, .slice A2 bs2.length cap2] w fun e w' => e = .returned (.bool true) ∧ Below w.heap.size w w' := by
  have HML := Lib.hid hml; clear hml h2 hc2
  by_cases hlen : 1048576 < bs.length
  · go_enter Tryz.func3, Tryz.ntmps3
    go_wp2_with fail
    go_ret
    exact ⟨rfl, Below.refl _ _⟩
  · by_cases hlen2 : 1048576 < bs2.length
    · go_enter Tryz.func3, Tryz.ntmps3
      go_wp2_with fail
      go_ret
      exact ⟨rfl, Below.refl _ _⟩
    · obtain ⟨n, hn⟩ : ∃ n, n = bs2.length % 300 := ⟨_, rfl⟩
      have hn2 : n ≤ 2000 := by omega
      have hnm : (bs2.length : Int) % 300 = (n : Int) := by omega
      have HNM := Lib.hid hnm; clear hn hnm
      go_enter Tryz.func3, Tryz.ntmps3
      go_wp2_with fail
      refine (drawKeyPerm_any w A cap bs h hc).mono ?_
      rintro _ w1 ⟨A1, cx, rs, p, g, l, o, rfl, hr1, hc1, hrz, hpz, hgz, hlz, hoz, _, hb1⟩
      have HB1 := Lib.hid hb1; clear hb1 h hc hlen
      obtain ⟨w2, hw2⟩ : ∃ w2, w2 = w1.alloc (.cells #[.slice A1 rs.length cx, .string p, .string g, .string l] 27) := ⟨_, rfl⟩
      have hal : Below w1.heap.size w1 w2 := by rw [hw2]; exact (Below.refl _ _).alloc (Nat.le_refl _) _
      have hs2 := SB.made w1 #[.slice A1 rs.length cx, .string p, .string g, .string l] 27
      rw [← hw2] at hs2
      have HB2 := Lib.hid (HB1.out.trans (hal.mono HB1.out.size)); have HR2 := Lib.hid ((hr1.below hal).mono hal.size)
      clear hal hr1 HB1
      have hl : rs.length ≤ 100 := by omega
      -- what rcFits and StepMany tell
      obtain ⟨b, hrf, hbt⟩ : ∃ b : Bool, (∀ (w' : World), Rd w' w'.heap.size A1 (rotV rs) → Calls Tryz.prog 7 #[.agg #[.slice A1 rs.length cx, .string p, .string g, .string l], .string o] w' fun e w'' => e = .returned (.bool b) ∧ Below w'.heap.size w' w'') ∧ (b = true → MachV rs p g l ∧ wv (tl o) = true ∧ o.size = rs.length) := by
        by_cases hm : MachV rs p g l
        · exact ⟨decide (wv (tl o) = true ∧ o.size = rs.length), fun w' h' => rcFits_yes w' A1 cx rs p g l o _ h' hc1 hm (by simp), fun e => ⟨hm, by simpa using e⟩⟩
        · exact ⟨false, fun w' h' => rcFits_no w' A1 cx rs p g l o h' hc1 hl hm, fun e => by cases e⟩
      obtain ⟨s, ok, hsm, hss, hst⟩ : ∃ (s : ByteArray) (ok : Bool), (∀ (w' : World), Rd w' w'.heap.size A1 (rotV rs) → Calls Tryz.prog 8 #[.agg #[.slice A1 rs.length cx, .string p], .string o, .int .i64 n] w' fun e w'' => e = .returned (.tuple #[.string s, .bool ok]) ∧ Below w'.heap.size w' w'') ∧ (∀ (w' : World), Rd w' w'.heap.size A1 (rotV rs) → Calls Tryz.prog 9 #[.agg #[.slice A1 rs.length cx, .string p], .string o, .int .i64 n] w' fun e w'' => e = .returned (.tuple #[.string s, .bool ok]) ∧ Below w'.heap.size w' w'') ∧ (b = true → ok = true ∧ s = stepW rs o n) := by
        by_cases hvo : WinV rs p o
        · exact ⟨stepW rs o n, true, fun w' h' => stepMany_yes w' A1 cx rs p o n hn2 h' hc1 hvo, fun w' h' => sStepMany_yes w' A1 cx rs p o n hn2 h' hc1 hvo, fun _ => ⟨rfl, rfl⟩⟩
        · exact ⟨⟨#[]⟩, false, fun w' h' => stepMany_no w' A1 cx rs p o n h' hc1 hl hvo, fun w' h' => sStepMany_no w' A1 cx rs p o n h' hc1 hl hvo, fun e => absurd ⟨(hbt e).1.1.1, (hbt e).2.2, (hbt e).2.1⟩ hvo⟩
      have HRF := Lib.hid hrf; have HSM := Lib.hid hsm; have HSS := Lib.hid hss
      clear hrf hsm hss
      have hse1 : (s.toList == s.toList) = true := beq_self_eq_true _
      cases b with
      | false =>
        clear hbt hst
        obtain ⟨M, hM⟩ : ∃ M, M = rs.length := ⟨_, rfl⟩
        rw [← hM] at hw2 hs2 HRF HSM HSS ⊢
        have HS2 := Lib.hid hs2
        obtain ⟨P, hP⟩ : ∃ P, P = w1.heap.size := ⟨_, rfl⟩
        rw [← hP] at HS2
        clear hs2 hM hc1 hl
        obtain ⟨⟨a0, a1, a2, a3⟩, _⟩ := HS2.out.all4
        go_wp2_with fail
        rw [← hw2]
        rw [← hP]
        clear hw2 hP
        go_wp2_with fail
        refine (HRF.out _ HR2.out).mono ?_
        rintro _ w3 ⟨rfl, hb3⟩
        have HB3 := Lib.hid (HB2.out.trans (hb3.mono HB2.out.size)); have HR3 := Lib.hid ((HR2.out.below hb3).mono hb3.size); have HS3 := Lib.hid (HS2.out.below hb3)
        obtain ⟨⟨d0, d1, d2, d3⟩, _⟩ := HS3.out.all4
        clear hb3 HB2 HR2 HS2 a0 a1 a2 a3 HRF
        go_wp2_with fail
        rw [HNM.out]
        refine (HSM.out _ HR3.out).mono ?_
        rintro _ w4 ⟨rfl, hb4⟩
        have HB4 := Lib.hid (HB3.out.trans (hb4.mono HB3.out.size)); have HR4 := Lib.hid ((HR3.out.below hb4).mono hb4.size); have HS4 := Lib.hid (HS3.out.below hb4)
        obtain ⟨⟨e0, e1, e2, e3⟩, _⟩ := HS4.out.all4
        clear hb4 HB3 HR3 HS3 d0 d1 d2 d3 HSM
        go_wp2_with fail
        refine (HSS.out _ HR4.out).mono ?_
        rintro _ w5 ⟨rfl, hb5⟩
        have HB5 := Lib.hid (HB4.out.trans (hb5.mono HB4.out.size))
        clear hb5 HB4 HR4 HS4 e0 e1 e2 e3 HSS
        cases ok with
        | false =>
          go_wp2_with fail
          go_ret
          exact ⟨rfl, HB5.out⟩
        | true =>
          go_wp2_with fail
          go_ret
          exact ⟨rfl, HB5.out⟩
      | true =>
        obtain ⟨⟨hv, q, hq, hi, rfl⟩, hwo, hos⟩ := hbt rfl
        obtain ⟨rfl, hs⟩ := hst rfl
        clear hbt hst
        have hog : o.size = g.size := by have := hv.2.1; omega
        have hvo : WinV rs p o := ⟨hv.1, hos, hwo⟩
        have ho3 : o.size ≤ 3 := by have := hv.1.2.1; omega
        obtain ⟨le, pe, hle, hpe, hcy⟩ := cyc_exists (stepW_ok hvo n)
        have hvs := stepW_ok hvo n
        have hsz : s.size ≤ 3 := by rw [hs, stepW_size]; exact ho3
        obtain ⟨NUM, hNUM⟩ : ∃ NUM : Nat → ByteArray, NUM = fun (k : Nat) => mk (Lib.decDigits k) := ⟨_, rfl⟩
        have hnu : ∀ (w' : World) (k : Nat), k ≤ 2000 → Calls Tryz.prog 10 #[.int .i64 k] w' fun e w'' => e = .returned (.string (NUM k)) ∧ Below w'.heap.size w' w'' := fun w' k hk => by
          rw [hNUM]; exact rcNumber_any w' k (by omega)
        have hni : ∀ k : Nat, NUM k = mk (Lib.itoa (k : Int)) := fun k => by rw [hNUM, itoa_nat]
        have hnz : ∀ k : Nat, k ≤ 2000 → (NUM k).size ≤ 14 := fun k hk => by rw [hni, size_mk]; exact (itoa_len k (by omega)).2
        obtain ⟨SU, hSU⟩ : ∃ SU : ByteArray, SU = ⟨#[109, 97, 99, 104, 105, 110, 101, 32]⟩ ++ mk (machT rs p g q) ++ ⟨#[10, 119, 105, 110, 100, 111, 119, 115, 32]⟩ ++ o ++ ⟨#[10]⟩ := ⟨_, rfl⟩
        have hsu := step_setup rs p g o _ q rfl
        rw [← hSU] at hsu
        have hSUz : SU.size ≤ 200 := by
          have zm := @machT_len rs p g q hv
          rw [hSU]
          simp only [ByteArray.size_append, size_mk]
          have z1 : (⟨#[109, 97, 99, 104, 105, 110, 101, 32]⟩ : ByteArray).size = 8 := rfl
          have z2 : (⟨#[10, 119, 105, 110, 100, 111, 119, 115, 32]⟩ : ByteArray).size = 9 := rfl
          have z3 : (⟨#[10]⟩ : ByteArray).size = 1 := rfl
          omega
        have hse := fun (w' : World) (h' : Rd w' w'.heap.size A1 (rotV rs)) => rcSetup_ok w' A1 cx rs p g o q h' hc1 hv hq hi (by omega)
        rw [← hSU] at hse
        obtain ⟨SZ, hSZ⟩ : ∃ SZ : ByteArray, SZ = NUM pe ++ ⟨#[32]⟩ ++ NUM le := ⟨_, rfl⟩
        have hrun := fun (w' : World) (hg' : GW w') => run_step w' hg' (SU ++ ⟨#[115, 116, 101, 112, 32]⟩ ++ NUM n ++ ⟨#[10, 112, 101, 114, 105, 111, 100, 10]⟩) rs p g o q n le pe hn2 hv hq hi hog hwo hle hpe hcy (step_text rs p g o SU (NUM n) q n hsu (hni n))
        rw [← hni pe, ← hni le, ← hSZ, ← hs, step_out] at hrun
        rw [← hs] at hcy hvs
        have hpo := fun (W : World) (h' : Rd W W.heap.size A1 (rotV rs)) => periodOf_at W A1 cx rs p s le pe hcy h' hc1 hvs
        have hli := fun (W : World) (h' : Rd W W.heap.size A1 (rotV rs)) => leadIn_at W A1 cx rs p s le pe hcy h' hc1 hvs
        have zp := hnz pe hpe
        have zl := hnz le (by omega)
        have zn := hnz n hn2
        have hSZz : SZ.size ≤ 40 := by
          rw [hSZ, ByteArray.size_append, ByteArray.size_append]
          have : (⟨#[32]⟩ : ByteArray).size = 1 := rfl
          omega
        have HSE := Lib.hid hse; have HRUN := Lib.hid hrun; have HNU := Lib.hid hnu; have HSZ := Lib.hid hSZ
        have HPE := Lib.hid hpe; have HLE := Lib.hid (show le ≤ 2000 by omega); have HN2 := Lib.hid hn2
        clear hse hrun hnu hSZ hNUM hni hnz hcy hvs hsu hSU hv hq hi hwo hos hog hvo hs hle hpe hn2
        generalize pT q = l at hw2 hs2 HRF HSE hlz
        obtain ⟨M, hM⟩ : ∃ M, M = rs.length := ⟨_, rfl⟩
        rw [← hM] at hw2 hs2 HRF HSM HSS HSE hpo hli ⊢
        have HPO0 := Lib.hid hpo; have HLI0 := Lib.hid hli
        have HS2 := Lib.hid hs2
        obtain ⟨P, hP⟩ : ∃ P, P = w1.heap.size := ⟨_, rfl⟩
        rw [← hP] at HS2
        clear hs2 hM hc1 hl hpo hli
        obtain ⟨⟨a0, a1, a2, a3⟩, _⟩ := HS2.out.all4
        go_wp2_with fail
        rw [← hw2]
        rw [← hP]
        clear hw2 hP
        go_wp2_with fail
        refine (HRF.out _ HR2.out).mono ?_
        rintro _ w3 ⟨rfl, hb3⟩
        have HB3 := Lib.hid (HB2.out.trans (hb3.mono HB2.out.size)); have HR3 := Lib.hid ((HR2.out.below hb3).mono hb3.size); have HS3 := Lib.hid (HS2.out.below hb3)
        obtain ⟨⟨d0, d1, d2, d3⟩, _⟩ := HS3.out.all4
        clear hb3 HB2 HR2 HS2 a0 a1 a2 a3 HRF
        go_wp2_with fail
        rw [HNM.out]
        refine (HSM.out _ HR3.out).mono ?_
        rintro _ w4 ⟨rfl, hb4⟩
        have HB4 := Lib.hid (HB3.out.trans (hb4.mono HB3.out.size)); have HR4 := Lib.hid ((HR3.out.below hb4).mono hb4.size); have HS4 := Lib.hid (HS3.out.below hb4)
        obtain ⟨⟨e0, e1, e2, e3⟩, _⟩ := HS4.out.all4
        clear hb4 HB3 HR3 HS3 d0 d1 d2 d3 HSM
        go_wp2_with fail
        refine (HSS.out _ HR4.out).mono ?_
        rintro _ w7 ⟨rfl, hb5⟩
        have HB7 := Lib.hid (HB4.out.trans (hb5.mono HB4.out.size)); have HR7 := Lib.hid ((HR4.out.below hb5).mono hb5.size); have HS7 := Lib.hid (HS4.out.below hb5)
        obtain ⟨⟨c0, c1, c2', c3'⟩, _⟩ := HS7.out.all4
        clear hb5 HB4 HR4 HS4 e0 e1 e2 e3 HSS
        have hbd : Below w7.heap.size w7 w7.drew := (Below.refl _ _).drew
        have HPO := Lib.hid (fun (W : World) (hW : W.cell? ⟨P, 0, none⟩ = some (.slice A1 M cx) ∧ W.cell? ⟨P, 1, none⟩ = some (.string p) ∧ Below w7.heap.size w7 W) => HPO0.out W ((HR7.out.below hW.2.2).mono hW.2.2.size))
        have HLI := Lib.hid (fun (W : World) (hW : W.cell? ⟨P, 0, none⟩ = some (.slice A1 M cx) ∧ W.cell? ⟨P, 1, none⟩ = some (.string p) ∧ Below w7.heap.size w7 W) => HLI0.out W ((HR7.out.below hW.2.2).mono hW.2.2.size))
        have hkd : w7.drew.cell? ⟨P, 0, none⟩ = some (.slice A1 M cx) ∧ w7.drew.cell? ⟨P, 1, none⟩ = some (.string p) ∧ Below w7.heap.size w7 w7.drew := ⟨c0, c1, hbd⟩
        clear hbd
        have y1 : ¬ 9223372036854775807 < (NUM pe).size + 1 := by omega
        have y2 : ¬ 9223372036854775807 < (NUM pe).size + 1 + (NUM le).size := by omega
        go_wp2_with fail
        go_region_held3 (fun W => W.cell? ⟨P, 0, none⟩ = some (.slice A1 M cx) ∧ W.cell? ⟨P, 1, none⟩ = some (.string p) ∧ Below w7.heap.size w7 W) (with_reducible assumption) (first | (go_at_call 11; refine (HPO.out _ (by with_reducible assumption)).mono ?_; rintro _ w9 ⟨rfl, hb9⟩; have q9 := two_keep2 (by with_reducible assumption) hb9; clear hb9) | (go_at_call 12; refine (HLI.out _ (by with_reducible assumption)).mono ?_; rintro _ w9 ⟨rfl, hb9⟩; have q9 := two_keep2 (by with_reducible assumption) hb9; clear hb9) | (go_at_call 10; refine (HNU.out _ _ (by first | exact HPE.out | exact HLE.out)).mono ?_; rintro _ w9 ⟨rfl, hb9⟩; have q9 := two_keep2 (by with_reducible assumption) hb9; clear hb9) | fail)
        all_goals
          have hb9 := q9.2.2
          have HB9 := Lib.hid (HB7.out.trans (hb9.mono HB7.out.size)); have HR9 := Lib.hid ((HR7.out.below hb9).mono hb9.size)
          obtain ⟨⟨f0, f1, f2, f3⟩, _⟩ := (SB.below HS7.out hb9).all4
          rw [← HSZ.out]
          have y3 : ¬ 9223372036854775807 < SU.size + 5 := by omega
          have y4 : ¬ 9223372036854775807 < SU.size + 5 + (NUM n).size := by omega
          have y5 : ¬ 9223372036854775807 < SU.size + 5 + (NUM n).size + 8 := by omega
          have y6 : ¬ 9223372036854775807 < 6 + s.size := by omega
          have y7 : ¬ 9223372036854775807 < 6 + s.size + 1 := by omega
          have y8 : ¬ 9223372036854775807 < 6 + s.size + 1 + SZ.size := by omega
          have y9 : ¬ 9223372036854775807 < 6 + s.size + 1 + SZ.size + 1 := by omega
          have hfin : ((⟨#[111, 107, 10, 111, 107, 10]⟩ ++ s ++ ⟨#[10]⟩ ++ SZ ++ ⟨#[10]⟩ : ByteArray).toList == (⟨#[111, 107, 10, 111, 107, 10]⟩ ++ s ++ ⟨#[10]⟩ ++ SZ ++ ⟨#[10]⟩ : ByteArray).toList) = true := beq_self_eq_true _
          clear hb9 q9 hkd c0 c1 c2' c3' y1 y2
          go_wp2_with fail
          refine (HSE.out _ HR9.out).mono ?_
          rintro _ w10 ⟨rfl, hb10⟩
          have HB10 := Lib.hid (HB9.out.trans (hb10.mono HB9.out.size))
          clear hb10 f0 f1 f2 f3
          go_wp2_with fail
          refine (HNU.out _ _ HN2.out).mono ?_
          rintro _ w11 ⟨rfl, hb11⟩
          have HB11 := Lib.hid (HB10.out.trans (hb11.mono HB10.out.size))
          clear hb11
          go_wp2_with fail
          refine (HRUN.out _ (HML.out.below HB11.out (Nat.le_refl _))).mono ?_
          rintro _ w12 ⟨rfl, hb12⟩
          have HB12 := Lib.hid (HB11.out.trans (hb12.mono HB11.out.size))
          clear hb12
          go_wp2_with fail
          go_ret
          exact ⟨rfl, HB12.out⟩

end Go.Proofs.YtoakpacpkkmgnaaGreatDoor
