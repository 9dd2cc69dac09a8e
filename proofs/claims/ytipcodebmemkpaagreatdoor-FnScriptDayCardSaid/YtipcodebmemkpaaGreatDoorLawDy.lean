/-
  The walk of the law FnScriptDay: it returns true whatever the bytes are; nothing that was there is changed. No conditions.
-/
import Derived.Test.YtipcodebmemkpaaGreatDoorDayR3
import Derived.Test.YtipcodebmemkpaaGreatDoorDayR2
import Derived.Test.YtipcodebmemkpaaGreatDoorRcNum
namespace Go.Proofs.YtipcodebmemkpaaGreatDoor
open Go.RowKit Pl
set_option linter.unusedVariables false

theorem dy_text (rs : List (ByteArray × ByteArray)) (p T : ByteArray) (P N : Nat) (hT : T = mk (machT rs p (pRing rs) (List.range 10))) :
    tl (⟨#[109, 97, 99, 104, 105, 110, 101, 32]⟩ ++ T ++ ⟨#[10, 100, 97, 121, 32]⟩ ++ mk (Lib.decDigits P) ++ ⟨#[32]⟩ ++ mk (Lib.decDigits N) ++ ⟨#[10, 115, 104, 111, 119, 10, 110, 117, 109, 98, 101, 114, 10]⟩) = [machLine rs p (pRing rs) (List.range 10), dayLine P N, [115, 104, 111, 119], [110, 117, 109, 98, 101, 114]].flatMap (· ++ [10]) := by
  subst hT
  simp only [append_tl, tl_mk]
  rw [show tl (⟨#[109, 97, 99, 104, 105, 110, 101, 32]⟩ : ByteArray) = [109, 97, 99, 104, 105, 110, 101, 32] from rfl, show tl (⟨#[10, 100, 97, 121, 32]⟩ : ByteArray) = [10, 100, 97, 121, 32] from rfl, show tl (⟨#[32]⟩ : ByteArray) = [32] from rfl, show tl (⟨#[10, 115, 104, 111, 119, 10, 110, 117, 109, 98, 101, 114, 10]⟩ : ByteArray) = [10, 115, 104, 111, 119, 10, 110, 117, 109, 98, 101, 114, 10] from rfl]
  unfold machLine dayLine
  rw [itoa_nat, itoa_nat]
  simp
theorem dy_out (rs : List (ByteArray × ByteArray)) (p g o T : ByteArray) (q : List Nat) (V : Nat) (hT : T = mk (machT rs p g q)) :
    mk ([111, 107, 10, 111, 107, 10] ++ (showT rs p g q o ++ [10]) ++ (Lib.itoa (V : Int) ++ [10])) = ⟨#[111, 107, 10, 111, 107, 10, 109, 97, 99, 104, 105, 110, 101, 32]⟩ ++ T ++ ⟨#[10, 119, 105, 110, 100, 111, 119, 115, 32]⟩ ++ o ++ ⟨#[10, 98, 111, 111, 107, 32, 45, 10]⟩ ++ mk (Lib.decDigits V) ++ ⟨#[10]⟩ := by
  subst hT
  unfold showT
  apply tl_inj
  simp only [append_tl, tl_mk]
  rw [itoa_nat, show tl (⟨#[111, 107, 10, 111, 107, 10, 109, 97, 99, 104, 105, 110, 101, 32]⟩ : ByteArray) = [111, 107, 10, 111, 107, 10, 109, 97, 99, 104, 105, 110, 101, 32] from rfl, show tl (⟨#[10, 119, 105, 110, 100, 111, 119, 115, 32]⟩ : ByteArray) = [10, 119, 105, 110, 100, 111, 119, 115, 32] from rfl, show tl (⟨#[10, 98, 111, 111, 107, 32, 45, 10]⟩ : ByteArray) = [10, 98, 111, 111, 107, 32, 45, 10] from rfl, show tl (⟨#[10]⟩ : ByteArray) = [10] from rfl]
  simp

/-- the number of a day's machine among its own wheels -/
def dayV2 (rs : List (ByteArray × ByteArray)) (P N : Nat) : Nat := (valN (valD rs.length (dayN2 rs.length P N % 10 ^ rs.length)) * cnt 10 (pairsP (dayPlug rs.length P N)) + boardK (dayPlug rs.length P N)) * 10 ^ rs.length + valN (valD rs.length (N % 10 ^ rs.length))

theorem dayV2_le {rs : List (ByteArray × ByteArray)} {p : ByteArray} {P N : Nat} (hv : WheelsV rs p) (hP : P ≤ 5) (hN : N < dayC rs.length P) : dayV2 rs P N ≤ 1000000000000 := by
  obtain ⟨_, _, dq, di, _, _⟩ := day_valid hv hP hN
  have hl3 := hv.2.1
  have h1 : valN (valD rs.length (dayN2 rs.length P N % 10 ^ rs.length)) < 10 ^ rs.length := by
    have h := valN_lt (valD_lt rs.length (dayN2 rs.length P N % 10 ^ rs.length)) rs.length (by rw [valD_len]; exact Nat.le_refl _)
    rwa [List.take_of_length_le (by rw [valD_len]; exact Nat.le_refl _)] at h
  have h2 : valN (valD rs.length (N % 10 ^ rs.length)) < 10 ^ rs.length := by
    have h := valN_lt (valD_lt rs.length (N % 10 ^ rs.length)) rs.length (by rw [valD_len]; exact Nat.le_refl _)
    rwa [List.take_of_length_le (by rw [valD_len]; exact Nat.le_refl _)] at h
  have h3 : 10 ^ rs.length ≤ 1000 := Nat.pow_le_pow_right (show 1 ≤ 10 by omega) hl3
  have h4 : cnt 10 (pairsP (dayPlug rs.length P N)) ≤ 4725 := cnt_le (by omega) (by have := movedN_le (dayPlug rs.length P N); rw [pairs_moved dq.len]; omega)
  have h5 : boardK (dayPlug rs.length P N) ≤ 600000 := boardK_le (fun j _ => nth_lt dq.lt j) (fun j hj => inv_nth dq di hj)
  unfold dayV2
  generalize valN (valD rs.length (dayN2 rs.length P N % 10 ^ rs.length)) = a at h1 ⊢
  generalize valN (valD rs.length (N % 10 ^ rs.length)) = b at h2 ⊢
  generalize 10 ^ rs.length = W at h1 h2 h3 ⊢
  generalize cnt 10 (pairsP (dayPlug rs.length P N)) = C at h4 ⊢
  generalize boardK (dayPlug rs.length P N) = K at h5 ⊢
  have e1 : a * C ≤ 1000 * 4725 := Nat.mul_le_mul (by omega) h4
  have e2 : (a * C + K) * W ≤ (1000 * 4725 + 600000) * 1000 := Nat.mul_le_mul (by omega) h3
  omega
theorem day_num {rs : List (ByteArray × ByteArray)} {p : ByteArray} {P N : Nat} (hv : WheelsV rs p) (hP : P ≤ 5) (hN : N < dayC rs.length P) : NumIs ⟨ordR rs (dayOrd rs.length P N), p, pT (dayRing rs.length P N), pT (dayPlug rs.length P N), pT (dayGrd rs.length N), []⟩ (dayV2 rs P N) := by
  obtain ⟨dl, dv, dq, di, _, _⟩ := day_valid hv hP hN
  intro w' A cap h hc
  have hr : (valD rs.length (dayN2 rs.length P N % 10 ^ rs.length)).length = (ordR rs (dayOrd rs.length P N)).length := by rw [valD_len, dl]
  have hg : (valD rs.length (N % 10 ^ rs.length)).length = (ordR rs (dayOrd rs.length P N)).length := by rw [valD_len, dl]
  have hx := dayNumber_own w' A cap (ordR rs (dayOrd rs.length P N)) p (dayRing rs.length P N) (dayGrd rs.length N) (dayPlug rs.length P N) (boardK (dayPlug rs.length P N)) h hc dv dq di (valD_lt _ _) (valD_lt _ _) hr hg (boardK_le (fun j _ => nth_lt dq.lt j) (fun j hj => inv_nth dq di hj)) (fun w'' => boardNo_is w'' _ dq di)
  rw [show 10 ^ (ordR rs (dayOrd rs.length P N)).length = 10 ^ rs.length by rw [dl]] at hx
  exact hx

theorem day_no {rs : List (ByteArray × ByteArray)} {p : ByteArray} {x n : Int} (hl : rs.length ≤ 100) (hall : ¬ ∃ P N : Nat, x = (P : Int) ∧ n = (N : Int) ∧ WheelsV rs p ∧ P ≤ 5 ∧ N < dayC rs.length P) (w : World) (A : Option Addr) (cap : Nat) (h : Rd w w.heap.size A (rotV rs)) (hc : rs.length ≤ cap) :
    Calls Tryz.prog 6 #[.agg #[.slice A rs.length cap, .string p], .int .i64 x, .int .i64 n] w (DayNot w) ∧ Calls Tryz.prog 7 #[.agg #[.slice A rs.length cap, .string p], .int .i64 x, .int .i64 n] w (DayNot w) := by
  by_cases hy : WheelsV rs p ∧ 0 ≤ x ∧ x ≤ 5
  · obtain ⟨hv, h0, h5⟩ := hy
    obtain ⟨P, rfl⟩ : ∃ P : Nat, x = (P : Int) := ⟨x.toNat, by omega⟩
    have hP : P ≤ 5 := by omega
    have hn : n < 0 ∨ ((dayC rs.length P : Nat) : Int) ≤ n := by
      rcases Int.lt_or_le n 0 with h1 | h1
      · exact .inl h1
      · refine .inr ?_
        rcases Int.lt_or_le n ((dayC rs.length P : Nat) : Int) with h2 | h2
        · exact absurd ⟨P, n.toNat, rfl, by omega, hv, hP, by omega⟩ hall
        · exact h2
    exact ⟨dayKey_no2 w A cap rs p P _ n rfl h hc hv hP hn, sDayKey_no w A cap rs p _ n _ h (fun w' h' => sDayCount_yes w' A cap rs p P _ rfl h' hc hv hP) hn⟩
  · exact ⟨dayKey_no1 w A cap rs p x n h hc hl hy, sDayKey_no w A cap rs p x n (-1) h (fun w' h' => sDayCount_no w' A cap rs p x h' hc hl hy) (by omega)⟩

set_option maxHeartbeats 8000000 in
set_option maxRecDepth 100000 in
theorem fnScriptDay_walk (w : World) (hml : GW w) (A : Option Addr) (cap : Nat) (bs : List UInt8) (h : Rd w w.heap.size A (bytesV bs)) (hc : bs.length ≤ cap) :
    Calls Tryz.prog 3 #[.slice A bs.length cap] w fun e w' => e = .returned (.bool true) ∧ Below w.heap.size w w' := by
  have HML := Lib.hid hml; clear hml
  by_cases hlen : 1048576 < bs.length
  · go_enter Tryz.func3, Tryz.ntmps3
    go_wp2_with fail
    go_ret
    exact ⟨rfl, Below.refl _ _⟩
  · go_enter Tryz.func3, Tryz.ntmps3
    go_wp2_with fail
    refine (drawDayKey_any w A cap bs h hc).mono ?_
    rintro _ w1 ⟨A1, cx, rs, p, x, n, rfl, hr1, hc1, hl6, hp20, hx1, hx2, hn1, hn2, hb1⟩
    have HB1 := Lib.hid hb1; clear hb1 h hc hlen
    obtain ⟨w2, hw2⟩ : ∃ w2, w2 = w1.alloc (.cells #[.slice A1 rs.length cx, .string p] 25) := ⟨_, rfl⟩
    have hal : Below w1.heap.size w1 w2 := by rw [hw2]; exact (Below.refl _ _).alloc (Nat.le_refl _) _
    have hs2 := SB.made w1 #[.slice A1 rs.length cx, .string p] 25
    rw [← hw2] at hs2
    have HB2 := Lib.hid (HB1.out.trans (hal.mono HB1.out.size)); have HR2 := Lib.hid ((hr1.below hal).mono hal.size)
    clear hal hr1 HB1
    obtain ⟨R, hR⟩ : ∃ R, R = w1.heap.size := ⟨_, rfl⟩
    rw [← hR] at hs2
    have HS2 := Lib.hid hs2
    obtain ⟨a0, a1⟩ := hs2.two_cells
    clear hs2
    by_cases hall : ∃ P N : Nat, x = (P : Int) ∧ n = (N : Int) ∧ WheelsV rs p ∧ P ≤ 5 ∧ N < dayC rs.length P
    · obtain ⟨P, N, rfl, rfl, hv, hP, hN⟩ := hall
      obtain ⟨dl, dv, dq, di, dz, dw⟩ := day_valid hv hP hN
      have hl3 := hv.2.1
      have hNb : N ≤ 1000000000000 := by have := (dayC_le hl3 hP).2.2.2; omega
      have hk1 := fun (w' : World) (h' : Rd w' w'.heap.size A1 (rotV rs)) => dayKey_yes w' A1 cx rs p P N _ _ rfl rfl h' hc1 hv hP hN
      have hk2 := fun (w' : World) (h' : Rd w' w'.heap.size A1 (rotV rs)) => sDayKey_yes w' A1 cx rs p P N _ _ rfl rfl h' hc1 hv hP hN
      have hpm := fun (w' : World) (h' : Rd w' w'.heap.size A1 (rotV rs)) => plainMachine_yes w' A1 cx rs p h' hc1 hv
      have hf1 := fun (w' : World) (B : Option Addr) (b : Nat) (h' : Rd w' w'.heap.size B (rotV rs)) (hb : rs.length ≤ b) => formatMachine_yes w' B b rs p (pRing rs) (List.range 10) h' hb (plain_win hv) id_board.1 id_board.2
      have hf2 := fun (w' : World) (B : Option Addr) (b : Nat) (h' : Rd w' w'.heap.size B (rotV (ordR rs (dayOrd rs.length P N)))) (hb : (ordR rs (dayOrd rs.length P N)).length ≤ b) => formatMachine_yes w' B b (ordR rs (dayOrd rs.length P N)) p (pT (dayRing rs.length P N)) (dayPlug rs.length P N) h' hb dv dq di
      have hV := dayV2_le hv hP hN
      have hnum := day_num hv hP hN
      have zm1 := @machT_len rs p (pRing rs) (List.range 10) (plain_win hv)
      have zm2 := @machT_len _ p _ (dayPlug rs.length P N) dv
      obtain ⟨T1, hT1⟩ : ∃ T, T = mk (machT rs p (pRing rs) (List.range 10)) := ⟨_, rfl⟩
      obtain ⟨T2, hT2⟩ : ∃ T, T = mk (machT (ordR rs (dayOrd rs.length P N)) p (pT (dayRing rs.length P N)) (dayPlug rs.length P N)) := ⟨_, rfl⟩
      have hrun := fun (w' : World) (hg' : GW w') => run_day w' hg' _ rs p P N (dayV2 rs P N) hv hP hN hV hnum (dy_text rs p T1 P N hT1)
      rw [dy_out _ p _ (pT (dayGrd rs.length N)) T2 (dayPlug rs.length P N) (dayV2 rs P N) hT2] at hrun
      rw [← hT1] at hf1
      rw [← hT2] at hf2
      have zT1 : T1.size ≤ 110 := by rw [hT1, size_mk]; exact zm1
      have zT2 : T2.size ≤ 110 := by rw [hT2, size_mk]; exact zm2
      clear zm1 zm2 hT1 hT2
      have hrm := fun (w' : World) (B1 B2 : Option Addr) (b1 b2 : Nat) (h1 : Rd w' w'.heap.size B1 (rotV (ordR rs (dayOrd rs.length P N)))) (h2 : Rd w' w'.heap.size B2 (rotV (ordR rs (dayOrd rs.length P N)))) (k1 : (ordR rs (dayOrd rs.length P N)).length ≤ b1) (k2 : (ordR rs (dayOrd rs.length P N)).length ≤ b2) => rcMachines_same w' B1 B2 b1 b2 _ p (pT (dayRing rs.length P N)) (pT (dayPlug rs.length P N)) h1 h2 k1 k2 (by omega)
      have hr1 := fun w' => rcNumber_any w' P (by omega)
      have hr2 := fun w' => rcNumber_any w' N hNb
      have hr3 := fun w' => rcNumber_any w' (dayV2 rs P N) hV
      have zd1 := dec_len P (by omega)
      have zd2 := dec_len N hNb
      have zd3 := dec_len _ hV
      have hgz : (pT (dayGrd rs.length N)).size ≤ 3 := by rw [dz, dv.2.1, dl]; exact hl3
      unfold DayMade at hk1 hk2
      unfold PlainMade at hpm
      obtain ⟨V, hVV⟩ : ∃ V, V = dayV2 rs P N := ⟨_, rfl⟩
      rw [← hVV] at hrun hr3 zd3 hnum
      clear dv dq di dz dw hVV hV hv hP hN
      obtain ⟨ND, hND⟩ : ∃ ND : Nat → ByteArray, ND = fun n => mk (Lib.decDigits n) := ⟨_, rfl⟩
      have eP : mk (Lib.decDigits P) = ND P := by rw [hND]
      have eN : mk (Lib.decDigits N) = ND N := by rw [hND]
      have eV : mk (Lib.decDigits V) = ND V := by rw [hND]
      have zP : (ND P).size ≤ 14 := by rw [← eP, size_mk]; exact zd1
      have zN : (ND N).size ≤ 14 := by rw [← eN, size_mk]; exact zd2
      have zV : (ND V).size ≤ 14 := by rw [← eV, size_mk]; exact zd3
      rw [eP] at hr1 hrun
      rw [eN] at hr2 hrun
      rw [eV] at hr3 hrun
      clear eP eN eV hND zd1 zd2 zd3
      unfold NumIs at hnum
      generalize ordR rs (dayOrd rs.length P N) = ws at *
      generalize pT (dayRing rs.length P N) = g at *
      generalize pT (dayPlug rs.length P N) = l at *
      generalize pT (dayGrd rs.length N) = u at *
      simp only at hnum
      obtain ⟨rg0, hrg0⟩ : ∃ z, z = pRing rs := ⟨_, rfl⟩
      rw [show mk (List.replicate rs.length 97) = pRing rs from rfl, ← hrg0] at hpm
      rw [← hrg0] at hf1
      obtain ⟨id0, hid0⟩ : ∃ z, z = pT (List.range 10) := ⟨_, rfl⟩
      rw [show mk ((List.range 10).map letter) = pT (List.range 10) from rfl, ← hid0] at hpm
      rw [← hid0] at hf1
      obtain ⟨M, hM⟩ : ∃ M, M = rs.length := ⟨_, rfl⟩
      rw [← hM] at hk1 hk2 hpm hf1 dl hw2 HS2 a0 ⊢
      rw [dl] at hf2 hrm hnum
      have HK1 := Lib.hid hk1; have HK2 := Lib.hid hk2; have HPM := Lib.hid hpm; have HF1 := Lib.hid hf1; have HF2 := Lib.hid hf2; have HRM := Lib.hid hrm; have HN1 := Lib.hid hr1; have HN2 := Lib.hid hr2; have HN3 := Lib.hid hr3; have HNU := Lib.hid hnum; have HRU := Lib.hid hrun
      clear hk1 hk2 hpm hf1 hf2 hrm hr1 hr2 hr3 hnum hrun hrg0 hid0 hM dl hc1 hl6 hl3 hNb
      have hke : (u.toList == u.toList) = true := beq_self_eq_true _
      go_wp2_with fail
      rw [← hw2, ← hR]
      clear hw2 hR
      refine (HK1.out _ HR2.out).mono ?_
      rintro _ w3 ⟨A3, c3, rfl, ho3, hb3⟩
      obtain ⟨w4, hw4⟩ : ∃ w4, w4 = w3.alloc (.cells #[.slice A3 M c3, .string p, .string g, .string l] 29) := ⟨_, rfl⟩
      obtain ⟨Xm, hXm⟩ : ∃ Xm, Xm = w3.heap.size := ⟨_, rfl⟩
      have hal : Below w3.heap.size w3 w4 := by rw [hw4]; exact (Below.refl _ _).alloc (Nat.le_refl _) _
      have hx4 := SB.made w3 #[.slice A3 M c3, .string p, .string g, .string l] 29
      rw [← hw4, ← hXm] at hx4
      have hb4 := hb3.trans (hal.mono hb3.size)
      have HB4 := Lib.hid (HB2.out.trans (hb4.mono HB2.out.size)); have HR4 := Lib.hid ((HR2.out.below hb4).mono hb4.size); have HS4 := Lib.hid (HS2.out.below hb4); have HX4 := Lib.hid hx4
      have HA4 := Lib.hid (own_rd3' (ownsRow_below ho3 hal)); have hca3 := own_le3 ho3
      obtain ⟨d0, d1⟩ := HS4.out.two_cells
      rw [hw4] at d0 d1
      clear hal hx4 hb3 hb4 ho3 a0 a1 HB2 HR2 HS2 HK1
      go_wp2_with fail
      rw [← hw4, ← hXm]
      clear hw4 hXm d0 d1
      refine (HK2.out _ HR4.out).mono ?_
      rintro _ w5 ⟨A5, c5, rfl, ho5, hb5⟩
      obtain ⟨w6, hw6⟩ : ∃ w6, w6 = w5.alloc (.cells #[.slice A5 M c5, .string p, .string g, .string l] 29) := ⟨_, rfl⟩
      obtain ⟨Xw, hXw⟩ : ∃ Xw, Xw = w5.heap.size := ⟨_, rfl⟩
      have hal : Below w5.heap.size w5 w6 := by rw [hw6]; exact (Below.refl _ _).alloc (Nat.le_refl _) _
      have hx6 := SB.made w5 #[.slice A5 M c5, .string p, .string g, .string l] 29
      rw [← hw6, ← hXw] at hx6
      have hb6 := hb5.trans (hal.mono hb5.size)
      have HB6 := Lib.hid (HB4.out.trans (hb6.mono HB4.out.size)); have HR6 := Lib.hid ((HR4.out.below hb6).mono hb6.size); have HS6 := Lib.hid (HS4.out.below hb6); have HX6 := Lib.hid (HX4.out.below hb6); have HA6 := Lib.hid ((HA4.out.below hb6).mono hb6.size)
      have HC6 := Lib.hid (own_rd3' (ownsRow_below ho5 hal)); have hca5 := own_le3 ho5
      obtain ⟨⟨m0, m1, m2, m3⟩, _⟩ := HX6.out.all4
      obtain ⟨⟨n0, n1, n2, n3⟩, _⟩ := hx6.all4
      rw [hw6] at m0 m1 m2 m3 n0 n1 n2 n3
      rw [hXw] at n0 n1 n2 n3
      clear hal hx6 hb5 hb6 ho5 HB4 HR4 HS4 HX4 HA4 HK2
      go_wp2_with fail
      rw [← hw6]
      clear hw6 hXw m0 m1 m2 m3 n0 n1 n2 n3
      refine (HRM.out _ A3 A5 c3 c5 HA6.out HC6.out hca3 hca5).mono ?_
      rintro _ w7 ⟨rfl, hb7⟩
      have HB7 := Lib.hid (HB6.out.trans (hb7.mono HB6.out.size)); have HR7 := Lib.hid ((HR6.out.below hb7).mono hb7.size); have HS7 := Lib.hid (HS6.out.below hb7); have HX7 := Lib.hid (HX6.out.below hb7); have HA7 := Lib.hid ((HA6.out.below hb7).mono hb7.size)
      obtain ⟨d0, d1⟩ := HS7.out.two_cells
      clear hb7 HB6 HR6 HS6 HX6 HA6 HC6 HRM hca5
      go_wp2_with fail
      refine (HPM.out _ HR7.out).mono ?_
      rintro _ w8 ⟨A8, c8, rfl, ho8, hb8⟩
      obtain ⟨w9, hw9⟩ : ∃ w9, w9 = w8.alloc (.cells #[.slice A8 M c8, .string p, .string rg0, .string id0] 29) := ⟨_, rfl⟩
      obtain ⟨Xp, hXp⟩ : ∃ Xp, Xp = w8.heap.size := ⟨_, rfl⟩
      have hal : Below w8.heap.size w8 w9 := by rw [hw9]; exact (Below.refl _ _).alloc (Nat.le_refl _) _
      have hx9 := SB.made w8 #[.slice A8 M c8, .string p, .string rg0, .string id0] 29
      rw [← hw9, ← hXp] at hx9
      have hb9 := hb8.trans (hal.mono hb8.size)
      have HB9 := Lib.hid (HB7.out.trans (hb9.mono HB7.out.size)); have HX9 := Lib.hid (HX7.out.below hb9); have HA9 := Lib.hid ((HA7.out.below hb9).mono hb9.size)
      have HC9 := Lib.hid (own_rd3' (ownsRow_below ho8 hal)); have hca8 := own_le3 ho8
      obtain ⟨⟨n0, n1, n2, n3⟩, _⟩ := hx9.all4
      rw [hw9, hXp] at n0 n1 n2 n3
      clear hal hx9 hb8 hb9 ho8 HB7 HR7 HS7 HX7 HA7 HPM d0 d1
      go_wp2_with fail
      rw [← hw9]
      clear hw9 hXp n0 n1 n2 n3
      refine (HF1.out _ A8 c8 HC9.out hca8).mono ?_
      rintro _ w10 ⟨rfl, hb10⟩
      have HB10 := Lib.hid (HB9.out.trans (hb10.mono HB9.out.size)); have HX10 := Lib.hid (HX9.out.below hb10); have HA10 := Lib.hid ((HA9.out.below hb10).mono hb10.size)
      clear hb10 HB9 HX9 HA9 HC9 HF1 hca8
      have y1 : ¬ 9223372036854775807 < 8 + T1.size := by omega
      have y2 : ¬ 9223372036854775807 < 8 + T1.size + 5 := by omega
      have y3 : ¬ 9223372036854775807 < 8 + T1.size + 5 + (ND P).size := by omega
      have y4 : ¬ 9223372036854775807 < 8 + T1.size + 5 + (ND P).size + 1 := by omega
      have y5 : ¬ 9223372036854775807 < 8 + T1.size + 5 + (ND P).size + 1 + (ND N).size := by omega
      have y6 : ¬ 9223372036854775807 < 8 + T1.size + 5 + (ND P).size + 1 + (ND N).size + 13 := by omega
      go_wp2_with fail
      refine (HN1.out _).mono ?_
      rintro _ w11 ⟨rfl, hb11⟩
      have HB11 := Lib.hid (HB10.out.trans (hb11.mono HB10.out.size)); have HX11 := Lib.hid (HX10.out.below hb11); have HA11 := Lib.hid ((HA10.out.below hb11).mono hb11.size)
      clear hb11 HB10 HX10 HA10 HN1
      go_wp2_with fail
      refine (HN2.out _).mono ?_
      rintro _ w12 ⟨rfl, hb12⟩
      have HB12 := Lib.hid (HB11.out.trans (hb12.mono HB11.out.size)); have HX12 := Lib.hid (HX11.out.below hb12); have HA12 := Lib.hid ((HA11.out.below hb12).mono hb12.size)
      obtain ⟨⟨m0, m1, m2, m3⟩, _⟩ := HX12.out.all4
      clear hb12 HB11 HX11 HA11 HN2
      go_wp2_with fail
      refine (HNU.out _ A3 c3 HA12.out hca3).mono ?_
      rintro _ w13 ⟨rfl, hb13⟩
      have HB13 := Lib.hid (HB12.out.trans (hb13.mono HB12.out.size)); have HX13 := Lib.hid (HX12.out.below hb13); have HA13 := Lib.hid ((HA12.out.below hb13).mono hb13.size)
      clear hb13 HB12 HX12 HA12 HNU m0 m1 m2 m3
      go_wp2_with fail
      refine (HN3.out _).mono ?_
      rintro _ w14 ⟨rfl, hb14⟩
      have HB14 := Lib.hid (HB13.out.trans (hb14.mono HB13.out.size)); have HX14 := Lib.hid (HX13.out.below hb14); have HA14 := Lib.hid ((HA13.out.below hb14).mono hb14.size)
      have HG14 := Lib.hid (HML.out.below HB14.out (Nat.le_refl _))
      have z1 : ¬ 9223372036854775807 < 14 + T2.size := by omega
      have z2 : ¬ 9223372036854775807 < 14 + T2.size + 9 := by omega
      have z3 : ¬ 9223372036854775807 < 14 + T2.size + 9 + u.size := by omega
      have z4 : ¬ 9223372036854775807 < 14 + T2.size + 9 + u.size + 8 := by omega
      have z5 : ¬ 9223372036854775807 < 14 + T2.size + 9 + u.size + 8 + (ND V).size := by omega
      have z6 : ¬ 9223372036854775807 < 14 + T2.size + 9 + u.size + 8 + (ND V).size + 1 := by omega
      have hs : ∀ W : World, Below w14.heap.size w14 W → (W.cell? ⟨Xm, 0, none⟩ = some (.slice A3 M c3) ∧ W.cell? ⟨Xm, 1, none⟩ = some (.string p) ∧ W.cell? ⟨Xm, 2, none⟩ = some (.string g) ∧ W.cell? ⟨Xm, 3, none⟩ = some (.string l)) := fun W hbw => ((HX14.out.below hbw).all4).1
      have HSS := Lib.hid hs
      have HRR := Lib.hid (fun (W : World) (hb : Below w14.heap.size w14 W) => (HA14.out.below hb).mono hb.size)
      have hbd : Below w14.heap.size w14 w14.drew := (Below.refl _ _).drew
      have hbr : Below w14.heap.size w14 w14 := Below.refl _ _
      have hfin : ((⟨#[111, 107, 10, 111, 107, 10, 109, 97, 99, 104, 105, 110, 101, 32]⟩ ++ T2 ++ ⟨#[10, 119, 105, 110, 100, 111, 119, 115, 32]⟩ ++ u ++ ⟨#[10, 98, 111, 111, 107, 32, 45, 10]⟩ ++ ND V ++ ⟨#[10]⟩ : ByteArray).toList == (⟨#[111, 107, 10, 111, 107, 10, 109, 97, 99, 104, 105, 110, 101, 32]⟩ ++ T2 ++ ⟨#[10, 119, 105, 110, 100, 111, 119, 115, 32]⟩ ++ u ++ ⟨#[10, 98, 111, 111, 107, 32, 45, 10]⟩ ++ ND V ++ ⟨#[10]⟩ : ByteArray).toList) = true := beq_self_eq_true _
      clear hb14 HB13 HX13 HA13 HN3 hs HX14
      go_wp2_with fail
      go_region_held3 (fun W => W.cell? ⟨Xm, 0, none⟩ = some (.slice A3 M c3) ∧ W.cell? ⟨Xm, 1, none⟩ = some (.string p) ∧ W.cell? ⟨Xm, 2, none⟩ = some (.string g) ∧ W.cell? ⟨Xm, 3, none⟩ = some (.string l)) (first | with_reducible assumption | with_reducible exact HSS.out _ (by with_reducible assumption) | fail) (first | (go_at_call 13; refine (HRU.out _ (HG14.out.below (by with_reducible assumption) (Nat.le_refl _))).mono ?_; rintro _ w15 ⟨rfl, hb15⟩; have b15 := bel_on (a := w14) (by with_reducible assumption) hb15; clear hb15) | (go_at_call 10; refine (HF2.out _ A3 c3 (HRR.out _ (by with_reducible assumption)) hca3).mono ?_; rintro _ w16 ⟨rfl, hb16⟩; have b16 := bel_on (a := w14) (by with_reducible assumption) hb16; clear hb16) | fail)
      all_goals
        go_wp2_with fail
        go_ret
        first
        | exact ⟨rfl, HB14.out.trans (b16.mono HB14.out.size)⟩
        | exact ⟨rfl, HB14.out.trans (b15.mono HB14.out.size)⟩
    · have HK := Lib.hid (fun (w' : World) (h' : Rd w' w'.heap.size A1 (rotV rs)) => day_no (by omega) hall w' A1 cx h' hc1)
      clear hall
      go_wp2_with fail
      rw [← hw2, ← hR]
      clear hw2 hR
      refine ((HK.out _ HR2.out).1).mono ?_
      rintro _ w3 ⟨rfl, hb3⟩
      have HB3 := Lib.hid (HB2.out.trans (hb3.mono HB2.out.size)); have HR3 := Lib.hid ((HR2.out.below hb3).mono hb3.size); have HS3 := Lib.hid (HS2.out.below hb3)
      have hm0 : ∀ w' : World, Calls Tryz.prog 8 #[.agg #[.slice none 0 0, .string ⟨#[]⟩, .string ⟨#[]⟩, .string ⟨#[]⟩], .agg #[.slice none 0 0, .string ⟨#[]⟩, .string ⟨#[]⟩, .string ⟨#[]⟩]] w' fun e w'' => e = .returned (.bool true) ∧ Below w'.heap.size w' w'' := fun w' =>
        rcMachines_same w' none none 0 0 [] ⟨#[]⟩ ⟨#[]⟩ ⟨#[]⟩ (fun hn => absurd rfl hn) (fun hn => absurd rfl hn) (Nat.le_refl _) (Nat.le_refl _) (Nat.zero_le _)
      have HM0 := Lib.hid hm0
      clear hm0
      obtain ⟨w4, hw4⟩ : ∃ w4, w4 = w3.alloc (.cells #[.slice none 0 0, .string ⟨#[]⟩, .string ⟨#[]⟩, .string ⟨#[]⟩] 29) := ⟨_, rfl⟩
      obtain ⟨Xm, hXm⟩ : ∃ Xm, Xm = w3.heap.size := ⟨_, rfl⟩
      have hal : Below w3.heap.size w3 w4 := by rw [hw4]; exact (Below.refl _ _).alloc (Nat.le_refl _) _
      have hx4 := SB.made w3 #[.slice none 0 0, .string ⟨#[]⟩, .string ⟨#[]⟩, .string ⟨#[]⟩] 29
      rw [← hw4, ← hXm] at hx4
      have HB4 := Lib.hid (HB3.out.trans (hal.mono HB3.out.size)); have HR4 := Lib.hid ((HR3.out.below hal).mono hal.size); have HS4 := Lib.hid (HS3.out.below hal); have HX4 := Lib.hid hx4
      obtain ⟨d0, d1⟩ := HS4.out.two_cells
      rw [hw4] at d0 d1
      clear hal hx4 hb3 a0 a1 HB2 HR2 HS2 HB3 HR3 HS3
      go_wp2_with fail
      rw [← hw4, ← hXm]
      clear hw4 hXm d0 d1
      refine ((HK.out _ HR4.out).2).mono ?_
      rintro _ w5 ⟨rfl, hb5⟩
      obtain ⟨w6, hw6⟩ : ∃ w6, w6 = w5.alloc (.cells #[.slice none 0 0, .string ⟨#[]⟩, .string ⟨#[]⟩, .string ⟨#[]⟩] 29) := ⟨_, rfl⟩
      have hal : Below w5.heap.size w5 w6 := by rw [hw6]; exact (Below.refl _ _).alloc (Nat.le_refl _) _
      have hx6 := SB.made w5 #[.slice none 0 0, .string ⟨#[]⟩, .string ⟨#[]⟩, .string ⟨#[]⟩] 29
      rw [← hw6] at hx6
      have hb6 := hb5.trans (hal.mono hb5.size)
      have HB6 := Lib.hid (HB4.out.trans (hb6.mono HB4.out.size)); have HX6 := Lib.hid (HX4.out.below hb6); have HY6 := Lib.hid hx6
      obtain ⟨⟨m0, m1, m2, m3⟩, _⟩ := HX6.out.all4
      obtain ⟨⟨n0, n1, n2, n3⟩, _⟩ := hx6.all4
      rw [hw6] at m0 m1 m2 m3 n0 n1 n2 n3
      clear hal hx6 hb5 hb6 HB4 HR4 HS4 HX4 HK
      go_wp2_with fail
      rw [← hw6]
      obtain ⟨Xw, hXw⟩ : ∃ Xw, Xw = w5.heap.size := ⟨_, rfl⟩
      rw [← hXw] at HY6 ⊢
      clear hw6 hXw m0 m1 m2 m3 n0 n1 n2 n3
      refine (HM0.out _).mono ?_
      rintro _ w7 ⟨rfl, hb7⟩
      have HB7 := Lib.hid (HB6.out.trans (hb7.mono HB6.out.size)); have HX7 := Lib.hid (HX6.out.below hb7); have HY7 := Lib.hid (HY6.out.below hb7)
      obtain ⟨⟨m0, m1, m2, m3⟩, _⟩ := HX7.out.all4
      obtain ⟨⟨n0, n1, n2, n3⟩, _⟩ := HY7.out.all4
      clear hb7 HB6 HX6 HY6
      go_wp2_with fail
      refine (HM0.out _).mono ?_
      rintro _ w8 ⟨rfl, hb8⟩
      have HB8 := Lib.hid (HB7.out.trans (hb8.mono HB7.out.size))
      clear hb8 HB7 HX7 HY7 m0 m1 m2 m3 n0 n1 n2 n3
      go_wp2_with fail
      go_ret
      exact ⟨rfl, HB8.out⟩

end Go.Proofs.YtipcodebmemkpaaGreatDoor
