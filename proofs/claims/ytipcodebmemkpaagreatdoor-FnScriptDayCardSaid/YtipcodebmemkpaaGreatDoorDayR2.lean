/-
  The machine of a day: contracts of both sides; the draws of a stock, a number of pairs and a number. Conditions: what each theorem names.
-/
import Derived.Test.YtipcodebmemkpaaGreatDoorDayQa
import Derived.Test.YtipcodebmemkpaaGreatDoorDayPl
import Derived.Test.YtipcodebmemkpaaGreatDoorMachB
import Derived.Test.YtipcodebmemkpaaGreatDoorTextA
import Derived.Test.YtipcodebmemkpaaGreatDoorKeyA
import Derived.Deep.RegionHeld3
import Derived.Test.YtipcodebmemkpaaGreatDoorDrawSl
import Derived.Deep.RegionLaw
namespace Go.Proofs.YtipcodebmemkpaaGreatDoor
open Go.RowKit Pl
set_option linter.unusedVariables false

abbrev noSeen : Obj := .cells #[.bool false, .bool false, .bool false, .bool false, .bool false, .bool false, .bool false, .bool false, .bool false, .bool false] 103
theorem seen_ten : #[Value.bool false, .bool false, .bool false, .bool false, .bool false, .bool false, .bool false, .bool false, .bool false, .bool false] = seenC 10 [] := by rfl
theorem seen_cell {w : World} {b : Nat} {l : List Nat} (h : SB w b (seenC 10 l) 103) {k : Nat} (hk : k < 10) : w.cell? ⟨b, k, none⟩ = some (.bool (decide (k ∈ l))) := by
  refine (cell_of_row w b k _ _ _ h).trans ?_
  rw [seenC_get 10 l hk]
theorem prm_ten {left P n p} (h : Bst left P n p) : Ten p := h.prm.1.toTen

theorem div_same {m c E K N2 N1 : Nat} (h : m + c * E = N1) (h2 : E * K + N2 = N1) (hm : m < E) (hn : N2 < E) : c = K ∧ m = N2 := by
  have e1 : N1 / E = c := by rw [← h, Nat.add_mul_div_right _ _ (by omega), Nat.div_eq_of_lt hm, Nat.zero_add]
  have e2 : N1 / E = K := by rw [← h2, Nat.mul_add_div (by omega), Nat.div_eq_of_lt hn, Nat.add_zero]
  have hc : c = K := by rw [← e1, e2]
  subst hc
  refine ⟨rfl, ?_⟩
  rw [Nat.mul_comm] at h2; omega
theorem div_less {m c E K N2 N1 : Nat} (h : m + c * E = N1) (h2 : E * K + N2 = N1) (hm : E ≤ m) (hn : N2 < E) (hc : c ≤ K) : c + 1 ≤ K ∧ (m - E) + (c + 1) * E = N1 := by
  constructor
  · rcases Nat.lt_or_ge c K with h3 | h3
    · exact h3
    · have : c = K := by omega
      subst this
      rw [Nat.mul_comm] at h2; omega
  · rw [Nat.add_mul, Nat.one_mul]; omega
theorem drop_head {l : List Nat} {c y : Nat} {r : List Nat} (h : l.drop c = y :: r) : nth l c = y ∧ l.drop (c + 1) = r ∧ c < l.length := by
  have hc : c < l.length := by
    rcases Nat.lt_or_ge c l.length with h1 | h1
    · exact h1
    · rw [List.drop_eq_nil_of_le h1] at h; cases h
  rw [List.drop_eq_getElem_cons hc] at h
  injection h with h1 h2
  exact ⟨by rw [nth_eq hc]; exact h1, h2, hc⟩

set_option maxHeartbeats 8000000 in
set_option maxRecDepth 100000 in
theorem boardAt_is (w : World) (P N : Nat) (x n : Int) (hx : x = (P : Int)) (hn : n = (N : Int)) (hP : P ≤ 5) (hN : N < cnt 10 P) :
    Calls Tryz.prog 28 #[.int .i64 x, .int .i64 n] w fun e w' => e = .returned (.tuple #[.string (pT (boardP P N)), .bool true]) ∧ Below w.heap.size w w' := by
  subst hx hn
  have hst := bst_start hP hN
  have hR : brd 10 (List.range 10) P N (List.range 10) = boardP P N := rfl
  obtain ⟨R, hRR⟩ : ∃ R, R = boardP P N := ⟨_, rfl⟩
  rw [← hRR] at hR ⊢
  have hbc := fun w' => boardCount_is w' P _ rfl hP
  have hge : ¬ ((cnt 10 P : Nat) : Int) ≤ (N : Int) := by omega
  have HB10 := fun l' (h : l' = fr [] 0) => (show Bst l' P N (List.range 10) by rw [h, fr_nil]; exact hst)
  have hid := fun w' => identity_any w'
  obtain ⟨I, hI⟩ : ∃ I, I = List.range 10 := ⟨_, rfl⟩
  have hIl : I.length = 10 := by rw [hI]; rfl
  rw [← hI] at hid
  have hst2 : Bst (fr [] 0) P N I := by rw [hI]; exact HB10 _ rfl
  have hR2 : brd 10 (fr [] 0) P N I = R := by rw [fr_nil, hI]; exact hR
  have HBC := Lib.hid hbc; have HST := Lib.hid hst2; have HR := Lib.hid hR2; have HID := Lib.hid hid; have HIL := Lib.hid hIl
  have HBO := Lib.hid (fun (w' : World) (L P' : Nat) (l p : Int) (hl : l = (L : Int)) (hp : p = (P' : Int)) (hL : L ≤ 10) (hP' : P' ≤ 5) => boardsOf_is w' L P' l p hl hp hL hP')
  clear hbc hst hR hRR hN HB10 hst2 hR2 hid hI hIl
  generalize cnt 10 P = C at HBC hge
  go_enter Tryz.func28, Tryz.ntmps28
  go_wp2_with fail
  refine (HBC.out _).mono ?_
  rintro _ _ ⟨rfl, rfl⟩
  go_wp2_with fail
  refine (HID.out _).mono ?_
  rintro _ w1 ⟨rfl, hb1⟩
  have HG1 := Lib.hid (PB.made w1)
  have HB2 := Lib.hid (hb1.alloc hb1.size (.cells #[.int .u8 0, .int .u8 0, .int .u8 0, .int .u8 0, .int .u8 0, .int .u8 0, .int .u8 0, .int .u8 0, .int .u8 0, .int .u8 0] 101))
  have HP2 := Lib.hid (HG1.out.row I)
  have HB3 := Lib.hid (below_setRow (p := w1.heap.size) HB2.out hb1.size (pC I))
  obtain ⟨w3, hw3⟩ : ∃ w3, w3 = (w1.alloc (.cells #[.int .u8 0, .int .u8 0, .int .u8 0, .int .u8 0, .int .u8 0, .int .u8 0, .int .u8 0, .int .u8 0, .int .u8 0, .int .u8 0] 101)).setRow w1.heap.size (pC I) := ⟨_, rfl⟩
  obtain ⟨A, hA⟩ : ∃ A, A = w1.heap.size := ⟨_, rfl⟩
  have hwA : w.heap.size ≤ A := by rw [hA]; exact hb1.size
  have HW1 := Lib.hid hb1
  clear hb1
  go_wp2_with (first | (refine wpList_store_row rfl 101 _ _ rfl w1.heap.size (pC I) rfl rfl _ _ HG1.out (permSize HIL.out) (by rw [pC_size, pC_size, HIL.out]; rfl) (pC_one _) ?_))
  have hz3 : w3.heap.size = A + 1 := by rw [hw3, hA]; simp [World.setRow]
  have HP3 : Hid (PB w3 A I) := by rw [hw3, hA]; exact HP2
  have HB3' : Hid (Below w.heap.size w w3) := by rw [hw3]; exact HB3
  rw [← hw3]
  obtain ⟨w4, hw4⟩ : ∃ w4, w4 = w3.alloc noSeen := ⟨_, rfl⟩
  have hp4 : PB w4 A I := by rw [hw4]; exact block_kept3 HP3.out _
  have hd4 : SB w4 (A + 1) (seenC 10 []) 103 := by rw [hw4, ← hz3, ← seen_ten]; exact heap_alloc_new w3 _
  have hb4 : Below w.heap.size w w4 := by rw [hw4]; exact HB3'.out.alloc HB3'.out.size _
  rw [← hw4, ← hA]
  have HP4 := Lib.hid hp4; have HD4 := Lib.hid hd4; have HB4 := Lib.hid hb4
  clear hw4 hw3 hA hp4 hd4 hb4 HP3 HB3' HP2 HB3 HB2 HG1 HW1 hz3
  go_loopw [0, 1, 7, 22] (fun pv nv fv iv wr => ∃ (k P' N' f : Nat) (left l p : List Nat), pv = .int .i64 (P' : Int) ∧ nv = .int .i64 (N' : Int) ∧ fv = .int .i64 ((left.length : Nat) : Int) ∧ iv = .int .i64 (k : Int) ∧ k ≤ 10 ∧ left = fr l k ∧ Hid (Bst left P' N' p) ∧ Hid (brd f left P' N' p = R) ∧ left.length ≤ f ∧ Hid (PB wr A p) ∧ Hid (SB wr (A + 1) (seenC 10 l) 103) ∧ Hid (Below w.heap.size w wr)) (fun _ _ _ iv _ => 10 - (intOf iv).toNat)
  case atStart => exact ⟨0, P, N, 10, fr [] 0, [], I, rfl, rfl, by rw [fr_nil]; rfl, rfl, by omega, rfl, HST, HR, by rw [fr_nil]; simp, HP4, HD4, HB4⟩
  case round =>
    obtain ⟨k, P', N', f, left, l, p, rfl, rfl, rfl, rfl, hk, hleft, HBS, HRD, hlf, HPB, HSB, HBL⟩ := hrel
    clear HP4 HD4 HB4 HST HR
    by_cases hlt : k < 10
    · have v0 : (k : Int) < 10 := by omega
      have c0 := seen_cell HSB.out hlt
      by_cases hkl : k ∈ l
      · rw [decide_eq_true hkl] at c0
        rw [fr_in hlt hkl] at hleft
        clear hkl
        go_wp2_with fail
        go_roundw
        case rel => exact ⟨k + 1, P', N', f, left, l, p, rfl, rfl, rfl, by go_num, by omega, hleft, HBS, HRD, hlf, HPB, HSB, HBL⟩
        case measure => simp [intOf]; omega
      · rw [decide_eq_false hkl] at c0
        rw [fr_out hlt hkl] at hleft
        obtain ⟨rest, hrest⟩ : ∃ rest, rest = fr l (k + 1) := ⟨_, rfl⟩
        rw [← hrest] at hleft
        subst hleft
        have hll := HBS.out.len
        have hP5 := HBS.out.hP
        rw [List.length_cons] at hll hlf
        obtain ⟨f', rfl⟩ : ∃ f', f = f' + 1 := ⟨f - 1, by omega⟩
        obtain ⟨T, hT⟩ : ∃ T, T = rest.length := ⟨_, rfl⟩
        have w1' : IntKind.i64.wrap (((T + 1 : Nat) : Int) - 1) = (T : Int) := by rw [IntKind.wrap_i64]; omega
        have w2' : wrap64 (((T + 1 : Nat) : Int) - 1) = (T : Int) := by unfold wrap64; omega
        have hl1 : (k :: rest).length = T + 1 := by rw [hT, List.length_cons]
        rw [hl1]
        have HT := Lib.hid hT; have HRS := Lib.hid hrest
        have hT10 : T ≤ 9 := by omega
        by_cases hn : N' < cnt rest.length P'
        · have HBS2 := Lib.hid (HBS.out.alone hn)
          have HRD2 : Hid (brd f' rest P' N' p = R) := Lib.hid (by rw [← HRD.out, brd_lt hn])
          have hb0 := HBO.out wr rest.length P'
          rw [← hT] at hn hb0
          have HB0 := Lib.hid hb0
          have hlf2 : rest.length ≤ f' := by omega
          clear hT hrest hl1 hkl hll hlf
          generalize cnt T P' = K at hn HB0
          have v1 : ¬ (K : Int) ≤ (N' : Int) := by omega
          clear hb0 HBS HRD
          go_wp2_with fail
          refine (HB0.out _ _ (by first | rfl | omega) rfl (by omega) hP5).mono ?_
          rintro _ _ ⟨rfl, rfl⟩
          go_wp2_with fail
          go_roundw
          case rel => exact ⟨k + 1, P', N', f', rest, l, p, rfl, rfl, by rw [← HT.out], by go_num, by omega, HRS.out, HBS2, HRD2, hlf2, HPB, HSB, HBL⟩
          case measure => simp [intOf]; omega
        · obtain ⟨hP1, hr1, he0, hK, hmul⟩ := HBS.out.part hn
          have hbp := fun (hk' : (N' - cnt rest.length P') / cnt (rest.length - 1) (P' - 1) < rest.length) => HBS.out.pair hP1 hk' (Nat.mod_lt (N' - cnt rest.length P') he0)
          have hbr := brd_ge (f := f') (x := k) (p := p) hn
          rw [HRD.out] at hbr
          have hbp := hbp hK
          have hb0 := HBO.out wr rest.length P'
          have hb1 := HBO.out wr (rest.length - 1) (P' - 1)
          have hlr := Nat.div_add_mod (N' - cnt rest.length P') (cnt (rest.length - 1) (P' - 1))
          have hmd := Nat.mod_lt (N' - cnt rest.length P') he0
          rw [← hT] at hn hb0 hb1 he0 hK hmul hbp hbr hlr hmd
          obtain ⟨F1, hF1⟩ : ∃ F1, F1 = cnt T P' := ⟨_, rfl⟩
          obtain ⟨E1, hE1⟩ : ∃ E1, E1 = cnt (T - 1) (P' - 1) := ⟨_, rfl⟩
          rw [← hF1] at hn hb0 hK hmul hbp hbr hlr hmd
          rw [← hE1] at hb1 he0 hK hmul hbp hbr hlr hmd
          obtain ⟨N1, hN1⟩ : ∃ N1, N1 = N' - F1 := ⟨_, rfl⟩
          rw [← hN1] at hK hmul hbp hbr hlr hmd
          obtain ⟨K, hKK⟩ : ∃ K, K = N1 / E1 := ⟨_, rfl⟩
          obtain ⟨N2, hN2⟩ : ∃ N2, N2 = N1 % E1 := ⟨_, rfl⟩
          rw [← hKK] at hK hbp hbr hlr
          rw [← hN2] at hbp hbr hlr hmd
          have hKr : K < rest.length := by rw [← hT]; exact hK
          obtain ⟨Y, hY⟩ : ∃ Y, Y = nth rest K := ⟨_, rfl⟩
          rw [← hY] at hbp hbr
          have hYm : Y ∈ rest := by rw [hY, nth_eq hKr]; exact List.getElem_mem hKr
          have hYs := HBS.out.small Y (List.mem_cons_of_mem _ hYm)
          have hks := HBS.out.small k (by simp)
          have hten := prm_ten HBS.out
          have hwp : withP p k Y = swpP p k Y := withP_swp HBS.out.ten hks.1 hYs.1 hks.2 hYs.2
          have hfp : fr (l ++ [Y]) (k + 1) = rest.eraseIdx K := by
            rw [hrest] at hKr hY ⊢
            exact fr_put hKr hY.symm
          have hel : (rest.eraseIdx K).length = T - 1 := by rw [List.length_eraseIdx, if_pos hKr, hT]
          have HB0 := Lib.hid hb0; have HB1 := Lib.hid hb1; have HBP := Lib.hid hbp; have HBR := Lib.hid hbr; have HLR := Lib.hid hlr; have HMD := Lib.hid hmd; have HY := Lib.hid hY; have HTEN := Lib.hid hten; have HWP := Lib.hid hwp; have HFP := Lib.hid hfp; have HEL := Lib.hid hel; have HKT := Lib.hid hK; have HPL := Lib.hid HBS.out.ten; have HYS := Lib.hid hYs
          have hNF : ¬ N' < F1 := hn
          have hF45 : F1 ≤ 4725 := by rw [hF1]; exact cnt_le (by omega) hP5
          have hE45 : E1 ≤ 4725 := by rw [hE1]; exact cnt_le (by omega) (by omega)
          have hNs : N' < 1000000 := by
            have h1 : T * E1 ≤ 9 * 4725 := Nat.mul_le_mul hT10 hE45
            omega
          have HN1 := Lib.hid hN1
          have hlf2 : rest.length ≤ f' := by omega
          have hT1 : 1 ≤ T := by rw [hT]; exact hr1
          clear hT hrest hl1 hkl hll hlf hb0 hb1 hbp hbr hlr hmd hY hten hwp hfp hel hK hKr hYm hYs hks HBS HRD hF1 hE1 hN2 hKK hmul hn hr1
          have v1 : (F1 : Int) ≤ (N' : Int) := by omega
          have w3' : IntKind.i64.wrap ((N' : Int) - (F1 : Int)) = (N1 : Int) := by rw [IntKind.wrap_i64]; omega
          have w4' : IntKind.i64.wrap (((T + 1 : Nat) : Int) - 2) = ((T - 1 : Nat) : Int) := by rw [IntKind.wrap_i64]; omega
          have w5' : IntKind.i64.wrap ((P' : Int) - 1) = ((P' - 1 : Nat) : Int) := by rw [IntKind.wrap_i64]; omega
          clear hN1
          go_wp2_with fail
          refine (HB0.out _ _ (by first | rfl | omega) rfl (by omega) hP5).mono ?_
          rintro _ _ ⟨rfl, rfl⟩
          go_wp2_with fail
          refine (HB1.out _ _ (by omega) rfl (by omega) (by omega)).mono ?_
          rintro _ _ ⟨rfl, rfl⟩
          clear c0
          go_wp2_with fail
          go_loop [1, 11] (fun nv yv => ∃ c m y : Nat, nv = .int .i64 (m : Int) ∧ yv = .int .i64 (y : Int) ∧ c ≤ K ∧ Hid (m + c * E1 = N1) ∧ Hid (rest.drop c = fr l y) ∧ y ≤ 10 ∧ m ≤ 1000000) (fun _ yv => 10 - (intOf yv).toNat)
          case atStart => exact ⟨0, N1, k + 1, rfl, by go_num, Nat.zero_le _, Lib.hid (by simp), Lib.hid (by rw [List.drop_zero]; exact HRS.out), by omega, by have := HN1.out; omega⟩
          case round =>
            obtain ⟨c, m, y, rfl, rfl, hcK, HM, HD, hy, hm⟩ := hrel
            have hy10 : y < 10 := by
              rcases Nat.lt_or_ge y 10 with h | h
              · exact h
              · have e : y = 10 := by omega
                have hd := HD.out
                rw [e, fr_end] at hd
                have := List.drop_eq_nil_iff.1 hd
                have h1 := HKT.out; have h2 := HT.out; omega
            have c1 := seen_cell HSB.out hy10
            have u0 : (0 : Int) ≤ (y : Int) := by omega
            have u1 : (y : Int) < 10 := by omega
            by_cases hyl : y ∈ l
            · rw [decide_eq_true hyl] at c1
              have HD2 := Lib.hid (HD.out.trans (fr_in hy10 hyl))
              clear hyl
              go_wp2_with fail
              go_round
              case rel => exact ⟨c, m, y + 1, rfl, by go_num, hcK, HM, HD2, by omega, hm⟩
              case measure => simp [intOf]; omega
            · rw [decide_eq_false hyl] at c1
              obtain ⟨g1, g2, g3⟩ := drop_head (HD.out.trans (fr_out hy10 hyl))
              by_cases hme : E1 ≤ m
              · obtain ⟨k1, k2⟩ := div_less HM.out HLR.out hme HMD.out hcK
                have K2 := Lib.hid k2; have G2 := Lib.hid g2
                have x0 : (E1 : Int) ≤ (m : Int) := by omega
                clear k2 g1 g2 hyl
                go_wp2_with fail
                go_round
                case rel => exact ⟨c + 1, m - E1, y + 1, by go_num, by go_num, k1, K2, G2, by omega, by omega⟩
                case measure => simp [intOf]; omega
              · obtain ⟨hcc, hmm⟩ := div_same HM.out HLR.out (by omega) HMD.out
                have hyY : y = Y := by rw [HY.out, ← hcc, g1]
                have x0 : ¬ (E1 : Int) ≤ (m : Int) := by omega
                subst hyY
                subst hmm
                clear g1 g2 g3 hyl hcc HM HD
                have hwpa := fun w' => withPair_any w' p HTEN.out k y hlt hy10
                rw [HWP.out] at hwpa
                have hql : (swpP p k y).length = 10 := by rw [length_swpP]; exact HPL.out
                have HWA := Lib.hid hwpa; have HQL := Lib.hid hql
                clear hwpa hql HWP
                generalize swpP p k y = q at HBP HBR HWA HQL
                go_wp2_with (refine wpList_load_row rfl 101 _ rfl A rfl _ _ _ _ HPB.out Tryz.underlying101 rfl (permSize HPL.out) ?_)
                refine (HWA.out _).mono ?_
                rintro _ w5 ⟨rfl, hb5⟩
                have HPB5 := Lib.hid (HPB.out.below hb5); have HSB5 := Lib.hid (SB.below HSB.out hb5); have HBL5 := Lib.hid (HBL.out.trans (hb5.mono HBL.out.size))
                have HP6 := Lib.hid (HPB5.out.row q)
                have HS6 : Hid (SB (w5.setRow A (pC q)) (A + 1) (seenC 10 l) 103) := Lib.hid ((setRow_other w5 A (A + 1) (pC q) (by omega)).trans HSB5.out)
                have HB6 := Lib.hid (below_setRow (p := A) HBL5.out hwA (pC q))
                clear hb5 c1
                have c2 := seen_cell HS6.out hy10
                have f2 : (w5.setRow A (pC q)).frozen? ⟨A + 1, y, none⟩ = false := HS6.out.frozen y
                have hput := SB.put HS6.out y (.bool true)
                rw [seenC_put] at hput
                have HS7 := Lib.hid hput
                have HP7 := Lib.hid (HP6.out.far (show A ≠ A + 1 by omega) y (.bool true))
                have HB7 := Lib.hid (HB6.out.setCell (p := ⟨A + 1, y, none⟩) (show w.heap.size ≤ A + 1 by omega) (.bool true))
                obtain ⟨w7, hw7⟩ : ∃ w7, w7 = (w5.setRow A (pC q)).setCell ⟨A + 1, y, none⟩ (.bool true) := ⟨_, rfl⟩
                rw [← hw7] at HS7 HP7 HB7
                have HW7 := Lib.hid hw7
                clear hput hw7
                have w6' : IntKind.i64.wrap (((T + 1 : Nat) : Int) - 1) = (T : Int) := by rw [IntKind.wrap_i64]; omega
                have w7' : wrap64 ((T : Int) - 1) = ((T - 1 : Nat) : Int) := by unfold wrap64; omega
                go_wp2_with (refine wpList_store_row rfl 101 _ _ rfl A (pC q) rfl rfl _ _ HPB5.out (permSize HQL.out) (by rw [pC_size, pC_size, HQL.out, HPL.out]) (pC_one _) ?_)
                rw [← HW7.out]
                go_roundw
                case rel => exact ⟨k + 1, P' - 1, m, f', rest.eraseIdx K, l ++ [y], q, by go_num, rfl, by rw [HEL.out]; go_num, by go_num, by omega, HFP.out.symm, HBP, Lib.hid HBR.out.symm, by rw [HEL.out]; have := HT.out; omega, HP7, HS7, HB7⟩
                case measure => simp [intOf]; omega
    · obtain rfl : k = 10 := by omega
      have hl0 : left = [] := by rw [hleft]; exact fr_end l
      subst hl0
      have hRp := HRD.out
      rw [brd_nil] at hRp
      subst hRp
      have hten := prm_ten HBS.out
      have hps := fun w' => permStr_any w' p hten
      rw [show mk (p.map letter) = pT p from rfl] at hps
      have HPS := Lib.hid hps; have HPL := Lib.hid hten.len
      clear hps hten hleft HBS HRD
      go_wp2_with (refine wpList_load_row rfl 101 _ rfl A rfl _ _ _ _ HPB.out Tryz.underlying101 rfl (permSize HPL.out) ?_)
      refine (HPS.out _).mono ?_
      rintro _ w8 ⟨rfl, hb8⟩
      have HB8 := Lib.hid (HBL.out.trans (hb8.mono HBL.out.size))
      clear hb8
      go_wp2_with fail
      go_ret2
      exact ⟨rfl, HB8.out⟩

theorem cut_one {k : Nat} {rest : List Nat} {K : Nat} (hK : K < rest.length) : pT ((k :: rest).drop 1 |>.take (1 + K - 1)) ++ pT ((k :: rest).drop (1 + K + 1)) = pT (rest.eraseIdx K) := by
  rw [pT_append, List.eraseIdx_eq_take_drop_succ]
  congr 1
  rw [List.drop_one, List.tail_cons, show 1 + K - 1 = K by omega, show 1 + K + 1 = (K + 1) + 1 by omega, List.drop_succ_cons]

set_option maxHeartbeats 8000000 in
set_option maxRecDepth 100000 in
theorem sBoardAt_is (w : World) (P N : Nat) (x n : Int) (hx : x = (P : Int)) (hn : n = (N : Int)) (hP : P ≤ 5) (hN : N < cnt 10 P) :
    Calls Tryz.prog 33 #[.int .i64 x, .int .i64 n] w fun e w' => e = .returned (.tuple #[.string (pT (boardP P N)), .bool true]) ∧ Below w.heap.size w w' := by
  subst hx hn
  have hst := bst_start hP hN
  have hR : brd 10 (List.range 10) P N (List.range 10) = boardP P N := rfl
  obtain ⟨R, hRR⟩ : ∃ R, R = boardP P N := ⟨_, rfl⟩
  rw [← hRR] at hR ⊢
  have hbc := fun w' => sBoardCount_is w' P _ rfl hP
  have hge : ¬ cnt 10 P ≤ N := by omega
  obtain ⟨I, hI⟩ : ∃ I, I = List.range 10 := ⟨_, rfl⟩
  have hid := fun w' => identityPerm_any w'
  rw [← hI] at hid hst hR
  have HBC := Lib.hid hbc; have HST := Lib.hid hst; have HR := Lib.hid hR; have HID := Lib.hid hid; have HI := Lib.hid hI
  have HBO := Lib.hid (fun (w' : World) (L P' : Nat) (l p : Int) (hl : l = (L : Int)) (hp : p = (P' : Int)) (hL : L ≤ 10) (hP' : P' ≤ 5) => sCount_is w' L P' l p hl hp hL hP')
  clear hbc hst hR hRR hN hid hI
  generalize cnt 10 P = C at HBC hge
  go_enter Tryz.func33, Tryz.ntmps33
  go_wp2_with fail
  refine (HID.out _).mono ?_
  rintro _ w1 ⟨rfl, hb1⟩
  have HB1 := Lib.hid hb1
  clear hb1
  go_wp2_with fail
  refine (HBC.out _).mono ?_
  rintro _ w2 ⟨rfl, hb2⟩
  have HB2 := Lib.hid (HB1.out.trans (hb2.mono HB1.out.size))
  clear hb2
  go_wp2_with fail
  go_loopw [0, 1, 6, 7] (fun pv nv bv lv wr => ∃ (P' N' f : Nat) (left p : List Nat), pv = .int .i64 (P' : Int) ∧ nv = .int .i64 (N' : Int) ∧ bv = .string (pT p) ∧ lv = .string (pT left) ∧ Hid (Bst left P' N' p) ∧ Hid (brd f left P' N' p = R) ∧ left.length ≤ f ∧ Hid (Below w.heap.size w wr)) (fun _ _ _ lv _ => szOf lv)
  case atStart => exact ⟨P, N, 10, I, I, rfl, rfl, rfl, rfl, HST, HR, by rw [HI.out]; simp, HB2⟩
  case round =>
    obtain ⟨P', N', f, left, p, rfl, rfl, rfl, rfl, HBS, HRD, hlf, HBL⟩ := hrel
    clear HST HR
    have hll := HBS.out.len
    have hP5 := HBS.out.hP
    have hsl : ((pT left).size : Nat) = left.length := pT_size left
    cases left with
    | nil =>
      have hRp := HRD.out
      rw [brd_nil] at hRp
      subst hRp
      have hz : (pT []).size = 0 := rfl
      clear HBS HRD hsl
      generalize pT [] = E at hz
      go_wp2_with fail
      go_ret2
      exact ⟨rfl, HBL.out⟩
    | cons k rest =>
      rw [List.length_cons] at hll hlf
      obtain ⟨f', rfl⟩ : ∃ f', f = f' + 1 := ⟨f - 1, by omega⟩
      obtain ⟨T, hT⟩ : ∃ T, T = rest.length := ⟨_, rfl⟩
      have hz1 : (pT (k :: rest)).size = T + 1 := by rw [pT_size, hT, List.length_cons]
      have hex : (pT (k :: rest)).extract 1 (T + 1) = pT rest := by
        rw [pT_extract]; congr 1; rw [List.drop_one, List.tail_cons, List.take_of_length_le (by omega)]
      have hT10 : T ≤ 9 := by omega
      have HT := Lib.hid hT
      by_cases hn : N' < cnt rest.length P'
      · have HBS2 := Lib.hid (HBS.out.alone hn)
        have HRD2 : Hid (brd f' rest P' N' p = R) := Lib.hid (by rw [← HRD.out, brd_lt hn])
        have hb0 := HBO.out wr rest.length P'
        rw [← hT] at hn hb0
        have HB0 := Lib.hid hb0
        have hlf2 : rest.length ≤ f' := by omega
        have HEX := Lib.hid hex
        generalize cnt T P' = K at hn HB0
        have v1 : (N' : Int) < (K : Int) := by omega
        clear hb0 HBS HRD hT hex hsl hll hlf
        generalize pT (k :: rest) = S0 at hz1 HEX ⊢
        go_wp2_with fail
        refine (HB0.out _ _ (by first | rfl | omega) rfl (by omega) hP5).mono ?_
        rintro _ w3 ⟨rfl, hb3⟩
        have HB3 := Lib.hid (HBL.out.trans (hb3.mono HBL.out.size))
        clear hb3
        go_wp2_with fail
        go_roundw
        case rel => exact ⟨P', N', f', rest, p, rfl, rfl, rfl, by rw [HEX.out], HBS2, HRD2, hlf2, HB3⟩
        case measure => simp [szOf, hz1, HEX.out, pT_size]; have := HT.out; omega
      · obtain ⟨hP1, hr1, he0, hK, hmul⟩ := HBS.out.part hn
        have hbp := HBS.out.pair hP1 hK (Nat.mod_lt (N' - cnt rest.length P') he0)
        have hbr := brd_ge (f := f') (x := k) (p := p) hn
        rw [HRD.out] at hbr
        have hb0 := HBO.out wr rest.length P'
        have hb1 := fun w' => HBO.out w' (rest.length - 1) (P' - 1)
        have hYm : nth rest ((N' - cnt rest.length P') / cnt (rest.length - 1) (P' - 1)) ∈ rest := by rw [nth_eq hK]; exact List.getElem_mem hK
        have hYs := HBS.out.small _ (List.mem_cons_of_mem _ hYm)
        have hks := HBS.out.small k (by simp)
        have hten : Ten p := HBS.out.prm.1.toTen
        have hlo : ∀ n ∈ k :: rest, n < 10 := fun n hn => (HBS.out.small n hn).1
        rw [← hT] at hn hb0 hb1 he0 hK hmul hbp hbr hYs
        obtain ⟨F1, hF1⟩ : ∃ F1, F1 = cnt T P' := ⟨_, rfl⟩
        obtain ⟨E1, hE1⟩ : ∃ E1, E1 = cnt (T - 1) (P' - 1) := ⟨_, rfl⟩
        have hF45 : F1 ≤ 4725 := by rw [hF1]; exact cnt_le (by omega) hP5
        have hE45 : E1 ≤ 4725 := by rw [hE1]; exact cnt_le (by omega) (by omega)
        rw [← hF1] at hn hb0 hK hmul hbp hbr hYs
        rw [← hE1] at hb1 he0 hK hmul hbp hbr hYs
        obtain ⟨N1, hN1⟩ : ∃ N1, N1 = N' - F1 := ⟨_, rfl⟩
        rw [← hN1] at hK hmul hbp hbr hYs
        have hN1s : N1 < 100000 := by
          have h1 : T * E1 ≤ 9 * 4725 := Nat.mul_le_mul hT10 hE45
          omega
        have q1 : ((N1 : Nat) : Int).tdiv (E1 : Int) = ((N1 / E1 : Nat) : Int) := by rw [Int.tdiv_eq_ediv_of_nonneg (by omega), Int.natCast_ediv]
        have q2 : ((N1 : Nat) : Int) / (E1 : Int) = ((N1 / E1 : Nat) : Int) := by rw [Int.natCast_ediv]
        have q3 : ((N1 : Nat) : Int) % (E1 : Int) = ((N1 % E1 : Nat) : Int) := by rw [Int.natCast_emod]
        have q4 : ((N1 : Nat) : Int).tmod (E1 : Int) = ((N1 % E1 : Nat) : Int) := by rw [Int.tmod_eq_emod_of_nonneg (by omega), Int.natCast_emod]
        obtain ⟨K, hKK⟩ : ∃ K, K = N1 / E1 := ⟨_, rfl⟩
        obtain ⟨N2, hN2⟩ : ∃ N2, N2 = N1 % E1 := ⟨_, rfl⟩
        rw [← hKK] at hK hbp hbr hYs q1 q2
        rw [← hN2] at hbp hbr q3 q4
        have hKr : K < rest.length := by rw [← hT]; exact hK
        have hcut := cut_one (k := k) hKr
        have hx1 : (pT (k :: rest)).extract 1 (1 + K) = pT ((k :: rest).drop 1 |>.take (1 + K - 1)) := pT_extract _ _ _
        have hx2 : (pT (k :: rest)).extract (1 + K + 1) (T + 1) = pT ((k :: rest).drop (1 + K + 1)) := by
          rw [pT_extract]; congr 1; exact List.take_of_length_le (by rw [List.length_drop, List.length_cons]; omega)
        rw [← hx1, ← hx2] at hcut
        have hsz1 : ((pT (k :: rest)).extract 1 (1 + K)).size ≤ 10 := by rw [ByteArray.size_extract]; omega
        have hsz2 : ((pT (k :: rest)).extract (1 + K + 1) (T + 1)).size ≤ 10 := by rw [ByteArray.size_extract]; omega
        have hel : (rest.eraseIdx K).length = T - 1 := by rw [List.length_eraseIdx, if_pos hKr, hT]
        have hd0 := fun w' => l1Digit_nth w' (k :: rest) hlo 0 0 rfl (by simp) (by simp; omega)
        have hd1 := fun w' (m : Int) (hm : m = ((1 + K : Nat) : Int)) => l1Digit_nth w' (k :: rest) hlo (1 + K) m hm (by simp; omega) (by simp; omega)
        rw [show nth (k :: rest) 0 = k from rfl] at hd0
        rw [show nth (k :: rest) (1 + K) = nth rest K by rw [Nat.add_comm]; rfl] at hd1
        obtain ⟨Y, hY⟩ : ∃ Y, Y = nth rest K := ⟨_, rfl⟩
        rw [← hY] at hbp hbr hYs hd1
        have hsw := fun w' (a b : Int) (ha : a = (k : Int)) (hb : b = (Y : Int)) => l4Swap_any w' p k Y a b ha hb hten hks.1 hYs.1
        have HB0 := Lib.hid hb0; have HB1 := Lib.hid hb1; have HBP := Lib.hid hbp; have HBR := Lib.hid hbr; have HEL := Lib.hid hel; have HCUT := Lib.hid hcut; have HD0 := Lib.hid hd0; have HD1 := Lib.hid hd1; have HSW := Lib.hid hsw
        have hlf2 : rest.length ≤ f' := by omega
        have hT1 : 1 ≤ T := by rw [hT]; exact hr1
        have hKT : K < T := hK
        have v1 : ¬ (N' : Int) < (F1 : Int) := by omega
        have w3' : IntKind.i64.wrap ((N' : Int) - (F1 : Int)) = (N1 : Int) := by rw [IntKind.wrap_i64]; omega
        have w5' : IntKind.i64.wrap ((P' : Int) - 1) = ((P' - 1 : Nat) : Int) := by rw [IntKind.wrap_i64]; omega
        have e0 : ((E1 : Int) == 0) = false := by rw [beq_eq_false_iff_ne]; omega
        have HQ := Lib.hid (And.intro q1 q2)
        clear hT hex hsl hll hlf hb0 hb1 hbp hbr hY hten hel hKr hYm hYs hks HBS HRD hF1 hE1 hN2 hKK hmul hn hr1 hK hcut hx1 hx2 hd0 hd1 hsw hlo hN1
        generalize pT (k :: rest) = S0 at hz1 HCUT HD0 HD1 hsz1 hsz2 ⊢
        go_wp2_with fail
        refine (HB0.out _ _ (by first | rfl | omega) rfl (by omega) hP5).mono ?_
        rintro _ w3 ⟨rfl, hb3⟩
        have HB3 := Lib.hid (HBL.out.trans (hb3.mono HBL.out.size))
        clear hb3
        go_wp2_with fail
        refine (HB1.out _ _ _ (by omega) rfl (by omega) (by omega)).mono ?_
        rintro _ w4 ⟨rfl, hb4⟩
        have HB4 := Lib.hid (HB3.out.trans (hb4.mono HB3.out.size))
        clear hb4
        go_wp2_with fail
        refine (HD0.out _).mono ?_
        rintro _ _ ⟨rfl, rfl⟩
        go_wp2_with fail
        refine (HD1.out _ _ (by omega)).mono ?_
        rintro _ _ ⟨rfl, rfl⟩
        go_wp2_with fail
        refine (HSW.out _ _ _ rfl rfl).mono ?_
        rintro _ w5 ⟨rfl, hb5⟩
        have HB5 := Lib.hid (HB4.out.trans (hb5.mono HB4.out.size))
        clear hb5
        have b1 : (1 : Int) ≤ 1 + (K : Int) := by omega
        have b2 : 1 + (K : Int) ≤ (T : Int) + 1 := by omega
        have b3 : 1 + (K : Int) + 1 ≤ (T : Int) + 1 := by omega
        have b4 : (0 : Int) ≤ 1 + (K : Int) + 1 := by omega
        have b5 : (0 : Int) ≤ 1 + (K : Int) := by omega
        have b6 : IntKind.i64.wrap (1 + (K : Int) + 1) = 1 + (K : Int) + 1 := by rw [IntKind.wrap_i64]; omega
        have b7 : (1 + (K : Int)).toNat = 1 + K := by omega
        have b8 : (1 + (K : Int) + 1).toNat = 1 + K + 1 := by omega
        have b9 : ¬ 9223372036854775807 < (S0.extract 1 (1 + K)).size + (S0.extract (1 + K + 1) (T + 1)).size := by omega
        go_wp2_with fail
        go_quiet (fail)
        go_wp2_with fail
        refine ⟨⟨P' - 1, N2, f', rest.eraseIdx K, swpP p k Y, rfl, rfl, rfl, by rw [HCUT.out], HBP, Lib.hid HBR.out.symm, by rw [HEL.out]; have := HT.out; omega, Lib.hid (below_drewN' HB5.out _)⟩, ?_⟩
        rw [HCUT.out]
        simp only [szOf, pT_size, HEL.out, hz1]
        omega

def dayN1 (n N : Nat) : Nat := N / 10 ^ n
def dayN2 (n P N : Nat) : Nat := dayN1 n N / cnt 10 P
def dayOrd (n P N : Nat) : List Nat := ordP n (dayN2 n P N / 10 ^ n)
def dayRing (n P N : Nat) : List Nat := valD n (dayN2 n P N % 10 ^ n)
def dayPlug (n P N : Nat) : List Nat := boardP P (dayN1 n N % cnt 10 P)
def dayGrd (n N : Nat) : List Nat := valD n (N % 10 ^ n)
theorem day_parts {n P N : Nat} (hn : n ≤ 3) (h : N < dayC n P) : N % 10 ^ n < 10 ^ n ∧ dayN1 n N % cnt 10 P < cnt 10 P ∧ dayN2 n P N % 10 ^ n < 10 ^ n ∧ dayN2 n P N / 10 ^ n < fct n ∧ 1 ≤ cnt 10 P ∧ 1 ≤ 10 ^ n := by
  have hp := (pow_le3 hn).1
  have hc : 1 ≤ cnt 10 P := by
    rcases Nat.eq_zero_or_pos (cnt 10 P) with e | e
    · unfold dayC at h; rw [e] at h; simp at h
    · exact e
  refine ⟨Nat.mod_lt _ (by omega), Nat.mod_lt _ (by omega), Nat.mod_lt _ (by omega), ?_, hc, hp⟩
  unfold dayN2 dayN1
  rw [Nat.div_div_eq_div_mul, Nat.div_div_eq_div_mul]
  refine Nat.div_lt_of_lt_mul ?_
  refine Nat.lt_of_lt_of_eq h ?_
  unfold dayC
  rw [Nat.mul_comm _ (fct n)]
  simp only [Nat.mul_assoc]

theorem bel_alK {a W : World} {o : Obj} (h : Below a.heap.size a W) : Below a.heap.size a (W.alloc o) := h.alloc h.size o
theorem bel_aldK {a : World} {o : Obj} : Below a.heap.size a (a.alloc o).drew := ((Below.refl _ _).alloc (Nat.le_refl _) o).drew
theorem keep3K {W : World} {B D X : Nat} (hB : B ≠ X) (hD : D ≠ X) {a b c u v : Value} (h : W.cell? ⟨B, 0, none⟩ = some a ∧ W.cell? ⟨B, 1, none⟩ = some b ∧ W.cell? ⟨D, 1, none⟩ = some c) :
    ((W.setCell ⟨X, 0, none⟩ u).setCell ⟨X, 1, none⟩ v).cell? ⟨B, 0, none⟩ = some a ∧ ((W.setCell ⟨X, 0, none⟩ u).setCell ⟨X, 1, none⟩ v).cell? ⟨B, 1, none⟩ = some b ∧ ((W.setCell ⟨X, 0, none⟩ u).setCell ⟨X, 1, none⟩ v).cell? ⟨D, 1, none⟩ = some c := by
  simp only [cell_set_ne hB, cell_set_ne hD]; exact h
theorem results_st_tmpK {fn : Func} {p u v : Tmp} {ty : TypeId} (h : fn.results = #[.cell p ty, .tmp u, .tmp v]) (tmps : Array Value) (w : World) (g : Nat) (t : TypeId) (cs : Array Value) (fr : Nat × Nat) (d : TypeDesc)
    (hp : tmps.getD p undef = .pointer (some ⟨g, 0, none⟩)) (hg : w.heap[g]? = some (.cells cs t fr))
    (hu : Tryz.prog.underlying ty = some d) (hd : (∃ fs, d = .struct fs)) (hi : (Tryz.prog.info? ty).map (·.size) = some cs.size) :
    (results fn tmps).run Tryz.prog w = .ok (.tuple #[.agg cs, tmps.getD u undef, tmps.getD v undef]) w := by
  obtain ⟨fs, rfl⟩ := hd
  have hp' : tmps[p]?.getD undef = .pointer (some ⟨g, 0, none⟩) := by simpa using hp
  simp [results, h, hp', asAddr, run_loadVar_row w g t ty cs fr _ hg hu rfl hi]
/-- a day was made -/
def DayMade (rs : List (ByteArray × ByteArray)) (p : ByteArray) (P N : Nat) (w : World) (e : Ending) (w' : World) : Prop :=
  ∃ A cap, e = .returned (.tuple #[.agg #[.slice A rs.length cap, .string p, .string (pT (dayRing rs.length P N)), .string (pT (dayPlug rs.length P N))], .string (pT (dayGrd rs.length N)), .bool true]) ∧ w'.ownsRow w.heap.size 77 2 (.slice A rs.length cap) rs.length (rotV (ordR rs (dayOrd rs.length P N))) ∧ Below w.heap.size w w'

set_option maxHeartbeats 8000000 in
set_option maxRecDepth 100000 in
theorem dayKey_yes (w : World) (A : Option Addr) (cap : Nat) (rs : List (ByteArray × ByteArray)) (p : ByteArray) (P N : Nat) (x n : Int) (hx : x = (P : Int)) (hn : n = (N : Int)) (h : Rd w w.heap.size A (rotV rs)) (hc : rs.length ≤ cap) (hv : WheelsV rs p) (hP : P ≤ 5) (hN : N < dayC rs.length P) :
    Calls Tryz.prog 6 #[.agg #[.slice A rs.length cap, .string p], .int .i64 x, .int .i64 n] w (DayMade rs p P N w) := by
  subst hx hn
  have hl3 : rs.length ≤ 3 := hv.2.1
  have hl1 : 1 ≤ rs.length := hv.1
  obtain ⟨p1, p2, p3, p4, p5, p6⟩ := day_parts hl3 hN
  obtain ⟨o1, o2, o3⟩ := ordP_ok hl3 p4
  have hDle := (dayC_le hl3 hP).2.2.2
  have hnd := fun (w' : World) (h' : Rd w' w'.heap.size A (rotV rs)) => newDays_yes w' A cap rs p P _ rfl h' hc hv hP
  have hdc := fun (w' : World) (h' : Rd w' w'.heap.size A (rotV rs)) => dayCount_yes w' A cap rs p P _ rfl h' hc hv hP
  have hvw := fun (w' : World) (m : Nat) (hm : m < 10 ^ rs.length) (a b : Int) (ha : a = (m : Int)) (hb : b = ((rs.length : Nat) : Int)) => valueWord_is w' m rs.length a b ha hb hl3 hm
  have hba := fun (w' : World) (b : Int) (hb : b = ((dayN1 rs.length N % cnt 10 P : Nat) : Int)) => boardAt_is w' P (dayN1 rs.length N % cnt 10 P) _ b rfl hb hP p2
  have hoa := fun (w' : World) (a b : Int) (ha : a = ((rs.length : Nat) : Int)) (hb : b = ((dayN2 rs.length P N / 10 ^ rs.length : Nat) : Int)) => orderAt_is w' rs.length (dayN2 rs.length P N / 10 ^ rs.length) a b ha hb hl1 hl3 p4
  have how := fun (w' : World) (Ao : Option Addr) (co : Nat) (h' : Rd w' w'.heap.size A (rotV rs)) (ho : Rd w' w'.heap.size Ao (natV (dayOrd rs.length P N))) (hco : (dayOrd rs.length P N).length ≤ co) => orderWheels_is w' A cap rs p Ao co (dayOrd rs.length P N) h' hc hv ho hco o2 o1 o3
  have hol : (dayOrd rs.length P N).length = rs.length := o2
  obtain ⟨w0, hw0⟩ : ∃ w0, w0 = (w.alloc (.cells #[.slice A rs.length cap, .string p] 25)).alloc (.cells #[.slice none 0 0, .string ⟨#[]⟩, .string ⟨#[]⟩, .string ⟨#[]⟩] 29) := ⟨_, rfl⟩
  obtain ⟨hb0, hs0, hq0⟩ := two_sbs w _ _ _ _ w0 hw0
  have hrd0 := (h.below hb0).mono hb0.size
  have hcN : ¬ dayC rs.length P ≤ N := by omega
  have hW0 : ¬ 10 ^ rs.length = 0 := by omega
  have hC0 : ¬ cnt 10 P = 0 := by omega
  have e1 : (((10 ^ rs.length : Nat) : Int) == 0) = false := by rw [beq_eq_false_iff_ne]; omega
  have e2 : (((cnt 10 P : Nat) : Int) == 0) = false := by rw [beq_eq_false_iff_ne]; omega
  have hN1 : dayN1 rs.length N ≤ N := Nat.div_le_self _ _
  have hN2 : dayN2 rs.length P N ≤ N := Nat.le_trans (Nat.div_le_self _ _) hN1
  have hM4 : dayN2 rs.length P N / 10 ^ rs.length ≤ N := Nat.le_trans (Nat.div_le_self _ _) hN2
  have hwr : ∀ z : Nat, z ≤ N → wrap64 ((z : Nat) : Int) = ((z : Nat) : Int) := fun z hz => by unfold wrap64; omega
  have r1 := hwr _ hN1
  have r2 := hwr _ hN2
  have r3 := hwr _ hM4
  have r4 : IntKind.i64.wrap ((dayN2 rs.length P N / 10 ^ rs.length : Nat) : Int) = ((dayN2 rs.length P N / 10 ^ rs.length : Nat) : Int) := by
    rw [IntKind.wrap_i64]
    have h1 := Nat.le_trans hM4 (Nat.le_of_lt hN)
    generalize dayN2 rs.length P N / 10 ^ rs.length = z at h1 ⊢
    omega
  have t1 : ((N : Nat) : Int).tmod ((10 ^ rs.length : Nat) : Int) = ((N % 10 ^ rs.length : Nat) : Int) := by rw [Int.tmod_eq_emod_of_nonneg (Int.natCast_nonneg _), Int.natCast_emod]
  have t2 : ((N : Nat) : Int).tdiv ((10 ^ rs.length : Nat) : Int) = ((dayN1 rs.length N : Nat) : Int) := by rw [Int.tdiv_eq_ediv_of_nonneg (Int.natCast_nonneg _)]; unfold dayN1; rw [Int.natCast_ediv]
  have t3 : ((dayN1 rs.length N : Nat) : Int).tmod ((cnt 10 P : Nat) : Int) = ((dayN1 rs.length N % cnt 10 P : Nat) : Int) := by rw [Int.tmod_eq_emod_of_nonneg (Int.natCast_nonneg _), Int.natCast_emod]
  have t4 : ((dayN1 rs.length N : Nat) : Int).tdiv ((cnt 10 P : Nat) : Int) = ((dayN2 rs.length P N : Nat) : Int) := by rw [Int.tdiv_eq_ediv_of_nonneg (Int.natCast_nonneg _)]; unfold dayN2; rw [Int.natCast_ediv]
  have t5 : ((dayN2 rs.length P N : Nat) : Int).tmod ((10 ^ rs.length : Nat) : Int) = ((dayN2 rs.length P N % 10 ^ rs.length : Nat) : Int) := by rw [Int.tmod_eq_emod_of_nonneg (Int.natCast_nonneg _), Int.natCast_emod]
  clear hN1 hN2 hM4 hwr
  have q7 : ((dayN2 rs.length P N : Nat) : Int).tdiv ((10 ^ rs.length : Nat) : Int) = ((dayN2 rs.length P N / 10 ^ rs.length : Nat) : Int) := by rw [Int.tdiv_eq_ediv_of_nonneg (Int.natCast_nonneg _), Int.natCast_ediv]
  have q1 : ((N : Nat) : Int) % ((10 ^ rs.length : Nat) : Int) = ((N % 10 ^ rs.length : Nat) : Int) := by rw [Int.natCast_emod]
  have q2 : ((N : Nat) : Int) / ((10 ^ rs.length : Nat) : Int) = ((dayN1 rs.length N : Nat) : Int) := by unfold dayN1; rw [Int.natCast_ediv]
  have q3 : ((dayN1 rs.length N : Nat) : Int) % ((cnt 10 P : Nat) : Int) = ((dayN1 rs.length N % cnt 10 P : Nat) : Int) := by rw [Int.natCast_emod]
  have q4 : ((dayN1 rs.length N : Nat) : Int) / ((cnt 10 P : Nat) : Int) = ((dayN2 rs.length P N : Nat) : Int) := by unfold dayN2; rw [Int.natCast_ediv]
  have q5 : ((dayN2 rs.length P N : Nat) : Int) % ((10 ^ rs.length : Nat) : Int) = ((dayN2 rs.length P N % 10 ^ rs.length : Nat) : Int) := by rw [Int.natCast_emod]
  have q6 : ((dayN2 rs.length P N : Nat) : Int) / ((10 ^ rs.length : Nat) : Int) = ((dayN2 rs.length P N / 10 ^ rs.length : Nat) : Int) := by rw [Int.natCast_ediv]
  have hvw1 := fun (w' : World) (a b : Int) (ha : a = ((N % 10 ^ rs.length : Nat) : Int)) (hb : b = ((rs.length : Nat) : Int)) => hvw w' _ p1 a b ha hb
  have hvw2 := fun (w' : World) (a b : Int) (ha : a = ((dayN2 rs.length P N % 10 ^ rs.length : Nat) : Int)) (hb : b = ((rs.length : Nat) : Int)) => hvw w' _ p3 a b ha hb
  unfold dayV at hnd
  unfold OrdMade at hoa
  unfold OrdW at how
  unfold DayMade
  rw [show ordP rs.length (dayN2 rs.length P N / 10 ^ rs.length) = dayOrd rs.length P N from rfl] at hoa
  rw [show valD rs.length (N % 10 ^ rs.length) = dayGrd rs.length N from rfl] at hvw1
  rw [show valD rs.length (dayN2 rs.length P N % 10 ^ rs.length) = dayRing rs.length P N from rfl] at hvw2
  rw [show boardP P (dayN1 rs.length N % cnt 10 P) = dayPlug rs.length P N from rfl] at hba
  rw [hol] at hoa how
  generalize dayOrd rs.length P N = OL at hoa how ⊢
  generalize pT (dayGrd rs.length N) = GR at hvw1 ⊢
  generalize pT (dayRing rs.length P N) = RI at hvw2 ⊢
  generalize pT (dayPlug rs.length P N) = PL at hba ⊢
  generalize N % 10 ^ rs.length = M1 at q1 t1 hvw1
  generalize dayN1 rs.length N % cnt 10 P = M2 at q3 t3 hba
  generalize dayN2 rs.length P N % 10 ^ rs.length = M3 at q5 t5 hvw2
  generalize dayN2 rs.length P N / 10 ^ rs.length = M4 at q6 q7 r3 r4 hoa
  generalize dayN1 rs.length N = N1 at q2 q3 q4 t2 t3 t4 r1
  generalize dayN2 rs.length P N = N2 at q4 q5 q6 q7 t4 t5 r2
  generalize dayC rs.length P = D at hcN hdc hDle
  generalize cnt 10 P = C at q3 q4 t3 t4 e2 hnd hC0
  generalize 10 ^ rs.length = W at q1 q2 q5 q6 q7 t1 t2 t5 e1 hnd hW0
  generalize fct rs.length = F at hnd
  have hwv0 := hv
  obtain ⟨M, hM⟩ : ∃ M, M = rs.length := ⟨_, rfl⟩
  rw [← hM] at hw0 hs0 hnd hdc hvw1 hvw2 hoa how hc ⊢
  obtain ⟨B, hB⟩ : ∃ B, B = w.heap.size := ⟨_, rfl⟩
  rw [← hB] at hs0 hq0
  have hBw : w.heap.size ≤ B + 1 := by rw [hB]; exact Nat.le_succ _
  have HB0 := Lib.hid hb0; have HS0 := Lib.hid hs0; have HQ0 := Lib.hid hq0; have HRD := Lib.hid hrd0; have HND := Lib.hid hnd; have HDC := Lib.hid hdc; have HVW1 := Lib.hid hvw1; have HVW2 := Lib.hid hvw2; have HBA := Lib.hid hba; have HOA := Lib.hid hoa; have HOW := Lib.hid how; have HBW := Lib.hid hBw
  obtain ⟨c0, c1⟩ := HS0.out.two_cells
  clear h hb0 hs0 hq0 hrd0 hnd hdc hvw1 hvw2 hvw hba hoa how hM hv hwv0 hP hN hl3 hl1 p1 p2 p3 p4 p5 p6 o1 o2 o3 hol hDle hBw
  go_enter Tryz.func6, Tryz.ntmps6
  go_wp2_with fail
  rw [← hw0, ← hB]
  clear hw0 hB
  go_wp2_with fail
  refine (HND.out _ HRD.out).mono ?_
  rintro _ w1 ⟨rfl, hb1⟩
  have HB1 := Lib.hid (HB0.out.trans (hb1.mono HB0.out.size)); have HR1 := Lib.hid ((HRD.out.below hb1).mono hb1.size); have HS1 := Lib.hid (HS0.out.below hb1); have HQ1 := Lib.hid (HQ0.out.below hb1)
  obtain ⟨w2, hw2⟩ : ∃ w2, w2 = w1.alloc (.cells #[.int .i64 (F : Int), .int .i64 (W : Int), .int .i64 (C : Int)] 56) := ⟨_, rfl⟩
  have hal : Below w1.heap.size w1 w2 := by rw [hw2]; exact (Below.refl _ _).alloc (Nat.le_refl _) _
  have hd2 : SB w2 w1.heap.size #[.int .i64 (F : Int), .int .i64 (W : Int), .int .i64 (C : Int)] 56 := by rw [hw2]; exact SB.made w1 _ _
  have HB2 := Lib.hid (HB1.out.trans (hal.mono HB1.out.size)); have HR2 := Lib.hid ((HR1.out.below hal).mono hal.size); have HS2 := Lib.hid (HS1.out.below hal); have HQ2 := Lib.hid (HQ1.out.below hal)
  obtain ⟨Dy, hDy⟩ : ∃ Dy, Dy = w1.heap.size := ⟨_, rfl⟩
  rw [← hDy] at hd2
  have HD2 := Lib.hid hd2
  clear hb1 hal hd2 HB1 HR1 HS1 HQ1 c0 c1 HB0 HS0 HQ0 HRD
  obtain ⟨c0, c1⟩ := HS2.out.two_cells
  have l0 := c0; have l1 := c1
  rw [hw2] at l0 l1
  go_wp2_with fail
  rw [← hw2, ← hDy]
  clear hw2 hDy l0 l1
  refine (HDC.out _ HR2.out).mono ?_
  rintro _ w3 ⟨rfl, hb3⟩
  have HB3 := Lib.hid (HB2.out.trans (hb3.mono HB2.out.size)); have HR3 := Lib.hid ((HR2.out.below hb3).mono hb3.size); have HS3 := Lib.hid (HS2.out.below hb3); have HQ3 := Lib.hid (HQ2.out.below hb3); have HD3 := Lib.hid (HD2.out.below hb3)
  clear hb3 HB2 HR2 HS2 HQ2 HD2 c0 c1
  obtain ⟨c0, c1⟩ := HS3.out.two_cells
  obtain ⟨⟨d0, d1, d2⟩, _⟩ := HD3.out.tri
  go_wp2_with fail
  refine (HVW1.out _ _ _ rfl rfl).mono ?_
  rintro _ w4 ⟨rfl, hb4⟩
  have HB4 := Lib.hid (HB3.out.trans (hb4.mono HB3.out.size)); have HR4 := Lib.hid ((HR3.out.below hb4).mono hb4.size); have HS4 := Lib.hid (HS3.out.below hb4); have HQ4 := Lib.hid (HQ3.out.below hb4); have HD4 := Lib.hid (HD3.out.below hb4)
  clear hb4 HB3 HR3 HS3 HQ3 HD3 c0 c1 d0 d1 d2
  obtain ⟨⟨d0, d1, d2⟩, _⟩ := HD4.out.tri
  go_wp2_with fail
  refine (HBA.out _ _ rfl).mono ?_
  rintro _ w5 ⟨rfl, hb5⟩
  have HB5 := Lib.hid (HB4.out.trans (hb5.mono HB4.out.size)); have HR5 := Lib.hid ((HR4.out.below hb5).mono hb5.size); have HS5 := Lib.hid (HS4.out.below hb5); have HQ5 := Lib.hid (HQ4.out.below hb5); have HD5 := Lib.hid (HD4.out.below hb5)
  clear hb5 HB4 HR4 HS4 HQ4 HD4 d0 d1 d2
  obtain ⟨⟨d0, d1, d2⟩, _⟩ := HD5.out.tri
  go_wp2_with fail
  refine (HVW2.out _ _ _ rfl rfl).mono ?_
  rintro _ w6 ⟨rfl, hb6⟩
  have HB6 := Lib.hid (HB5.out.trans (hb6.mono HB5.out.size)); have HR6 := Lib.hid ((HR5.out.below hb6).mono hb6.size); have HS6 := Lib.hid (HS5.out.below hb6); have HQ6 := Lib.hid (HQ5.out.below hb6); have HD6 := Lib.hid (HD5.out.below hb6)
  clear hb6 HB5 HR5 HS5 HQ5 HD5 d0 d1 d2
  have hs : ∀ W' : World, Below w6.heap.size w6 W' → (W'.cell? ⟨B, 0, none⟩ = some (.slice A M cap) ∧ W'.cell? ⟨B, 1, none⟩ = some (.string p) ∧ W'.cell? ⟨Dy, 1, none⟩ = some (.int .i64 (W : Int))) := fun W' hb => by
    obtain ⟨v0, v1⟩ := (HS6.out.below hb).two_cells
    obtain ⟨⟨_, v2, _⟩, _⟩ := (HD6.out.below hb).tri
    exact ⟨v0, v1, v2⟩
  have HSS := Lib.hid hs
  have HRR := Lib.hid (fun (W' : World) (hb : Below w6.heap.size w6 W') => (HR6.out.below hb).mono hb.size)
  have hbd : Below w6.heap.size w6 w6.drew := (Below.refl _ _).drew
  have HQZ := Lib.hid ((SB.made w6 #[.slice none 0 0, .string ⟨#[]⟩] 25).below (Below.refl _ _).drew)
  have HN1 := Lib.hid (fun (W' : World) (hb : Below w6.heap.size w6 W') => (show B ≠ W'.heap.size from Nat.ne_of_lt (Nat.lt_of_lt_of_le HS6.out.lt hb.size)))
  have HN2 := Lib.hid (fun (W' : World) (hb : Below w6.heap.size w6 W') => (show Dy ≠ W'.heap.size from Nat.ne_of_lt (Nat.lt_of_lt_of_le HD6.out.lt hb.size)))
  have hbr : Below w6.heap.size w6 w6 := Below.refl _ _
  clear hs
  go_wp2_with fail
  go_region_held3 (fun W' => W'.cell? ⟨B, 0, none⟩ = some (.slice A M cap) ∧ W'.cell? ⟨B, 1, none⟩ = some (.string p) ∧ W'.cell? ⟨Dy, 1, none⟩ = some (.int .i64 (W : Int))) (first | with_reducible assumption | with_reducible exact HSS.out _ (by with_reducible assumption) | with_reducible exact HSS.out _ bel_aldK | with_reducible exact HSS.out _ (bel_alK (by with_reducible assumption)) | with_reducible exact keep3K (HN1.out _ (by with_reducible assumption)) (HN2.out _ (by with_reducible assumption)) (HSS.out _ (by with_reducible assumption)) | fail) (first | (go_at_call 30; refine (HOA.out _ _ _ (by with_reducible rfl) (by with_reducible rfl)).mono ?_; rintro _ w7 ⟨Ao, co, rfl, hoo, hb7⟩; have b7 := bel_on (a := w6) (by first | with_reducible assumption | with_reducible exact bel_aldK | exact bel_alK (by with_reducible assumption)) hb7; (first | (have HQ7 := Lib.hid (HQZ.out.below hb7)) | skip)) | (go_at_call 29; refine (HOW.out _ Ao co (HRR.out _ (by first | with_reducible assumption | exact bel_alK (by with_reducible assumption))) (by first | exact own_rd3' hoo | exact own_rd3' (hoo.alloc _)) (own_le3 hoo)).mono ?_; rintro _ w8 ⟨Ar, cr, rfl, how8, hb8⟩; have how8 := own_mono3 how8 (show w6.heap.size ≤ _ from by first | exact b7.size | exact (bel_alK b7).size | exact Nat.le_refl _); have b8 := bel_on (a := w6) (by first | with_reducible assumption | exact bel_alK (by with_reducible assumption)) hb8; (first | (have hq8 := HQ7.out.below hb8; have HQ8 := Lib.hid hq8; obtain ⟨⟨x0, x1⟩, f0, f1⟩ := hq8.twoC; clear hq8) | (have hq8 := (SB.made w7 #[.slice none 0 0, .string ⟨#[]⟩] 25).below hb8; have HQ8 := Lib.hid hq8; obtain ⟨⟨x0, x1⟩, f0, f1⟩ := hq8.twoC; clear hq8) | skip)) | fail)
  all_goals
    first
    | (have hx := SB.made w8 #[.slice Ar M cr, .string p] 25
       have hbe := bel_alK (o := .cells #[.slice Ar M cr, .string p] 25) b8
       have hoe := how8.alloc (.cells #[.slice Ar M cr, .string p] 25)
       have hXB : B + 1 ≠ w8.heap.size := Nat.ne_of_lt (Nat.lt_of_lt_of_le HQ6.out.lt b8.size)
       obtain ⟨We, hWe⟩ : ∃ We, We = w8.alloc (.cells #[.slice Ar M cr, .string p] 25) := ⟨_, rfl⟩
       obtain ⟨X, hX⟩ : ∃ X, X = w8.heap.size := ⟨_, rfl⟩
       rw [← hWe] at hx hbe hoe
       rw [← hX] at hx hXB
       rw [← hWe, ← hX]
       clear hWe hX)
    | (have hx := HQ8.out.two (.slice Ar M cr) (.string p)
       have hne := own_ne_type how8 HQ8.out (by decide)
       have hoe := own_set (own_set how8 hne 0 (.slice Ar M cr)) hne 1 (.string p)
       have hbe := (b8.setCell (p := ⟨w7.heap.size, 0, none⟩) b7.size (.slice Ar M cr)).setCell (p := ⟨w7.heap.size, 1, none⟩) b7.size (.string p)
       have hXB : B + 1 ≠ w7.heap.size := Nat.ne_of_lt (Nat.lt_of_lt_of_le HQ6.out.lt b7.size)
       obtain ⟨We, hWe⟩ : ∃ We, We = (w8.setCell ⟨w7.heap.size, 0, none⟩ (.slice Ar M cr)).setCell ⟨w7.heap.size, 1, none⟩ (.string p) := ⟨_, rfl⟩
       obtain ⟨X, hX⟩ : ∃ X, X = w7.heap.size := ⟨_, rfl⟩
       rw [← hWe] at hx hbe hoe
       rw [← hX] at hx hXB
       rw [← hWe, ← hX]
       clear hWe hX hne)
    | (have hx := HQ8.out.two (.slice Ar M cr) (.string p)
       have hne := own_ne_type how8 HQ8.out (by decide)
       have hoe := own_set (own_set how8 hne 0 (.slice Ar M cr)) hne 1 (.string p)
       have hbe := (b8.setCell (p := ⟨w6.heap.size, 0, none⟩) (Nat.le_refl _) (.slice Ar M cr)).setCell (p := ⟨w6.heap.size, 1, none⟩) (Nat.le_refl _) (.string p)
       have hXB : B + 1 ≠ w6.heap.size := Nat.ne_of_lt HQ6.out.lt
       obtain ⟨We, hWe⟩ : ∃ We, We = (w8.setCell ⟨w6.heap.size, 0, none⟩ (.slice Ar M cr)).setCell ⟨w6.heap.size, 1, none⟩ (.string p) := ⟨_, rfl⟩
       obtain ⟨X, hX⟩ : ∃ X, X = w6.heap.size := ⟨_, rfl⟩
       rw [← hWe] at hx hbe hoe
       rw [← hX] at hx hXB
       rw [← hWe, ← hX]
       clear hWe hX hne)
    have hqe := HQ6.out.below hbe
    have HBE := Lib.hid (HB6.out.trans (hbe.mono HB6.out.size))
    obtain ⟨⟨g0, g1, g2, g3⟩, y0, y1, y2, y3⟩ := hqe.all4
    obtain ⟨z0, z1⟩ := hx.two_cells
    have hna := own_ne_type hoe hqe (by decide)
    have HSF := Lib.hid (hqe.four (.slice Ar M cr) (.string p) (.string RI) (.string PL))
    have HWF := Lib.hid (own_set (own_set (own_set (own_set hoe hna 0 (.slice Ar M cr)) hna 1 (.string p)) hna 2 (.string RI)) hna 3 (.string PL))
    have HBF := Lib.hid ((((HBE.out.setCell (p := ⟨B + 1, 0, none⟩) HBW.out (.slice Ar M cr)).setCell (p := ⟨B + 1, 1, none⟩) HBW.out (.string p)).setCell (p := ⟨B + 1, 2, none⟩) HBW.out (.string RI)).setCell (p := ⟨B + 1, 3, none⟩) HBW.out (.string PL))
    have HSZ := Lib.hid (show w.heap.size ≤ w6.heap.size from HB6.out.size)
    go_wp2_with fail
    refine bodyPost_ret (results_st_tmpK rfl _ _ (B + 1) _ #[.slice Ar M cr, .string p, .string RI, .string PL] _ _ rfl HSF.out Tryz.underlying29 ⟨_, rfl⟩ macSize) rfl ⟨Ar, cr, rfl, own_mono3 HWF.out HSZ.out, HBF.out⟩

set_option maxHeartbeats 4000000 in
set_option maxRecDepth 100000 in
theorem sDayCount_no (w : World) (A : Option Addr) (cap : Nat) (rs : List (ByteArray × ByteArray)) (p : ByteArray) (x : Int) (h : Rd w w.heap.size A (rotV rs)) (hc : rs.length ≤ cap) (hl : rs.length ≤ 100) (hn : ¬ (WheelsV rs p ∧ 0 ≤ x ∧ x ≤ 5)) :
    Calls Tryz.prog 23 #[.agg #[.slice A rs.length cap, .string p], .int .i64 x] w fun e w' => e = .returned (.int .i64 (-1)) ∧ Below w.heap.size w w' := by
  obtain ⟨b, hb⟩ : ∃ b : Bool, b = true ↔ WheelsV rs p := ⟨@decide _ (Classical.propDecidable _), @decide_eq_true_iff _ (Classical.propDecidable _)⟩
  have hwv := fun (w' : World) (h' : Rd w' w'.heap.size A (rotV rs)) => sWheelsValid_any w' A cap rs p b h' hc hl hb
  have hno : b = true → (decide ((0 : Int) ≤ x) && decide (x ≤ 5)) = false := fun e => by
    have h1 : ¬ (0 ≤ x ∧ x ≤ 5) := fun hx => hn ⟨hb.1 e, hx⟩
    simp only [Bool.and_eq_false_iff, decide_eq_false_iff_not]; omega
  obtain ⟨w0, hw0⟩ : ∃ w0, w0 = w.alloc (.cells #[.slice A rs.length cap, .string p] 25) := ⟨_, rfl⟩
  have hb0 : Below w.heap.size w w0 := by rw [hw0]; exact (Below.refl _ _).alloc (Nat.le_refl _) _
  have hs0 : SB w0 w.heap.size #[.slice A rs.length cap, .string p] 25 := by rw [hw0]; exact SB.made w _ _
  have HB0 := Lib.hid hb0; have HS0 := Lib.hid hs0; have HRD := Lib.hid ((h.below hb0).mono hb0.size); have HWV := Lib.hid hwv
  clear h hb0 hs0 hwv hn hb
  generalize rs.length = M at hw0 HS0 HWV hc hl ⊢
  obtain ⟨P0, hP0⟩ : ∃ P0, P0 = w.heap.size := ⟨_, rfl⟩
  rw [← hP0] at HS0
  obtain ⟨c0, c1⟩ := HS0.out.two_cells
  go_enter Tryz.func23, Tryz.ntmps23
  go_wp2_with fail
  rw [← hw0, ← hP0]
  clear hw0 hP0
  go_wp2_with fail
  refine (HWV.out _ HRD.out).mono ?_
  rintro _ w1 ⟨rfl, hb1⟩
  have HB1 := Lib.hid (HB0.out.trans (hb1.mono HB0.out.size))
  clear hb1 c0 c1 HB0 HS0 HRD
  cases b with
  | false =>
    go_wp2_with fail
    go_ret
    exact ⟨rfl, HB1.out⟩
  | true =>
    have HNO := Lib.hid (hno rfl)
    clear hno
    go_wp2_with fail
    refine (l1In_is _ 0 5 false _ HNO.out).mono ?_
    rintro _ _ ⟨rfl, rfl⟩
    go_wp2_with fail
    go_ret
    exact ⟨rfl, HB1.out⟩

/-- no day -/
def DayNot (w : World) (e : Ending) (w' : World) : Prop := e = .returned (.tuple #[.agg #[.slice none 0 0, .string ⟨#[]⟩, .string ⟨#[]⟩, .string ⟨#[]⟩], .string ⟨#[]⟩, .bool false]) ∧ Below w.heap.size w w'

set_option maxHeartbeats 4000000 in
set_option maxRecDepth 100000 in
theorem dayKey_no1 (w : World) (A : Option Addr) (cap : Nat) (rs : List (ByteArray × ByteArray)) (p : ByteArray) (x n : Int) (h : Rd w w.heap.size A (rotV rs)) (hc : rs.length ≤ cap) (hl : rs.length ≤ 100) (hn : ¬ (WheelsV rs p ∧ 0 ≤ x ∧ x ≤ 5)) :
    Calls Tryz.prog 6 #[.agg #[.slice A rs.length cap, .string p], .int .i64 x, .int .i64 n] w (DayNot w) := by
  have hnd := fun (w' : World) (h' : Rd w' w'.heap.size A (rotV rs)) => newDays_no w' A cap rs p x h' hc hl hn
  obtain ⟨w0, hw0⟩ : ∃ w0, w0 = (w.alloc (.cells #[.slice A rs.length cap, .string p] 25)).alloc (.cells #[.slice none 0 0, .string ⟨#[]⟩, .string ⟨#[]⟩, .string ⟨#[]⟩] 29) := ⟨_, rfl⟩
  obtain ⟨hb0, hs0, hq0⟩ := two_sbs w _ _ _ _ w0 hw0
  have hrd0 := (h.below hb0).mono hb0.size
  unfold DayNot
  obtain ⟨M, hM⟩ : ∃ M, M = rs.length := ⟨_, rfl⟩
  rw [← hM] at hw0 hs0 hnd hc ⊢
  obtain ⟨B, hB⟩ : ∃ B, B = w.heap.size := ⟨_, rfl⟩
  rw [← hB] at hs0 hq0
  have hBw : w.heap.size ≤ B + 1 := by rw [hB]; exact Nat.le_succ _
  have HB0 := Lib.hid hb0; have HS0 := Lib.hid hs0; have HQ0 := Lib.hid hq0; have HRD := Lib.hid hrd0; have HND := Lib.hid hnd; have HBW := Lib.hid hBw
  obtain ⟨c0, c1⟩ := HS0.out.two_cells
  clear h hb0 hs0 hq0 hrd0 hnd hM hBw hn hl
  go_enter Tryz.func6, Tryz.ntmps6
  go_wp2_with fail
  rw [← hw0, ← hB]
  clear hw0 hB
  go_wp2_with fail
  refine (HND.out _ HRD.out).mono ?_
  rintro _ w1 ⟨rfl, hb1⟩
  have HB1 := Lib.hid (HB0.out.trans (hb1.mono HB0.out.size)); have HQ1 := Lib.hid (HQ0.out.below hb1)
  obtain ⟨w2, hw2⟩ : ∃ w2, w2 = w1.alloc (.cells #[.int .i64 0, .int .i64 0, .int .i64 0] 56) := ⟨_, rfl⟩
  have hal : Below w1.heap.size w1 w2 := by rw [hw2]; exact (Below.refl _ _).alloc (Nat.le_refl _) _
  have HB2 := Lib.hid (HB1.out.trans (hal.mono HB1.out.size)); have HQ2 := Lib.hid (HQ1.out.below hal)
  clear hb1 hal HB1 HQ1 c0 c1 HB0 HS0 HQ0 HRD
  obtain ⟨⟨g0, g1, g2, g3⟩, y0, y1, y2, y3⟩ := HQ2.out.all4
  have HSF := Lib.hid (HQ2.out.four (.slice none 0 0) (.string ⟨#[]⟩) (.string ⟨#[]⟩) (.string ⟨#[]⟩))
  have HBF := Lib.hid ((((HB2.out.setCell (p := ⟨B + 1, 0, none⟩) HBW.out (.slice none 0 0)).setCell (p := ⟨B + 1, 1, none⟩) HBW.out (.string ⟨#[]⟩)).setCell (p := ⟨B + 1, 2, none⟩) HBW.out (.string ⟨#[]⟩)).setCell (p := ⟨B + 1, 3, none⟩) HBW.out (.string ⟨#[]⟩))
  have l0 := g0; have l1 := g1; have l2 := g2; have l3 := g3; have k0 := y0; have k1 := y1; have k2 := y2; have k3 := y3
  rw [hw2] at l0 l1 l2 l3 k0 k1 k2 k3
  rw [hw2] at HSF HBF
  clear g0 g1 g2 g3 y0 y1 y2 y3 hw2 HB2 HQ2
  go_wp2_with fail
  refine bodyPost_ret (results_st_tmpK rfl _ _ (B + 1) _ #[.slice none 0 0, .string ⟨#[]⟩, .string ⟨#[]⟩, .string ⟨#[]⟩] _ _ rfl HSF.out Tryz.underlying29 ⟨_, rfl⟩ macSize) rfl ⟨rfl, HBF.out⟩

set_option maxHeartbeats 4000000 in
set_option maxRecDepth 100000 in
theorem dayKey_no2 (w : World) (A : Option Addr) (cap : Nat) (rs : List (ByteArray × ByteArray)) (p : ByteArray) (P : Nat) (x n : Int) (hx : x = (P : Int)) (h : Rd w w.heap.size A (rotV rs)) (hc : rs.length ≤ cap) (hv : WheelsV rs p) (hP : P ≤ 5) (hn : n < 0 ∨ ((dayC rs.length P : Nat) : Int) ≤ n) :
    Calls Tryz.prog 6 #[.agg #[.slice A rs.length cap, .string p], .int .i64 x, .int .i64 n] w (DayNot w) := by
  subst hx
  have hnd := fun (w' : World) (h' : Rd w' w'.heap.size A (rotV rs)) => newDays_yes w' A cap rs p P _ rfl h' hc hv hP
  have hdc := fun (w' : World) (h' : Rd w' w'.heap.size A (rotV rs)) => dayCount_yes w' A cap rs p P _ rfl h' hc hv hP
  obtain ⟨w0, hw0⟩ : ∃ w0, w0 = (w.alloc (.cells #[.slice A rs.length cap, .string p] 25)).alloc (.cells #[.slice none 0 0, .string ⟨#[]⟩, .string ⟨#[]⟩, .string ⟨#[]⟩] 29) := ⟨_, rfl⟩
  obtain ⟨hb0, hs0, hq0⟩ := two_sbs w _ _ _ _ w0 hw0
  have hrd0 := (h.below hb0).mono hb0.size
  unfold DayNot
  unfold dayV at hnd
  generalize dayC rs.length P = D at hn hdc
  generalize cnt 10 P = C at hnd
  generalize 10 ^ rs.length = W at hnd
  generalize fct rs.length = F at hnd
  obtain ⟨M, hM⟩ : ∃ M, M = rs.length := ⟨_, rfl⟩
  rw [← hM] at hw0 hs0 hnd hdc hc ⊢
  obtain ⟨B, hB⟩ : ∃ B, B = w.heap.size := ⟨_, rfl⟩
  rw [← hB] at hs0 hq0
  have hBw : w.heap.size ≤ B + 1 := by rw [hB]; exact Nat.le_succ _
  have HB0 := Lib.hid hb0; have HS0 := Lib.hid hs0; have HQ0 := Lib.hid hq0; have HRD := Lib.hid hrd0; have HND := Lib.hid hnd; have HDC := Lib.hid hdc; have HBW := Lib.hid hBw
  obtain ⟨c0, c1⟩ := HS0.out.two_cells
  clear h hb0 hs0 hq0 hrd0 hnd hdc hM hBw hv
  go_enter Tryz.func6, Tryz.ntmps6
  go_wp2_with fail
  rw [← hw0, ← hB]
  clear hw0 hB
  go_wp2_with fail
  refine (HND.out _ HRD.out).mono ?_
  rintro _ w1 ⟨rfl, hb1⟩
  have HB1 := Lib.hid (HB0.out.trans (hb1.mono HB0.out.size)); have HR1 := Lib.hid ((HRD.out.below hb1).mono hb1.size); have HS1 := Lib.hid (HS0.out.below hb1); have HQ1 := Lib.hid (HQ0.out.below hb1)
  obtain ⟨w2, hw2⟩ : ∃ w2, w2 = w1.alloc (.cells #[.int .i64 (F : Int), .int .i64 (W : Int), .int .i64 (C : Int)] 56) := ⟨_, rfl⟩
  have hal : Below w1.heap.size w1 w2 := by rw [hw2]; exact (Below.refl _ _).alloc (Nat.le_refl _) _
  have HB2 := Lib.hid (HB1.out.trans (hal.mono HB1.out.size)); have HR2 := Lib.hid ((HR1.out.below hal).mono hal.size); have HS2 := Lib.hid (HS1.out.below hal); have HQ2 := Lib.hid (HQ1.out.below hal)
  clear hb1 hal HB1 HQ1 HR1 HS1 c0 c1 HB0 HS0 HQ0 HRD
  by_cases hz : n < 0
  · obtain ⟨⟨g0, g1, g2, g3⟩, y0, y1, y2, y3⟩ := HQ2.out.all4
    have HSF := Lib.hid (HQ2.out.four (.slice none 0 0) (.string ⟨#[]⟩) (.string ⟨#[]⟩) (.string ⟨#[]⟩))
    have HBF := Lib.hid ((((HB2.out.setCell (p := ⟨B + 1, 0, none⟩) HBW.out (.slice none 0 0)).setCell (p := ⟨B + 1, 1, none⟩) HBW.out (.string ⟨#[]⟩)).setCell (p := ⟨B + 1, 2, none⟩) HBW.out (.string ⟨#[]⟩)).setCell (p := ⟨B + 1, 3, none⟩) HBW.out (.string ⟨#[]⟩))
    have l0 := g0; have l1 := g1; have l2 := g2; have l3 := g3; have k0 := y0; have k1 := y1; have k2 := y2; have k3 := y3
    rw [hw2] at l0 l1 l2 l3 k0 k1 k2 k3
    rw [hw2] at HSF HBF
    clear g0 g1 g2 g3 y0 y1 y2 y3 hw2 HB2 HQ2 hn
    go_wp2_with fail
    refine bodyPost_ret (results_st_tmpK rfl _ _ (B + 1) _ #[.slice none 0 0, .string ⟨#[]⟩, .string ⟨#[]⟩, .string ⟨#[]⟩] _ _ rfl HSF.out Tryz.underlying29 ⟨_, rfl⟩ macSize) rfl ⟨rfl, HBF.out⟩
  · have hge : ((D : Nat) : Int) ≤ n := by omega
    have hge' : n ≥ ((D : Nat) : Int) := hge
    clear hn
    obtain ⟨Dy, hDy⟩ : ∃ Dy, Dy = w1.heap.size := ⟨_, rfl⟩
    obtain ⟨c0, c1⟩ := HS2.out.two_cells
    have l0 := c0; have l1 := c1
    rw [hw2] at l0 l1
    go_wp2_with fail
    rw [← hw2]
    clear hw2 l0 l1 hDy Dy
    refine (HDC.out _ HR2.out).mono ?_
    rintro _ w3 ⟨rfl, hb3⟩
    have HB3 := Lib.hid (HB2.out.trans (hb3.mono HB2.out.size)); have HQ3 := Lib.hid (HQ2.out.below hb3)
    clear hb3 HB2 HR2 HS2 HQ2 c0 c1
    obtain ⟨⟨g0, g1, g2, g3⟩, y0, y1, y2, y3⟩ := HQ3.out.all4
    have HSF := Lib.hid (HQ3.out.four (.slice none 0 0) (.string ⟨#[]⟩) (.string ⟨#[]⟩) (.string ⟨#[]⟩))
    have HBF := Lib.hid ((((HB3.out.setCell (p := ⟨B + 1, 0, none⟩) HBW.out (.slice none 0 0)).setCell (p := ⟨B + 1, 1, none⟩) HBW.out (.string ⟨#[]⟩)).setCell (p := ⟨B + 1, 2, none⟩) HBW.out (.string ⟨#[]⟩)).setCell (p := ⟨B + 1, 3, none⟩) HBW.out (.string ⟨#[]⟩))
    go_wp2_with fail
    refine bodyPost_ret (results_st_tmpK rfl _ _ (B + 1) _ #[.slice none 0 0, .string ⟨#[]⟩, .string ⟨#[]⟩, .string ⟨#[]⟩] _ _ rfl HSF.out Tryz.underlying29 ⟨_, rfl⟩ macSize) rfl ⟨rfl, HBF.out⟩

theorem keep2K {W : World} {B X : Nat} (hB : B ≠ X) {a b u v : Value} (h : W.cell? ⟨B, 0, none⟩ = some a ∧ W.cell? ⟨B, 1, none⟩ = some b) :
    ((W.setCell ⟨X, 0, none⟩ u).setCell ⟨X, 1, none⟩ v).cell? ⟨B, 0, none⟩ = some a ∧ ((W.setCell ⟨X, 0, none⟩ u).setCell ⟨X, 1, none⟩ v).cell? ⟨B, 1, none⟩ = some b := by
  simp only [cell_set_ne hB]; exact h
theorem rd_alK {w : World} {A : Option Addr} {xs : List Value} {o : Obj} (h : Rd w w.heap.size A xs) : Rd (w.alloc o) (w.alloc o).heap.size A xs :=
  (h.below (bel_alK (Below.refl _ _))).mono (bel_alK (o := o) (Below.refl _ w)).size
/-- the orders were made; the one at a place -/
def OrdAt (n F M4 : Nat) (l : List Nat) (w : World) (e : Ending) (w' : World) : Prop :=
  ∃ B b, e = .returned (.slice (some ⟨B, 0, none⟩) F F) ∧ w'.cell? ⟨B, M4, none⟩ = some (.slice (some ⟨b, 0, none⟩) n n) ∧ Rd w' w'.heap.size (some ⟨b, 0, none⟩) (natV l) ∧ B < w'.heap.size ∧ Below w.heap.size w w'
theorem ords_at (w : World) (n a : Nat) (m : Int) (hm : m = (n : Int)) (h1 : 1 ≤ n) (h3 : n ≤ 3) (ha : a < fct n) :
    Calls Tryz.prog 36 #[.int .i64 m] w (OrdAt n (fct n) a (ordP n a) w) := by
  refine (sOrders_is w n m hm h1 h3).mono ?_
  rintro e w' ⟨B, he, hc, hb⟩
  obtain ⟨b, h2, h4⟩ := hc a ha
  refine ⟨B, b, he, h2, h4, ?_, hb⟩
  rcases Nat.lt_or_ge B w'.heap.size with h | h
  · exact h
  · have hn : w'.heap[B]? = none := Array.getElem?_eq_none h
    simp [World.cell?, hn] at h2

set_option maxHeartbeats 8000000 in
set_option maxRecDepth 100000 in
theorem sDayKey_yes (w : World) (A : Option Addr) (cap : Nat) (rs : List (ByteArray × ByteArray)) (p : ByteArray) (P N : Nat) (x n : Int) (hx : x = (P : Int)) (hn : n = (N : Int)) (h : Rd w w.heap.size A (rotV rs)) (hc : rs.length ≤ cap) (hv : WheelsV rs p) (hP : P ≤ 5) (hN : N < dayC rs.length P) :
    Calls Tryz.prog 7 #[.agg #[.slice A rs.length cap, .string p], .int .i64 x, .int .i64 n] w (DayMade rs p P N w) := by
  subst hx hn
  have hl3 : rs.length ≤ 3 := hv.2.1
  have hl1 : 1 ≤ rs.length := hv.1
  obtain ⟨p1, p2, p3, p4, p5, p6⟩ := day_parts hl3 hN
  obtain ⟨o1, o2, o3⟩ := ordP_ok hl3 p4
  have hDle := (dayC_le hl3 hP).2.2.2
  have hsz := fun (w' : World) => sSize_is w' rs.length _ rfl hl3
  have hbc := fun (w' : World) => sBoardCount_is w' P _ rfl hP
  have hdc := fun (w' : World) (h' : Rd w' w'.heap.size A (rotV rs)) => sDayCount_yes w' A cap rs p P _ rfl h' hc hv hP
  have hvw := fun (w' : World) (m : Nat) (hm : m < 10 ^ rs.length) (a b : Int) (ha : a = (m : Int)) (hb : b = ((rs.length : Nat) : Int)) => sValueWord_is w' m rs.length a b ha hb hl3 hm
  have hba := fun (w' : World) (b : Int) (hb : b = ((dayN1 rs.length N % cnt 10 P : Nat) : Int)) => sBoardAt_is w' P (dayN1 rs.length N % cnt 10 P) _ b rfl hb hP p2
  have hoa := fun (w' : World) => ords_at w' rs.length (dayN2 rs.length P N / 10 ^ rs.length) _ rfl hl1 hl3 p4
  have how := fun (w' : World) (Ao : Option Addr) (co : Nat) (h' : Rd w' w'.heap.size A (rotV rs)) (ho : Rd w' w'.heap.size Ao (natV (dayOrd rs.length P N))) (hco : (dayOrd rs.length P N).length ≤ co) => sOrderWheels_is w' A cap rs p Ao co (dayOrd rs.length P N) h' hc hv ho hco o2 o1 o3
  have hol : (dayOrd rs.length P N).length = rs.length := o2
  obtain ⟨w0, hw0⟩ : ∃ w0, w0 = (w.alloc (.cells #[.slice A rs.length cap, .string p] 25)).alloc (.cells #[.slice none 0 0, .string ⟨#[]⟩, .string ⟨#[]⟩, .string ⟨#[]⟩] 29) := ⟨_, rfl⟩
  obtain ⟨hb0, hs0, hq0⟩ := two_sbs w _ _ _ _ w0 hw0
  have hrd0 := (h.below hb0).mono hb0.size
  have hMF : dayN2 rs.length P N / 10 ^ rs.length < fct rs.length := p4
  have hcN : ¬ dayC rs.length P ≤ N := by omega
  have hW0 : ¬ 10 ^ rs.length = 0 := by omega
  have hC0 : ¬ cnt 10 P = 0 := by omega
  have e1 : (((10 ^ rs.length : Nat) : Int) == 0) = false := by rw [beq_eq_false_iff_ne]; omega
  have e2 : (((cnt 10 P : Nat) : Int) == 0) = false := by rw [beq_eq_false_iff_ne]; omega
  have hN1 : dayN1 rs.length N ≤ N := Nat.div_le_self _ _
  have hN2 : dayN2 rs.length P N ≤ N := Nat.le_trans (Nat.div_le_self _ _) hN1
  have hM4 : dayN2 rs.length P N / 10 ^ rs.length ≤ N := Nat.le_trans (Nat.div_le_self _ _) hN2
  have hwr : ∀ z : Nat, z ≤ N → wrap64 ((z : Nat) : Int) = ((z : Nat) : Int) := fun z hz => by unfold wrap64; omega
  have r1 := hwr _ hN1
  have r2 := hwr _ hN2
  have r3 := hwr _ hM4
  have r4 : IntKind.i64.wrap ((dayN2 rs.length P N / 10 ^ rs.length : Nat) : Int) = ((dayN2 rs.length P N / 10 ^ rs.length : Nat) : Int) := by
    rw [IntKind.wrap_i64]
    have h1 := Nat.le_trans hM4 (Nat.le_of_lt hN)
    generalize dayN2 rs.length P N / 10 ^ rs.length = z at h1 ⊢
    omega
  have t1 : ((N : Nat) : Int).tmod ((10 ^ rs.length : Nat) : Int) = ((N % 10 ^ rs.length : Nat) : Int) := by rw [Int.tmod_eq_emod_of_nonneg (Int.natCast_nonneg _), Int.natCast_emod]
  have t2 : ((N : Nat) : Int).tdiv ((10 ^ rs.length : Nat) : Int) = ((dayN1 rs.length N : Nat) : Int) := by rw [Int.tdiv_eq_ediv_of_nonneg (Int.natCast_nonneg _)]; unfold dayN1; rw [Int.natCast_ediv]
  have t3 : ((dayN1 rs.length N : Nat) : Int).tmod ((cnt 10 P : Nat) : Int) = ((dayN1 rs.length N % cnt 10 P : Nat) : Int) := by rw [Int.tmod_eq_emod_of_nonneg (Int.natCast_nonneg _), Int.natCast_emod]
  have t4 : ((dayN1 rs.length N : Nat) : Int).tdiv ((cnt 10 P : Nat) : Int) = ((dayN2 rs.length P N : Nat) : Int) := by rw [Int.tdiv_eq_ediv_of_nonneg (Int.natCast_nonneg _)]; unfold dayN2; rw [Int.natCast_ediv]
  have t5 : ((dayN2 rs.length P N : Nat) : Int).tmod ((10 ^ rs.length : Nat) : Int) = ((dayN2 rs.length P N % 10 ^ rs.length : Nat) : Int) := by rw [Int.tmod_eq_emod_of_nonneg (Int.natCast_nonneg _), Int.natCast_emod]
  clear hN1 hN2 hM4 hwr
  have q7 : ((dayN2 rs.length P N : Nat) : Int).tdiv ((10 ^ rs.length : Nat) : Int) = ((dayN2 rs.length P N / 10 ^ rs.length : Nat) : Int) := by rw [Int.tdiv_eq_ediv_of_nonneg (Int.natCast_nonneg _), Int.natCast_ediv]
  have q1 : ((N : Nat) : Int) % ((10 ^ rs.length : Nat) : Int) = ((N % 10 ^ rs.length : Nat) : Int) := by rw [Int.natCast_emod]
  have q2 : ((N : Nat) : Int) / ((10 ^ rs.length : Nat) : Int) = ((dayN1 rs.length N : Nat) : Int) := by unfold dayN1; rw [Int.natCast_ediv]
  have q3 : ((dayN1 rs.length N : Nat) : Int) % ((cnt 10 P : Nat) : Int) = ((dayN1 rs.length N % cnt 10 P : Nat) : Int) := by rw [Int.natCast_emod]
  have q4 : ((dayN1 rs.length N : Nat) : Int) / ((cnt 10 P : Nat) : Int) = ((dayN2 rs.length P N : Nat) : Int) := by unfold dayN2; rw [Int.natCast_ediv]
  have q5 : ((dayN2 rs.length P N : Nat) : Int) % ((10 ^ rs.length : Nat) : Int) = ((dayN2 rs.length P N % 10 ^ rs.length : Nat) : Int) := by rw [Int.natCast_emod]
  have q6 : ((dayN2 rs.length P N : Nat) : Int) / ((10 ^ rs.length : Nat) : Int) = ((dayN2 rs.length P N / 10 ^ rs.length : Nat) : Int) := by rw [Int.natCast_ediv]
  have hvw1 := fun (w' : World) (a b : Int) (ha : a = ((N % 10 ^ rs.length : Nat) : Int)) (hb : b = ((rs.length : Nat) : Int)) => hvw w' _ p1 a b ha hb
  have hvw2 := fun (w' : World) (a b : Int) (ha : a = ((dayN2 rs.length P N % 10 ^ rs.length : Nat) : Int)) (hb : b = ((rs.length : Nat) : Int)) => hvw w' _ p3 a b ha hb
  unfold OrdAt at hoa
  unfold OrdW at how
  unfold DayMade
  rw [show ordP rs.length (dayN2 rs.length P N / 10 ^ rs.length) = dayOrd rs.length P N from rfl] at hoa
  rw [show valD rs.length (N % 10 ^ rs.length) = dayGrd rs.length N from rfl] at hvw1
  rw [show valD rs.length (dayN2 rs.length P N % 10 ^ rs.length) = dayRing rs.length P N from rfl] at hvw2
  rw [show boardP P (dayN1 rs.length N % cnt 10 P) = dayPlug rs.length P N from rfl] at hba
  rw [hol] at how
  generalize dayOrd rs.length P N = OL at hoa how ⊢
  generalize pT (dayGrd rs.length N) = GR at hvw1 ⊢
  generalize pT (dayRing rs.length P N) = RI at hvw2 ⊢
  generalize pT (dayPlug rs.length P N) = PL at hba ⊢
  generalize N % 10 ^ rs.length = M1 at q1 t1 hvw1
  generalize dayN1 rs.length N % cnt 10 P = M2 at q3 t3 hba
  generalize dayN2 rs.length P N % 10 ^ rs.length = M3 at q5 t5 hvw2
  generalize dayN2 rs.length P N / 10 ^ rs.length = M4 at q6 q7 r3 r4 hoa hMF
  generalize dayN1 rs.length N = N1 at q2 q3 q4 t2 t3 t4 r1
  generalize dayN2 rs.length P N = N2 at q4 q5 q6 q7 t4 t5 r2
  generalize dayC rs.length P = D at hcN hdc hDle
  generalize cnt 10 P = C at q3 q4 t3 t4 e2 hbc hC0
  generalize 10 ^ rs.length = W at q1 q2 q5 q6 q7 t1 t2 t5 e1 hsz hW0
  generalize fct rs.length = F at hoa hMF
  have hwv0 := hv
  obtain ⟨M, hM⟩ : ∃ M, M = rs.length := ⟨_, rfl⟩
  rw [← hM] at hw0 hs0 hsz hdc hvw1 hvw2 hoa how hc ⊢
  obtain ⟨B, hB⟩ : ∃ B, B = w.heap.size := ⟨_, rfl⟩
  rw [← hB] at hs0 hq0
  have hBw : w.heap.size ≤ B + 1 := by rw [hB]; exact Nat.le_succ _
  have HB0 := Lib.hid hb0; have HS0 := Lib.hid hs0; have HQ0 := Lib.hid hq0; have HRD := Lib.hid hrd0; have HSZE := Lib.hid hsz; have HBC := Lib.hid hbc; have HDC := Lib.hid hdc; have HVW1 := Lib.hid hvw1; have HVW2 := Lib.hid hvw2; have HBA := Lib.hid hba; have HOA := Lib.hid hoa; have HOW := Lib.hid how; have HBW := Lib.hid hBw
  obtain ⟨c0, c1⟩ := HS0.out.two_cells
  clear h hb0 hs0 hq0 hrd0 hsz hbc hdc hvw1 hvw2 hvw hba hoa how hM hv hwv0 hP hN hl3 hl1 p1 p2 p3 p4 p5 p6 o1 o2 o3 hol hDle hBw
  go_enter Tryz.func7, Tryz.ntmps7
  go_wp2_with fail
  rw [← hw0, ← hB]
  clear hw0 hB
  go_wp2_with fail
  refine (HDC.out _ HRD.out).mono ?_
  rintro _ w3 ⟨rfl, hb3⟩
  have HB3 := Lib.hid (HB0.out.trans (hb3.mono HB0.out.size)); have HR3 := Lib.hid ((HRD.out.below hb3).mono hb3.size); have HS3 := Lib.hid (HS0.out.below hb3); have HQ3 := Lib.hid (HQ0.out.below hb3)
  clear hb3 HB0 HRD HS0 HQ0 c0 c1
  obtain ⟨c0, c1⟩ := HS3.out.two_cells
  go_wp2_with fail
  refine (HSZE.out _).mono ?_
  rintro _ _ ⟨rfl, rfl⟩
  go_wp2_with fail
  refine (HVW1.out _ _ _ rfl rfl).mono ?_
  rintro _ w4 ⟨rfl, hb4⟩
  have HB4 := Lib.hid (HB3.out.trans (hb4.mono HB3.out.size)); have HR4 := Lib.hid ((HR3.out.below hb4).mono hb4.size); have HS4 := Lib.hid (HS3.out.below hb4); have HQ4 := Lib.hid (HQ3.out.below hb4)
  clear hb4 HB3 HR3 HS3 HQ3 c0 c1
  go_wp2_with fail
  refine (HBC.out _).mono ?_
  rintro _ w4b ⟨rfl, hb4⟩
  have HB4 := Lib.hid (HB4.out.trans (hb4.mono HB4.out.size)); have HR4 := Lib.hid ((HR4.out.below hb4).mono hb4.size); have HS4 := Lib.hid (HS4.out.below hb4); have HQ4 := Lib.hid (HQ4.out.below hb4)
  clear hb4
  go_wp2_with fail
  refine (HBA.out _ _ rfl).mono ?_
  rintro _ w5 ⟨rfl, hb5⟩
  have HB5 := Lib.hid (HB4.out.trans (hb5.mono HB4.out.size)); have HR5 := Lib.hid ((HR4.out.below hb5).mono hb5.size); have HS5 := Lib.hid (HS4.out.below hb5); have HQ5 := Lib.hid (HQ4.out.below hb5)
  clear hb5 HB4 HR4 HS4 HQ4
  go_wp2_with fail
  refine (HBC.out _).mono ?_
  rintro _ w5b ⟨rfl, hb5⟩
  have HB5 := Lib.hid (HB5.out.trans (hb5.mono HB5.out.size)); have HR5 := Lib.hid ((HR5.out.below hb5).mono hb5.size); have HS5 := Lib.hid (HS5.out.below hb5); have HQ5 := Lib.hid (HQ5.out.below hb5)
  clear hb5
  go_wp2_with fail
  refine (HVW2.out _ _ _ rfl rfl).mono ?_
  rintro _ w6 ⟨rfl, hb6⟩
  have HB6 := Lib.hid (HB5.out.trans (hb6.mono HB5.out.size)); have HR6 := Lib.hid ((HR5.out.below hb6).mono hb6.size); have HS6 := Lib.hid (HS5.out.below hb6); have HQ6 := Lib.hid (HQ5.out.below hb6)
  clear hb6 HB5 HR5 HS5 HQ5
  have hs : ∀ W' : World, Below w6.heap.size w6 W' → (W'.cell? ⟨B, 0, none⟩ = some (.slice A M cap) ∧ W'.cell? ⟨B, 1, none⟩ = some (.string p)) := fun W' hb => by
    obtain ⟨v0, v1⟩ := (HS6.out.below hb).two_cells
    exact ⟨v0, v1⟩
  have HSS := Lib.hid hs
  have HRR := Lib.hid (fun (W' : World) (hb : Below w6.heap.size w6 W') => (HR6.out.below hb).mono hb.size)
  have hbd : Below w6.heap.size w6 w6.drew := (Below.refl _ _).drew
  have HQZ := Lib.hid ((SB.made w6 #[.slice none 0 0, .string ⟨#[]⟩] 25).below (Below.refl _ _).drew)
  have HN1 := Lib.hid (fun (W' : World) (hb : Below w6.heap.size w6 W') => (show B ≠ W'.heap.size from Nat.ne_of_lt (Nat.lt_of_lt_of_le HS6.out.lt hb.size)))
  have hbr : Below w6.heap.size w6 w6 := Below.refl _ _
  clear hs
  go_wp2_with fail
  obtain ⟨k0, k1⟩ := HSS.out _ hbr
  have HAF := Lib.hid (fun (W' : World) (hb : Below w6.heap.size w6 W') (o : Obj) => HSS.out _ (bel_alK (o := o) hb))
  have j0 := fun o : Obj => (HAF.out _ hbd o).1
  have j1 := fun o : Obj => (HAF.out _ hbd o).2
  have i0 := fun o : Obj => (HAF.out _ hbr o).1
  have i1 := fun o : Obj => (HAF.out _ hbr o).2
  have k0d : w6.drew.cell? ⟨B, 0, none⟩ = some (.slice A M cap) := k0
  have k1d : w6.drew.cell? ⟨B, 1, none⟩ = some (.string p) := k1
  go_region_law (first | (go_simp; go_at_call 36; refine (HOA.out _).mono ?_; rintro _ w7 ⟨Bo, bo, rfl, o7, hoo, hlt7, hb7⟩; have b7 := bel_on (a := w6) (by first | with_reducible assumption | with_reducible exact bel_aldK | exact bel_alK (by with_reducible assumption)) hb7; (first | (have HQ7 := Lib.hid (HQZ.out.below hb7)) | skip); obtain ⟨q0, q1⟩ := HSS.out _ b7; have r0 := fun o : Obj => (HAF.out _ b7 o).1; have r1 := fun o : Obj => (HAF.out _ b7 o).2; have o7a := fun o : Obj => (cell_alloc2 o7 o)) | (go_simp; go_at_call 35; refine (HOW.out _ (some ⟨bo, 0, none⟩) M (HRR.out _ (by first | with_reducible assumption | exact bel_alK (by with_reducible assumption))) (by first | with_reducible exact hoo | exact rd_alK hoo) (Nat.le_refl _)).mono ?_; rintro _ w8 ⟨Ar, cr, rfl, how8, hb8⟩; have how8 := own_mono3 how8 (show w6.heap.size ≤ _ from by first | exact b7.size | exact (bel_alK b7).size | exact Nat.le_refl _); have b8 := bel_on (a := w6) (by first | with_reducible assumption | exact bel_alK (by with_reducible assumption)) hb8; (first | (have hq8 := HQ7.out.below hb8; have HQ8 := Lib.hid hq8; obtain ⟨⟨x0, x1⟩, f0, f1⟩ := hq8.twoC; clear hq8) | (have hq8 := (SB.made w7 #[.slice none 0 0, .string ⟨#[]⟩] 25).below hb8; have HQ8 := Lib.hid hq8; obtain ⟨⟨x0, x1⟩, f0, f1⟩ := hq8.twoC; clear hq8) | skip)) | fail)
  all_goals
    first
    | (have hx := SB.made w8 #[.slice Ar M cr, .string p] 25
       have hbe := bel_alK (o := .cells #[.slice Ar M cr, .string p] 25) b8
       have hoe := how8.alloc (.cells #[.slice Ar M cr, .string p] 25)
       have hXB : B + 1 ≠ w8.heap.size := Nat.ne_of_lt (Nat.lt_of_lt_of_le HQ6.out.lt b8.size)
       obtain ⟨We, hWe⟩ : ∃ We, We = w8.alloc (.cells #[.slice Ar M cr, .string p] 25) := ⟨_, rfl⟩
       obtain ⟨X, hX⟩ : ∃ X, X = w8.heap.size := ⟨_, rfl⟩
       rw [← hWe] at hx hbe hoe
       rw [← hX] at hx hXB
       rw [← hWe, ← hX]
       clear hWe hX)
    | (have hx := HQ8.out.two (.slice Ar M cr) (.string p)
       have hne := own_ne_type how8 HQ8.out (by decide)
       have hoe := own_set (own_set how8 hne 0 (.slice Ar M cr)) hne 1 (.string p)
       have hbe := (b8.setCell (p := ⟨w7.heap.size, 0, none⟩) b7.size (.slice Ar M cr)).setCell (p := ⟨w7.heap.size, 1, none⟩) b7.size (.string p)
       have hXB : B + 1 ≠ w7.heap.size := Nat.ne_of_lt (Nat.lt_of_lt_of_le HQ6.out.lt b7.size)
       obtain ⟨We, hWe⟩ : ∃ We, We = (w8.setCell ⟨w7.heap.size, 0, none⟩ (.slice Ar M cr)).setCell ⟨w7.heap.size, 1, none⟩ (.string p) := ⟨_, rfl⟩
       obtain ⟨X, hX⟩ : ∃ X, X = w7.heap.size := ⟨_, rfl⟩
       rw [← hWe] at hx hbe hoe
       rw [← hX] at hx hXB
       rw [← hWe, ← hX]
       clear hWe hX hne)
    | (have hx := HQ8.out.two (.slice Ar M cr) (.string p)
       have hne := own_ne_type how8 HQ8.out (by decide)
       have hoe := own_set (own_set how8 hne 0 (.slice Ar M cr)) hne 1 (.string p)
       have hbe := (b8.setCell (p := ⟨w6.heap.size, 0, none⟩) (Nat.le_refl _) (.slice Ar M cr)).setCell (p := ⟨w6.heap.size, 1, none⟩) (Nat.le_refl _) (.string p)
       have hXB : B + 1 ≠ w6.heap.size := Nat.ne_of_lt HQ6.out.lt
       obtain ⟨We, hWe⟩ : ∃ We, We = (w8.setCell ⟨w6.heap.size, 0, none⟩ (.slice Ar M cr)).setCell ⟨w6.heap.size, 1, none⟩ (.string p) := ⟨_, rfl⟩
       obtain ⟨X, hX⟩ : ∃ X, X = w6.heap.size := ⟨_, rfl⟩
       rw [← hWe] at hx hbe hoe
       rw [← hX] at hx hXB
       rw [← hWe, ← hX]
       clear hWe hX hne)
    have hqe := HQ6.out.below hbe
    have HBE := Lib.hid (HB6.out.trans (hbe.mono HB6.out.size))
    obtain ⟨⟨g0, g1, g2, g3⟩, y0, y1, y2, y3⟩ := hqe.all4
    obtain ⟨z0, z1⟩ := hx.two_cells
    have hna := own_ne_type hoe hqe (by decide)
    have HSF := Lib.hid (hqe.four (.slice Ar M cr) (.string p) (.string RI) (.string PL))
    have HWF := Lib.hid (own_set (own_set (own_set (own_set hoe hna 0 (.slice Ar M cr)) hna 1 (.string p)) hna 2 (.string RI)) hna 3 (.string PL))
    have HBF := Lib.hid ((((HBE.out.setCell (p := ⟨B + 1, 0, none⟩) HBW.out (.slice Ar M cr)).setCell (p := ⟨B + 1, 1, none⟩) HBW.out (.string p)).setCell (p := ⟨B + 1, 2, none⟩) HBW.out (.string RI)).setCell (p := ⟨B + 1, 3, none⟩) HBW.out (.string PL))
    have HSZ := Lib.hid (show w.heap.size ≤ w6.heap.size from HB6.out.size)
    go_wp2_with fail
    refine bodyPost_ret (results_st_tmpK rfl _ _ (B + 1) _ #[.slice Ar M cr, .string p, .string RI, .string PL] _ _ rfl HSF.out Tryz.underlying29 ⟨_, rfl⟩ macSize) rfl ⟨Ar, cr, rfl, own_mono3 HWF.out HSZ.out, HBF.out⟩

set_option maxHeartbeats 4000000 in
set_option maxRecDepth 100000 in
theorem sDayKey_no (w : World) (A : Option Addr) (cap : Nat) (rs : List (ByteArray × ByteArray)) (p : ByteArray) (x n D : Int) (h : Rd w w.heap.size A (rotV rs))
    (hdc : ∀ w' : World, Rd w' w'.heap.size A (rotV rs) → Calls Tryz.prog 23 #[.agg #[.slice A rs.length cap, .string p], .int .i64 x] w' fun e w'' => e = .returned (.int .i64 D) ∧ Below w'.heap.size w' w'') (hn : n < 0 ∨ D ≤ n) :
    Calls Tryz.prog 7 #[.agg #[.slice A rs.length cap, .string p], .int .i64 x, .int .i64 n] w (DayNot w) := by
  obtain ⟨w0, hw0⟩ : ∃ w0, w0 = (w.alloc (.cells #[.slice A rs.length cap, .string p] 25)).alloc (.cells #[.slice none 0 0, .string ⟨#[]⟩, .string ⟨#[]⟩, .string ⟨#[]⟩] 29) := ⟨_, rfl⟩
  obtain ⟨hb0, hs0, hq0⟩ := two_sbs w _ _ _ _ w0 hw0
  have hrd0 := (h.below hb0).mono hb0.size
  unfold DayNot
  generalize rs.length = M at hw0 hs0 hq0 hdc ⊢
  obtain ⟨B, hB⟩ : ∃ B, B = w.heap.size := ⟨_, rfl⟩
  rw [← hB] at hs0 hq0
  have HBW := Lib.hid (show w.heap.size ≤ B + 1 by rw [hB]; exact Nat.le_succ _)
  have HBB := Lib.hid (show Below B w w0 by rw [hB]; exact hb0)
  have HB0 := Lib.hid hb0; have HS0 := Lib.hid hs0; have HQ0 := Lib.hid hq0; have HRD := Lib.hid hrd0; have HDC := Lib.hid hdc
  obtain ⟨c0, c1⟩ := HS0.out.two_cells
  clear h hb0 hs0 hq0 hrd0 hdc
  by_cases hz : n < 0
  · clear hn
    go_enter Tryz.func7, Tryz.ntmps7
    go_wp2_with fail
    rw [← hw0, ← hB]
    clear hw0 hB
    (try go_wp2_with fail)
    refine bodyPost_ret (results_st_tmpK rfl _ _ (B + 1) _ #[.slice none 0 0, .string ⟨#[]⟩, .string ⟨#[]⟩, .string ⟨#[]⟩] _ _ rfl HQ0.out Tryz.underlying29 ⟨_, rfl⟩ macSize) rfl ⟨rfl, HBB.out⟩
  · have hge : D ≤ n := by omega
    have hge' : n ≥ D := hge
    clear hn
    go_enter Tryz.func7, Tryz.ntmps7
    go_wp2_with fail
    rw [← hw0, ← hB]
    clear hw0 hB
    go_wp2_with fail
    refine (HDC.out _ HRD.out).mono ?_
    rintro _ w3 ⟨rfl, hb3⟩
    have HB3 := Lib.hid (HB0.out.trans (hb3.mono HB0.out.size)); have HQ3 := Lib.hid (HQ0.out.below hb3)
    clear hb3 HB0 HRD HS0 HQ0 c0 c1
    obtain ⟨⟨g0, g1, g2, g3⟩, y0, y1, y2, y3⟩ := HQ3.out.all4
    have HSF := Lib.hid (HQ3.out.four (.slice none 0 0) (.string ⟨#[]⟩) (.string ⟨#[]⟩) (.string ⟨#[]⟩))
    have HBF := Lib.hid ((((HB3.out.setCell (p := ⟨B + 1, 0, none⟩) HBW.out (.slice none 0 0)).setCell (p := ⟨B + 1, 1, none⟩) HBW.out (.string ⟨#[]⟩)).setCell (p := ⟨B + 1, 2, none⟩) HBW.out (.string ⟨#[]⟩)).setCell (p := ⟨B + 1, 3, none⟩) HBW.out (.string ⟨#[]⟩))
    go_wp2_with fail
    refine bodyPost_ret (results_st_tmpK rfl _ _ (B + 1) _ #[.slice none 0 0, .string ⟨#[]⟩, .string ⟨#[]⟩, .string ⟨#[]⟩] _ _ rfl HSF.out Tryz.underlying29 ⟨_, rfl⟩ macSize) rfl ⟨rfl, HBF.out⟩

/-- wheels and a number were drawn, whatever they are -/
def DcD (w : World) (e : Ending) (w' : World) : Prop :=
  ∃ (A : Option Addr) (cap : Nat) (rs : List (ByteArray × ByteArray)) (p : ByteArray) (x : Int), e = .returned (.tuple #[.agg #[.slice A rs.length cap, .string p], .int .i64 x]) ∧ Rd w' w'.heap.size A (rotV rs) ∧ rs.length ≤ cap ∧ rs.length ≤ 6 ∧ p.size ≤ 20 ∧ -9223372036854775808 ≤ x ∧ x ≤ 9223372036854775807 ∧ (∀ a, A = some a → w.heap.size < a.block) ∧ Below w.heap.size w w'

theorem keep2Y {W : World} {B X : Nat} (hB : B ≠ X) {a b u v : Value} (h : W.cell? ⟨B, 0, none⟩ = some a ∧ W.cell? ⟨B, 1, none⟩ = some b) :
    ((W.setCell ⟨X, 0, none⟩ u).setCell ⟨X, 1, none⟩ v).cell? ⟨B, 0, none⟩ = some a ∧ ((W.setCell ⟨X, 0, none⟩ u).setCell ⟨X, 1, none⟩ v).cell? ⟨B, 1, none⟩ = some b := by
  simp only [cell_set_ne hB]; exact h
theorem bel_alY {a W : World} {o : Obj} (h : Below a.heap.size a W) : Below a.heap.size a (W.alloc o) := h.alloc h.size o
theorem bel_aldY {a : World} {o : Obj} : Below a.heap.size a (a.alloc o).drew := ((Below.refl _ _).alloc (Nat.le_refl _) o).drew

set_option maxHeartbeats 8000000 in
set_option maxRecDepth 100000 in
theorem drawDayCount_any (w : World) (A : Option Addr) (cap : Nat) (bs : List UInt8) (h : Rd w w.heap.size A (bytesV bs)) (hc : bs.length ≤ cap) :
    Calls Tryz.prog 20 #[.slice A bs.length cap] w (DcD w) := by
  have hb0 : Below w.heap.size w (w.alloc (.cells #[.slice none 0 0, .string ⟨#[]⟩] 25)) := (Below.refl _ _).alloc (Nat.le_refl _) _
  have hs0 := SB.made w #[.slice none 0 0, .string ⟨#[]⟩] 25
  obtain ⟨w0, hw0⟩ : ∃ w0, w0 = w.alloc (.cells #[.slice none 0 0, .string ⟨#[]⟩] 25) := ⟨_, rfl⟩
  rw [← hw0] at hb0 hs0
  have hop := l21Open_any w0 A cap bs ((h.below hb0).mono hb0.size) hc
  obtain ⟨P, hP⟩ : ∃ P, P = w.heap.size := ⟨_, rfl⟩
  have hpw : w.heap.size ≤ P := by omega
  have hpe : w.heap.size = P := hP.symm
  have HPE := Lib.hid hpe
  rw [← hP] at hs0
  have HOP := Lib.hid hop; have HB0 := Lib.hid hb0; have HS0 := Lib.hid hs0
  clear hop hb0 hs0 h hpe
  go_enter Tryz.func20, Tryz.ntmps20
  go_wp2_with fail
  rw [← hw0, ← hP]
  clear hw0 hP
  refine HOP.out.mono ?_
  rintro _ w1 ⟨rfl, hr1, hb1, hz1⟩
  obtain ⟨R, hR⟩ : ∃ R, R = w0.heap.size := ⟨_, rfl⟩
  rw [← hR] at hr1 hz1 ⊢
  have hpr : P < R := by rw [hR]; exact HS0.out.lt
  have HS1 := Lib.hid (HS0.out.below hb1); have HB1 := Lib.hid (HB0.out.trans (hb1.mono HB0.out.size))
  have HZ1 := Lib.hid hz1
  clear hb1 HB0 HS0 HOP hR hz1
  have hpn : P ≠ R := by omega
  go_wp2_with fail
  refine (l6Any_any _ R 0 hr1 (by omega)).mono ?_
  rintro _ w2 ⟨v, rs, q, rfl, hrb, hq, h1, h3, hr2, ho2⟩
  obtain ⟨b, c2, e2⟩ := own_some hrb.own (by omega)
  subst e2
  have hzq : (pT q).size ≤ 20 := by rw [pT_size, hq.len]; omega
  have hrt := rotT_sizes hrb.rot
  have hown := hrb.own
  have hsz2 : R + 1 ≤ w2.heap.size := by have := ho2.size; have := HZ1.out; omega
  have HS2 := Lib.hid (HS1.out.grow ho2 hpn); have HB2 := Lib.hid (HB1.out.trans (below_of_only ho2 HB1.out.size (by omega)))
  rw [HZ1.out] at hown
  have hb2 : R + 1 ≤ b := (hown.lt b rfl).1
  generalize pT q = p2 at hzq ⊢
  have hbad := l6Bad_any w2 R _ (R + 1) b c2 rs p2 hr2 (by omega) (Nat.lt_succ_self R) hsz2 hown h1 h3 hrt hzq
  have HBAD := Lib.hid hbad
  clear hbad hrb hq hrt hr2 ho2 hr1 HS1 HB1 hown
  go_wp2_with fail
  refine HBAD.out.mono ?_
  rintro _ w3 ⟨v3, rs3, p3, rfl, how3, hl3, hp3, hr3, hk3⟩
  obtain ⟨A3, c3, e3⟩ := slot_slice how3
  subst e3
  have hne : (Value.slice (some ⟨b, 0, none⟩) rs.length c2).ownBlock ≠ some P := by intro e; injection e with e; simp only at e; omega
  have HS3 := Lib.hid (hk3.sb HS2.out hpn hne)
  have HB3 := Lib.hid (HB2.out.trans (hk3.below HB2.out.size (by omega) (by intro k e; injection e with e; simp only at e; omega)))
  have hsz3 : R + 1 ≤ w3.heap.size := by have := hk3.size; omega
  obtain ⟨w4, hw4⟩ : ∃ w4, w4 = w3.alloc (.cells #[.slice A3 rs3.length c3, .string p3] 25) := ⟨_, rfl⟩
  obtain ⟨X, hX⟩ : ∃ X, X = w3.heap.size := ⟨_, rfl⟩
  have hxs : SB w4 X #[.slice A3 rs3.length c3, .string p3] 25 := by rw [hw4, hX]; exact SB.made w3 _ _
  have hal : Below w3.heap.size w3 w4 := by rw [hw4]; exact (Below.refl _ _).alloc (Nat.le_refl _) _
  have HX4 := Lib.hid hxs; have HS4 := Lib.hid (HS3.out.below hal); have HB4 := Lib.hid (HB3.out.trans (hal.mono HB3.out.size)); have HR4 := Lib.hid (hr3.below hal); have HW4 := Lib.hid (ownsRow_below how3 hal)
  have hsz4 : R + 1 ≤ w4.heap.size := by have := hal.size; omega
  have hxr : X ≠ R := by omega
  have hxq : P < X := by omega
  have HR3 := Lib.hid hr3
  clear how3 hr3 hk3 hal hxs HS2 HB2 HBAD HS3 HB3 hne
  have hr4 := HR4.out
  rw [hw4] at hr4
  go_wp2_with fail
  rw [← hw4, ← hX]
  clear hw4 hr4 hX
  refine (pick_pos _ R _ _ HR4.out (by omega) (by omega) (by omega)).mono ?_
  rintro _ w5 ⟨x, rfl, hx, hr5, ho5⟩
  have HX5 := Lib.hid (HX4.out.grow ho5 hxr); have HS5 := Lib.hid (HS4.out.grow ho5 hpn); have HW5 := Lib.hid (HW4.out.kept ho5 (.inr (by intro e; have := (HW4.out.lt R e).1; omega)))
  have HB5 := Lib.hid (HB4.out.trans (below_of_only ho5 HB4.out.size (by omega)))
  have HR5 := Lib.hid hr5
  clear ho5 hr5 HX4 HS4 HB4 HW4 HR4
  have hxp : X ≠ P := by omega
  have hbun : ∀ W' W'' : World, Below w5.heap.size w5 W' → W'.grownBy W'' (some R) → ((W''.cell? ⟨X, 0, none⟩ = some (.slice A3 rs3.length c3) ∧ W''.cell? ⟨X, 1, none⟩ = some (.string p3)) ∧ SB W'' P #[.slice none 0 0, .string ⟨#[]⟩] 25 ∧ W''.ownsRow (R + 1) 77 2 (.slice A3 rs3.length c3) rs3.length (rotV rs3) ∧ Below w.heap.size w W'') := fun W' W'' hb hg => by
    have hw1 := ownsRow_below HW5.out hb
    have hbb := HB5.out.trans (hb.mono HB5.out.size)
    exact ⟨((HX5.out.below hb).grow hg hxr).two_cells, (HS5.out.below hb).grow hg hpn, hw1.kept hg (.inr (by intro e; have := (hw1.lt R e).1; omega)), hbb.trans (below_of_only hg hbb.size (by omega))⟩
  have HBUN := Lib.hid hbun
  have hS5 := HX5.out.two_cells
  have HSS := Lib.hid (fun (W' : World) (hb : Below w5.heap.size w5 W') => (HX5.out.below hb).two_cells)
  have hbr : Below w5.heap.size w5 w5 := Below.refl _ _
  have hbd : Below w5.heap.size w5 w5.drew := (Below.refl _ _).drew
  have HAB := Lib.hid (show ∀ (W' : World), W'.ownsRow (R + 1) 77 2 (.slice A3 rs3.length c3) rs3.length (rotV rs3) → ∀ a, A3 = some a → w.heap.size < a.block from fun W' ho a e => by subst e; have := (ho.lt a.block rfl).1; omega)
  have fin : ∀ (W7 : World) (x7 : Int), -9223372036854775808 ≤ x7 → x7 ≤ 9223372036854775807 → SB W7 P #[.slice none 0 0, .string ⟨#[]⟩] 25 → W7.ownsRow (R + 1) 77 2 (.slice A3 rs3.length c3) rs3.length (rotV rs3) → Below w.heap.size w W7 → DcD w (.returned (.tuple #[.agg #[.slice A3 rs3.length c3, .string p3], .int .i64 x7])) ((W7.setCell ⟨P, 0, none⟩ (.slice A3 rs3.length c3)).setCell ⟨P, 1, none⟩ (.string p3)) := fun W7 x7 hl hu hs ho hb => by
    have hne := own_ne_type ho hs (by decide)
    have hof := own_set (own_set ho hne 0 (.slice A3 rs3.length c3)) hne 1 (.string p3)
    exact ⟨A3, c3, rs3, p3, x7, rfl, own_rd3' hof, own_le3 hof, hl3, hp3, hl, hu, HAB.out W7 ho, (hb.setCell (p := ⟨P, 0, none⟩) hpw (.slice A3 rs3.length c3)).setCell (p := ⟨P, 1, none⟩) hpw (.string p3)⟩
  have FIN := Lib.hid fin
  clear hbun fin
  by_cases h0 : x = 0
  · subst h0
    have hnm : ∀ W' : World, Below w5.heap.size w5 W' → W'.heap[w5.heap.size]? = some (.cells #[.int .i64 (-1), .int .i64 6, .int .i64 9223372036854775807] 3 (0, 0)) → Calls Tryz.prog 24 #[.pointer (some ⟨R, 0, none⟩), .slice (some ⟨w5.heap.size, 0, none⟩) 3 3] W' fun e w'' => ∃ x7 : Int, e = .returned (.int .i64 x7) ∧ (-9223372036854775808 ≤ x7 ∧ x7 ≤ 9223372036854775807) ∧ ((w''.cell? ⟨X, 0, none⟩ = some (.slice A3 rs3.length c3) ∧ w''.cell? ⟨X, 1, none⟩ = some (.string p3)) ∧ SB w'' P #[.slice none 0 0, .string ⟨#[]⟩] 25 ∧ w''.ownsRow (R + 1) 77 2 (.slice A3 rs3.length c3) rs3.length (rotV rs3) ∧ Below w.heap.size w w'') := fun W' hb hh => by
      refine (num_any W' R _ w5.heap.size 3 [-1, 6, 9223372036854775807] (HR5.out.below hb) (by omega) (by decide) (by decide) hh).mono ?_
      rintro e w'' ⟨s, hs, rfl, _, hg⟩
      refine ⟨s, rfl, ?_, HBUN.out W' w'' hb hg⟩
      simp at hs; omega
    have HNM := Lib.hid hnm
    clear hnm
    go_wp2_with fail
    go_region_held3 (fun W' => W'.cell? ⟨X, 0, none⟩ = some (.slice A3 rs3.length c3) ∧ W'.cell? ⟨X, 1, none⟩ = some (.string p3)) (first | with_reducible assumption | with_reducible exact HSS.out _ (by with_reducible assumption) | with_reducible exact HSS.out _ bel_aldY | with_reducible exact HSS.out _ (bel_alY (by with_reducible assumption)) | with_reducible exact keep2Y hxp (by with_reducible assumption) | fail) (first | (go_at_call 24; refine (HNM.out _ (by first | with_reducible assumption | with_reducible exact bel_aldY | with_reducible exact bel_alY (by with_reducible assumption)) (by first | exact heap_alloc_new w5 _ | exact heap_alloc_new w5.drew _)).mono ?_; rintro _ w7 ⟨x7, rfl, hxx, hS7, hs7, ho7, hb7⟩; have HS7 := Lib.hid hs7; have HO7 := Lib.hid ho7; have HB7 := Lib.hid hb7; have HXX := Lib.hid hxx; obtain ⟨⟨y0, y1⟩, f0, f1⟩ := hs7.twoC; clear hs7 ho7 hb7 hxx) | fail)
    all_goals
      have HSF := Lib.hid (HS7.out.two (.slice A3 rs3.length c3) (.string p3))
      go_wp2_with fail
      refine bodyPost_ret (results_st_tmp rfl _ _ P _ #[.slice A3 rs3.length c3, .string p3] _ _ rfl HSF.out Tryz.underlying25 ⟨_, rfl⟩ whlSize) rfl ?_
      exact FIN.out w7 x7 HXX.out.1 HXX.out.2 HS7.out HO7.out HB7.out
  · have b0 : ((x : Int) == 0) = false := by rw [beq_eq_false_iff_ne]; omega
    have hpk : ∀ W' : World, Below w5.heap.size w5 W' → Calls Tryz.prog 22 #[.pointer (some ⟨R, 0, none⟩), .int .i64 6] W' fun e w'' => ∃ x7 : Nat, e = .returned (.int .i64 (x7 : Int)) ∧ (x7 : Int) < 6 ∧ ((w''.cell? ⟨X, 0, none⟩ = some (.slice A3 rs3.length c3) ∧ w''.cell? ⟨X, 1, none⟩ = some (.string p3)) ∧ SB w'' P #[.slice none 0 0, .string ⟨#[]⟩] 25 ∧ w''.ownsRow (R + 1) 77 2 (.slice A3 rs3.length c3) rs3.length (rotV rs3) ∧ Below w.heap.size w w'') := fun W' hb => by
      refine (pick_pos W' R _ 6 (HR5.out.below hb) (by omega) (by omega) (by omega)).mono ?_
      rintro e w'' ⟨x7, rfl, hx7, _, hg⟩
      exact ⟨x7, rfl, hx7, HBUN.out W' w'' hb hg⟩
    have HPK := Lib.hid hpk
    clear h0 hpk
    go_wp2_with fail
    go_region_held3 (fun W' => W'.cell? ⟨X, 0, none⟩ = some (.slice A3 rs3.length c3) ∧ W'.cell? ⟨X, 1, none⟩ = some (.string p3)) (first | with_reducible assumption | with_reducible exact HSS.out _ (by with_reducible assumption) | with_reducible exact keep2Y hxp (by with_reducible assumption) | fail) (first | (go_at_call 22; refine (HPK.out _ (by with_reducible assumption)).mono ?_; rintro _ w7 ⟨x7, rfl, hxx, hS7, hs7, ho7, hb7⟩; have HS7 := Lib.hid hs7; have HO7 := Lib.hid ho7; have HB7 := Lib.hid hb7; have HXX := Lib.hid hxx; obtain ⟨⟨y0, y1⟩, f0, f1⟩ := hs7.twoC; clear hs7 ho7 hb7 hxx) | fail)
    all_goals
      have HSF := Lib.hid (HS7.out.two (.slice A3 rs3.length c3) (.string p3))
      go_wp2_with fail
      refine bodyPost_ret (results_st_tmp rfl _ _ P _ #[.slice A3 rs3.length c3, .string p3] _ _ rfl HSF.out Tryz.underlying25 ⟨_, rfl⟩ whlSize) rfl ?_
      exact FIN.out w7 x7 (by have := HXX.out; omega) (by have := HXX.out; omega) HS7.out HO7.out HB7.out

/-- wheels, pairs and a number were drawn, whatever they are -/
def DkD (w : World) (e : Ending) (w' : World) : Prop :=
  ∃ (A : Option Addr) (cap : Nat) (rs : List (ByteArray × ByteArray)) (p : ByteArray) (x n : Int), e = .returned (.tuple #[.agg #[.slice A rs.length cap, .string p], .int .i64 x, .int .i64 n]) ∧ Rd w' w'.heap.size A (rotV rs) ∧ rs.length ≤ cap ∧ rs.length ≤ 6 ∧ p.size ≤ 20 ∧ -9223372036854775808 ≤ x ∧ x ≤ 9223372036854775807 ∧ -9223372036854775808 ≤ n ∧ n ≤ 9223372036854775807 ∧ Below w.heap.size w w'
theorem Rd.under {w w' : World} {R : Nat} {A : Option Addr} {xs : List Value} (h : Rd w R A xs) (hR : R ≤ w.heap.size) (ho : w.grownBy w' (some R)) : Rd w' R A xs := fun hn => by
  obtain ⟨b, off, e, hb, hc⟩ := h hn
  exact ⟨b, off, e, hb, fun j hj => (World.cell?_of_block (a := ⟨b, off + j, none⟩) (ho.block b (Nat.lt_of_lt_of_le hb hR) (by intro e2; injection e2 with e2; omega))).trans (hc j hj)⟩
theorem sDayCount_some (rs : List (ByteArray × ByteArray)) (p : ByteArray) (x : Int) (hl : rs.length ≤ 100) : ∃ D : Int, -1 ≤ D ∧ D ≤ 28350000000 ∧ ∀ (w : World) (A : Option Addr) (cap : Nat), Rd w w.heap.size A (rotV rs) → rs.length ≤ cap →
    Calls Tryz.prog 23 #[.agg #[.slice A rs.length cap, .string p], .int .i64 x] w fun e w' => e = .returned (.int .i64 D) ∧ Below w.heap.size w w' := by
  by_cases hv : WheelsV rs p ∧ 0 ≤ x ∧ x ≤ 5
  · obtain ⟨h1, h2, h3⟩ := hv
    have h4 := (dayC_le h1.2.1 (show x.toNat ≤ 5 by omega)).2.2.2
    refine ⟨((dayC rs.length x.toNat : Nat) : Int), ?_, ?_, fun w A cap h hc => sDayCount_yes w A cap rs p x.toNat x (by omega) h hc h1 (by omega)⟩
    · generalize dayC rs.length x.toNat = D at h4; omega
    · generalize dayC rs.length x.toNat = D at h4; omega
  · exact ⟨-1, by omega, by omega, fun w A cap h hc => sDayCount_no w A cap rs p x h hc hl hv⟩

set_option maxHeartbeats 8000000 in
set_option maxRecDepth 100000 in
theorem drawDayKey_any (w : World) (A : Option Addr) (cap : Nat) (bs : List UInt8) (h : Rd w w.heap.size A (bytesV bs)) (hc : bs.length ≤ cap) :
    Calls Tryz.prog 5 #[.slice A bs.length cap] w (DkD w) := by
  have hb0 : Below w.heap.size w (w.alloc (.cells #[.slice none 0 0, .string ⟨#[]⟩] 25)) := (Below.refl _ _).alloc (Nat.le_refl _) _
  have hs0 := SB.made w #[.slice none 0 0, .string ⟨#[]⟩] 25
  obtain ⟨w0, hw0⟩ : ∃ w0, w0 = w.alloc (.cells #[.slice none 0 0, .string ⟨#[]⟩] 25) := ⟨_, rfl⟩
  rw [← hw0] at hb0 hs0
  have hdc := drawDayCount_any w0 A cap bs ((h.below hb0).mono hb0.size) hc
  obtain ⟨P, hP⟩ : ∃ P, P = w.heap.size := ⟨_, rfl⟩
  have hpw : w.heap.size ≤ P := by omega
  rw [← hP] at hs0
  have HDC := Lib.hid hdc; have HB0 := Lib.hid hb0; have HS0 := Lib.hid hs0; have HC0 := Lib.hid ((h.below hb0).mono hb0.size)
  clear hdc hb0 hs0 h
  go_enter Tryz.func5, Tryz.ntmps5
  go_wp2_with fail
  rw [← hw0, ← hP]
  clear hw0 hP
  refine HDC.out.mono ?_
  rintro _ w1 ⟨A1, c1, rs, p, x, rfl, hrd, hcl, hl6, hp20, hx1, hx2, hA1, hb1⟩
  obtain ⟨w2, hw2⟩ : ∃ w2, w2 = w1.alloc (.cells #[.slice A1 rs.length c1, .string p] 25) := ⟨_, rfl⟩
  obtain ⟨X, hX⟩ : ∃ X, X = w1.heap.size := ⟨_, rfl⟩
  have hxs : SB w2 X #[.slice A1 rs.length c1, .string p] 25 := by rw [hw2, hX]; exact SB.made w1 _ _
  have hal : Below w1.heap.size w1 w2 := by rw [hw2]; exact (Below.refl _ _).alloc (Nat.le_refl _) _
  have hP0 := HS0.out.lt
  have HAP := Lib.hid (show ∀ a, A1 = some a → a.block ≠ P from fun a e => by have := hA1 a e; omega)
  have hpx : P < X := by rw [hX]; have := hb1.size; omega
  have HX2 := Lib.hid hxs; have HS2 := Lib.hid ((HS0.out.below hb1).below hal); have HB2 := Lib.hid ((HB0.out.trans (hb1.mono HB0.out.size)).trans (hal.mono (HB0.out.trans (hb1.mono HB0.out.size)).size)); have HR2 := Lib.hid ((hrd.below hal).mono hal.size)
  have HC2 := Lib.hid ((HC0.out.below (hb1.trans (hal.mono hb1.size))).mono (hb1.trans (hal.mono hb1.size)).size)
  clear hrd hA1 hb1 hxs hal HDC HB0 HS0 HC0 hP0
  go_wp2_with fail
  rw [← hw2, ← hX]
  clear hw2 hX
  refine (l21Open_any w2 A cap bs HC2.out hc).mono ?_
  rintro _ w3 ⟨rfl, hr3, hb3, hz3⟩
  obtain ⟨R, hR⟩ : ∃ R, R = w2.heap.size := ⟨_, rfl⟩
  rw [← hR] at hr3 hz3 ⊢
  have hxr : X < R := by rw [hR]; exact HX2.out.lt
  have HX3 := Lib.hid (HX2.out.below hb3); have HS3 := Lib.hid (HS2.out.below hb3); have HB3 := Lib.hid (HB2.out.trans (hb3.mono HB2.out.size)); have HD3 := Lib.hid (show Rd w3 R A1 (rotV rs) by rw [hR]; exact HR2.out.below hb3)
  have hwr : w.heap.size ≤ R := by omega
  have hn1 : X ≠ R := by omega
  have hn2 : P ≠ R := by omega
  clear hb3 HX2 HS2 HB2 HR2 HC2 hR
  have carry : ∀ (a b : World), R ≤ a.heap.size → a.grownBy b (some R) → SB a X #[.slice A1 rs.length c1, .string p] 25 ∧ SB a P #[.slice none 0 0, .string ⟨#[]⟩] 25 ∧ Below w.heap.size w a ∧ Rd a R A1 (rotV rs) → SB b X #[.slice A1 rs.length c1, .string p] 25 ∧ SB b P #[.slice none 0 0, .string ⟨#[]⟩] 25 ∧ Below w.heap.size w b ∧ Rd b R A1 (rotV rs) := fun a b hR hg hh =>
    ⟨hh.1.grow hg hn1, hh.2.1.grow hg hn2, hh.2.2.1.trans (below_of_only hg hh.2.2.1.size hwr), hh.2.2.2.under hR hg⟩
  have CARRY := Lib.hid carry
  have H3 := Lib.hid (And.intro HX3.out (And.intro HS3.out (And.intro HB3.out HD3.out)))
  clear carry HX3 HS3 HB3 HD3
  go_wp2_with fail
  refine (pick_pos _ R _ _ hr3 (by omega) (by omega) (by omega)).mono ?_
  rintro _ w4 ⟨y1, rfl, hy1, hr4, ho4⟩
  have H4 := Lib.hid (CARRY.out w3 w4 (Nat.le_of_lt hr3.lt) ho4 H3.out)
  clear ho4 H3 hr3
  go_wp2_with fail
  refine (pick_pos _ R _ _ hr4 (by omega) (by omega) (by omega)).mono ?_
  rintro _ w5 ⟨y2, rfl, hy2, hr5, ho5⟩
  have H5 := Lib.hid (CARRY.out w4 w5 (Nat.le_of_lt hr4.lt) ho5 H4.out)
  clear ho5 H4 hr4
  go_wp2_with fail
  refine (pick_pos _ R _ _ hr5 (by omega) (by omega) (by omega)).mono ?_
  rintro _ w6 ⟨y3, rfl, hy3, hr6, ho6⟩
  have H6 := Lib.hid (CARRY.out w5 w6 (Nat.le_of_lt hr5.lt) ho6 H5.out)
  clear ho6 H5 hr5
  go_wp2_with fail
  refine (pick_pos _ R _ _ hr6 (by omega) (by omega) (by omega)).mono ?_
  rintro _ w7 ⟨y4, rfl, hy4, hr7, ho7⟩
  have H7 := Lib.hid (CARRY.out w6 w7 (Nat.le_of_lt hr6.lt) ho7 H6.out)
  clear ho7 H6 hr6
  obtain ⟨x0, x1⟩ := H7.out.1.two_cells
  go_wp2_with fail
  obtain ⟨N0, hN0⟩ : ∃ N0 : Int, N0 = (((y1 : Int) * 256 + (y2 : Int)) * 256 + (y3 : Int)) * 256 + (y4 : Int) := ⟨_, rfl⟩
  have hn0 : 0 ≤ N0 := by omega
  have hn9 : N0 ≤ 5000000000 := by omega
  rw [← hN0]
  clear hN0 hy1 hy2 hy3 hy4
  obtain ⟨D, d1, d2, hD⟩ := sDayCount_some rs p x (by omega)
  refine (hD w7 A1 c1 (H7.out.2.2.2.mono (Nat.le_of_lt hr7.lt)) hcl).mono ?_
  rintro _ w8 ⟨rfl, hb8⟩
  have H8 := Lib.hid (show SB w8 X #[.slice A1 rs.length c1, .string p] 25 ∧ SB w8 P #[.slice none 0 0, .string ⟨#[]⟩] 25 ∧ Below w.heap.size w w8 ∧ Rd w8 R A1 (rotV rs) from ⟨H7.out.1.below hb8, H7.out.2.1.below hb8, H7.out.2.2.1.trans (hb8.mono H7.out.2.2.1.size), H7.out.2.2.2.below (hb8.mono (Nat.le_of_lt hr7.lt))⟩)
  have hr8 := hr7.below hb8
  clear hb8 H7 hr7 hD x0 x1
  have hpk := pick_pos w8 R _ 10 hr8 (by omega) (by omega) (by omega)
  have HPK := Lib.hid hpk
  have fin : ∀ (W7 : World) (n : Int), -9223372036854775808 ≤ n → n ≤ 9223372036854775807 → SB W7 P #[.slice none 0 0, .string ⟨#[]⟩] 25 → R ≤ W7.heap.size → Rd W7 R A1 (rotV rs) → Below w.heap.size w W7 → DkD w (.returned (.tuple #[.agg #[.slice A1 rs.length c1, .string p], .int .i64 x, .int .i64 n])) ((W7.setCell ⟨P, 0, none⟩ (.slice A1 rs.length c1)).setCell ⟨P, 1, none⟩ (.string p)) := fun W7 n hl hu hs hR ho hb => by
    have hrf := ((ho.mono hR).far HAP.out 0 (.slice A1 rs.length c1)).far HAP.out 1 (.string p)
    exact ⟨A1, c1, rs, p, x, n, rfl, hrf.mono (by simp [World.setCell]), hcl, hl6, hp20, hx1, hx2, hl, hu, (hb.setCell (p := ⟨P, 0, none⟩) hpw (.slice A1 rs.length c1)).setCell (p := ⟨P, 1, none⟩) hpw (.string p)⟩
  have FIN := Lib.hid fin
  have hnm : ∀ W' : World, Below w8.heap.size w8 W' → True := fun _ _ => trivial
  have key : ∀ (W9 : World) (z : Nat), Rdr W9 R (0 + 1 + 1 + 1 + 1 + 1) → SB W9 X #[.slice A1 rs.length c1, .string p] 25 ∧ SB W9 P #[.slice none 0 0, .string ⟨#[]⟩] 25 ∧ Below w.heap.size w W9 ∧ Rd W9 R A1 (rotV rs) → ∀ b : Nat, W9.heap.size = b → Calls Tryz.prog 24 #[.pointer (some ⟨R, 0, none⟩), .slice (some ⟨b, 0, none⟩) 4 4] (W9.alloc (.cells #[.int .i64 0, .int .i64 (D - 1), .int .i64 D, .int .i64 (-1)] 3)) fun e w'' => ∃ n : Int, e = .returned (.int .i64 n) ∧ (-9223372036854775808 ≤ n ∧ n ≤ 9223372036854775807) ∧ R ≤ w''.heap.size ∧ SB w'' X #[.slice A1 rs.length c1, .string p] 25 ∧ SB w'' P #[.slice none 0 0, .string ⟨#[]⟩] 25 ∧ Below w.heap.size w w'' ∧ Rd w'' R A1 (rotV rs) := fun W9 z hr hh b hb => by
    subst hb
    have hal : Below W9.heap.size W9 (W9.alloc (.cells #[.int .i64 0, .int .i64 (D - 1), .int .i64 D, .int .i64 (-1)] 3)) := (Below.refl _ _).alloc (Nat.le_refl _) _
    refine (num_any _ R _ W9.heap.size 4 [0, D - 1, D, -1] (hr.below hal) (by omega) (by simp) (by simp) (heap_alloc_new W9 _)).mono ?_
    rintro e w'' ⟨s, hs, rfl, hr', hg⟩
    have hRl : R ≤ W9.heap.size := Nat.le_of_lt hr.lt
    refine ⟨s, rfl, ?_, Nat.le_of_lt hr'.lt, CARRY.out _ w'' (Nat.le_trans hRl hal.size) hg ⟨hh.1.below hal, hh.2.1.below hal, hh.2.2.1.trans (hal.mono hh.2.2.1.size), hh.2.2.2.below (hal.mono hRl)⟩⟩
    simp at hs; omega
  have KEY := Lib.hid key
  clear fin hnm hpk key
  obtain ⟨N1, hN1⟩ : ∃ N1, N1 = N0 % D := ⟨_, rfl⟩
  have hq1 : N0 % D = N1 := hN1.symm
  have hq2 : N0.tmod D = N1 := by rw [Int.tmod_eq_emod_of_nonneg hn0]; exact hq1
  by_cases hpos : 0 < D
  · have hb1 : 0 ≤ N1 := by rw [hN1]; exact Int.emod_nonneg _ (by omega)
    have hb2 : N1 < D := by rw [hN1]; exact Int.emod_lt_of_pos _ hpos
    have e0 : (D == 0) = false := by rw [beq_eq_false_iff_ne]; omega
    have hgt : D > 0 := hpos
    clear hN1
    go_wp2_with fail
    refine HPK.out.mono ?_
    rintro _ w9 ⟨z, rfl, hz, hr9, ho9⟩
    have H9 := Lib.hid (CARRY.out w8 w9 (Nat.le_of_lt hr8.lt) ho9 H8.out)
    clear ho9
    obtain ⟨x0, x1⟩ := H9.out.1.two_cells
    obtain ⟨⟨y0, y1⟩, f0, f1⟩ := H9.out.2.1.twoC
    by_cases h0 : z = 0
    · subst h0
      have HK := Lib.hid (KEY.out w9 0 hr9 H9.out)
      go_wp2_with fail
      refine (HK.out _ rfl).mono ?_
      rintro _ w10 ⟨n, rfl, hn, hR10, h10⟩
      have H10 := Lib.hid h10; have HN := Lib.hid hn
      clear h10 hn x0 x1 y0 y1 f0 f1
      obtain ⟨x0, x1⟩ := H10.out.1.two_cells
      obtain ⟨⟨y0, y1⟩, f0, f1⟩ := H10.out.2.1.twoC
      have HSF := Lib.hid (H10.out.2.1.two (.slice A1 rs.length c1) (.string p))
      go_wp2_with fail
      refine bodyPost_ret (results_st_tmp2 rfl _ _ P _ #[.slice A1 rs.length c1, .string p] _ _ rfl HSF.out Tryz.underlying25 ⟨_, rfl⟩ whlSize) rfl ?_
      exact FIN.out w10 n HN.out.1 HN.out.2 H10.out.2.1 hR10 H10.out.2.2.2 H10.out.2.2.1
    · have b0 : ((z : Int) == 0) = false := by rw [beq_eq_false_iff_ne]; omega
      clear h0
      have HSF := Lib.hid (H9.out.2.1.two (.slice A1 rs.length c1) (.string p))
      go_wp2_with fail
      refine bodyPost_ret (results_st_tmp2 rfl _ _ P _ #[.slice A1 rs.length c1, .string p] _ _ rfl HSF.out Tryz.underlying25 ⟨_, rfl⟩ whlSize) rfl ?_
      exact FIN.out w9 N1 (by omega) (by omega) H9.out.2.1 (Nat.le_of_lt hr9.lt) H9.out.2.2.2 H9.out.2.2.1
  · have hle : ¬ D > 0 := hpos
    clear hN1 hq1 hq2
    go_wp2_with fail
    refine HPK.out.mono ?_
    rintro _ w9 ⟨z, rfl, hz, hr9, ho9⟩
    have H9 := Lib.hid (CARRY.out w8 w9 (Nat.le_of_lt hr8.lt) ho9 H8.out)
    clear ho9
    obtain ⟨x0, x1⟩ := H9.out.1.two_cells
    obtain ⟨⟨y0, y1⟩, f0, f1⟩ := H9.out.2.1.twoC
    by_cases h0 : z = 0
    · subst h0
      have HK := Lib.hid (KEY.out w9 0 hr9 H9.out)
      go_wp2_with fail
      refine (HK.out _ rfl).mono ?_
      rintro _ w10 ⟨n, rfl, hn, hR10, h10⟩
      have H10 := Lib.hid h10; have HN := Lib.hid hn
      clear h10 hn x0 x1 y0 y1 f0 f1
      obtain ⟨x0, x1⟩ := H10.out.1.two_cells
      obtain ⟨⟨y0, y1⟩, f0, f1⟩ := H10.out.2.1.twoC
      have HSF := Lib.hid (H10.out.2.1.two (.slice A1 rs.length c1) (.string p))
      go_wp2_with fail
      refine bodyPost_ret (results_st_tmp2 rfl _ _ P _ #[.slice A1 rs.length c1, .string p] _ _ rfl HSF.out Tryz.underlying25 ⟨_, rfl⟩ whlSize) rfl ?_
      exact FIN.out w10 n HN.out.1 HN.out.2 H10.out.2.1 hR10 H10.out.2.2.2 H10.out.2.2.1
    · have b0 : ((z : Int) == 0) = false := by rw [beq_eq_false_iff_ne]; omega
      clear h0
      have HSF := Lib.hid (H9.out.2.1.two (.slice A1 rs.length c1) (.string p))
      go_wp2_with fail
      refine bodyPost_ret (results_st_tmp2 rfl _ _ P _ #[.slice A1 rs.length c1, .string p] _ _ rfl HSF.out Tryz.underlying25 ⟨_, rfl⟩ whlSize) rfl ?_
      exact FIN.out w9 N0 (by omega) (by omega) H9.out.2.1 (Nat.le_of_lt hr9.lt) H9.out.2.2.2 H9.out.2.2.1

end Go.Proofs.YtipcodebmemkpaaGreatDoor
