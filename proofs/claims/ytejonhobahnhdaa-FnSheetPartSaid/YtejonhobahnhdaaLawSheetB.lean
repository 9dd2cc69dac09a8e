/-
  The walk of the law FnSheetPart: it returns true whatever the bytes are; nothing that was there is changed. No conditions.
-/
import Derived.Test.YtejonhobahnhdaaDrawSheet
namespace Go.Proofs.Ytejonhobahnhdaa
open Go.RowKit Pl
set_option linter.unusedVariables false

set_option maxHeartbeats 2000000 in
theorem fnSheetPart_walk (w : World) (A : Option Addr) (cap : Nat) (bs : List UInt8) (h : Rd w w.heap.size A (bytesV bs)) (hc : bs.length ≤ cap) :
    Calls Try.prog 4 #[.slice A bs.length cap] w fun e w' => e = .returned (.bool true) ∧ Below w.heap.size w w' := by
  by_cases hlen : 1048576 < bs.length
  · go_enter Try.func4, Try.ntmps4
    go_wp2_with fail
    go_ret
    exact ⟨rfl, Below.refl _ _⟩
  · go_enter Try.func4, Try.ntmps4
    go_wp2_with fail
    refine (drawSheetPart_any w A cap bs h hc).mono ?_
    rintro e w1 ⟨s, st, n, rfl, hs, hst, hn, hb⟩
    have HB := Lib.hid hb; clear hb h
    cases hp : sheetPart (tl s) st n with
    | some r =>
      have HP := Lib.hid hp; clear hp
      obtain ⟨h1, h2, h3, h4, h5, h6⟩ := sheetPart_some_iff HP.out
      have HW := Lib.hid h1; clear h1
      have H6 := Lib.hid h6; clear h6
      rw [length_tl] at h4 h5
      go_wp2_with fail
      refine (sheetPart_some _ _ _ r _ HP.out).mono ?_
      rintro e w2 ⟨rfl, rfl⟩
      go_wp2_with fail
      refine (sSheetPart_some _ _ _ r _ HP.out).mono ?_
      rintro e w2 ⟨rfl, rfl⟩
      go_wp2_with fail
      refine (wordValid_is _ true _ HW.out).mono ?_
      rintro e w2 ⟨rfl, rfl⟩
      go_wp2_with fail
      obtain ⟨r1, hq1, e1⟩ : ∃ r1, sheetPart (tl s) (st + n) ((s.size : Int) - st - n) = some r1 ∧ r1 = ((tl s).drop (st.toNat + n.toNat)).take ((tl s).length - st.toNat - n.toNat) :=
        ⟨_, sheetPart_ok ⟨HW.out, by omega, by omega, by rw [length_tl]; omega, by rw [length_tl]; omega⟩, by
          rw [length_tl]; congr 1
          · omega
          · congr 1; omega⟩
      have HQ1 := Lib.hid hq1; clear hq1
      have E1 := Lib.hid e1; clear e1
      refine (sheetPart_some _ _ _ r1 _ HQ1.out).mono ?_
      rintro e w2 ⟨rfl, rfl⟩
      go_wp2_with fail
      obtain ⟨r2, hq2, e2⟩ : ∃ r2, sheetPart (tl s) 0 st = some r2 ∧ r2 = (tl s).take st.toNat :=
        ⟨_, sheetPart_ok ⟨HW.out, by omega, by omega, by rw [length_tl]; omega, by rw [length_tl]; omega⟩, by simp⟩
      have HQ2 := Lib.hid hq2; clear hq2
      have E2 := Lib.hid e2; clear e2
      refine (sheetPart_some _ _ _ r2 _ HQ2.out).mono ?_
      rintro e w2 ⟨rfl, rfl⟩
      have z1 : (mk r1).size ≤ 1000 := by rw [size_mk, E1.out]; simp [length_tl]; omega
      have z2 : (mk r2).size ≤ 1000 := by rw [size_mk, E2.out]; simp [length_tl]; omega
      have z0 : (mk r).size ≤ 1000 := by rw [size_mk, H6.out]; simp [length_tl]; omega
      have zn : (((mk r).size : Int) == n) = true := by
        rw [size_mk, H6.out, beq_iff_eq]
        simp only [List.length_take, List.length_drop, length_tl]; omega
      have heq : ((mk r2 ++ mk r ++ mk r1).toList == s.toList) = true := by
        rw [mk_append, mk_append, toList_tl, toList_tl, tl_mk, E1.out, E2.out, H6.out, beq_iff_eq]
        exact sheet_three _ _ _ (by rw [length_tl]; omega)
      go_wp2_with fail
      go_ret
      exact ⟨rfl, HB.out⟩
    | none =>
      have HP := Lib.hid hp; clear hp
      have hx := sheetPart_none_iff HP.out
      have HX := Lib.hid hx; clear hx
      go_wp2_with fail
      refine (sheetPart_none _ _ _ _ hst HP.out).mono ?_
      rintro e w2 ⟨rfl, rfl⟩
      go_wp2_with fail
      refine (sSheetPart_none _ _ _ _ hst HP.out).mono ?_
      rintro e w2 ⟨rfl, rfl⟩
      go_wp2_with fail
      by_cases h1 : wv (tl s) = true
      · refine (wordValid_is _ true _ h1).mono ?_
        rintro e w2 ⟨rfl, rfl⟩
        have hx : st < 0 ∨ (0 ≤ st ∧ (s.size : Int) < st) ∨ (0 ≤ st ∧ st ≤ s.size ∧ n < 0) ∨ (0 ≤ st ∧ st ≤ s.size ∧ 0 ≤ n ∧ (s.size : Int) < n) ∨ (0 ≤ st ∧ st ≤ s.size ∧ 0 ≤ n ∧ n ≤ s.size ∧ (s.size : Int) < st + n) := by
          have := HX.out
          simp only [h1, true_and, length_tl] at this; omega
        clear h1
        rcases hx with h2 | ⟨h2, h3⟩ | ⟨h2, h3, h4⟩ | ⟨h2, h3, h4, h5⟩ | ⟨h2, h3, h4, h5, h6⟩
        all_goals
          go_wp2_with fail
          go_ret
          refine ⟨?_, HB.out⟩
          first | rfl | (simp; omega)
      · refine (wordValid_is _ false _ (by simpa using h1)).mono ?_
        rintro e w2 ⟨rfl, rfl⟩
        clear h1
        go_wp2_with fail
        go_ret
        exact ⟨rfl, HB.out⟩

end Go.Proofs.Ytejonhobahnhdaa
