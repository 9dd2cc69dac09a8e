/-
  The walk of the law FnExactSheetPart: it returns true for every sheet, start and number; nothing in memory is changed. No conditions.
-/
import Derived.Test.YtejonhobahnhdaaWords
namespace Go.Proofs.Ytejonhobahnhdaa
open Go.RowKit Pl
set_option linter.unusedVariables false

set_option maxHeartbeats 400000 in
theorem fnExactSheetPart_walk (w : World) (a0 : ByteArray) (w0 : a0.size ≤ maxLen) (a1 : Int) (hb : -9223372036854775808 ≤ a1 ∧ a1 ≤ 9223372036854775807) (a2 : Int) (hb2 : -9223372036854775808 ≤ a2 ∧ a2 ≤ 9223372036854775807) :
    Calls Try.prog 3 #[.string a0, .int .i64 a1, .int .i64 a2] w fun e w' => e = .returned (.bool true) ∧ Below w.heap.size w w' := by
  by_cases hs : a0.size > 1048576
  · go_enter Try.func3, Try.ntmps3
    go_wp2_with fail
    go_ret
    exact ⟨rfl, Below.refl _ _⟩
  · cases h : sheetPart (tl a0) a1 a2 with
    | some r =>
      have H := Lib.hid h; clear h
      go_enter Try.func3, Try.ntmps3
      go_wp2_with (first | (go_at_call 32; refine (sSheetPart_some _ _ _ r _ H.out).mono ?_; rintro e w' ⟨rfl, rfl⟩) | (go_at_call 33; refine (sheetPart_some _ _ _ r _ H.out).mono ?_; rintro e w' ⟨rfl, rfl⟩))
      go_ret
      exact ⟨rfl, Below.refl _ _⟩
    | none =>
      have H := Lib.hid h; clear h
      go_enter Try.func3, Try.ntmps3
      go_wp2_with (first | (go_at_call 32; refine (sSheetPart_none _ _ _ _ hb H.out).mono ?_; rintro e w' ⟨rfl, rfl⟩) | (go_at_call 33; refine (sheetPart_none _ _ _ _ hb H.out).mono ?_; rintro e w' ⟨rfl, rfl⟩))
      go_ret
      exact ⟨rfl, Below.refl _ _⟩

end Go.Proofs.Ytejonhobahnhdaa
