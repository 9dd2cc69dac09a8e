/-
  Contract of DrawTranspose: whatever the bytes are, two strings that are not long. No conditions but those that each theorem names.
-/
import Derived.Test.YtipcodebmemkpaaGreatDoorDraw
namespace Go.Proofs.YtipcodebmemkpaaGreatDoor
open Go.RowKit Pl
set_option linter.unusedVariables false

theorem l1Some_at (w : World) (R N n : Nat) (m : Int) (hm : m = (n : Int)) (h : Rdr w R N) (hN : N + n ≤ 1000000000) (hn : n ≤ 1000000) :
    Calls Tryz.prog 161 #[.pointer (some ⟨R, 0, none⟩), .int .i64 m] w fun e w' => ∃ l : List UInt8, e = .returned (.string (mk l)) ∧ l.length = n ∧ l.all isL = true ∧ Rdr w' R (N + n) ∧ w.grownBy w' (some R) := by
  subst hm; exact l1Some_any w R N n h hN hn







































































end Go.Proofs.YtipcodebmemkpaaGreatDoor
