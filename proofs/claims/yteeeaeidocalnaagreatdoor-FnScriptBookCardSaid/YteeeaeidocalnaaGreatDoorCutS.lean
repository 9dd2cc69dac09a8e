/-
  Contracts of the reference's l21Cut and l21Find. No conditions but those that each theorem names.
-/
import Derived.Test.YteeeaeidocalnaaGreatDoorPlainC2
import Derived.Test.YteeeaeidocalnaaGreatDoorTexts
namespace Go.Proofs.YteeeaeidocalnaaGreatDoor
open Go.RowKit Pl
set_option linter.unusedVariables false








































/-- the pieces as strings -/
def mkl (l : List (List UInt8)) : List ByteArray := l.map mk
theorem length_mkl (l : List (List UInt8)) : (mkl l).length = l.length := by simp [mkl]
theorem mkl_snoc (l : List (List UInt8)) (p : List UInt8) : strV (mkl l) ++ [Value.string (mk p)] = strV (mkl (l ++ [p])) := by simp [mkl, strV]


















































































end Go.Proofs.YteeeaeidocalnaaGreatDoor
