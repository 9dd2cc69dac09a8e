/-
  Contracts of the laws' own helpers on slices of strings: their sizes, copies and comparisons. No conditions but those that each theorem names.
-/
import Derived.Test.YtflaoicjgigcaaaGreatDoorOwn
import Derived.OwnWalk
import Derived.BigQuiet
import Derived.StillTailTactics
import Derived.BigRegion
import Derived.Deep.RegionHeld3
namespace Go.Proofs.YtflaoicjgigcaaaGreatDoor
open Go.RowKit Pl
set_option linter.unusedVariables false

theorem Tryz.infoS : (Tryz.prog.info? 9).map (fun i => (i.zero, i.size, i.bytes)) = some (some (.string ByteArray.empty), 1, 16) := by kernel_rfl
theorem Tryz.undS : Tryz.prog.underlying 54 = some (.slice 9) := by kernel_rfl






































































theorem strV_of {xs : List Value} {l : List ByteArray} (hl : xs.length = l.length) (h : ∀ j (hj : j < l.length), xs[j]? = some (.string l[j])) : xs = strV l := by
  apply List.ext_getElem?
  intro i
  by_cases hi : i < l.length
  · rw [h i hi]; simp [strV, hi]
  · rw [List.getElem?_eq_none (by omega), List.getElem?_eq_none (by rw [length_strV]; omega)]















































end Go.Proofs.YtflaoicjgigcaaaGreatDoor
