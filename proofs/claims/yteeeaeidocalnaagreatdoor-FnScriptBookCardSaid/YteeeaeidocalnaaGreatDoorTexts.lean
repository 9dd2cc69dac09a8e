/-
  Contracts of the laws' own helpers on slices of strings: their sizes, copies and comparisons. No conditions but those that each theorem names.
-/
import Derived.Test.YteeeaeidocalnaaGreatDoorOwn
import Derived.OwnWalk
import Derived.BigQuiet
import Derived.StillTailTactics
import Derived.BigRegion
import Derived.Deep.RegionHeld3
namespace Go.Proofs.YteeeaeidocalnaaGreatDoor
open Go.RowKit Pl
set_option linter.unusedVariables false

theorem Tryz.infoS : (Tryz.prog.info? 9).map (fun i => (i.zero, i.size, i.bytes)) = some (some (.string ByteArray.empty), 1, 16) := by kernel_rfl
theorem Tryz.undS : Tryz.prog.underlying 30 = some (.slice 9) := by kernel_rfl

theorem Rd.str {w : World} {B : Nat} {A : Option Addr} {l : List ByteArray} (h : Rd w B A (strV l)) {k : Nat} (hk : k < l.length) :
    ∃ b off, A = some ⟨b, off, none⟩ ∧ b < B ∧ w.cell? ⟨b, off + k, none⟩ = some (.string l[k]) := by
  have hn : strV l ≠ [] := by intro e; have := congrArg List.length e; rw [length_strV, List.length_nil] at this; omega
  obtain ⟨b, off, e, hb, hcell⟩ := h hn
  exact ⟨b, off, e, hb, by rw [hcell k (by rw [length_strV]; exact hk)]; simp [strV]⟩






































































theorem strV_of {xs : List Value} {l : List ByteArray} (hl : xs.length = l.length) (h : ∀ j (hj : j < l.length), xs[j]? = some (.string l[j])) : xs = strV l := by
  apply List.ext_getElem?
  intro i
  by_cases hi : i < l.length
  · rw [h i hi]; simp [strV, hi]
  · rw [List.getElem?_eq_none (by omega), List.getElem?_eq_none (by rw [length_strV]; omega)]















































end Go.Proofs.YteeeaeidocalnaaGreatDoor
