/-
  Contracts of the laws' own helpers on slices of strings: their sizes, copies and comparisons. No conditions but those that each theorem names.
-/
import Derived.Test.YtipcodebmemkpaaGreatDoorOwn
import Derived.OwnWalk
import Derived.BigQuiet
import Derived.StillTailTactics
import Derived.BigRegion
import Derived.Deep.RegionHeld3
namespace Go.Proofs.YtipcodebmemkpaaGreatDoor
open Go.RowKit Pl
set_option linter.unusedVariables false

theorem Tryz.infoS : (Tryz.prog.info? 9).map (fun i => (i.zero, i.size, i.bytes)) = some (some (.string ByteArray.empty), 1, 16) := by kernel_rfl
theorem Tryz.undS : Tryz.prog.underlying 42 = some (.slice 9) := by kernel_rfl

set_option maxHeartbeats 4000000 in
/-- two slices of the same strings are equal -/
theorem rcTexts_same (w : World) (A1 A2 : Option Addr) (c1 c2 : Nat) (l : List ByteArray) (h1 : Rd w w.heap.size A1 (strV l)) (h2 : Rd w w.heap.size A2 (strV l)) (hl : l.length ≤ 1048576) (k1 : l.length ≤ c1) (k2 : l.length ≤ c2) :
    Calls Tryz.prog 16 #[.slice A1 l.length c1, .slice A2 l.length c2] w fun e w' => e = .returned (.bool true) ∧ Below w.heap.size w w' := by
  have R1 := Lib.hid h1; have R2 := Lib.hid h2; clear h1 h2
  go_enter Tryz.func16, Tryz.ntmps16
  go_wp2_with fail
  go_loopw [5] (fun i wr => ∃ k : Nat, k ≤ l.length ∧ i = .int .i64 k ∧ Below w.heap.size w wr) (fun i _ => l.length - (intOf i).toNat)
  case atStart => exact ⟨0, Nat.zero_le _, rfl, Below.refl _ _⟩
  case round =>
    obtain ⟨k, hk, rfl, hbl⟩ := hrel
    have HBL := Lib.hid hbl; clear hbl
    by_cases hlt : k < l.length
    · obtain ⟨b1, o1, rfl, _, hx1⟩ := (R1.out.below HBL.out).str hlt
      obtain ⟨b2, o2, rfl, _, hx2⟩ := (R2.out.below HBL.out).str hlt
      go_wp2_with fail
      go_quiet (fail)
      go_wp2_with fail
      go_roundw
      case rel => exact ⟨k + 1, by omega, by go_num, below_drewN' HBL.out _⟩
      case measure => simp [intOf]; omega
    · go_wp2_with fail
      go_ret
      exact ⟨rfl, HBL.out⟩





































































theorem strV_of {xs : List Value} {l : List ByteArray} (hl : xs.length = l.length) (h : ∀ j (hj : j < l.length), xs[j]? = some (.string l[j])) : xs = strV l := by
  apply List.ext_getElem?
  intro i
  by_cases hi : i < l.length
  · rw [h i hi]; simp [strV, hi]
  · rw [List.getElem?_eq_none (by omega), List.getElem?_eq_none (by rw [length_strV]; omega)]















































end Go.Proofs.YtipcodebmemkpaaGreatDoor
