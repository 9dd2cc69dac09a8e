/-
  Contracts of functions and plain laws that the law's proof uses (parts: Head). Conditions: what each theorem names.
-/
import Derived.JoinedOf
import Derived.KernelRfl
import Derived.Test.YtnbdimbhklbadaaGreatDoorRows
namespace Go.Proofs.YtnbdimbhklbadaaGreatDoor
open Go
theorem l1 : Tryz.prog.laysLater = false := by kernel_rfl
theorem l2 : Tryz.prog.bearsReflect = false := by kernel_rfl
theorem l3 : Tryz.prog.doorFits [] = true := by kernel_rfl
theorem head_laid : laidOutB Tryz.prog = true := by kernel_rfl
theorem head_maps : mapsRowed Tryz.prog = true := by kernel_rfl
theorem head_heard : Tryz.prog.stopsHeard = true := by kernel_rfl
end Go.Proofs.YtnbdimbhklbadaaGreatDoor
