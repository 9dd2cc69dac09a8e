/-
  Contracts of functions and plain laws that the law's proof uses (parts: RunTw). Conditions: what each theorem names.
-/
import Derived.Test.YtnbdimbhklbadaaGreatDoorQRunL
import Derived.Test.YtnbdimbhklbadaaGreatDoorQBsA
import Derived.Test.YtnbdimbhklbadaaGreatDoorQStepA
import Derived.Test.YtnbdimbhklbadaaGreatDoorQScriptS
import Derived.Test.YtnbdimbhklbadaaGreatDoorQMnA
namespace Go.Proofs.YtnbdimbhklbadaaGreatDoor
open Go.RowKit Pl
set_option linter.unusedVariables false
abbrev Dk.at (d : Dk) (u : ByteArray) : Dk := ⟨d.rs, d.rf, d.ri, d.pl, u, d.bk⟩
end Go.Proofs.YtnbdimbhklbadaaGreatDoor
