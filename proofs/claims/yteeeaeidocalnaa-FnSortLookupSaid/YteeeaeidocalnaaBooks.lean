/-
  The contract of rcBooks: two equal books. No conditions but those that each theorem names.
-/
import Derived.Test.YteeeaeidocalnaaHolds
namespace Go.Proofs.Yteeeaeidocalnaa
open Go.RowKit Pl
set_option linter.unusedVariables false


























end Go.Proofs.Yteeeaeidocalnaa
