/-
  DERIVED. GIVEN WITH THE SEED: THE CARDS: each row of YtlnppdpbhoapfaaDoorRows.lean that lists a variable, with what it lists TIED to the program's text (the seventh form; the later family's looks); each row that meets fmt, with fmt's text TOLD by the authors' own Lean function (tested against real Go, not proved from fmt's source: count such statements apart). THE CARD IS WHAT COUNTS. Prove the row's statement (the work); the ties are given (YtlnppdpbhoapfaaDoorTie.lean); close each card by the builder's one call (the guide's Derived/Test/ToyasCard.lean, 'card_holds'). Laid BY PROGRAM, IN A SANDBOX (cutbox-door.mjs). By AI agents, Wed Nov 11 2026. No macro, syntax, notation, axiom, sorry.
-/
import Derived.Test.YtlnppdpbhoapfaaDoorRows
import GoSem.ClaimSeven
namespace Go.Proofs.YtlnppdpbhoapfaaDoor
namespace Rows

/-- THE TIED CARD OF 'laws.FnExactParseBook'. -/
def fnExactParseBookCard : Claim7 := { stood := { row := fnExactParseBookRow, standIns := [], harness := (true, "346cd121949596d6af918b07c23e9c5079e078644ce7a138cde0f2e75d4d64eb"), looks := false }, kinds := [], alts := [], laidByText := true, laidKinds := [.data, .pinned], laidTests := true, laidLooks := .later }
def FnExactParseBookCardSaid : Prop := Claim7.holds Tryd.pinned (.plain (OpenSpec.ofChange fnExactParseBookSpec)) fnExactParseBookCard

/-- THE TIED CARD OF 'laws.FnBookText'. -/
def fnBookTextCard : Claim7 := { stood := { row := fnBookTextRow, standIns := [], harness := (true, "346cd121949596d6af918b07c23e9c5079e078644ce7a138cde0f2e75d4d64eb"), looks := false }, kinds := [], alts := [], laidByText := true, laidKinds := [.data, .pinned], laidTests := true, laidLooks := .later }
def FnBookTextCardSaid : Prop := Claim7.holds Tryd.pinned (.plain (OpenSpec.ofChange fnBookTextSpec)) fnBookTextCard

/-- THE SECOND FORM's CARD OF 'laws.FnExactParseBook'. -/
def fnExactParseBookUptoCard : Claim7 := { stood := { row := fnExactParseBookUptoRow, standIns := [], harness := (true, "346cd121949596d6af918b07c23e9c5079e078644ce7a138cde0f2e75d4d64eb"), looks := false }, kinds := [], alts := [], laidByText := true, laidKinds := [.data, .pinned], laidTests := true, laidLooks := .later }
def FnExactParseBookUptoCardSaid : Prop := Claim7.holds Tryd.pinned (.plain (OpenSpec.upto fnExactParseBookSpec)) fnExactParseBookUptoCard

/-- THE SECOND FORM's CARD OF 'laws.FnBookText'. -/
def fnBookTextUptoCard : Claim7 := { stood := { row := fnBookTextUptoRow, standIns := [], harness := (true, "346cd121949596d6af918b07c23e9c5079e078644ce7a138cde0f2e75d4d64eb"), looks := false }, kinds := [], alts := [], laidByText := true, laidKinds := [.data, .pinned], laidTests := true, laidLooks := .later }
def FnBookTextUptoCardSaid : Prop := Claim7.holds Tryd.pinned (.plain (OpenSpec.upto fnBookTextSpec)) fnBookTextUptoCard
end Rows
end Go.Proofs.YtlnppdpbhoapfaaDoor
