/-
  DERIVED. GIVEN WITH THE SEED: THE CARDS: each row of YteeeaeidocalnaaGreatDoorRows.lean that lists a variable, with what it lists TIED to the program's text (the seventh form; the later family's looks); each row that meets fmt, with fmt's text TOLD by the authors' own Lean function (tested against real Go, not proved from fmt's source: count such statements apart). THE CARD IS WHAT COUNTS. Prove the row's statement (the work); the ties are given (YteeeaeidocalnaaGreatDoorTie.lean); close each card by the builder's one call (the guide's Derived/Test/ToyasCard.lean, 'card_holds'). Laid BY PROGRAM, IN A SANDBOX (cutbox-door.mjs). By AI agents, Wed Nov 11 2026. No macro, syntax, notation, axiom, sorry.
-/
import Derived.Test.YteeeaeidocalnaaGreatDoorRows
import GoSem.ClaimSeven
namespace Go.Proofs.YteeeaeidocalnaaGreatDoor
namespace Rows

/-- THE TIED CARD OF 'laws.FnScriptTranspose'. -/
def fnScriptTransposeCard : Claim7 := { stood := { row := fnScriptTransposeRow, standIns := [], harness := (true, "410bfbfd76e229e562cfb0338444d51f687dbecc26bb03d42b9757b50eb0dafb"), looks := true }, kinds := [], alts := [], laidByText := true, laidKinds := [.data, .data, .data, .data, .sentinel, .sentinel, .pinned], laidTests := true, laidLooks := .later }
def FnScriptTransposeCardSaid : Prop := Claim7.holds Tryz.pinned (.plain (OpenSpec.ofChange fnScriptTransposeSpec)) fnScriptTransposeCard

/-- THE TIED CARD OF 'laws.FnScriptBook'. -/
def fnScriptBookCard : Claim7 := { stood := { row := fnScriptBookRow, standIns := [], harness := (true, "410bfbfd76e229e562cfb0338444d51f687dbecc26bb03d42b9757b50eb0dafb"), looks := true }, kinds := [], alts := [], laidByText := true, laidKinds := [.data, .data, .data, .data, .sentinel, .sentinel, .pinned], laidTests := true, laidLooks := .later }
def FnScriptBookCardSaid : Prop := Claim7.holds Tryz.pinned (.plain (OpenSpec.ofChange fnScriptBookSpec)) fnScriptBookCard

/-- THE SECOND FORM's CARD OF 'laws.FnScriptTranspose'. -/
def fnScriptTransposeUptoCard : Claim7 := { stood := { row := fnScriptTransposeUptoRow, standIns := [], harness := (true, "410bfbfd76e229e562cfb0338444d51f687dbecc26bb03d42b9757b50eb0dafb"), looks := true }, kinds := [], alts := [], laidByText := true, laidKinds := [.data, .data, .data, .data, .sentinel, .sentinel, .pinned], laidTests := true, laidLooks := .later }
def FnScriptTransposeUptoCardSaid : Prop := Claim7.holds Tryz.pinned (.plain (OpenSpec.upto fnScriptTransposeSpec)) fnScriptTransposeUptoCard

/-- THE SECOND FORM's CARD OF 'laws.FnScriptBook'. -/
def fnScriptBookUptoCard : Claim7 := { stood := { row := fnScriptBookUptoRow, standIns := [], harness := (true, "410bfbfd76e229e562cfb0338444d51f687dbecc26bb03d42b9757b50eb0dafb"), looks := true }, kinds := [], alts := [], laidByText := true, laidKinds := [.data, .data, .data, .data, .sentinel, .sentinel, .pinned], laidTests := true, laidLooks := .later }
def FnScriptBookUptoCardSaid : Prop := Claim7.holds Tryz.pinned (.plain (OpenSpec.upto fnScriptBookSpec)) fnScriptBookUptoCard
end Rows
end Go.Proofs.YteeeaeidocalnaaGreatDoor
