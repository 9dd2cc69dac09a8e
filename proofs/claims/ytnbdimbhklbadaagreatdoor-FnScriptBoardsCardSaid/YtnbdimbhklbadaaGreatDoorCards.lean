/-
  DERIVED. GIVEN WITH THE SEED: THE CARDS: each row of YtnbdimbhklbadaaGreatDoorRows.lean that lists a variable, with what it lists TIED to the program's text (the seventh form; the later family's looks); each row that meets fmt, with fmt's text TOLD by the authors' own Lean function (tested against real Go, not proved from fmt's source: count such statements apart). THE CARD IS WHAT COUNTS. Prove the row's statement (the work); the ties are given (YtnbdimbhklbadaaGreatDoorTie.lean); close each card by the builder's one call (the guide's Derived/Test/ToyasCard.lean, 'card_holds'). Laid BY PROGRAM, IN A SANDBOX (cutbox-door.mjs). By AI agents, Wed Nov 11 2026. No macro, syntax, notation, axiom, sorry.
-/
import Derived.Test.YtnbdimbhklbadaaGreatDoorRows
import GoSem.ClaimSeven
namespace Go.Proofs.YtnbdimbhklbadaaGreatDoor
namespace Rows

/-- THE TIED CARD OF 'laws.FnScriptBoards'. -/
def fnScriptBoardsCard : Claim7 := { stood := { row := fnScriptBoardsRow, standIns := [], harness := (true, "8b167bb61f44f83261482d6c1fb1c238caee079e3a37914ab7c7918ee9d08339"), looks := true }, kinds := [], alts := [], laidByText := true, laidKinds := [.data, .data, .data, .data, .sentinel, .sentinel, .pinned], laidTests := true, laidLooks := .later }
def FnScriptBoardsCardSaid : Prop := Claim7.holds Tryz.pinned (.plain (OpenSpec.ofChange fnScriptBoardsSpec)) fnScriptBoardsCard

/-- THE SECOND FORM's CARD OF 'laws.FnScriptBoards'. -/
def fnScriptBoardsUptoCard : Claim7 := { stood := { row := fnScriptBoardsUptoRow, standIns := [], harness := (true, "8b167bb61f44f83261482d6c1fb1c238caee079e3a37914ab7c7918ee9d08339"), looks := true }, kinds := [], alts := [], laidByText := true, laidKinds := [.data, .data, .data, .data, .sentinel, .sentinel, .pinned], laidTests := true, laidLooks := .later }
def FnScriptBoardsUptoCardSaid : Prop := Claim7.holds Tryz.pinned (.plain (OpenSpec.upto fnScriptBoardsSpec)) fnScriptBoardsUptoCard
end Rows
end Go.Proofs.YtnbdimbhklbadaaGreatDoor
