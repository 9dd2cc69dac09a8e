/-
  DERIVED. GIVEN WITH THE SEED: THE CARDS: each row of YtoakpacpkkmgnaaGreatDoorRows.lean that lists a variable, with what it lists TIED to the program's text (the seventh form; the later family's looks); each row that meets fmt, with fmt's text TOLD by the authors' own Lean function (tested against real Go, not proved from fmt's source: count such statements apart). THE CARD IS WHAT COUNTS. Prove the row's statement (the work); the ties are given (YtoakpacpkkmgnaaGreatDoorTie.lean); close each card by the builder's one call (the guide's Derived/Test/ToyasCard.lean, 'card_holds'). Laid BY PROGRAM, IN A SANDBOX (cutbox-door.mjs). By AI agents, Wed Nov 11 2026. No macro, syntax, notation, axiom, sorry.
-/
import Derived.Test.YtoakpacpkkmgnaaGreatDoorRows
import GoSem.ClaimSeven
namespace Go.Proofs.YtoakpacpkkmgnaaGreatDoor
namespace Rows

/-- THE TIED CARD OF 'laws.FnScriptStep'. -/
def fnScriptStepCard : Claim7 := { stood := { row := fnScriptStepRow, standIns := [], harness := (true, "4966258300aef05b91b18ca29c308197f7504ef226cffb9cd957a903c4507778"), looks := true }, kinds := [], alts := [], laidByText := true, laidKinds := [.data, .data, .data, .data, .sentinel, .sentinel, .pinned], laidTests := true, laidLooks := .later }
def FnScriptStepCardSaid : Prop := Claim7.holds Tryz.pinned (.plain (OpenSpec.ofChange fnScriptStepSpec)) fnScriptStepCard

/-- THE TIED CARD OF 'laws.FnScriptWrong'. -/
def fnScriptWrongCard : Claim7 := { stood := { row := fnScriptWrongRow, standIns := [], harness := (true, "4966258300aef05b91b18ca29c308197f7504ef226cffb9cd957a903c4507778"), looks := true }, kinds := [], alts := [], laidByText := true, laidKinds := [.data, .data, .data, .data, .sentinel, .sentinel, .pinned], laidTests := true, laidLooks := .later }
def FnScriptWrongCardSaid : Prop := Claim7.holds Tryz.pinned (.plain (OpenSpec.ofChange fnScriptWrongSpec)) fnScriptWrongCard

/-- THE TIED CARD OF 'laws.FnScriptKey'. -/
def fnScriptKeyCard : Claim7 := { stood := { row := fnScriptKeyRow, standIns := [], harness := (true, "4966258300aef05b91b18ca29c308197f7504ef226cffb9cd957a903c4507778"), looks := true }, kinds := [], alts := [], laidByText := true, laidKinds := [.data, .data, .data, .data, .sentinel, .sentinel, .pinned], laidTests := true, laidLooks := .later }
def FnScriptKeyCardSaid : Prop := Claim7.holds Tryz.pinned (.plain (OpenSpec.ofChange fnScriptKeySpec)) fnScriptKeyCard

/-- THE SECOND FORM's CARD OF 'laws.FnScriptStep'. -/
def fnScriptStepUptoCard : Claim7 := { stood := { row := fnScriptStepUptoRow, standIns := [], harness := (true, "4966258300aef05b91b18ca29c308197f7504ef226cffb9cd957a903c4507778"), looks := true }, kinds := [], alts := [], laidByText := true, laidKinds := [.data, .data, .data, .data, .sentinel, .sentinel, .pinned], laidTests := true, laidLooks := .later }
def FnScriptStepUptoCardSaid : Prop := Claim7.holds Tryz.pinned (.plain (OpenSpec.upto fnScriptStepSpec)) fnScriptStepUptoCard

/-- THE SECOND FORM's CARD OF 'laws.FnScriptWrong'. -/
def fnScriptWrongUptoCard : Claim7 := { stood := { row := fnScriptWrongUptoRow, standIns := [], harness := (true, "4966258300aef05b91b18ca29c308197f7504ef226cffb9cd957a903c4507778"), looks := true }, kinds := [], alts := [], laidByText := true, laidKinds := [.data, .data, .data, .data, .sentinel, .sentinel, .pinned], laidTests := true, laidLooks := .later }
def FnScriptWrongUptoCardSaid : Prop := Claim7.holds Tryz.pinned (.plain (OpenSpec.upto fnScriptWrongSpec)) fnScriptWrongUptoCard

/-- THE SECOND FORM's CARD OF 'laws.FnScriptKey'. -/
def fnScriptKeyUptoCard : Claim7 := { stood := { row := fnScriptKeyUptoRow, standIns := [], harness := (true, "4966258300aef05b91b18ca29c308197f7504ef226cffb9cd957a903c4507778"), looks := true }, kinds := [], alts := [], laidByText := true, laidKinds := [.data, .data, .data, .data, .sentinel, .sentinel, .pinned], laidTests := true, laidLooks := .later }
def FnScriptKeyUptoCardSaid : Prop := Claim7.holds Tryz.pinned (.plain (OpenSpec.upto fnScriptKeySpec)) fnScriptKeyUptoCard
end Rows
end Go.Proofs.YtoakpacpkkmgnaaGreatDoor
