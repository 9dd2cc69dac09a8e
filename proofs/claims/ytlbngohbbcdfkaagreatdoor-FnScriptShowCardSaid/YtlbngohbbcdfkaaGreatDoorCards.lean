/-
  DERIVED. GIVEN WITH THE SEED: THE CARDS: each row of YtlbngohbbcdfkaaGreatDoorRows.lean that lists a variable, with what it lists TIED to the program's text (the seventh form; the later family's looks); each row that meets fmt, with fmt's text TOLD by the authors' own Lean function (tested against real Go, not proved from fmt's source: count such statements apart). THE CARD IS WHAT COUNTS. Prove the row's statement (the work); the ties are given (YtlbngohbbcdfkaaGreatDoorTie.lean); close each card by the builder's one call (the guide's Derived/Test/ToyasCard.lean, 'card_holds'). Laid BY PROGRAM, IN A SANDBOX (cutbox-door.mjs). By AI agents, Wed Nov 11 2026. No macro, syntax, notation, axiom, sorry.
-/
import Derived.Test.YtlbngohbbcdfkaaGreatDoorRows
import GoSem.ClaimSeven
namespace Go.Proofs.YtlbngohbbcdfkaaGreatDoor
namespace Rows

/-- THE TIED CARD OF 'laws.FnScriptMenu'. -/
def fnScriptMenuCard : Claim7 := { stood := { row := fnScriptMenuRow, standIns := [], harness := (true, "af960738ad58e60eebfc6860eb5aba670a15308f0d5dcd1c427920c3ae36ef22"), looks := true }, kinds := [], alts := [], laidByText := true, laidKinds := [.data, .data, .data, .data, .sentinel, .sentinel, .pinned], laidTests := true, laidLooks := .later }
def FnScriptMenuCardSaid : Prop := Claim7.holds Tryz.pinned (.plain (OpenSpec.ofChange fnScriptMenuSpec)) fnScriptMenuCard

/-- THE TIED CARD OF 'laws.FnScriptShow'. -/
def fnScriptShowCard : Claim7 := { stood := { row := fnScriptShowRow, standIns := [], harness := (true, "af960738ad58e60eebfc6860eb5aba670a15308f0d5dcd1c427920c3ae36ef22"), looks := true }, kinds := [], alts := [], laidByText := true, laidKinds := [.data, .data, .data, .data, .sentinel, .sentinel, .pinned], laidTests := true, laidLooks := .later }
def FnScriptShowCardSaid : Prop := Claim7.holds Tryz.pinned (.plain (OpenSpec.ofChange fnScriptShowSpec)) fnScriptShowCard

/-- THE TIED CARD OF 'laws.FnScriptWrong'. -/
def fnScriptWrongCard : Claim7 := { stood := { row := fnScriptWrongRow, standIns := [], harness := (true, "af960738ad58e60eebfc6860eb5aba670a15308f0d5dcd1c427920c3ae36ef22"), looks := true }, kinds := [], alts := [], laidByText := true, laidKinds := [.data, .data, .data, .data, .sentinel, .sentinel, .pinned], laidTests := true, laidLooks := .later }
def FnScriptWrongCardSaid : Prop := Claim7.holds Tryz.pinned (.plain (OpenSpec.ofChange fnScriptWrongSpec)) fnScriptWrongCard

/-- THE SECOND FORM's CARD OF 'laws.FnScriptMenu'. -/
def fnScriptMenuUptoCard : Claim7 := { stood := { row := fnScriptMenuUptoRow, standIns := [], harness := (true, "af960738ad58e60eebfc6860eb5aba670a15308f0d5dcd1c427920c3ae36ef22"), looks := true }, kinds := [], alts := [], laidByText := true, laidKinds := [.data, .data, .data, .data, .sentinel, .sentinel, .pinned], laidTests := true, laidLooks := .later }
def FnScriptMenuUptoCardSaid : Prop := Claim7.holds Tryz.pinned (.plain (OpenSpec.upto fnScriptMenuSpec)) fnScriptMenuUptoCard

/-- THE SECOND FORM's CARD OF 'laws.FnScriptShow'. -/
def fnScriptShowUptoCard : Claim7 := { stood := { row := fnScriptShowUptoRow, standIns := [], harness := (true, "af960738ad58e60eebfc6860eb5aba670a15308f0d5dcd1c427920c3ae36ef22"), looks := true }, kinds := [], alts := [], laidByText := true, laidKinds := [.data, .data, .data, .data, .sentinel, .sentinel, .pinned], laidTests := true, laidLooks := .later }
def FnScriptShowUptoCardSaid : Prop := Claim7.holds Tryz.pinned (.plain (OpenSpec.upto fnScriptShowSpec)) fnScriptShowUptoCard

/-- THE SECOND FORM's CARD OF 'laws.FnScriptWrong'. -/
def fnScriptWrongUptoCard : Claim7 := { stood := { row := fnScriptWrongUptoRow, standIns := [], harness := (true, "af960738ad58e60eebfc6860eb5aba670a15308f0d5dcd1c427920c3ae36ef22"), looks := true }, kinds := [], alts := [], laidByText := true, laidKinds := [.data, .data, .data, .data, .sentinel, .sentinel, .pinned], laidTests := true, laidLooks := .later }
def FnScriptWrongUptoCardSaid : Prop := Claim7.holds Tryz.pinned (.plain (OpenSpec.upto fnScriptWrongSpec)) fnScriptWrongUptoCard
end Rows
end Go.Proofs.YtlbngohbbcdfkaaGreatDoor
