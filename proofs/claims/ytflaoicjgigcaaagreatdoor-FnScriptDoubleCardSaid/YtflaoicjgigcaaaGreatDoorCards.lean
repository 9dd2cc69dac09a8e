/-
  DERIVED. GIVEN WITH THE SEED: THE CARDS: each row of YtflaoicjgigcaaaGreatDoorRows.lean that lists a variable, with what it lists TIED to the program's text (the seventh form; the later family's looks); each row that meets fmt, with fmt's text TOLD by the authors' own Lean function (tested against real Go, not proved from fmt's source: count such statements apart). THE CARD IS WHAT COUNTS. Prove the row's statement (the work); the ties are given (YtflaoicjgigcaaaGreatDoorTie.lean); close each card by the builder's one call (the guide's Derived/Test/ToyasCard.lean, 'card_holds'). Laid BY PROGRAM, IN A SANDBOX (cutbox-door.mjs). By AI agents, Wed Nov 11 2026. No macro, syntax, notation, axiom, sorry.
-/
import Derived.Test.YtflaoicjgigcaaaGreatDoorRows
import GoSem.ClaimSeven
namespace Go.Proofs.YtflaoicjgigcaaaGreatDoor
namespace Rows

/-- THE TIED CARD OF 'laws.FnScriptKey'. -/
def fnScriptKeyCard : Claim7 := { stood := { row := fnScriptKeyRow, standIns := [], harness := (true, "b8dd605511bf5b1e2611baf9a1e09688ab1631b606a25ba54cca6501ad24bd08"), looks := true }, kinds := [], alts := [], laidByText := true, laidKinds := [.data, .data, .data, .data, .sentinel, .sentinel, .pinned], laidTests := true, laidLooks := .later }
def FnScriptKeyCardSaid : Prop := Claim7.holds Tryz.pinned (.plain (OpenSpec.ofChange fnScriptKeySpec)) fnScriptKeyCard

/-- THE TIED CARD OF 'laws.FnScriptDouble'. -/
def fnScriptDoubleCard : Claim7 := { stood := { row := fnScriptDoubleRow, standIns := [], harness := (true, "b8dd605511bf5b1e2611baf9a1e09688ab1631b606a25ba54cca6501ad24bd08"), looks := true }, kinds := [], alts := [], laidByText := true, laidKinds := [.data, .data, .data, .data, .sentinel, .sentinel, .pinned], laidTests := true, laidLooks := .later }
def FnScriptDoubleCardSaid : Prop := Claim7.holds Tryz.pinned (.plain (OpenSpec.ofChange fnScriptDoubleSpec)) fnScriptDoubleCard

/-- THE TIED CARD OF 'laws.FnScriptTwice'. -/
def fnScriptTwiceCard : Claim7 := { stood := { row := fnScriptTwiceRow, standIns := [], harness := (true, "b8dd605511bf5b1e2611baf9a1e09688ab1631b606a25ba54cca6501ad24bd08"), looks := true }, kinds := [], alts := [], laidByText := true, laidKinds := [.data, .data, .data, .data, .sentinel, .sentinel, .pinned], laidTests := true, laidLooks := .later }
def FnScriptTwiceCardSaid : Prop := Claim7.holds Tryz.pinned (.plain (OpenSpec.ofChange fnScriptTwiceSpec)) fnScriptTwiceCard

/-- THE SECOND FORM's CARD OF 'laws.FnScriptKey'. -/
def fnScriptKeyUptoCard : Claim7 := { stood := { row := fnScriptKeyUptoRow, standIns := [], harness := (true, "b8dd605511bf5b1e2611baf9a1e09688ab1631b606a25ba54cca6501ad24bd08"), looks := true }, kinds := [], alts := [], laidByText := true, laidKinds := [.data, .data, .data, .data, .sentinel, .sentinel, .pinned], laidTests := true, laidLooks := .later }
def FnScriptKeyUptoCardSaid : Prop := Claim7.holds Tryz.pinned (.plain (OpenSpec.upto fnScriptKeySpec)) fnScriptKeyUptoCard

/-- THE SECOND FORM's CARD OF 'laws.FnScriptDouble'. -/
def fnScriptDoubleUptoCard : Claim7 := { stood := { row := fnScriptDoubleUptoRow, standIns := [], harness := (true, "b8dd605511bf5b1e2611baf9a1e09688ab1631b606a25ba54cca6501ad24bd08"), looks := true }, kinds := [], alts := [], laidByText := true, laidKinds := [.data, .data, .data, .data, .sentinel, .sentinel, .pinned], laidTests := true, laidLooks := .later }
def FnScriptDoubleUptoCardSaid : Prop := Claim7.holds Tryz.pinned (.plain (OpenSpec.upto fnScriptDoubleSpec)) fnScriptDoubleUptoCard

/-- THE SECOND FORM's CARD OF 'laws.FnScriptTwice'. -/
def fnScriptTwiceUptoCard : Claim7 := { stood := { row := fnScriptTwiceUptoRow, standIns := [], harness := (true, "b8dd605511bf5b1e2611baf9a1e09688ab1631b606a25ba54cca6501ad24bd08"), looks := true }, kinds := [], alts := [], laidByText := true, laidKinds := [.data, .data, .data, .data, .sentinel, .sentinel, .pinned], laidTests := true, laidLooks := .later }
def FnScriptTwiceUptoCardSaid : Prop := Claim7.holds Tryz.pinned (.plain (OpenSpec.upto fnScriptTwiceSpec)) fnScriptTwiceUptoCard
end Rows
end Go.Proofs.YtflaoicjgigcaaaGreatDoor
