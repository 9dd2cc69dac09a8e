/-
  DERIVED. GIVEN WITH THE SEED: THE CARDS: each row of YtipcodebmemkpaaGreatDoorRows.lean that lists a variable, with what it lists TIED to the program's text (the seventh form; the later family's looks); each row that meets fmt, with fmt's text TOLD by the authors' own Lean function (tested against real Go, not proved from fmt's source: count such statements apart). THE CARD IS WHAT COUNTS. Prove the row's statement (the work); the ties are given (YtipcodebmemkpaaGreatDoorTie.lean); close each card by the builder's one call (the guide's Derived/Test/ToyasCard.lean, 'card_holds'). Laid BY PROGRAM, IN A SANDBOX (cutbox-door.mjs). By AI agents, Wed Nov 11 2026. No macro, syntax, notation, axiom, sorry.
-/
import Derived.Test.YtipcodebmemkpaaGreatDoorRows
import GoSem.ClaimSeven
namespace Go.Proofs.YtipcodebmemkpaaGreatDoor
namespace Rows

/-- THE TIED CARD OF 'laws.FnScriptDay'. -/
def fnScriptDayCard : Claim7 := { stood := { row := fnScriptDayRow, standIns := [], harness := (true, "0998cbde6711ffb4f6a781b1b5be38af843e42170e00f857660627160a3e2382"), looks := true }, kinds := [], alts := [], laidByText := true, laidKinds := [.data, .data, .data, .data, .sentinel, .sentinel, .pinned], laidTests := true, laidLooks := .later }
def FnScriptDayCardSaid : Prop := Claim7.holds Tryz.pinned (.plain (OpenSpec.ofChange fnScriptDaySpec)) fnScriptDayCard

/-- THE TIED CARD OF 'laws.FnScriptCharacteristic'. -/
def fnScriptCharacteristicCard : Claim7 := { stood := { row := fnScriptCharacteristicRow, standIns := [], harness := (true, "0998cbde6711ffb4f6a781b1b5be38af843e42170e00f857660627160a3e2382"), looks := true }, kinds := [], alts := [], laidByText := true, laidKinds := [.data, .data, .data, .data, .sentinel, .sentinel, .pinned], laidTests := true, laidLooks := .later }
def FnScriptCharacteristicCardSaid : Prop := Claim7.holds Tryz.pinned (.plain (OpenSpec.ofChange fnScriptCharacteristicSpec)) fnScriptCharacteristicCard

/-- THE SECOND FORM's CARD OF 'laws.FnScriptDay'. -/
def fnScriptDayUptoCard : Claim7 := { stood := { row := fnScriptDayUptoRow, standIns := [], harness := (true, "0998cbde6711ffb4f6a781b1b5be38af843e42170e00f857660627160a3e2382"), looks := true }, kinds := [], alts := [], laidByText := true, laidKinds := [.data, .data, .data, .data, .sentinel, .sentinel, .pinned], laidTests := true, laidLooks := .later }
def FnScriptDayUptoCardSaid : Prop := Claim7.holds Tryz.pinned (.plain (OpenSpec.upto fnScriptDaySpec)) fnScriptDayUptoCard

/-- THE SECOND FORM's CARD OF 'laws.FnScriptCharacteristic'. -/
def fnScriptCharacteristicUptoCard : Claim7 := { stood := { row := fnScriptCharacteristicUptoRow, standIns := [], harness := (true, "0998cbde6711ffb4f6a781b1b5be38af843e42170e00f857660627160a3e2382"), looks := true }, kinds := [], alts := [], laidByText := true, laidKinds := [.data, .data, .data, .data, .sentinel, .sentinel, .pinned], laidTests := true, laidLooks := .later }
def FnScriptCharacteristicUptoCardSaid : Prop := Claim7.holds Tryz.pinned (.plain (OpenSpec.upto fnScriptCharacteristicSpec)) fnScriptCharacteristicUptoCard
end Rows
end Go.Proofs.YtipcodebmemkpaaGreatDoor
