/-
  DERIVED. GIVEN WITH THE SEED: THE CARDS: each row of YtpccnaecdpnlkaaGreatDoorRows.lean that lists a variable, with what it lists TIED to the program's text (the seventh form; the later family's looks); each row that meets fmt, with fmt's text TOLD by the authors' own Lean function (tested against real Go, not proved from fmt's source: count such statements apart). THE CARD IS WHAT COUNTS. Prove the row's statement (the work); the ties are given (YtpccnaecdpnlkaaGreatDoorTie.lean); close each card by the builder's one call (the guide's Derived/Test/ToyasCard.lean, 'card_holds'). Laid BY PROGRAM, IN A SANDBOX (cutbox-door.mjs). By AI agents, Wed Nov 11 2026. No macro, syntax, notation, axiom, sorry.
-/
import Derived.Test.YtpccnaecdpnlkaaGreatDoorRows
import GoSem.ClaimSeven
namespace Go.Proofs.YtpccnaecdpnlkaaGreatDoor
namespace Rows

/-- THE TIED CARD OF 'laws.FnScriptSeal'. -/
def fnScriptSealCard : Claim7 := { stood := { row := fnScriptSealRow, standIns := [], harness := (true, "21ab72bde5f46d2b95c05068a9e4e49a027a0a19b9e474f7f3aad864be059650"), looks := true }, kinds := [], alts := [], laidByText := true, laidKinds := [.data, .data, .data, .data, .sentinel, .sentinel, .pinned], laidTests := true, laidLooks := .later }
def FnScriptSealCardSaid : Prop := Claim7.holds Tryz.pinned (.plain (OpenSpec.ofChange fnScriptSealSpec)) fnScriptSealCard

/-- THE TIED CARD OF 'laws.FnScriptDay'. -/
def fnScriptDayCard : Claim7 := { stood := { row := fnScriptDayRow, standIns := [], harness := (true, "21ab72bde5f46d2b95c05068a9e4e49a027a0a19b9e474f7f3aad864be059650"), looks := true }, kinds := [], alts := [], laidByText := true, laidKinds := [.data, .data, .data, .data, .sentinel, .sentinel, .pinned], laidTests := true, laidLooks := .later }
def FnScriptDayCardSaid : Prop := Claim7.holds Tryz.pinned (.plain (OpenSpec.ofChange fnScriptDaySpec)) fnScriptDayCard

/-- THE TIED CARD OF 'laws.FnScriptCharacteristic'. -/
def fnScriptCharacteristicCard : Claim7 := { stood := { row := fnScriptCharacteristicRow, standIns := [], harness := (true, "21ab72bde5f46d2b95c05068a9e4e49a027a0a19b9e474f7f3aad864be059650"), looks := true }, kinds := [], alts := [], laidByText := true, laidKinds := [.data, .data, .data, .data, .sentinel, .sentinel, .pinned], laidTests := true, laidLooks := .later }
def FnScriptCharacteristicCardSaid : Prop := Claim7.holds Tryz.pinned (.plain (OpenSpec.ofChange fnScriptCharacteristicSpec)) fnScriptCharacteristicCard

/-- THE TIED CARD OF 'laws.FnScriptBoards'. -/
def fnScriptBoardsCard : Claim7 := { stood := { row := fnScriptBoardsRow, standIns := [], harness := (true, "21ab72bde5f46d2b95c05068a9e4e49a027a0a19b9e474f7f3aad864be059650"), looks := true }, kinds := [], alts := [], laidByText := true, laidKinds := [.data, .data, .data, .data, .sentinel, .sentinel, .pinned], laidTests := true, laidLooks := .later }
def FnScriptBoardsCardSaid : Prop := Claim7.holds Tryz.pinned (.plain (OpenSpec.ofChange fnScriptBoardsSpec)) fnScriptBoardsCard

/-- THE SECOND FORM's CARD OF 'laws.FnScriptSeal'. -/
def fnScriptSealUptoCard : Claim7 := { stood := { row := fnScriptSealUptoRow, standIns := [], harness := (true, "21ab72bde5f46d2b95c05068a9e4e49a027a0a19b9e474f7f3aad864be059650"), looks := true }, kinds := [], alts := [], laidByText := true, laidKinds := [.data, .data, .data, .data, .sentinel, .sentinel, .pinned], laidTests := true, laidLooks := .later }
def FnScriptSealUptoCardSaid : Prop := Claim7.holds Tryz.pinned (.plain (OpenSpec.upto fnScriptSealSpec)) fnScriptSealUptoCard

/-- THE SECOND FORM's CARD OF 'laws.FnScriptDay'. -/
def fnScriptDayUptoCard : Claim7 := { stood := { row := fnScriptDayUptoRow, standIns := [], harness := (true, "21ab72bde5f46d2b95c05068a9e4e49a027a0a19b9e474f7f3aad864be059650"), looks := true }, kinds := [], alts := [], laidByText := true, laidKinds := [.data, .data, .data, .data, .sentinel, .sentinel, .pinned], laidTests := true, laidLooks := .later }
def FnScriptDayUptoCardSaid : Prop := Claim7.holds Tryz.pinned (.plain (OpenSpec.upto fnScriptDaySpec)) fnScriptDayUptoCard

/-- THE SECOND FORM's CARD OF 'laws.FnScriptCharacteristic'. -/
def fnScriptCharacteristicUptoCard : Claim7 := { stood := { row := fnScriptCharacteristicUptoRow, standIns := [], harness := (true, "21ab72bde5f46d2b95c05068a9e4e49a027a0a19b9e474f7f3aad864be059650"), looks := true }, kinds := [], alts := [], laidByText := true, laidKinds := [.data, .data, .data, .data, .sentinel, .sentinel, .pinned], laidTests := true, laidLooks := .later }
def FnScriptCharacteristicUptoCardSaid : Prop := Claim7.holds Tryz.pinned (.plain (OpenSpec.upto fnScriptCharacteristicSpec)) fnScriptCharacteristicUptoCard

/-- THE SECOND FORM's CARD OF 'laws.FnScriptBoards'. -/
def fnScriptBoardsUptoCard : Claim7 := { stood := { row := fnScriptBoardsUptoRow, standIns := [], harness := (true, "21ab72bde5f46d2b95c05068a9e4e49a027a0a19b9e474f7f3aad864be059650"), looks := true }, kinds := [], alts := [], laidByText := true, laidKinds := [.data, .data, .data, .data, .sentinel, .sentinel, .pinned], laidTests := true, laidLooks := .later }
def FnScriptBoardsUptoCardSaid : Prop := Claim7.holds Tryz.pinned (.plain (OpenSpec.upto fnScriptBoardsSpec)) fnScriptBoardsUptoCard
end Rows
end Go.Proofs.YtpccnaecdpnlkaaGreatDoor
