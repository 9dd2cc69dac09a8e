/-
  What a Door seat's frame needs: a world in which the two listed tables read as listed, and the library's own bound. No conditions.
-/
import Derived.Test.YtipcodebmemkpaaGreatDoorRows
import Derived.Test.YtipcodebmemkpaaGreatDoorMem
import Derived.Test.YtipcodebmemkpaaGreatDoorShelf
import Derived.Lib.LaidIn
import Derived.Lib.LaidU8T
import Derived.Deep.DeepHandedRow
import Derived.Deep.DeepWitnessRowRef
import Derived.ProofKit
import Derived.SizedLaws
import Derived.SevenTiedAt
namespace Go.Proofs.YtipcodebmemkpaaGreatDoor
open Go.RowKit Pl
open Go.ChangeShapes Go.WideShapes Go.ChangeAt Go.Lib
set_option linter.unusedVariables false

/-- the library's bound on what it searches by one instruction: some integer -/
def ML (w : World) : Prop := ∃ m, w.cell? ⟨0, 0, none⟩ = some (.int .i64 m)
theorem ML.lt {w : World} (h : ML w) : 0 < w.heap.size := by obtain ⟨m, h⟩ := h; exact World.block_lt_of_cell? _ _ h
theorem ML.below {w w' : World} {B : Nat} (h : ML w) (hb : Below B w w') (hB : w.heap.size ≤ B) : ML w' := by
  have hl := h.lt
  obtain ⟨m, h⟩ := h
  exact ⟨m, (hb.cell (p := ⟨0, 0, none⟩) (Nat.lt_of_lt_of_le hl hB)).trans h⟩
theorem ML.drewN {w : World} (h : ML w) (n : Nat) : ML (w.drewN n) := h
theorem ml_of_shaped (w : World) (h : w.ShapedOpen Tryz.prog) : ML w := Tryz.laysM145.s1_3 w h

/-- the settled world, the two tables holding what their initialisers lay -/
noncomputable def laidWorld (os : Os) : World :=
  let w0 := World.holding Tryz.prog os ⟨#[], #[], []⟩
  let put (h : Array Obj) (g : Nat) (cs : Array Value) : Array Obj := h.modify g fun
    | .cells _ t frozen => .cells cs t frozen
    | o => o
  let h1 := put w0.heap 1 (Lib.firstTab.map fun z => Value.int .u8 z).toArray
  let h2 := put h1 2 ((List.range 16).flatMap fun i => [Value.int .u8 (Lib.accLo i), Value.int .u8 (Lib.accHi i)]).toArray
  { w0 with heap := h2 }
theorem laid_two (os : Os) (args : Array Value) : laidMet Tryz.prog [("unicode/utf8.acceptRanges", Rows.laid_unicode_utf8_acceptRanges), ("unicode/utf8.first", Rows.laid_unicode_utf8_first)] ((laidWorld os).forCall (fun _ _ => 0) ⟨#[], args, []⟩).memory :=
  (LaidIn.of_run (l := [("unicode/utf8.acceptRanges", Rows.laid_unicode_utf8_acceptRanges), ("unicode/utf8.first", Rows.laid_unicode_utf8_first)]) [2, 1] 8 (by kernel_rfl) (by kernel_rfl) (by kernel_rfl) (by kernel_rfl)).met

end Go.Proofs.YtipcodebmemkpaaGreatDoor
