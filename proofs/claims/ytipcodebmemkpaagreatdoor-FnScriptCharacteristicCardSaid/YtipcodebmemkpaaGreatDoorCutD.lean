/-
  The library's Cut, Split and Count at a byte, and what keeps rows and cells. Conditions: what each theorem names.
-/
import Derived.Test.YtipcodebmemkpaaGreatDoorPlainQ
import Derived.Test.YtipcodebmemkpaaGreatDoorDoor
import Derived.Test.YtipcodebmemkpaaGreatDoorOwn
import Derived.OwnWalk
import Derived.Deep.AppendLies
namespace Go.Proofs.YtipcodebmemkpaaGreatDoor
open Go.RowKit Pl
set_option linter.unusedVariables false

theorem split_any (w : World) (s : ByteArray) (c : UInt8) (hml : ML w) (hs : s.size ≤ 1048576) :
    Calls Tryz.prog 50 #[.string s, .string (mk [c])] w fun e w' => e = .returned (.slice (some ⟨w.heap.size, 0, none⟩) (spl c (tl s)).length (spl c (tl s)).length) ∧ w' = w.alloc (.cells (strV (mkl (spl c (tl s)))).toArray 9) := by
  obtain ⟨m, hm⟩ := hml
  have e1 : mkl (spl c (tl s)) = Lib.splitB (mk [c]) 0 (Lib.countB s (mk [c])) s := by
    unfold mkl
    rw [← splitB_spl c _ s rfl, List.map_map]
    conv => rhs; rw [← List.map_id (Lib.splitB (mk [c]) 0 (Lib.countB s (mk [c])) s)]
    rfl
  have e2 : (spl c (tl s)).length = Lib.countB s (mk [c]) + 1 := by
    rw [← length_mkl, e1, Lib.splitB_all (mk [c]) (Nat.le_refl 1) 0 _ s rfl]
  rw [e2, e1]
  exact Tryz.strings_Split s (mk [c]) m w (by omega) hm (Nat.le_refl 1)

theorem cut_any (w : World) (s : ByteArray) (c : UInt8) (hml : ML w) (hs : s.size ≤ 1048576) :
    Calls Tryz.prog 94 #[.string s, .string (mk [c])] w fun e w' => e = .returned (.tuple #[.string (mk (bef c (tl s))), .string (mk (aft c (tl s))), .bool (decide (c ∈ tl s))]) ∧ ∃ n, w' = w.drewN n := by
  obtain ⟨m, hm⟩ := hml
  have h := Tryz.strings_Cut s (mk [c]) m w (by omega) hm
  have e : Lib.cut s.data.toList (mk [c]).data.toList = (bef c (tl s), aft c (tl s), decide (c ∈ tl s)) := cut_bef c (tl s)
  rw [e] at h
  exact h

theorem count_any (w : World) (s : ByteArray) (c : UInt8) :
    Calls Tryz.prog 125 #[.string s, .string (mk [c])] w fun e w' => e = .returned (.int .i64 ((tl s).count c : Nat)) ∧ w = w' := by
  have h := Tryz.strings_Count_one s c w
  exact h.mono fun e w' ⟨h1, h2⟩ => ⟨h1, h2.symm⟩

theorem split_rd (w : World) (l : List ByteArray) : Rd (w.alloc (.cells (strV l).toArray 9)) (w.heap.size + 1) (some ⟨w.heap.size, 0, none⟩) (strV l) := fun _ =>
  ⟨w.heap.size, 0, rfl, by omega, fun j hj => by
    rw [Nat.zero_add, cell_of_row _ _ _ _ _ _ (heap_alloc_new w _)]
    simp [hj]⟩

theorem own_mono2 {w : World} {base base' : Nat} {e : TypeId} {size : Nat} {v : Value} {n : Nat} {xs : List Value} (h : w.ownsRow base e size v n xs) (hb : base' ≤ base) : w.ownsRow base' e size v n xs := by
  obtain ⟨h1, h2 | ⟨g, cap, cur, h2, h3, h4⟩⟩ := h
  · exact ⟨h1, .inl h2⟩
  · exact ⟨h1, .inr ⟨g, cap, cur, h2, by omega, h4⟩⟩
theorem cell_alloc2 {w : World} {a : Addr} {u : Value} (h : w.cell? a = some u) (o : Obj) : (w.alloc o).cell? a = some u := by
  rw [World.cell?_alloc_lt _ _ _ (World.block_lt_of_cell? w a h)]; exact h
theorem cell_grown2 {w w' : World} {row : Option Nat} {a : Addr} {u : Value} (hg : w.grownBy w' row) (h : w.cell? a = some u) (hne : some a.block ≠ row) : w'.cell? a = some u :=
  (hg.cell_far _ (World.block_lt_of_cell? _ _ h) hne).trans h
theorem szalloc (w : World) (o : Obj) : (w.alloc o).heap.size = w.heap.size + 1 := by simp

end Go.Proofs.YtipcodebmemkpaaGreatDoor
