/-
  Words for rows of numbers: read, made by a call. No conditions but those that each theorem names.
-/
import Derived.Test.YtipcodebmemkpaaGreatDoorComb
import Derived.Test.YtipcodebmemkpaaGreatDoorOwn
namespace Go.Proofs.YtipcodebmemkpaaGreatDoor
open Go.RowKit Pl
set_option linter.unusedVariables false

/-- the cells of a slice of numbers -/
def natV (l : List Nat) : List Value := l.map fun n : Nat => .int .i64 (n : Int)
theorem length_natV (l : List Nat) : (natV l).length = l.length := by simp [natV]
theorem natV_snoc (l : List Nat) (n : Nat) : natV l ++ [Value.int .i64 n] = natV (l ++ [n]) := by simp [natV]
theorem Rd.nat {w : World} {B : Nat} {A : Option Addr} {l : List Nat} (h : Rd w B A (natV l)) {k : Nat} (hk : k < l.length) :
    ∃ b off, A = some ⟨b, off, none⟩ ∧ b < B ∧ w.cell? ⟨b, off + k, none⟩ = some (.int .i64 l[k]) := by
  have hn : natV l ≠ [] := by intro e; have := congrArg List.length e; rw [length_natV, List.length_nil] at this; omega
  obtain ⟨b, off, e, hb, hcell⟩ := h hn
  exact ⟨b, off, e, hb, by rw [hcell k (by rw [length_natV]; exact hk)]; simp [natV]⟩
theorem nat_cell {n : Nat} : ∀ u ∈ [Value.int .i64 n], u.oneCell' = true := by intro u hu; simp at hu; subst hu; rfl

/-- block g holds the numbers l and nothing else -/
def Ints (w : World) (g : Nat) (l : List Nat) : Prop := w.heap[g]? = some (.cells (natV l).toArray 3 (0, 0))
section
variable {w w' : World} {g : Nat} {l : List Nat}
theorem Ints.lt (h : Ints w g l) : g < w.heap.size := (Array.getElem?_eq_some_iff.1 h).1
theorem Ints.cell (h : Ints w g l) {j : Nat} (hj : j < l.length) : w.cell? ⟨g, j, none⟩ = some (.int .i64 l[j]) := by
  rw [cell_of_row w g j _ _ _ h]; simp [natV, hj]
theorem Ints.frozen (h : Ints w g l) (j : Nat) : w.frozen? ⟨g, j, none⟩ = false := by
  have h2 : w.heap[g]? = some (.cells (natV l).toArray 3 (0, 0)) := h
  simp [World.frozen?, h2]
theorem Ints.set_ (h : Ints w g l) (j n : Nat) : Ints (w.setCell ⟨g, j, none⟩ (.int .i64 n)) g (l.set j n) := by
  have h2 : w.heap[g]? = some (.cells (natV l).toArray 3 (0, 0)) := h
  unfold Ints
  simp [World.setCell, Array.getElem?_modify, h2, natV, List.map_set]
theorem Ints.kept {row : Option Nat} (h : Ints w g l) (hg : w.grownBy w' row) (hne : some g ≠ row) : Ints w' g l := (hg.block g h.lt hne).trans h
theorem Ints.below (h : Ints w g l) (hb : Below w.heap.size w w') : Ints w' g l := (hb.block g h.lt).trans h
theorem Ints.drewN (h : Ints w g l) (n : Nat) : Ints (w.drewN n) g l := h
theorem Ints.rd (h : Ints w g l) : Rd w w.heap.size (some ⟨g, 0, none⟩) (natV l) := fun _ =>
  ⟨g, 0, rfl, h.lt, fun j hj => by rw [Nat.zero_add, cell_of_row w g j _ _ _ h]; simp [hj]⟩
theorem Ints.own (h : Ints w g l) {base : Nat} (hb : base ≤ g) (hm : l.length ≤ maxLen) : w.ownsRow base 3 1 (.slice (some ⟨g, 0, none⟩) l.length l.length) l.length (natV l) :=
  ⟨by rw [length_natV]; omega, .inr ⟨g, l.length, (natV l).toArray, rfl, hb, h, Nat.le_refl _, hm, by simp [natV], by rw [List.take_of_length_le (by rw [Nat.mul_one, length_natV]; exact Nat.le_refl _)]⟩⟩
end
theorem Ints.made (w : World) (l : List Nat) : Ints (w.alloc (.cells (natV l).toArray 3)) w.heap.size l := heap_alloc_new w _
/-- the callee has made the list l of numbers -/
def Nums (l : List Nat) (w : World) (e : Ending) (w' : World) : Prop := ∃ v, e = .returned v ∧ w'.ownsRow w.heap.size 3 1 v l.length (natV l) ∧ Below w.heap.size w w'
theorem Tryz.infoI : (Tryz.prog.info? 3).map (fun i => (i.zero, i.size, i.bytes)) = some (some (.int .i64 0), 1, 8) := by kernel_rfl
theorem Tryz.undI : Tryz.prog.underlying 54 = some (.slice 3) := by kernel_rfl

theorem set_block2 {w : World} {p : Nat} {cs : Array Value} {T : TypeId} {fr : Nat × Nat} (h : w.heap[p]? = some (.cells cs T fr)) (i : Nat) (u : Value) : (w.setCell ⟨p, i, none⟩ u).heap[p]? = some (.cells (cs.setIfInBounds i u) T fr) := by
  rw [setCell_eq_setRow w p i cs T fr u h]
  exact setRow_heap w p cs _ T fr h
theorem own_mono3 {w : World} {base base' : Nat} {e : TypeId} {size : Nat} {v : Value} {n : Nat} {xs : List Value} (h : w.ownsRow base e size v n xs) (hb : base' ≤ base) : w.ownsRow base' e size v n xs := by
  obtain ⟨h1, h2 | ⟨g, cap, cur, hv, hg, h3⟩⟩ := h
  · exact ⟨h1, .inl h2⟩
  · exact ⟨h1, .inr ⟨g, cap, cur, hv, Nat.le_trans hb hg, h3⟩⟩
/-- the places that have been seen -/
def seenC (n : Nat) (l : List Nat) : Array Value := ((List.range n).map fun j => Value.bool (decide (j ∈ l))).toArray
theorem seenC_size (n : Nat) (l : List Nat) : (seenC n l).size = n := by simp [seenC]
theorem seenC_get (n : Nat) (l : List Nat) {j : Nat} (hj : j < n) : (seenC n l)[j]? = some (.bool (decide (j ∈ l))) := by simp [seenC, hj]
theorem seenC_put (n : Nat) (l : List Nat) (t : Nat) : (seenC n l).setIfInBounds t (.bool true) = seenC n (l ++ [t]) := by
  apply Array.ext_getElem?
  intro j
  rw [Array.getElem?_setIfInBounds]
  by_cases hj : j < n
  · rw [seenC_get n (l ++ [t]) hj, seenC_get n l hj]
    by_cases e : t = j
    · subst e; simp [seenC_size, hj]
    · simp [e, Ne.symm e]
  · rw [Array.getElem?_eq_none (by rw [seenC_size]; omega : (seenC n (l ++ [t])).size ≤ j), Array.getElem?_eq_none (by rw [seenC_size]; omega : (seenC n l).size ≤ j)]
    split
    · rename_i e; subst e; simp [seenC_size]; omega
    · rfl
theorem seenC_nil (n : Nat) : seenC n [] = Array.replicate n (.bool false) := by
  apply Array.ext_getElem?
  intro j
  by_cases hj : j < n
  · rw [seenC_get n _ hj]; simp [hj]
  · rw [Array.getElem?_eq_none (by rw [seenC_size]; omega), Array.getElem?_eq_none (by simp; omega)]

theorem Tryz.infoB : (Tryz.prog.info? 5).map (fun i => (i.zero, i.size, i.bytes)) = some (some (.int .u8 0), 1, 1) := by kernel_rfl
theorem made_bytes (n : Nat) : (madeCells (Value.int .u8 0).cells (n * 1)).toList = bytesV (List.replicate n 0) := by
  rw [Nat.mul_one]
  simp only [madeCells, Value.cells, bytesV, List.map_replicate]
  apply List.ext_getElem <;> simp [Nat.mod_one]
theorem made_ints (n : Nat) : (madeCells (Value.int .i64 0).cells (n * 1)).toList = natV (List.replicate n 0) := by
  rw [Nat.mul_one]
  simp only [madeCells, Value.cells, natV, List.map_replicate]
  apply List.ext_getElem <;> simp [Nat.mod_one]
theorem bytesV_set (l : List UInt8) (j : Nat) (c : UInt8) : (bytesV l).set j (.int .u8 c.toNat) = bytesV (l.set j c) := by simp [bytesV, List.map_set]
theorem natV_set (l : List Nat) (j n : Nat) : (natV l).set j (.int .i64 (n : Int)) = natV (l.set j n) := by simp [natV, List.map_set]
/-- a row of bytes of the call's own, as a string -/
theorem own_conv {w : World} {base g n cap : Nat} {l : List UInt8} (h : w.ownsRow base 5 1 (.slice (some ⟨g, 0, none⟩) n cap) n (bytesV l)) (hl : l.length = n) (c : Nat) : (convert 22 9 (.slice (some ⟨g, 0, none⟩) n c)).run Tryz.prog w = .ok (.string (mk l)) w := by
  subst hl
  exact conv_string w 22 9 5 g 0 c l Tryz.underlying22 Tryz.underlying5 Tryz.underlying9 fun j hj => by rw [Nat.zero_add, h.cellAt j (by omega)]; simp [bytesV, hj]

end Go.Proofs.YtipcodebmemkpaaGreatDoor
