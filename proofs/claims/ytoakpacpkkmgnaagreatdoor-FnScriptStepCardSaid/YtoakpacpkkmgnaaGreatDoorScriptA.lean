/-
  What impl.RunScript answers to a script with a book. Conditions: what each theorem names.
-/
import Derived.Test.YtoakpacpkkmgnaaGreatDoorDeskB
import Derived.Test.YtoakpacpkkmgnaaGreatDoorBuild
import Derived.Shelf.Strings.BuilderK
namespace Go.Proofs.YtoakpacpkkmgnaaGreatDoor
open Go.RowKit Pl Go.Shelf
set_option linter.unusedVariables false

abbrev BF (Y : Nat) (l : List UInt8) (w : World) : Prop := Lib.IsBuilderF 51 5 Y Y (Lib.byteCells l) w
theorem write_k (Y : Nat) (l : List UInt8) (s : ByteArray) (w : World) (h : BF Y l w) (hl : l.length + s.size ≤ 100000) (hY : Y ≤ w.heap.size) :
    Calls Tryz.prog 32 #[.pointer (some ⟨Y, 0, none⟩), .string s] w fun e w' => e = .returned (.tuple #[.int .i64 s.size, .nilIface]) ∧ BF Y (l ++ tl s) w' ∧ Below Y w w' ∧ Lib.OthersKept 5 (some Y) w w' := by
  refine (Any.Builder_WriteString_k (ρ := Tryz.lays156_ren) { Tryz.lays156 with } Tryz.Builder_Extra_156 Y Y _ s w h (by rw [Lib.byteCells_length]; omega) hY).mono ?_
  rintro e w' ⟨he, h1, h2, h3⟩
  refine ⟨he, .inr ?_, h2, h3⟩
  have : Lib.byteCells (l ++ tl s) = Lib.byteCells l ++ Lib.strCells s := by rw [Lib.byteCells_append]; rfl
  rw [this]; exact h1
theorem len_k (Y : Nat) (l : List UInt8) (w : World) (h : BF Y l w) :
    Calls Tryz.prog 31 #[.pointer (some ⟨Y, 0, none⟩)] w fun e w' => e = .returned (.int .i64 l.length) ∧ w = w' := by
  refine (Any.Builder_Len_f Tryz.lays170 Y Y _ w h).mono ?_
  rintro e w' ⟨he, h1⟩
  rw [Lib.byteCells_length] at he
  exact ⟨he, h1.symm⟩
theorem string_k (Y : Nat) (l : List UInt8) (w : World) (h : BF Y l w) (h0 : l ≠ []) :
    Calls Tryz.prog 34 #[.pointer (some ⟨Y, 0, none⟩)] w fun e w' => e = .returned (.string (mk l)) ∧ Below Y w w' := by
  refine (Any.Builder_String_f Tryz.lays169 Tryz.Builder_Extra_169 Y Y l w h h0).mono ?_
  rintro e w' ⟨he, _, h2⟩
  exact ⟨he, h2⟩
theorem bf_block {Y : Nat} {l : List UInt8} {w : World} (h : BF Y l w) : ∃ cs, w.heap[Y]? = some (.cells cs 51 (0, 0)) := by
  rcases h with ⟨_, v, hb, _⟩ | ⟨_, v, hb, _⟩
  · exact ⟨_, hb⟩
  · exact ⟨_, hb⟩
theorem bf_kept {Y p : Nat} {l : List UInt8} {w w' : World} {cs : Array Value} {T : TypeId} {fr : Nat × Nat} (h : BF Y l w) (hg : w.grownBy w' (some p)) (hp : w.heap[p]? = some (.cells cs T fr)) (hT : T ≠ 5) (hY : Y ≠ p) : BF Y l w' := by
  have key : ∀ q, Lib.BuilderAtF 51 5 Y Y q (Lib.byteCells l) w → Lib.BuilderAtF 51 5 Y Y q (Lib.byteCells l) w' := by
    rintro q ⟨h1, v, hb, ho, hn⟩
    refine ⟨h1, v, (hg.block Y (Array.getElem?_eq_some_iff.1 hb).1 (by intro e; injection e with e; exact hY e)).trans hb, ho.kept hg ?_, hn⟩
    exact .inr (Lib.ownBlock_neF ho hp hT)
  rcases h with h | h
  · exact .inl (key _ h)
  · exact .inr (key _ h)
theorem bf_below {Y : Nat} {l : List UInt8} {w w' : World} (h : BF Y l w) (hb : Below w.heap.size w w') : BF Y l w' := by
  have key : ∀ q, Lib.BuilderAtF 51 5 Y Y q (Lib.byteCells l) w → Lib.BuilderAtF 51 5 Y Y q (Lib.byteCells l) w' := by
    rintro q ⟨h1, v, hb', ho, hn⟩
    refine ⟨h1, v, (hb.block Y (Array.getElem?_eq_some_iff.1 hb').1).trans hb', ho.kept (only_of_below hb none) ?_, hn⟩
    cases v.ownBlock with
    | none => exact .inl rfl
    | some k => exact .inr (by simp)
  rcases h with h | h
  · exact .inl (key _ h)
  · exact .inr (key _ h)
/-- a row of another kind than bytes, while the builder is written -/
theorem own_others {w w' : World} {Y base : Nat} {e : TypeId} {size : Nat} {v : Value} {n : Nat} {xs : List Value} (h : w.ownsRow base e size v n xs) (hk : Lib.OthersKept 5 (some Y) w w') (he : e ≠ 5) {cs : Array Value} {T : TypeId} {fr : Nat × Nat}
    (hY : w.heap[Y]? = some (.cells cs T fr)) (hT : T ≠ e) : w'.ownsRow base e size v n xs := by
  obtain ⟨h1, h2 | ⟨g, cap, cur, hv, hb, hg, h3, h4, h5⟩⟩ := h
  · exact ⟨h1, .inl h2⟩
  · refine ⟨h1, .inr ⟨g, cap, cur, hv, hb, hk g _ hg ?_ ?_, h3, h4, h5⟩⟩
    · intro e'; injection e' with e'; subst e'
      rw [hY] at hg; injection hg with hg; injection hg with _ hg; exact hT hg
    · intro c fz e'; injection e' with _ e'; exact he e'
theorem own_ne {w : World} {base : Nat} {e : TypeId} {size : Nat} {v : Value} {n : Nat} {xs : List Value} (h : w.ownsRow base e size v n xs) {p : Nat} {cs : Array Value} {T : TypeId} {fr : Nat × Nat} (hp : w.heap[p]? = some (.cells cs T fr)) (hT : T ≠ e) : v.ownBlock = none ∨ v.ownBlock ≠ some p := by
  obtain ⟨h1, ⟨rfl, _⟩ | ⟨g, cap, cur, rfl, hb, hg, _⟩⟩ := h
  · exact .inl rfl
  · refine .inr fun e' => ?_
    have e2 : g = p := by simpa [Value.ownBlock] using e'
    subst e2
    rw [hp] at hg; injection hg with hg; injection hg with _ hg; exact hT hg
theorem set_block {w : World} {p i : Nat} {cs : Array Value} {T : TypeId} {fr : Nat × Nat} (h : w.heap[p]? = some (.cells cs T fr)) (u : Value) : (w.setCell ⟨p, i, none⟩ u).heap[p]? = some (.cells (cs.setIfInBounds i u) T fr) := by
  rw [setCell_eq_setRow w p i cs T fr u h]
  exact setRow_heap w p cs _ T fr h
theorem six_block {w : World} {p : Nat} {a0 a1 a2 a3 a4 a5 : Value} {T : TypeId} {fr : Nat × Nat} (h : w.heap[p]? = some (.cells #[a0, a1, a2, a3, a4, a5] T fr)) (u0 u1 u2 u3 u4 u5 : Value) :
    ((((((w.setCell ⟨p, 0, none⟩ u0).setCell ⟨p, 1, none⟩ u1).setCell ⟨p, 2, none⟩ u2).setCell ⟨p, 3, none⟩ u3).setCell ⟨p, 4, none⟩ u4).setCell ⟨p, 5, none⟩ u5).heap[p]? = some (.cells #[u0, u1, u2, u3, u4, u5] T fr) :=
  set_block (set_block (set_block (set_block (set_block (set_block h u0) u1) u2) u3) u4) u5
theorem block_below {w w' : World} {p : Nat} {o : Obj} (h : w.heap[p]? = some o) (hb : Below w.heap.size w w') : w'.heap[p]? = some o := (hb.block p (Array.getElem?_eq_some_iff.1 h).1).trans h

/-- the interpreter has executed some lines: what it has written, its desk, its book -/
structure Run (Y : Nat) (w0 : World) (ps : List ByteArray) (l : List UInt8) (es : List Ent) (A : Option Addr) (cap : Nat) (w : World) : Prop where
  bf : BF Y l w
  desk : w.heap[Y + 1]? = some (.cells #[.slice none 0 0, .string ⟨#[]⟩, .string ⟨#[]⟩, .string ⟨#[]⟩, .string ⟨#[]⟩, .slice A es.length cap] 54 (0, 0))
  ps : w.heap[Y + 2]? = some (.cells (strV ps).toArray 9 (0, 0))
  own : w.ownsRow 0 237 2 (.slice A es.length cap) es.length (entV es)
  bel : Below Y w0 w
theorem Run.cells {Y : Nat} {w0 : World} {ps : List ByteArray} {l : List UInt8} {es : List Ent} {A : Option Addr} {cap : Nat} {w : World} (h : Run Y w0 ps l es A cap w) :
    w.cell? ⟨Y + 1, 0, none⟩ = some (.slice none 0 0) ∧ w.cell? ⟨Y + 1, 1, none⟩ = some (.string ⟨#[]⟩) ∧ w.cell? ⟨Y + 1, 2, none⟩ = some (.string ⟨#[]⟩) ∧ w.cell? ⟨Y + 1, 3, none⟩ = some (.string ⟨#[]⟩) ∧ w.cell? ⟨Y + 1, 4, none⟩ = some (.string ⟨#[]⟩) ∧ w.cell? ⟨Y + 1, 5, none⟩ = some (.slice A es.length cap) := by
  refine ⟨?_, ?_, ?_, ?_, ?_, ?_⟩ <;> rw [cell_of_row w (Y + 1) _ _ _ _ h.desk] <;> rfl
theorem Run.piece {Y : Nat} {w0 : World} {ps : List ByteArray} {l : List UInt8} {es : List Ent} {A : Option Addr} {cap : Nat} {w : World} (h : Run Y w0 ps l es A cap w) (k : Nat) (hk : k < ps.length) : w.cell? ⟨Y + 2, k, none⟩ = some (.string ps[k]) := by
  rw [cell_of_row w (Y + 2) _ _ _ _ h.ps]; simp [strV, hk]
/-- behind a line: the desk with a book, the answer written -/
theorem Run.next {Y : Nat} {w0 : World} {ps : List ByteArray} {l l' : List UInt8} {es es' : List Ent} {A A' : Option Addr} {cap cap' : Nat} {w w4 w6 : World} (h : Run Y w0 ps l es A cap w) (hb : Below w.heap.size w w4)
    (ho : w4.ownsRow 0 237 2 (.slice A' es'.length cap') es'.length (entV es')) (o : Obj)
    (hbf : BF Y l' w6) (hb6 : Below Y ((((((w4.alloc o).setCell ⟨Y + 1, 0, none⟩ (.slice none 0 0)).setCell ⟨Y + 1, 1, none⟩ (.string ⟨#[]⟩)).setCell ⟨Y + 1, 2, none⟩ (.string ⟨#[]⟩)).setCell ⟨Y + 1, 3, none⟩ (.string ⟨#[]⟩)).setCell ⟨Y + 1, 4, none⟩ (.string ⟨#[]⟩) |>.setCell ⟨Y + 1, 5, none⟩ (.slice A' es'.length cap')) w6)
    (hk6 : Lib.OthersKept 5 (some Y) ((((((w4.alloc o).setCell ⟨Y + 1, 0, none⟩ (.slice none 0 0)).setCell ⟨Y + 1, 1, none⟩ (.string ⟨#[]⟩)).setCell ⟨Y + 1, 2, none⟩ (.string ⟨#[]⟩)).setCell ⟨Y + 1, 3, none⟩ (.string ⟨#[]⟩)).setCell ⟨Y + 1, 4, none⟩ (.string ⟨#[]⟩) |>.setCell ⟨Y + 1, 5, none⟩ (.slice A' es'.length cap')) w6) :
    Run Y w0 ps l' es' A' cap' w6 := by
  have hY : Y ≤ w4.heap.size := by
    obtain ⟨cs, hc⟩ := bf_block h.bf
    have := (Array.getElem?_eq_some_iff.1 hc).1
    have := hb.size
    omega
  have d4 := block_kept (block_below h.desk hb) (World.grownBy_alloc w4 o none) (by simp)
  have p4 := block_kept (block_below h.ps hb) (World.grownBy_alloc w4 o none) (by simp)
  have b4 := bf_block (bf_below h.bf hb)
  obtain ⟨cs, b4⟩ := b4
  have b5 := block_kept b4 (World.grownBy_alloc w4 o none) (by simp)
  have hg := only_six (w4.alloc o) (Y + 1) (.slice none 0 0) (.string ⟨#[]⟩) (.string ⟨#[]⟩) (.string ⟨#[]⟩) (.string ⟨#[]⟩) (.slice A' es'.length cap')
  have o5 := (ho.alloc o).kept hg (own_ne (ho.alloc o) d4 (by decide))
  have p5 := block_kept p4 hg (by simp)
  have b6 := block_kept b5 hg (by simp)
  refine ⟨hbf, hk6 _ _ (six_block d4 _ _ _ _ _ _) (by simp) (by intro c fz e; injection e with _ e; revert e; decide), hk6 _ _ p5 (by simp) (by intro c fz e; injection e with _ e; revert e; decide), own_others o5 hk6 (by decide) b6 (by decide), ?_⟩
  have hbY : Below Y w0 w4 := h.bel.trans (hb.mono (by obtain ⟨cs, hc⟩ := bf_block h.bf; have := (Array.getElem?_eq_some_iff.1 hc).1; omega))
  exact (bel_six (hbY.alloc hY o) (Nat.le_succ Y) _ _ _ _ _ _).trans hb6
/-- the builder behind a line, before the answer is written -/
theorem Run.bf4 {Y : Nat} {w0 : World} {ps : List ByteArray} {l : List UInt8} {es : List Ent} {A : Option Addr} {cap : Nat} {w w4 : World} (h : Run Y w0 ps l es A cap w) (hb : Below w.heap.size w w4) (o : Obj) (u : Value) :
    BF Y l (((((((w4.alloc o).setCell ⟨Y + 1, 0, none⟩ (.slice none 0 0)).setCell ⟨Y + 1, 1, none⟩ (.string ⟨#[]⟩)).setCell ⟨Y + 1, 2, none⟩ (.string ⟨#[]⟩)).setCell ⟨Y + 1, 3, none⟩ (.string ⟨#[]⟩)).setCell ⟨Y + 1, 4, none⟩ (.string ⟨#[]⟩)).setCell ⟨Y + 1, 5, none⟩ u) := by
  have d4 := block_kept (block_below h.desk hb) (World.grownBy_alloc w4 o none) (by simp)
  exact bf_kept ((bf_below h.bf hb).alloc o) (only_six (w4.alloc o) (Y + 1) (.slice none 0 0) (.string ⟨#[]⟩) (.string ⟨#[]⟩) (.string ⟨#[]⟩) (.string ⟨#[]⟩) u) d4 (by decide) (by omega)

end Go.Proofs.YtoakpacpkkmgnaaGreatDoor
