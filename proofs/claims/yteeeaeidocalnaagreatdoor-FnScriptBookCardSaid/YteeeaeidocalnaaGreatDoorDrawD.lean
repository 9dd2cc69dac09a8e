/-
  Contracts of the draws of a book and a string. No conditions but those that each theorem names.
-/
import Derived.Test.YteeeaeidocalnaaGreatDoorDrawC
namespace Go.Proofs.YteeeaeidocalnaaGreatDoor
open Go.RowKit Pl
set_option linter.unusedVariables false

theorem DS.base {w0 w1 w : World} {R N : Nat} {v : Value} {es : List (ByteArray × ByteArray)} (h : DS w1 R N v es w) (hb : Below R w0 w1) : DS w0 R N v es w := ⟨h.rdr, h.bk, hb.trans h.bel⟩
theorem DS.cell0 {w0 w : World} {R N g n cap : Nat} {es : List (ByteArray × ByteArray)} (h : DS w0 R N (.slice (some ⟨g, 0, none⟩) n cap) es w) {k : Nat} (hk : k < es.length) : ∃ s : ByteArray, w.cell? ⟨g, k * 2, none⟩ = some (.string s) ∧ s.size ≤ 100 := by
  obtain ⟨g', cap', hv, _, c0, c1, _⟩ := h.at hk
  simp only [Value.slice.injEq, Option.some.injEq, Addr.mk.injEq] at hv
  obtain ⟨⟨rfl, _⟩, _⟩ := hv
  exact ⟨_, c0, (h.bk.2 _ (List.getElem_mem hk)).1⟩
theorem DS.cell1 {w0 w : World} {R N g n cap : Nat} {es : List (ByteArray × ByteArray)} (h : DS w0 R N (.slice (some ⟨g, 0, none⟩) n cap) es w) {k : Nat} (hk : k < es.length) : ∃ s : ByteArray, w.cell? ⟨g, k * 2 + 1, none⟩ = some (.string s) ∧ s.size ≤ 100 := by
  obtain ⟨g', cap', hv, _, c0, c1, _⟩ := h.at hk
  simp only [Value.slice.injEq, Option.some.injEq, Addr.mk.injEq] at hv
  obtain ⟨⟨rfl, _⟩, _⟩ := hv
  exact ⟨_, c1, (h.bk.2 _ (List.getElem_mem hk)).2⟩

/-- a book and a string were drawn -/
def BookStr (w : World) (e : Ending) (w' : World) : Prop :=
  ∃ v es s, e = .returned (.tuple #[v, .string s]) ∧ EBk w' w.heap.size v es ∧ es.length ≤ 9 ∧ s.size ≤ 100 ∧ Below w.heap.size w w'















































































































end Go.Proofs.YteeeaeidocalnaaGreatDoor
