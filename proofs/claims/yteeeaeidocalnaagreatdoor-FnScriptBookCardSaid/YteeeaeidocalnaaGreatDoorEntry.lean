/-
  Contracts of the laws' own helpers on entries: their sizes, copies and comparisons. No conditions but those that each theorem names.
-/
import Derived.Test.YteeeaeidocalnaaGreatDoorIndex
import Derived.Test.YteeeaeidocalnaaGreatDoorOwn
import Derived.Laws.AppendOwn
import Derived.Laws.OwnMore
import Derived.OwnWalk
import Derived.BigQuiet
namespace Go.Proofs.YteeeaeidocalnaaGreatDoor
open Go.RowKit Pl
set_option linter.unusedVariables false

theorem Rd.ent {w : World} {B : Nat} {A : Option Addr} {es : List (ByteArray × ByteArray)} (h : Rd w B A (entV es)) {k : Nat} (hk : k < es.length) :
    ∃ b off, A = some ⟨b, off, none⟩ ∧ b < B ∧ w.cell? ⟨b, off + k * 2, none⟩ = some (.string es[k].1) ∧ w.cell? ⟨b, off + k * 2 + 1, none⟩ = some (.string es[k].2) := by
  have hn : entV es ≠ [] := by intro e; have := congrArg List.length e; rw [length_entV, List.length_nil] at this; omega
  obtain ⟨b, off, e, hb, hcell⟩ := h hn
  refine ⟨b, off, e, hb, ?_, ?_⟩
  · rw [Nat.mul_comm k 2, hcell (2 * k) (by rw [length_entV]; omega), ← List.getElem?_eq_getElem, (entV_at es k hk).1]
  · rw [Nat.mul_comm k 2, Nat.add_assoc, hcell (2 * k + 1) (by rw [length_entV]; omega), ← List.getElem?_eq_getElem, (entV_at es k hk).2]




















































































theorem four_keep {wr W W' : World} {a1 a2 a3 a4 : Addr} {u1 u2 u3 u4 : Value} (h : W.cell? a1 = some u1 ∧ W.cell? a2 = some u2 ∧ W.cell? a3 = some u3 ∧ W.cell? a4 = some u4 ∧ Below wr.heap.size wr W) (hb : Below W.heap.size W W') :
    W'.cell? a1 = some u1 ∧ W'.cell? a2 = some u2 ∧ W'.cell? a3 = some u3 ∧ W'.cell? a4 = some u4 ∧ Below wr.heap.size wr W' := by
  obtain ⟨h1, h2, h3, h4, h5⟩ := h
  exact ⟨(hb.cell (World.block_lt_of_cell? _ _ h1)).trans h1, (hb.cell (World.block_lt_of_cell? _ _ h2)).trans h2, (hb.cell (World.block_lt_of_cell? _ _ h3)).trans h3, (hb.cell (World.block_lt_of_cell? _ _ h4)).trans h4, h5.trans (hb.mono h5.size)⟩




























theorem Tryz.infoE : (Tryz.prog.info? 77).map (fun i => (i.zero, i.size, i.bytes)) = some (some (.agg #[.string ByteArray.empty, .string ByteArray.empty]), 2, 32) := by kernel_rfl
theorem Tryz.undE : Tryz.prog.underlying 29 = some (.slice 77) := by kernel_rfl

theorem entV_of {xs : List Value} {es : List (ByteArray × ByteArray)} (hl : xs.length = es.length * 2) (h : ∀ j (hj : j < es.length), xs[2 * j]? = some (.string es[j].1) ∧ xs[2 * j + 1]? = some (.string es[j].2)) : xs = entV es := by
  apply List.ext_getElem?
  intro i
  by_cases hi : i < xs.length
  · rcases Nat.mod_two_eq_zero_or_one i with he | ho
    · obtain ⟨j, rfl⟩ : ∃ j, i = 2 * j := ⟨i / 2, by omega⟩
      rw [(h j (by omega)).1, (entV_at es j (by omega)).1]
    · obtain ⟨j, rfl⟩ : ∃ j, i = 2 * j + 1 := ⟨i / 2, by omega⟩
      rw [(h j (by omega)).2, (entV_at es j (by omega)).2]
  · rw [List.getElem?_eq_none (by omega), List.getElem?_eq_none (by rw [length_entV]; omega)]

/-- the callee has made the entries es -/
def Entries (es : List (ByteArray × ByteArray)) (w : World) (e : Ending) (w' : World) : Prop := ∃ v, e = .returned v ∧ w'.ownsRow w.heap.size 77 2 v es.length (entV es) ∧ Below w.heap.size w w'

theorem ent_more {w wr : World} {n k : Nat} {xs : List Value} {es : List (ByteArray × ByteArray)} (hk : k < es.length) (hown : wr.ownsRow w.heap.size 77 2 (.slice (some ⟨w.heap.size, 0, none⟩) es.length es.length) es.length xs)
    (hall : ∀ j (hj : j < es.length), j < k → xs[2 * j]? = some (.string es[j].1) ∧ xs[2 * j + 1]? = some (.string es[j].2)) (hb : Below w.heap.size w wr) :
    ∃ ys, ((wr.setCell ⟨w.heap.size, k * 2, none⟩ (.string es[k].1)).setCell ⟨w.heap.size, k * 2 + 1, none⟩ (.string es[k].2)).ownsRow w.heap.size 77 2 (.slice (some ⟨w.heap.size, 0, none⟩) es.length es.length) es.length ys ∧
      (∀ j (hj : j < es.length), j < k + 1 → ys[2 * j]? = some (.string es[j].1) ∧ ys[2 * j + 1]? = some (.string es[j].2)) ∧ Below w.heap.size w ((wr.setCell ⟨w.heap.size, k * 2, none⟩ (.string es[k].1)).setCell ⟨w.heap.size, k * 2 + 1, none⟩ (.string es[k].2)) := by
  have hlen := hown.1
  obtain ⟨o1, _⟩ := hown.stored (k * 2) (.string es[k].1)
  obtain ⟨o2, _⟩ := o1.stored (k * 2 + 1) (.string es[k].2)
  refine ⟨_, o2, fun j hj hjk => ?_, (hb.setCell (Nat.le_refl _) _).setCell (Nat.le_refl _) _⟩
  rcases Nat.lt_or_ge j k with hjk' | hjk'
  · rw [List.getElem?_set_ne (by omega), List.getElem?_set_ne (by omega), List.getElem?_set_ne (by omega), List.getElem?_set_ne (by omega)]
    exact hall j hj hjk'
  · have : j = k := by omega
    subst this
    rw [Nat.mul_comm j 2, List.getElem?_set_ne (by omega), List.getElem?_set_self (by omega), List.getElem?_set_self (by simp; omega)]
    exact ⟨rfl, rfl⟩




















































end Go.Proofs.YteeeaeidocalnaaGreatDoor
