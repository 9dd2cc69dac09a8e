/-
  Words for slices that a call has made. No conditions but those that each theorem names.
-/
import Derived.Test.YtipcodebmemkpaaGreatDoorFrame
import Derived.Laws.AppendOwn
import Derived.Laws.OwnMore
namespace Go.Proofs.YtipcodebmemkpaaGreatDoor
open Go.RowKit Pl
set_option linter.unusedVariables false

theorem one_new (w : World) (u : Value) (t : TypeId) : ∀ j x, [u][j]? = some x → (w.alloc (.cells #[u] t)).cell? ((⟨w.heap.size, 0, none⟩ : Addr).add j) = some x := by
  intro j x hj
  match j, hj with
  | 0, hj => simp at hj; subst hj; simp [Addr.add]
  | j + 1, hj => simp at hj
theorem one_cell {s : ByteArray} : ∀ u ∈ [Value.string s], u.oneCell' = true := by intro u hu; simp at hu; subst hu; rfl
theorem strV_snoc {l : List ByteArray} {k : Nat} (h : k < l.length) : strV (l.take k) ++ [Value.string l[k]] = strV (l.take (k + 1)) := by
  rw [List.take_succ_eq_append_getElem h]; simp only [strV, List.map_append, List.map_cons, List.map_nil]
theorem ownsRow_below {w w' : World} {base : Nat} {e : TypeId} {size : Nat} {v : Value} {n : Nat} {xs : List Value} (h : w.ownsRow base e size v n xs) (hb : Below w.heap.size w w') : w'.ownsRow base e size v n xs :=
  h.kept (only_of_below hb none) (by cases hv : v.ownBlock <;> simp)
theorem ownsRow_rd {w : World} {base : Nat} {e : TypeId} {size : Nat} {v : Value} {n : Nat} {xs : List Value} (h : w.ownsRow base e size v n xs) :
    ∃ A cap, v = .slice A n cap ∧ n ≤ cap ∧ cap ≤ maxLen ∧ Rd w w.heap.size A xs := by
  have h0 := h
  obtain ⟨h1, ⟨rfl, rfl⟩ | ⟨g, cap, cur, rfl, h2, h3, h4, h5, h6⟩⟩ := h
  · refine ⟨none, 0, rfl, Nat.le_refl _, Nat.zero_le _, ?_⟩
    intro hn; exact absurd (List.length_eq_zero_iff.1 (by simpa using h1)) hn
  · refine ⟨some ⟨g, 0, none⟩, cap, rfl, h4, h5, fun _ => ⟨g, 0, rfl, (Array.getElem?_eq_some_iff.1 h3).1, fun j hj => ?_⟩⟩
    have := h0.cells (g := g) rfl j xs[j] (by simp [hj])
    rw [add_none] at this; exact this

theorem slot_slice {v : Value} {w : World} {base : Nat} {e : TypeId} {size n : Nat} {xs : List Value} (h : w.ownsRow base e size v n xs) : ∃ A cap, v = .slice A n cap := by
  obtain ⟨h1, ⟨rfl, rfl⟩ | ⟨g, cap, cur, rfl, h2, h3⟩⟩ := h
  · exact ⟨_, _, rfl⟩
  · exact ⟨_, _, rfl⟩
/-- the callee has made the list l -/
def Listed (l : List ByteArray) (w : World) (e : Ending) (w' : World) : Prop := ∃ v, e = .returned v ∧ w'.ownsRow w.heap.size 9 1 v l.length (strV l) ∧ Below w.heap.size w w'

theorem Rd.str {w : World} {B : Nat} {A : Option Addr} {l : List ByteArray} (h : Rd w B A (strV l)) {k : Nat} (hk : k < l.length) :
    ∃ b off, A = some ⟨b, off, none⟩ ∧ b < B ∧ w.cell? ⟨b, off + k, none⟩ = some (.string l[k]) := by
  have hn : strV l ≠ [] := by intro e; have := congrArg List.length e; rw [length_strV, List.length_nil] at this; omega
  obtain ⟨b, off, e, hb, hcell⟩ := h hn
  exact ⟨b, off, e, hb, by rw [hcell k (by rw [length_strV]; exact hk)]; simp [strV]⟩

end Go.Proofs.YtipcodebmemkpaaGreatDoor
