/-
  Contracts of SortBook and OnePart of the reference. No conditions but those that each theorem names.
-/
import Derived.Test.YteeeaeidocalnaaSortB
import Derived.Test.YteeeaeidocalnaaDrawB
import Derived.BigCall
import Derived.BigQuiet
namespace Go.Proofs.Yteeeaeidocalnaa
open Go.RowKit Pl
set_option linter.unusedVariables false

theorem ins_none (e : Ent) : ∀ l : List Ent, (∀ x ∈ l, ltE e.1 x.1 = false) → insE e l = l ++ [e]
  | [], _ => rfl
  | x :: r, h => by
    unfold insE
    have hx := h x (by simp)
    rw [if_neg (by rw [hx]; simp), ins_none e r fun y hy => h y (by simp [hy])]; rfl
theorem ins_here (e y : Ent) : ∀ l : List Ent, (∀ x ∈ l, ltE e.1 x.1 = false) → ltE e.1 y.1 = true → insE e (l ++ [y]) = l ++ [e] ++ [y]
  | [], _, hy => by simp [insE, hy]
  | x :: r, h, hy => by
    have hx := h x (by simp)
    rw [List.cons_append]
    unfold insE
    rw [if_neg (by rw [hx]; simp), ins_here e y r (fun z hz => h z (by simp [hz])) hy]; rfl
theorem ins_done (e y : Ent) : ∀ l : List Ent, (∃ x ∈ l, ltE e.1 x.1 = true) → insE e (l ++ [y]) = insE e l ++ [y]
  | [], h => by obtain ⟨x, hx, _⟩ := h; simp at hx
  | x :: r, h => by
    rw [List.cons_append]
    unfold insE
    by_cases hx : ltE e.1 x.1 = true
    · rw [if_pos hx, if_pos hx]; rfl
    · rw [if_neg hx, if_neg hx, ins_done e y r (by
        obtain ⟨z, hz, hzt⟩ := h
        rcases List.mem_cons.1 hz with rfl | hz
        · exact absurd hzt hx
        · exact ⟨z, hz, hzt⟩)]; rfl
theorem entV_snoc' (l : List Ent) (e : Ent) : entV l ++ [.string e.1, .string e.2] = entV (l ++ [e]) := by simp [entV]

/-- what the insertion has made of the first k entries -/
def Ins (e : Ent) (l : List Ent) (d : Bool) (out : List Ent) : Prop :=
  (d = true ∧ out = insE e l ∧ ∃ x ∈ l, ltE e.1 x.1 = true) ∨ (d = false ∧ out = l ∧ ∀ x ∈ l, ltE e.1 x.1 = false)
theorem Ins.len {e : Ent} {l : List Ent} {d : Bool} {out : List Ent} (h : Ins e l d out) : out.length ≤ l.length + 1 := by
  rcases h with ⟨_, rfl, _⟩ | ⟨_, rfl, _⟩
  · rw [(insE_perm e l).length_eq]; simp
  · omega














































































































































































































































































































































end Go.Proofs.Yteeeaeidocalnaa
