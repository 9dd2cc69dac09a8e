/-
  A copy of a book, 'append([]Entry{}, b...)', as a law for the walk; nil or not. No conditions but those that the theorem names.
-/
import Derived.Test.YteeeaeidocalnaaBook
import Derived.Test.YteeeaeidocalnaaOwn
import Derived.Laws.AppendOwnNone
namespace Go.Proofs.Yteeeaeidocalnaa
open Go.RowKit Pl
set_option linter.unusedVariables false

theorem own_mono {w : World} {base base' : Nat} {e : TypeId} {size : Nat} {v : Value} {n : Nat} {xs : List Value} (h : w.ownsRow base e size v n xs) (hb : base' ≤ base) : w.ownsRow base' e size v n xs := by
  obtain ⟨h1, h2 | ⟨g, cap, cur, h2, h3, h4⟩⟩ := h
  · exact ⟨h1, .inl h2⟩
  · exact ⟨h1, .inr ⟨g, cap, cur, h2, by omega, h4⟩⟩
theorem ent_cells {w : World} {B : Nat} {b off : Nat} {xs : List Value} (h : ∀ (j : Nat) (h : j < xs.length), w.cell? ⟨b, off + j, none⟩ = some xs[j]) : ∀ j u, xs[j]? = some u → w.cell? ((⟨b, off, none⟩ : Addr).add j) = some u := by
  intro j u hj
  obtain ⟨hl, rfl⟩ := List.getElem?_eq_some_iff.1 hj
  rw [add_none]; exact h j hl
theorem ent_one (es : List (ByteArray × ByteArray)) : ∀ u ∈ entV es, u.oneCell' = true := by
  intro u hu
  simp only [entV, List.mem_flatMap] at hu
  obtain ⟨e, _, hu⟩ := hu
  simp at hu
  rcases hu with rfl | rfl <;> rfl

theorem wpList_copyE {w : World} {ops : Array Oper} {rest : List Oper} {o : Oper} {a : Act} {Q : Exit → Act → World → Prop} (hgd : o.guard = none) (s x : Operand)
    (ho : o.op = .call { callee := .builtin .append, args := #[s, x], argTypes := #[25, 25] })
    (iE : TypeInfo) (hi : Try.prog.info? 42 = some iE) (hz0 : iE.zero = some (.agg #[.string ByteArray.empty, .string ByteArray.empty])) (hz1 : iE.size = 2) (hz2 : iE.bytes = 32)
    (base g : Nat) (hs : a.eval s = .slice (some ⟨g, 0, none⟩) 0 0) (hown : w.ownsRow base 42 2 (.slice (some ⟨g, 0, none⟩) 0 0) 0 [])
    (A : Option Addr) (cap : Nat) (es : List (ByteArray × ByteArray)) (B : Nat) (hx : a.eval x = .slice A es.length cap) (h : Rd w B A (entV es)) (hA : A = none → cap = 0) (hl : es.length ≤ 1048576) (hbase : base ≤ w.heap.size)
    (hc : ∀ v' w', w'.ownsRow base 42 2 v' es.length (entV es) → w.grownBy w' (some g) → wpList Try.prog ops Q rest (a.put o.dst v') w') : wpList Try.prog ops Q (o :: rest) a w := by
  by_cases he : es = []
  · subst he
    cases A with
    | none =>
      obtain rfl : cap = 0 := hA rfl
      exact wpList_append_own_none hgd s x 25 ho base 42 iE 2 Try.undE hi _ 0 [] hs hown hx (hc _ _ hown (only_refl _ _))
    | some ad =>
      refine wpList_append_own w hgd s x 25 ho base 42 iE _ 2 32 Try.undE hi hz0 hz1 hz2 rfl (by decide) _ 0 [] hs hown ad 0 cap [] hx rfl (by intro j u hj; simp at hj) (by simp) (by decide) (by decide) hbase ?_
      intro v' w' h1 h2 _
      exact hc v' w' h1 h2
  · have hn : entV es ≠ [] := by
      intro e
      have h1 := congrArg List.length e
      rw [length_entV, List.length_nil] at h1
      exact he (List.length_eq_zero_iff.1 (by omega))
    obtain ⟨b, off, rfl, hb, hcell⟩ := h hn
    refine wpList_append_own w hgd s x 25 ho base 42 iE _ 2 32 Try.undE hi hz0 hz1 hz2 rfl (by decide) _ 0 [] hs hown ⟨b, off, none⟩ es.length cap (entV es) hx (by rw [length_entV]; omega) (ent_cells (B := B) hcell) (ent_one es) (by unfold maxLen; omega) (by omega) hbase ?_
    intro v' w' h1 h2 _
    rw [Nat.zero_add, List.nil_append] at h1
    exact hc v' w' h1 h2

end Go.Proofs.Yteeeaeidocalnaa
