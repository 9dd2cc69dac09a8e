/-
  Plain laws of books of one part. No conditions but those that each theorem names.
-/
import Derived.Test.YteeeaeidocalnaaPlainS
namespace Go.Proofs.Yteeeaeidocalnaa
open Go.RowKit Pl
set_option linter.unusedVariables false

theorem ltE_not {a b : ByteArray} (h : a ≠ b) : ltE a b = !ltE b a := by
  cases h1 : ltE b a with
  | true => rw [ltE_asymm h1]; rfl
  | false => rw [ltE_ne h1 h]; rfl
/-- two entries have their words and their codes in the same order -/
def agreeE (x y : Ent) : Prop := ltE x.1 y.1 = ltE x.2 y.2 ∧ ltE y.1 x.1 = ltE y.2 x.2
theorem agreeE_symm {x y : Ent} (h : agreeE x y) : agreeE y x := ⟨h.2, h.1⟩
theorem one_agree {es : List Ent} (hv : bookV es) : oneP es ↔ es.Pairwise agreeE := by
  have hd := (bookP_perm (sortE_perm es) hv.2).2
  have hs := sortE_strict hv.2
  have hp : (sortE es).Pairwise agreeE ↔ es.Pairwise agreeE := (sortE_perm es).pairwise_iff agreeE_symm
  rw [← hp]
  constructor
  · intro h
    exact ((h.2.and hs).and hd).imp fun {x y} ⟨⟨h1, h2⟩, h3⟩ => by
      have h4 := ltE_ne h1 h3.2
      exact ⟨by rw [h2, h4], by rw [ltE_asymm h2, h1]⟩
  · intro h
    exact ⟨hv, (h.and hs).imp fun {x y} ⟨h1, h2⟩ => by rw [← h1.2]; exact ltE_asymm h2⟩
/-- the entries at two places agree -/
def agr (es : List Ent) (i k : Nat) : Prop := ∀ (hi : i < es.length) (hk : k < es.length), ltE es[i].1 es[k].1 = ltE es[i].2 es[k].2
theorem one_places {es : List Ent} (hv : bookV es) : oneP es ↔ ∀ i, i < es.length → ∀ k, k < i → agr es i k := by
  rw [one_agree hv, List.pairwise_iff_getElem]
  constructor
  · intro h i hi k hk hi' hk'
    exact (h k i hk' hi hk).2
  · intro h k i hk hi hki
    have h1 := h i hi k hki hi hk
    have hne := List.pairwise_iff_getElem.1 hv.2.2 k i hk hi hki
    exact ⟨by rw [ltE_not hne.1, ltE_not hne.2, h1], h1⟩

end Go.Proofs.Yteeeaeidocalnaa
