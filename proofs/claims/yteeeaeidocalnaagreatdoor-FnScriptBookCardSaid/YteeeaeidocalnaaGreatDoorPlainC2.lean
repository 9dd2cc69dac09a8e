/-
  Plain laws of a loop that cuts a text at a byte. No conditions but those that each theorem names.
-/
import Derived.Test.YteeeaeidocalnaaGreatDoorPlainP
namespace Go.Proofs.YteeeaeidocalnaaGreatDoor
open Go.RowKit Pl
set_option linter.unusedVariables false

/-- a text has been cut up to the place k, the last part begins at f -/
def CutTo (c : UInt8) (l : List UInt8) (k f : Nat) (done : List (List UInt8)) : Prop :=
  (k ≤ l.length ∧ f ≤ k ∧ c ∉ (l.drop f).take (k - f) ∧ spl c l = done ++ spl c (l.drop f) ∧ done.length ≤ k) ∨ (k = l.length + 1 ∧ done = spl c l ∧ f = k)
theorem cutTo_start (c : UInt8) (l : List UInt8) : CutTo c l 0 0 [] := Or.inl ⟨Nat.zero_le _, Nat.le_refl _, by simp, by simp, Nat.zero_le _⟩
theorem cutTo_on {c : UInt8} {l : List UInt8} {k f : Nat} {done : List (List UInt8)} (h : CutTo c l k f done) (hk : k < l.length) (hc : l[k] ≠ c) : CutTo c l (k + 1) f done := by
  rcases h with ⟨h1, h2, h3, h4, h5⟩ | ⟨h1, _⟩
  · refine Or.inl ⟨hk, by omega, ?_, h4, by omega⟩
    rw [show k + 1 - f = (k - f) + 1 by omega, List.take_succ_eq_append_getElem (by rw [List.length_drop]; omega)]
    simp only [List.mem_append, List.mem_singleton, not_or, List.getElem_drop]
    refine ⟨h3, ?_⟩
    have : l[f + (k - f)]'(by omega) = l[k] := by congr 1; omega
    rw [this]; exact fun e => hc e.symm
  · omega
theorem cutTo_cut {c : UInt8} {l : List UInt8} {k f : Nat} {done : List (List UInt8)} (h : CutTo c l k f done) (hk : k < l.length) (hc : l[k] = c) : CutTo c l (k + 1) (k + 1) (done ++ [(l.drop f).take (k - f)]) := by
  rcases h with ⟨h1, h2, h3, h4, h5⟩ | ⟨h1, _⟩
  · refine Or.inl ⟨hk, Nat.le_refl _, by simp, ?_, by simp; omega⟩
    have e : l.drop f = (l.drop f).take (k - f) ++ c :: l.drop (k + 1) := by
      conv => lhs; rw [← List.take_append_drop (k - f) (l.drop f), List.drop_drop, show f + (k - f) = k by omega, List.drop_eq_getElem_cons hk, hc]
    rw [h4]
    conv => lhs; rw [e]
    rw [spl_cons _ h3]
    simp
  · omega
theorem cutTo_last {c : UInt8} {l : List UInt8} {f : Nat} {done : List (List UInt8)} (h : CutTo c l l.length f done) : CutTo c l (l.length + 1) (l.length + 1) (done ++ [(l.drop f).take (l.length - f)]) := by
  rcases h with ⟨h1, h2, h3, h4, h5⟩ | ⟨h1, _⟩
  · refine Or.inr ⟨rfl, ?_, rfl⟩
    rw [List.take_of_length_le (by rw [List.length_drop]; omega)] at h3 ⊢
    rw [h4, spl_none h3]
  · omega
theorem cutTo_le {c : UInt8} {l : List UInt8} {k f : Nat} {done : List (List UInt8)} (h : CutTo c l k f done) (hk : k ≤ l.length) : f ≤ k ∧ done.length ≤ k := by
  rcases h with ⟨h1, h2, h3, h4, h5⟩ | ⟨h1, _⟩
  · exact ⟨h2, h5⟩
  · omega
theorem cutTo_end {c : UInt8} {l : List UInt8} {k f : Nat} {done : List (List UInt8)} (h : CutTo c l k f done) (hk : l.length < k) : done = spl c l := by
  rcases h with ⟨h1, h2, h3, h4, h5⟩ | ⟨h1, h2, _⟩
  · omega
  · exact h2

/-- the place of the first byte c, or -1 -/
def fnd (c : UInt8) (l : List UInt8) : Int := if c ∈ l then (l.idxOf c : Int) else -1
theorem fnd_hit {c : UInt8} {l : List UInt8} {k : Nat} (hk : k < l.length) (hc : l[k] = c) (hn : c ∉ l.take k) : fnd c l = k := by
  unfold fnd
  rw [if_pos (by rw [← hc]; exact List.getElem_mem hk)]
  rw [idxOf_hit (i := k) (by rw [List.getElem?_eq_getElem hk, hc]) (fun j hj e => hn (by
    have hjl := (List.getElem?_eq_some_iff.1 e).1
    have h2 := (List.getElem?_eq_some_iff.1 e).2
    rw [← h2, List.mem_take_iff_getElem]
    exact ⟨j, by omega, rfl⟩))]
theorem fnd_miss {c : UInt8} {l : List UInt8} (h : c ∉ l) : fnd c l = -1 := if_neg h
theorem fnd_ge {c : UInt8} {l : List UInt8} (h : c ∈ l) : fnd c l = (l.idxOf c : Int) := if_pos h
theorem notin_snoc {c : UInt8} {l : List UInt8} {k : Nat} (hk : k < l.length) (h : c ∉ l.take k) (hc : l[k] ≠ c) : c ∉ l.take (k + 1) := by
  rw [List.take_succ_eq_append_getElem hk]
  simp only [List.mem_append, List.mem_singleton, not_or]
  exact ⟨h, fun e => hc e.symm⟩

end Go.Proofs.YteeeaeidocalnaaGreatDoor
