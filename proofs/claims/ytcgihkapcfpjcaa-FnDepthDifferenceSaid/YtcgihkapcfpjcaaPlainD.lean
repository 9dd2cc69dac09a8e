/-
  More plain laws of words; nothing of the program. No conditions but those that each theorem names.
-/
import Derived.Test.YtcgihkapcfpjcaaPlainC
set_option linter.unusedVariables false
namespace Go.Proofs.Ytcgihkapcfpjcaa
namespace Pl

theorem kn_full : ∀ (l : List UInt8), (∀ c ∈ l, isP c = true) → (l.all isL = true ↔ kn l = l.length)
  | [], _ => by simp [kn]
  | c :: l, h => by
    have ih := kn_full l (fun x hx => h x (by simp [hx]))
    have hk := kn_le l
    rw [kn_cons, List.all_cons, Bool.and_eq_true, ih, List.length_cons]
    by_cases hg : c.toNat = 45
    · have : isL c = false := by
        cases hb : isL c with
        | false => rfl
        | true => exact absurd hg (isL_ne hb)
      rw [if_pos hg, this]
      constructor
      · rintro ⟨h1, _⟩; cases h1
      · intro h1; omega
    · rw [if_neg hg]
      have : isL c = true := isL_of_isP (h c (by simp)) hg
      rw [this]
      constructor
      · rintro ⟨_, h1⟩; omega
      · intro h1; exact ⟨rfl, by omega⟩
theorem wv_known {l : List UInt8} (h : pv l = true) : wv l = decide (kn l = l.length) := by
  have h1 := kn_full l (fun c hc => pv_mem h hc)
  rw [wv_all (pv_length h), Bool.eq_iff_iff, h1, decide_eq_true_eq]
theorem wv_reverse {l : List UInt8} (h : wv l = true) : wv l.reverse = true := by
  have := wv_length h
  rw [wv_all (by simpa using this), List.all_reverse, ← wv_all this]; exact h

end Pl
end Go.Proofs.Ytcgihkapcfpjcaa
