/-
  Plain laws of known letters; nothing of the program. No conditions but those that each theorem names.
-/
import Derived.Test.YtcgihkapcfpjcaaPlainB
set_option linter.unusedVariables false
namespace Go.Proofs.Ytcgihkapcfpjcaa
namespace Pl

theorem kn_cons (c : UInt8) (l : List UInt8) : kn (c :: l) = (if c.toNat = 45 then 0 else 1) + kn l := by
  by_cases h : c.toNat = 45 <;> simp [kn, h]; omega
theorem kn_minus : ∀ (v p : List UInt8), v.length = p.length → kn (minusL v p) = kn p
  | [], [], _ => rfl
  | c :: v, a :: p, h => by
    have ih := kn_minus v p (by simpa using h)
    have e : minusL (c :: v) (a :: p) = minusC c a :: minusL v p := rfl
    rw [e, kn_cons, kn_cons, ih]
    by_cases ha : a.toNat = 45
    · rw [if_pos ha, if_pos ((minusC_gap_iff c a).2 ha)]
    · rw [if_neg ha, if_neg (fun hh => ha ((minusC_gap_iff c a).1 hh))]
  | [], _ :: _, h => by simp at h
  | _ :: _, [], h => by simp at h
theorem kcount_minus {v p r : List UInt8} (h : minusW v p = some r) : kcount r = kcount p := by
  unfold minusW at h
  split at h
  · rename_i hc
    injection h with h
    subst h
    unfold kcount
    rw [if_pos (pv_minus hc.2.1 hc.2.2), if_pos hc.2.1, kn_minus _ _ hc.2.2]
  · cases h
theorem mergeC_kn {a b c : UInt8} (h : mergeC a b = some c) : (if a.toNat = 45 then 0 else 1) ≤ (if c.toNat = 45 then 0 else 1) ∧ (if c.toNat = 45 then 0 else 1) ≤ (if a.toNat = 45 then 0 else 1) + (if b.toNat = 45 then 0 else 1) := by
  unfold mergeC at h
  split at h
  · rename_i ha
    injection h with h
    subst h
    rw [if_pos ha]; exact ⟨Nat.zero_le _, by omega⟩
  · rename_i ha
    split at h
    · cases h
    · injection h with h
      subst h
      rw [if_neg ha]; exact ⟨Nat.le_refl _, by omega⟩
theorem kn_merge : ∀ (p q l : List UInt8), p.length = q.length → mergeL p q = some l → kn p ≤ kn l ∧ kn l ≤ kn p + kn q
  | [], [], l, _, h => by simp [mergeL] at h; subst h; exact ⟨Nat.le_refl _, Nat.le_refl _⟩
  | a :: p, b :: q, l, hl, h => by
    simp only [mergeL] at h
    cases hm : mergeC a b with
    | none => rw [hm] at h; cases h
    | some c =>
      rw [hm] at h
      cases hm2 : mergeL p q with
      | none => rw [hm2] at h; cases h
      | some l' =>
        rw [hm2] at h
        injection h with h
        subst h
        have ih := kn_merge p q l' (by simpa using hl) hm2
        have := mergeC_kn hm
        rw [kn_cons, kn_cons, kn_cons]
        omega
  | [], _ :: _, _, h, _ => by simp at h
  | _ :: _, [], _, h, _ => by simp at h
theorem merge_at {p q l : List UInt8} (hl : p.length = q.length) (h : mergeL p q = some l) (i : Nat) (h1 : i < p.length) (h2 : i < q.length) (h3 : i < l.length) : mergeC p[i] q[i] = some l[i] := by
  obtain ⟨c, hc⟩ := mergeL_all hl h i h1 h2
  have e := mergeL_eq hl h
  have : l[i] = (List.zipWith (fun a b => (mergeC a b).getD 0) p q)[i]'(by simp; omega) := by simp only [e]
  rw [this, List.getElem_zipWith, hc]; rfl

/-- in how many places two words agree -/
def agree : List UInt8 → List UInt8 → Nat
  | a :: p, b :: w => (if a = b then 1 else 0) + agree p w
  | _, _ => 0
theorem agree_snoc : ∀ (p w : List UInt8) (k : Nat) (h1 : k < p.length) (h2 : k < w.length), agree (p.take (k + 1)) (w.take (k + 1)) = agree (p.take k) (w.take k) + if p[k] = w[k] then 1 else 0
  | a :: p, b :: w, 0, _, _ => by simp [agree]
  | a :: p, b :: w, k + 1, h1, h2 => by
    have ih := agree_snoc p w k (by simpa using h1) (by simpa using h2)
    simp only [List.take_succ_cons, agree, List.getElem_cons_succ] at ih ⊢
    rw [ih]; omega
theorem agree_fit : ∀ (p w : List UInt8), p.length = w.length → (∀ c ∈ w, isL c = true) → agree p w ≤ kn p ∧ (fitL p w = true ↔ agree p w = kn p)
  | [], [], _, _ => ⟨Nat.le_refl _, by simp [fitL, agree, kn]⟩
  | a :: p, b :: w, hl, hw => by
    have ih := agree_fit p w (by simpa using hl) (fun c hc => hw c (by simp [hc]))
    have hb := hw b (by simp)
    have e : fitL (a :: p) (b :: w) = (fitC a b && fitL p w) := rfl
    have e2 : agree (a :: p) (b :: w) = (if a = b then 1 else 0) + agree p w := rfl
    rw [kn_cons, e, e2, Bool.and_eq_true, ih.2]
    by_cases hab : a = b
    · subst hab
      have hne := isL_ne hb
      rw [if_pos rfl, if_neg hne]
      have : fitC a a = true := by simp [fitC]
      refine ⟨by omega, by rw [this]; simp⟩
    · rw [if_neg hab]
      by_cases hg : a.toNat = 45
      · rw [if_pos hg]
        have : fitC a b = true := by simp [fitC, hg]
        refine ⟨by omega, by rw [this]; simp⟩
      · rw [if_neg hg]
        have : fitC a b = false := by simp [fitC, hg, hab]
        refine ⟨by omega, by rw [this]; simp; omega⟩
  | [], _ :: _, h, _ => by simp at h
  | _ :: _, [], h, _ => by simp at h
theorem agree_le (p w : List UInt8) : agree p w ≤ p.length := by
  induction p generalizing w with
  | nil => exact Nat.le_refl _
  | cons a p ih =>
    cases w with
    | nil => exact Nat.zero_le _
    | cons b w =>
      have := ih w
      simp only [agree, List.length_cons]
      split <;> omega
theorem fitW_self {w : List UInt8} (h : wv w = true) : fitW w w = true := by
  unfold fitW
  have : fitL w w = true := fitL_good fun i h1 h2 => by simp [fitC]
  simp [pv_of_wv h, h, this]
theorem fitW_gaps {w : List UInt8} (h : wv w = true) : fitW (List.replicate w.length 45) w = true := by
  have hl := wv_length h
  unfold fitW
  have h1 : fitL (List.replicate w.length 45) w = true := fitL_good fun i h1 h2 => by simp [fitC]
  have h2 : pv (List.replicate w.length 45) = true := by
    rw [pv_all (by simpa using hl), List.all_eq_true]
    intro c hc
    rw [List.eq_of_mem_replicate hc]; rfl
  simp [h, h1, h2]

end Pl
end Go.Proofs.Ytcgihkapcfpjcaa
