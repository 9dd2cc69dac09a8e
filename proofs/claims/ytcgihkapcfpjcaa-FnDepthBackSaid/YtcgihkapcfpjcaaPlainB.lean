/-
  Plain laws of sums, differences and partial words; nothing of the program. No conditions but those that each theorem names.
-/
import Derived.Test.YtcgihkapcfpjcaaPlain
namespace Go.Proofs.Ytcgihkapcfpjcaa
namespace Pl

theorem eq45 {p : UInt8} (h : p.toNat = 45) : p = 45 := UInt8.toNat_inj.1 (by rw [h]; rfl)
theorem minusC_gap (c : UInt8) {p : UInt8} (h : p.toNat = 45) : minusC c p = 45 := by unfold minusC; rw [if_pos h]
theorem minusC_let (c : UInt8) {p : UInt8} (h : p.toNat ≠ 45) : minusC c p = letter ((dg c + (10 - dg p)) % 10) := by unfold minusC; rw [if_neg h]
theorem letter_ne {n : Nat} (h : n < 10) : (letter n).toNat ≠ 45 := by rw [toNat_letter h]; omega
theorem minusC_gap_iff (c p : UInt8) : (minusC c p).toNat = 45 ↔ p.toNat = 45 := by
  by_cases h : p.toNat = 45
  · rw [minusC_gap c h]; simp [h]
  · rw [minusC_let c h]; simp [h, letter_ne (show (dg c + (10 - dg p)) % 10 < 10 by omega)]
theorem minusC_twice {c p : UInt8} (hc : isL c = true) (hp : isP p = true) : minusC c (minusC c p) = p := by
  by_cases h : p.toNat = 45
  · rw [minusC_gap c h, minusC_gap c (by rfl), eq45 h]
  · have hl := isL_of_isP hp h
    have h1 := dg_lt hc
    have h2 := dg_lt hl
    rw [minusC_let c h, minusC_let c (letter_ne (by omega)), dg_letter (by omega)]
    rw [show (dg c + (10 - (dg c + (10 - dg p)) % 10)) % 10 = dg p by omega, letter_dg hl]
theorem minusL_twice {v p : List UInt8} (hv : ∀ c ∈ v, isL c = true) (hp : ∀ c ∈ p, isP c = true) (h : v.length = p.length) : minusL v (minusL v p) = p := by
  apply List.ext_getElem
  · simp [minusL]; omega
  · intro i h1 h2
    simp only [minusL, List.getElem_zipWith]
    exact minusC_twice (hv _ (List.getElem_mem _)) (hp _ (List.getElem_mem _))
theorem minusC_isP' {c p : UInt8} : isP (minusC c p) = true := by
  unfold minusC
  split
  · decide
  · exact isP_of_isL (isL_letter (by omega))
theorem pv_minus {v p : List UInt8} (hp : pv p = true) (h : v.length = p.length) : pv (minusL v p) = true := by
  have hl := pv_length hp
  rw [pv_all (by rw [length_minusL _ _ (by omega)]; exact hl), List.all_eq_true]
  intro c hc
  unfold minusL at hc
  rw [List.mem_iff_getElem] at hc
  obtain ⟨i, hi, rfl⟩ := hc
  rw [List.getElem_zipWith]
  exact minusC_isP'
theorem minusW_back {v p r : List UInt8} (h : minusW v p = some r) : minusW v r = some p := by
  unfold minusW at h
  split at h
  · rename_i hc
    injection h with h
    subst h
    obtain ⟨h1, h2, h3⟩ := hc
    unfold minusW
    rw [if_pos ⟨h1, pv_minus h2 h3, by rw [length_minusL _ _ (by omega)]; exact h3⟩, minusL_twice (fun c hc => wv_mem h1 hc) (fun c hc => pv_mem h2 hc) h3]
  · cases h
theorem minusW_len {v p r : List UInt8} (h : minusW v p = some r) : r.length = p.length ∧ v.length = p.length ∧ p.length ≤ 200 := by
  unfold minusW at h
  split at h
  · rename_i hc
    injection h with h
    subst h
    exact ⟨length_minusL _ _ (by omega), hc.2.2, pv_length hc.2.1⟩
  · cases h
theorem minusW_gap {v p r : List UInt8} (h : minusW v p = some r) (i : Nat) (h1 : i < r.length) (h2 : i < p.length) : r[i].toNat = 45 ↔ p[i].toNat = 45 := by
  unfold minusW at h
  split at h
  · injection h with h
    subst h
    simp only [minusL, List.getElem_zipWith]
    exact minusC_gap_iff _ _
  · cases h
theorem str_beq (p : ByteArray) : ((mk (tl p)).toList == p.toList) = true := by rw [mk_tl]; simp

end Pl
end Go.Proofs.Ytcgihkapcfpjcaa
