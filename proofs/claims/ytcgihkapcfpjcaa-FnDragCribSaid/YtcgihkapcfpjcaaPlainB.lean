/-
  Plain laws of sums, differences and gapped words; nothing of the program. No conditions but those that each theorem names.
-/
import Derived.Test.YtcgihkapcfpjcaaPlain
namespace Go.Proofs.Ytcgihkapcfpjcaa
set_option linter.unusedVariables false
namespace Pl

theorem eq45 {p : UInt8} (h : p.toNat = 45) : p = 45 := UInt8.toNat_inj.1 (by rw [h]; rfl)
theorem minusC_gap (c : UInt8) {p : UInt8} (h : p.toNat = 45) : minusC c p = 45 := by unfold minusC; rw [if_pos h]
theorem minusC_let (c : UInt8) {p : UInt8} (h : p.toNat ≠ 45) : minusC c p = letter ((dg c + (10 - dg p)) % 10) := by unfold minusC; rw [if_neg h]
theorem letter_ne {n : Nat} (h : n < 10) : (letter n).toNat ≠ 45 := by rw [toNat_letter h]; omega
theorem minusC_gap_iff (c p : UInt8) : (minusC c p).toNat = 45 ↔ p.toNat = 45 := by
  by_cases h : p.toNat = 45
  · rw [minusC_gap c h]; simp [h]
  · rw [minusC_let c h]; simp [h, letter_ne (show (dg c + (10 - dg p)) % 10 < 10 by omega)]
theorem minusC_twice {c p : UInt8} (hc : isL c = true) (hp : isP p = true) : minusC c (minusC c p) = p := by
  by_cases h : p.toNat = 45
  · rw [minusC_gap c h, minusC_gap c (by rfl), eq45 h]
  · have hl := isL_of_isP hp h
    have h1 := dg_lt hc
    have h2 := dg_lt hl
    rw [minusC_let c h, minusC_let c (letter_ne (by omega)), dg_letter (by omega)]
    rw [show (dg c + (10 - (dg c + (10 - dg p)) % 10)) % 10 = dg p by omega, letter_dg hl]
theorem minusL_twice {v p : List UInt8} (hv : ∀ c ∈ v, isL c = true) (hp : ∀ c ∈ p, isP c = true) (h : v.length = p.length) : minusL v (minusL v p) = p := by
  apply List.ext_getElem
  · simp [minusL]; omega
  · intro i h1 h2
    simp only [minusL, List.getElem_zipWith]
    exact minusC_twice (hv _ (List.getElem_mem _)) (hp _ (List.getElem_mem _))
theorem minusC_isP' {c p : UInt8} : isP (minusC c p) = true := by
  unfold minusC
  split
  · decide
  · exact isP_of_isL (isL_letter (by omega))
theorem pv_minus {v p : List UInt8} (hp : pv p = true) (h : v.length = p.length) : pv (minusL v p) = true := by
  have hl := pv_length hp
  rw [pv_all (by rw [length_minusL _ _ (by omega)]; exact hl), List.all_eq_true]
  intro c hc
  unfold minusL at hc
  rw [List.mem_iff_getElem] at hc
  obtain ⟨i, hi, rfl⟩ := hc
  rw [List.getElem_zipWith]
  exact minusC_isP'
theorem minusW_back {v p r : List UInt8} (h : minusW v p = some r) : minusW v r = some p := by
  unfold minusW at h
  split at h
  · rename_i hc
    injection h with h
    subst h
    obtain ⟨h1, h2, h3⟩ := hc
    unfold minusW
    rw [if_pos ⟨h1, pv_minus h2 h3, by rw [length_minusL _ _ (by omega)]; exact h3⟩, minusL_twice (fun c hc => wv_mem h1 hc) (fun c hc => pv_mem h2 hc) h3]
  · cases h
theorem minusW_len {v p r : List UInt8} (h : minusW v p = some r) : r.length = p.length ∧ v.length = p.length ∧ p.length ≤ 200 := by
  unfold minusW at h
  split at h
  · rename_i hc
    injection h with h
    subst h
    exact ⟨length_minusL _ _ (by omega), hc.2.2, pv_length hc.2.1⟩
  · cases h
theorem minusW_gap {v p r : List UInt8} (h : minusW v p = some r) (i : Nat) (h1 : i < r.length) (h2 : i < p.length) : r[i].toNat = 45 ↔ p[i].toNat = 45 := by
  unfold minusW at h
  split at h
  · injection h with h
    subst h
    simp only [minusL, List.getElem_zipWith]
    exact minusC_gap_iff _ _
  · cases h
theorem combineW_some_iff {t : Nat} {v w r : List UInt8} (h : combineW t v w = some r) : wv v = true ∧ wv w = true ∧ v.length = w.length ∧ r = combine t v w := by
  unfold combineW at h
  split at h
  · rename_i hc
    injection h with h
    exact ⟨hc.1, hc.2.1, hc.2.2, h.symm⟩
  · cases h
theorem combineW_ok {t : Nat} {v w : List UInt8} (h : wv v = true ∧ wv w = true ∧ v.length = w.length) : combineW t v w = some (combine t v w) := by
  unfold combineW; rw [if_pos h]
theorem length_combine (t : Nat) (v w : List UInt8) (h : v.length = w.length) : (combine t v w).length = v.length := by simp [combine]; omega
theorem wv_combine {t : Nat} {v w : List UInt8} (hv : wv v = true) (h : v.length = w.length) : wv (combine t v w) = true := by
  have hl := wv_length hv
  rw [wv_all (by rw [length_combine t v w h]; exact hl), List.all_eq_true]
  intro c hc
  unfold combine at hc
  rw [List.mem_iff_getElem] at hc
  obtain ⟨i, hi, rfl⟩ := hc
  rw [List.getElem_zipWith]
  exact isL_letter (by omega)

/-- is the letter at i taken away? -/
def gapAt (cs : List UInt8) (i : Nat) : Bool := decide (0 < cs.length) && ((cs.getD (i % cs.length) 0).toNat % 3 == 0)
/-- a word with some letters taken away -/
def partly (w cs : List UInt8) : List UInt8 := w.mapIdx fun i c => if gapAt cs i then 45 else c
theorem length_partly (w cs : List UInt8) : (partly w cs).length = w.length := by simp [partly]
theorem partly_get (w cs : List UInt8) (i : Nat) (h : i < w.length) : (partly w cs)[i]'(by rw [length_partly]; exact h) = if gapAt cs i then 45 else w[i] := by simp [partly]
theorem pv_partly {w : List UInt8} (cs : List UInt8) (h : wv w = true) : pv (partly w cs) = true := by
  have hl := wv_length h
  rw [pv_all (by rw [length_partly]; exact hl), List.all_eq_true]
  intro c hc
  rw [List.mem_iff_getElem] at hc
  obtain ⟨i, hi, rfl⟩ := hc
  rw [length_partly] at hi
  rw [partly_get w cs i hi]
  split
  · decide
  · exact isP_of_isL (wv_mem h (List.getElem_mem _))
theorem add_minus {a b : UInt8} (ha : isL a = true) (hb : isL b = true) : minusC (letter ((dg a + 1 * dg b) % 10)) b = a := by
  have h1 := dg_lt ha
  have h2 := dg_lt hb
  rw [minusC_let _ (isL_ne hb), dg_letter (by omega), show ((dg a + 1 * dg b) % 10 + (10 - dg b)) % 10 = dg a by omega, letter_dg ha]
theorem add_minus' {a b : UInt8} (ha : isL a = true) (hb : isL b = true) : minusC (letter ((dg a + 1 * dg b) % 10)) a = b := by
  have h1 := dg_lt ha
  have h2 := dg_lt hb
  rw [minusC_let _ (isL_ne ha), dg_letter (by omega), show ((dg a + 1 * dg b) % 10 + (10 - dg a)) % 10 = dg b by omega, letter_dg hb]
theorem read_partly {w key r : List UInt8} (cs : List UInt8) (h : combineW 1 w key = some r) : minusW r (partly key cs) = some (partly w cs) := by
  obtain ⟨h1, h2, h3, rfl⟩ := combineW_some_iff h
  unfold minusW
  rw [if_pos ⟨wv_combine h1 h3, pv_partly cs h2, by rw [length_combine _ _ _ h3, length_partly]; exact h3⟩]
  congr 1
  apply List.ext_getElem
  · simp [minusL, combine, partly]; omega
  · intro i hi1 hi2
    rw [length_partly] at hi2
    simp only [minusL, List.getElem_zipWith, combine]
    rw [partly_get _ _ _ hi2, partly_get _ _ _ (by omega)]
    split
    · exact minusC_gap _ (by rfl)
    · exact add_minus (wv_mem h1 (List.getElem_mem _)) (wv_mem h2 (List.getElem_mem _))
theorem read_whole {w key r : List UInt8} (h : combineW 1 w key = some r) : minusW r key = some w := by
  have := read_partly [] h
  have e : ∀ l : List UInt8, partly l [] = l := fun l => by
    apply List.ext_getElem (length_partly _ _)
    intro i h1 h2
    rw [partly_get _ _ _ h2]; simp [gapAt]
  rwa [e, e] at this
theorem key_whole {w key r : List UInt8} (h : combineW 1 w key = some r) : minusW r w = some key := by
  obtain ⟨h1, h2, h3, rfl⟩ := combineW_some_iff h
  unfold minusW
  rw [if_pos ⟨wv_combine h1 h3, pv_of_wv h1, length_combine _ _ _ h3⟩]
  congr 1
  apply List.ext_getElem
  · simp [minusL, combine]; omega
  · intro i hi1 hi2
    simp only [minusL, List.getElem_zipWith, combine]
    exact add_minus' (wv_mem h1 (List.getElem_mem _)) (wv_mem h2 (List.getElem_mem _))
/-- the known letters of two gapped words, in one place -/
def mergeC (p q : UInt8) : Option UInt8 := if p.toNat = 45 then some q else if q.toNat ≠ 45 ∧ q ≠ p then none else some p
def mergeL : List UInt8 → List UInt8 → Option (List UInt8)
  | p :: ps, q :: qs => match mergeC p q with
    | some c => match mergeL ps qs with
      | some l => some (c :: l)
      | none => none
    | none => none
  | _, _ => some []
def mergeW (p q : List UInt8) : Option (List UInt8) := if pv p = true ∧ pv q = true ∧ p.length = q.length then mergeL p q else none
theorem mergeL_some : ∀ (p q : List UInt8), p.length = q.length → (∀ i (h1 : i < p.length) (h2 : i < q.length), (mergeC p[i] q[i]).isSome = true) →
    mergeL p q = some (List.zipWith (fun a b => (mergeC a b).getD 0) p q)
  | [], [], _, _ => rfl
  | [], _ :: _, h, _ => by simp at h
  | _ :: _, [], h, _ => by simp at h
  | p :: ps, q :: qs, h, hs => by
    have h0 := hs 0 (by simp) (by simp)
    have ih := mergeL_some ps qs (by simpa using h) (fun i h1 h2 => by
      have := hs (i + 1) (by simp; exact h1) (by simp; exact h2)
      rwa [List.getElem_cons_succ, List.getElem_cons_succ] at this)
    simp only [List.getElem_cons_zero] at h0
    obtain ⟨c, hc⟩ := Option.isSome_iff_exists.1 h0
    simp [mergeL, hc, ih]
theorem mergeL_none : ∀ (p q : List UInt8) (i : Nat) (h1 : i < p.length) (h2 : i < q.length), mergeC p[i] q[i] = none → mergeL p q = none
  | p :: ps, q :: qs, 0, _, _, h => by simp at h; simp [mergeL, h]
  | p :: ps, q :: qs, i + 1, h1, h2, h => by
    have ih := mergeL_none ps qs i (by simpa using h1) (by simpa using h2) (by simpa using h)
    simp only [mergeL, ih]
    cases mergeC p q <;> rfl
theorem mergeL_all {p q l : List UInt8} (hl : p.length = q.length) (h : mergeL p q = some l) (i : Nat) (h1 : i < p.length) (h2 : i < q.length) : ∃ c, mergeC p[i] q[i] = some c := by
  cases hm : mergeC p[i] q[i] with
  | some c => exact ⟨c, rfl⟩
  | none => rw [mergeL_none p q i h1 h2 hm] at h; cases h
theorem mergeL_eq {p q l : List UInt8} (hl : p.length = q.length) (h : mergeL p q = some l) : l = List.zipWith (fun a b => (mergeC a b).getD 0) p q := by
  have := mergeL_some p q hl (fun i h1 h2 => by obtain ⟨c, hc⟩ := mergeL_all hl h i h1 h2; simp [hc])
  rw [this] at h; injection h with h; exact h.symm
theorem mergeL_bad {p q : List UInt8} (hl : p.length = q.length) (h : mergeL p q = none) : ∃ i, ∃ (h1 : i < p.length) (h2 : i < q.length), mergeC p[i] q[i] = none := by
  apply Classical.byContradiction
  intro hn
  rw [mergeL_some p q hl (fun i h1 h2 => by
    cases hm : mergeC p[i] q[i] with
    | some c => rfl
    | none => exact absurd ⟨i, h1, h2, hm⟩ hn)] at h
  cases h
/-- how many letters are known -/
def kn (l : List UInt8) : Nat := (l.filter fun c => c.toNat != 45).length
def kcount (l : List UInt8) : Int := if pv l = true then (kn l : Int) else -1
theorem kn_le (l : List UInt8) : kn l ≤ l.length := List.length_filter_le _ _
theorem kn_count (l : List UInt8) : kn l + l.count 45 = l.length := by
  induction l with
  | nil => rfl
  | cons c l ih =>
    by_cases h : c.toNat = 45
    · have e : c = 45 := eq45 h
      subst e
      simp [kn] at ih ⊢; omega
    · have e : c ≠ 45 := fun e => h (by rw [e]; rfl)
      have hb : (c.toNat != 45) = true := by simpa using h
      have h2 : kn (c :: l) = kn l + 1 := by simp [kn, hb]
      rw [h2, List.count_cons_of_ne e]; simp; omega
theorem kn_snoc (l : List UInt8) (c : UInt8) : kn (l ++ [c]) = kn l + if c.toNat = 45 then 0 else 1 := by
  unfold kn
  rw [List.filter_append, List.length_append]
  by_cases h : c.toNat = 45 <;> simp [h]
/-- has a word the known letters of a gapped word? -/
def fitC (p w : UInt8) : Bool := (p.toNat == 45) || (p == w)
def fitL (p w : List UInt8) : Bool := (List.zipWith fitC p w).all id
def fitW (p w : List UInt8) : Bool := decide (pv p = true ∧ wv w = true ∧ p.length = w.length) && fitL p w
theorem fitL_bad {p w : List UInt8} {i : Nat} (h1 : i < p.length) (h2 : i < w.length) (h : fitC p[i] w[i] = false) : fitL p w = false := by
  unfold fitL
  rw [List.all_eq_false]
  refine ⟨(List.zipWith fitC p w)[i]'(by simp; omega), List.getElem_mem _, ?_⟩
  rw [List.getElem_zipWith, h]; simp
theorem fitL_good {p w : List UInt8} (h : ∀ i (h1 : i < p.length) (h2 : i < w.length), fitC p[i] w[i] = true) : fitL p w = true := by
  unfold fitL
  rw [List.all_eq_true]
  intro x hx
  rw [List.mem_iff_getElem] at hx
  obtain ⟨i, hi, rfl⟩ := hx
  rw [List.getElem_zipWith]
  simp at hi
  exact h i (by omega) (by omega)
theorem fitL_at {p w : List UInt8} (h : fitL p w = true) {i : Nat} (h1 : i < p.length) (h2 : i < w.length) : fitC p[i] w[i] = true := by
  cases hb : fitC p[i] w[i] with
  | true => rfl
  | false => rw [fitL_bad h1 h2 hb] at h; cases h
theorem str_beq (p : ByteArray) : ((mk (tl p)).toList == p.toList) = true := by rw [mk_tl]; simp

end Pl
end Go.Proofs.Ytcgihkapcfpjcaa
