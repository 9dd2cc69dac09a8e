/-
  The plain law of a crib dragged along two words in depth. Nothing of any program. No conditions but those that each theorem names.
-/
import Derived.Test.YtcgihkapcfpjcaaPlace
import Derived.Test.YtcgihkapcfpjcaaRead
namespace Go.Proofs.Ytcgihkapcfpjcaa
open Go.RowKit Pl
set_option linter.unusedVariables false

/-- what the crib c in place k of the word v tells of the other word x -/
def dragAt (v c x : List UInt8) (k : Nat) : List UInt8 := minusL ((x.drop k).take c.length) (minusL ((v.drop k).take c.length) c)
def dragOk (v c x : List UInt8) : Bool := wv v && wv c && wv x && (v.length == x.length)
def dragL (v c x : List UInt8) : List ByteArray := if dragOk v c x = true then (List.range (v.length + 1 - c.length)).map fun k => mk (dragAt v c x k) else []

theorem dragOk_parts {v c x : List UInt8} (h : dragOk v c x = true) : wv v = true ∧ wv c = true ∧ wv x = true ∧ v.length = x.length := by
  simp only [dragOk, Bool.and_eq_true, beq_iff_eq] at h
  exact ⟨h.1.1.1, h.1.1.2, h.1.2, h.2⟩
theorem length_dragL {v c x : List UInt8} (h : dragOk v c x = true) : (dragL v c x).length = v.length + 1 - c.length := by simp [dragL, h]
theorem dragL_get {v c x : List UInt8} (h : dragOk v c x = true) (k : Nat) (hk : k < (dragL v c x).length) : (dragL v c x)[k] = mk (dragAt v c x k) := by
  simp [dragL, h]
theorem dragL_no {v c x : List UInt8} (h : dragOk v c x = false) : dragL v c x = [] := by simp [dragL, h]

theorem minusL_letters {v p : List UInt8} (hp : ∀ c ∈ p, isL c = true) : ∀ c ∈ minusL v p, isL c = true := by
  intro c hc
  unfold minusL at hc
  rw [List.mem_iff_getElem] at hc
  obtain ⟨i, hi, rfl⟩ := hc
  have hi' := hi
  rw [List.length_zipWith] at hi'
  rw [List.getElem_zipWith, minusC_let _ (isL_ne (hp _ (List.getElem_mem (show i < p.length by omega))))]
  exact isL_letter (Nat.mod_lt _ (by omega))
theorem combine_minus {v p : List UInt8} (hp : ∀ c ∈ p, isL c = true) : combine 9 v p = minusL v p := by
  unfold combine minusL
  apply List.ext_getElem
  · simp
  · intro i h1 h2
    rw [List.length_zipWith] at h1
    have hpi := hp _ (List.getElem_mem (show i < p.length by omega))
    have := dg_lt hpi
    rw [List.getElem_zipWith, List.getElem_zipWith, minusC_let _ (isL_ne hpi)]
    congr 1; omega
theorem minus_short (v c : List UInt8) : minusL (v.take c.length) c = minusL v c := by
  unfold minusL
  apply List.ext_getElem
  · simp; omega
  · intro i h1 h2
    simp
theorem minus_gaps (l : List UInt8) (k : Nat) (h : l.length = k) : minusL l (List.replicate k 45) = List.replicate k 45 := by
  unfold minusL
  apply List.ext_getElem
  · simp [h]
  · intro i h1 h2
    simp [minusC]
theorem minus_placed (v c : List UInt8) (k : Nat) (h : k + c.length ≤ v.length) :
    minusL v (List.replicate k 45 ++ c ++ List.replicate (v.length - k - c.length) 45) = List.replicate k 45 ++ minusL ((v.drop k).take c.length) c ++ List.replicate (v.length - k - c.length) 45 := by
  have hv : v = v.take k ++ (v.drop k).take c.length ++ v.drop (k + c.length) := by
    rw [List.append_assoc, ← List.drop_drop, List.take_append_drop, List.take_append_drop]
  have e1 := minus_gaps (v.take k) k (by simp; omega)
  have e2 := minus_gaps (v.drop (k + c.length)) (v.length - k - c.length) (by simp; omega)
  have h1 : (v.take k).length = (List.replicate k (45 : UInt8)).length := by simp; omega
  have h2 : (v.take k ++ (v.drop k).take c.length).length = (List.replicate k (45 : UInt8) ++ c).length := by simp; omega
  generalize hn : v.length - k - c.length = n at *
  generalize ha : v.take k = a at *
  generalize hb : (v.drop k).take c.length = b at *
  generalize hd : v.drop (k + c.length) = d at *
  rw [hv]
  unfold minusL at *
  rw [List.zipWith_append h2, List.zipWith_append h1, e1, e2]

theorem length_dragAt {v c x : List UInt8} {k : Nat} (h : k + c.length ≤ v.length) (hx : v.length = x.length) : (dragAt v c x k).length = c.length := by
  simp [dragAt, minusL]; omega
theorem part_wv {l : List UInt8} (h : wv l = true) (k n : Nat) : wv ((l.drop k).take n) = true := by
  have hl := wv_length h
  rw [wv_all (by simp; omega), List.all_eq_true]
  intro c hc
  exact wv_mem h (List.mem_of_mem_drop (List.mem_of_mem_take hc))
theorem wv_minus {v p : List UInt8} (hp : wv p = true) : wv (minusL v p) = true := by
  have hl := wv_length hp
  rw [wv_all (by simp [minusL]; omega), List.all_eq_true]
  exact minusL_letters fun c hc => wv_mem hp hc

/-- one place: the crib laid in it, read against the other word, is what dragAt tells, laid in the same place -/
theorem drag_place {v c x : List UInt8} (h : dragOk v c x = true) (k : Nat) (hk : k + c.length ≤ v.length) :
    ∃ p m q, placeW c k v.length = some p ∧ minusW v p = some m ∧ minusW x m = some q ∧ placeW (dragAt v c x k) k v.length = some q := by
  obtain ⟨h1, h2, h3, h4⟩ := dragOk_parts h
  have hl := wv_length h1
  have hlc := wv_length h2
  have hm : ((v.drop k).take c.length).length = c.length := by simp; omega
  have hlm : (minusL ((v.drop k).take c.length) c).length = c.length := by simp [minusL]; omega
  have gap : ∀ (a b : Nat) (l : List UInt8), wv l = true → a + l.length + b ≤ 200 → pv (List.replicate a 45 ++ l ++ List.replicate b 45) = true := by
    intro a b l hw hle
    rw [pv_all (by simp; omega), List.all_eq_true]
    intro y hy
    simp only [List.mem_append, List.mem_replicate] at hy
    rcases hy with (⟨_, rfl⟩ | hy) | ⟨_, rfl⟩
    · rfl
    · exact isP_of_isL (wv_mem hw hy)
    · rfl
  have e1 : placeW c k v.length = some (List.replicate k 45 ++ c ++ List.replicate (v.length - k - c.length) 45) := by
    unfold placeW; rw [if_pos ⟨h2, by omega, by omega, by omega, by omega⟩]; simp
  have e2 : minusW v (List.replicate k 45 ++ c ++ List.replicate (v.length - k - c.length) 45) = some (List.replicate k 45 ++ minusL ((v.drop k).take c.length) c ++ List.replicate (v.length - k - c.length) 45) := by
    rw [minusW_ok ⟨h1, gap _ _ _ h2 (by omega), by simp; omega⟩, minus_placed v c k hk]
  have e3 := minus_placed x (minusL ((v.drop k).take c.length) c) k (by omega)
  rw [hlm, ← h4] at e3
  refine ⟨_, _, _, e1, e2, minusW_ok ⟨h3, gap _ _ _ (wv_minus h2) (by omega), by simp [hlm]; omega⟩, ?_⟩
  rw [e3]
  have hld := length_dragAt (v := v) (c := c) (x := x) (k := k) hk h4
  unfold placeW
  rw [if_pos ⟨wv_minus (wv_minus h2), by omega, by omega, by omega, by rw [hld]; omega⟩, hld]
  simp [dragAt]

end Go.Proofs.Ytcgihkapcfpjcaa
