/-
  Plain laws of the insertion sort of a key's places: it is stable, and so it gives the places letter by letter. No program in sight.
-/
import Derived.Test.YteeeaeidocalnaaGreatDoorPlainX
import Derived.Sort.LotA
import Derived.Sort.WalkA
namespace Go.Proofs.YteeeaeidocalnaaGreatDoor
open Pl Go.Sort
set_option linter.unusedVariables false

def ltK (k : List UInt8) {n : Nat} (x y : Fin n) : Bool := decide (kd k x.val < kd k y.val)
instance (k : List UInt8) (a b : Nat) : Decidable (klt k a b) := inferInstanceAs (Decidable (_ ∨ _))
def ltX (k : List UInt8) {n : Nat} (x y : Fin n) : Bool := decide (klt k x.val y.val)
theorem ltX_same {k : List UInt8} {n : Nat} {x y : Fin n} (h : y.val < x.val) : ltX k x y = ltK k x y := by
  unfold ltX ltK
  rw [Bool.eq_iff_iff, decide_eq_true_eq, decide_eq_true_eq]
  unfold klt
  omega
theorem swo_X (k : List UInt8) (n : Nat) : SWO (ltX k (n := n)) where
  irrefl x := by unfold ltX; exact decide_eq_false (klt_irrefl k _)
  trans x y z h1 h2 := by
    unfold ltX at *
    rw [decide_eq_true_eq] at *
    exact klt_trans h1 h2
  ntrans x y z h1 h2 := by
    unfold ltX at *
    rw [decide_eq_false_iff_not] at *
    unfold klt at *
    omega
section
variable {n : Nat} [Inhabited (Fin n)] (k : List UInt8)
theorem inner_same : ∀ (j : Nat) (d : Array (Fin n)), j < d.size → (∀ m, m < j → (d[m]!).val < (d[j]!).val) → insInner (ltK k) 0 j d = insInner (ltX k) 0 j d
  | 0, d, _, _ => by rw [insInner_stop _ _ _ _ (.inl (Nat.le_refl _)), insInner_stop _ _ _ _ (.inl (Nat.le_refl _))]
  | j + 1, d, hj, h => by
    have hlt := h j (by omega)
    have hs : ltX k d[j + 1]! d[j]! = ltK k d[j + 1]! d[j]! := ltX_same hlt
    cases hv : ltK k d[j + 1]! d[j]! with
    | false =>
      rw [insInner_stop _ _ _ _ (.inr (by rw [Nat.add_sub_cancel]; exact hv)), insInner_stop _ _ _ _ (.inr (by rw [Nat.add_sub_cancel, hs]; exact hv))]
    | true =>
      rw [insInner_go (ltK k) 0 (j + 1) d (by omega) (by rw [Nat.add_sub_cancel]; exact hv), insInner_go (ltX k) 0 (j + 1) d (by omega) (by rw [Nat.add_sub_cancel, hs]; exact hv), Nat.add_sub_cancel]
      refine inner_same j _ (by rw [swp_size]; omega) fun m hm => ?_
      rw [swp_right d (j + 1) j (by omega), swp_other d (j + 1) j m (by omega) (by omega)]
      exact h m (by omega)
theorem inner_keeps (lt : Fin n → Fin n → Bool) (i : Nat) : ∀ (j : Nat) (d : Array (Fin n)), j ≤ i → i < d.size → (∀ m, m ≤ i → (d[m]!).val ≤ i) →
    (insInner lt 0 j d).size = d.size ∧ (∀ m, m ≤ i → ((insInner lt 0 j d)[m]!).val ≤ i) ∧ ∀ m, i < m → (insInner lt 0 j d)[m]! = d[m]!
  | 0, d, _, _, h => by rw [insInner_stop _ _ _ _ (.inl (Nat.le_refl _))]; exact ⟨rfl, h, fun _ _ => rfl⟩
  | j + 1, d, hj, hi, h => by
    cases hv : lt d[j + 1]! d[j]! with
    | false => rw [insInner_stop _ _ _ _ (.inr (by rw [Nat.add_sub_cancel]; exact hv))]; exact ⟨rfl, h, fun _ _ => rfl⟩
    | true =>
      rw [insInner_go _ _ _ _ (by omega) (by rw [Nat.add_sub_cancel]; exact hv), Nat.add_sub_cancel]
      obtain ⟨h1, h2, h3⟩ := inner_keeps lt i j (swp d (j + 1) j) (by omega) (by rw [swp_size]; exact hi) (fun m hm => by
        by_cases e1 : m = j + 1
        · subst e1; rw [swp_left d (j + 1) j (by omega) (by omega)]; exact h j (by omega)
        · by_cases e2 : m = j
          · subst e2; rw [swp_right d (m + 1) m (by omega)]; exact h (m + 1) hj
          · rw [swp_other d (j + 1) j m e1 e2]; exact h m hm)
      refine ⟨by rw [h1, swp_size], h2, fun m hm => ?_⟩
      rw [h3 m hm, swp_other d (j + 1) j m (by omega) (by omega)]
theorem outer_same (b : Nat) : ∀ (f i : Nat) (d : Array (Fin n)), b - i ≤ f → b ≤ d.size → 1 ≤ i → (∀ m, m < i → (d[m]!).val < i) → (∀ m, i ≤ m → m < b → (d[m]!).val = m) →
    insOuter (ltK k) 0 b i d = insOuter (ltX k) 0 b i d
  | 0, i, d, hf, hb, h1, h2, h3 => by rw [insOuter_stop _ _ _ _ _ (by omega), insOuter_stop _ _ _ _ _ (by omega)]
  | f + 1, i, d, hf, hb, h1, h2, h3 => by
    by_cases hib : i < b
    · rw [insOuter_go _ _ _ _ _ hib, insOuter_go _ _ _ _ _ hib]
      have hin := inner_same k i d (by omega) (fun m hm => by rw [h3 i (Nat.le_refl _) hib]; exact h2 m hm)
      rw [hin]
      obtain ⟨k1, k2, k3⟩ := inner_keeps (ltX k) i i d (Nat.le_refl _) (by omega) (fun m hm => by
        by_cases e : m = i
        · subst e; rw [h3 m (Nat.le_refl _) hib]; exact Nat.le_refl _
        · exact Nat.le_of_lt (h2 m (by omega)))
      refine outer_same b f (i + 1) _ (by omega) (by rw [k1]; exact hb) (by omega) (fun m hm => Nat.lt_succ_of_le (k2 m (by omega))) (fun m hm hmb => ?_)
      rw [k3 m (by omega)]
      exact h3 m (by omega) hmb
    · rw [insOuter_stop _ _ _ _ _ hib, insOuter_stop _ _ _ _ _ hib]
/-- sorted by the letters, from the order in which they stand: the places letter by letter -/
theorem kord_sorts (hw : wv k = true) (hn : n = k.length) (h1 : 1 ≤ n) (d : Array (Fin n)) (hd : d.toList.map Fin.val = List.range n) :
    ((insertionSort (ltK k) d 0 n).toList.map Fin.val) = kord k ∧ (insertionSort (ltK k) d 0 n).size = n := by
  have hs : d.size = n := by have := congrArg List.length hd; simpa using this
  have hat : ∀ m, m < n → (d[m]!).val = m := fun m hm => by
    have h := congrArg (fun l => l[m]?) hd
    simp only [List.getElem?_map, Array.getElem?_toList, List.getElem?_range hm] at h
    rw [getElem!_pos d m (by omega)]
    rw [Array.getElem?_eq_getElem (by omega)] at h
    simpa using h
  have heq : insertionSort (ltK k) d 0 n = insertionSort (ltX k) d 0 n := by
    unfold insertionSort
    exact outer_same k n n 1 d (by omega) (by omega) (Nat.le_refl _) (fun m hm => by rw [hat m (by omega)]; omega) (fun m _ hm => hat m hm)
  rw [heq]
  obtain ⟨hp, hso⟩ := insertionSort_holds (lt := ltX k) (swo_X k n) d 0 n (Nat.zero_le _) (by omega)
  obtain ⟨D, hD⟩ : ∃ D, D = insertionSort (ltX k) d 0 n := ⟨_, rfl⟩
  rw [← hD] at hp hso ⊢
  have hDs : D.size = n := by rw [hp.1, hs]
  refine ⟨?_, hDs⟩
  have hperm : D.toList.Perm d.toList := by
    have := hp.2.2
    have e1 : D.extract 0 n = D := Array.extract_eq_self_of_le (by omega)
    have e2 : d.extract 0 n = d := Array.extract_eq_self_of_le (by omega)
    rw [e1, e2] at this
    exact this
  refine kord_uniq hw ?_ ?_
  · rw [← hn, ← hd]; exact hperm.map _
  · rw [List.pairwise_map, List.pairwise_iff_getElem]
    intro i j hi hj hij
    rw [Array.length_toList] at hi hj
    have h := hso i j (Nat.zero_le _) hij (by omega)
    rw [getElem!_pos D j hj, getElem!_pos D i hi] at h
    unfold ltX at h
    rw [decide_eq_false_iff_not] at h
    have hne : D[i].val ≠ D[j].val := by
      have hnd : D.toList.Nodup := by
        rw [hperm.nodup_iff]
        have h2 : (d.toList.map Fin.val).Nodup := by rw [hd]; exact List.nodup_range
        exact List.Pairwise.of_map _ (fun a b hab e => hab (congrArg Fin.val e)) h2
      intro e
      have := List.pairwise_iff_getElem.1 hnd i j (by simpa using hi) (by simpa using hj) hij
      exact this (by simpa using Fin.ext e)
    simp only [Array.getElem_toList]
    unfold klt at h ⊢
    omega
end

end Go.Proofs.YteeeaeidocalnaaGreatDoor
