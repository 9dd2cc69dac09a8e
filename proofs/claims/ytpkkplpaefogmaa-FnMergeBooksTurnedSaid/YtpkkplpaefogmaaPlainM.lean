/-
  Plain laws of merged books. No conditions but those that each theorem names.
-/
import Derived.Test.YtpkkplpaefogmaaPlainS
namespace Go.Proofs.Ytpkkplpaefogmaa
open Go.RowKit Pl
set_option linter.unusedVariables false

open Classical in
/-- the entries of the first book, then those of the second one that are missing -/
noncomputable def mergeL (a b : List Ent) : List Ent := a ++ b.filter fun e => !decide (e ∈ a)
open Classical in
/-- the merged book -/
noncomputable def mergeW (a b : List Ent) : Option (List Ent) := if bookV a ∧ bookV b ∧ bookV (mergeL a b) then some (mergeL a b) else none
theorem mergeW_ok {a b : List Ent} (h : bookV a ∧ bookV b ∧ bookV (mergeL a b)) : mergeW a b = some (mergeL a b) := if_pos h
theorem mergeW_no {a b : List Ent} (h : ¬ (bookV a ∧ bookV b ∧ bookV (mergeL a b))) : mergeW a b = none := if_neg h
theorem mergeW_some {a b l : List Ent} (h : mergeW a b = some l) : (bookV a ∧ bookV b ∧ bookV (mergeL a b)) ∧ l = mergeL a b := by
  unfold mergeW at h
  split at h
  · rename_i hc; injection h with h; exact ⟨hc, h.symm⟩
  · cases h
open Classical in
theorem merge_snoc (a b : List Ent) (k : Nat) (hk : k < b.length) : mergeL a (b.take (k + 1)) = if b[k] ∈ a then mergeL a (b.take k) else mergeL a (b.take k) ++ [b[k]] := by
  unfold mergeL
  rw [List.take_succ_eq_append_getElem hk, List.filter_append]
  by_cases h : b[k] ∈ a
  · rw [if_pos h]; simp [h]
  · rw [if_neg h]; simp [h]
open Classical in
theorem merge_length (a b : List Ent) : (mergeL a b).length ≤ a.length + b.length := by
  unfold mergeL; rw [List.length_append]; have := List.length_filter_le (fun e => !decide (e ∈ a)) b; omega
open Classical in
theorem mem_mergeL {a b : List Ent} {e : Ent} : e ∈ mergeL a b ↔ e ∈ a ∨ e ∈ b := by
  unfold mergeL
  rw [List.mem_append, List.mem_filter]
  by_cases h : e ∈ a <;> simp [h]
theorem nodup_of_bookP {a : List Ent} (h : bookP a) : a.Nodup := h.2.imp fun {x y} hxy e => hxy.1 (by rw [e])
theorem merge_nodup {a b : List Ent} (ha : bookP a) (hb : bookP b) : (mergeL a b).Nodup := by
  unfold mergeL
  rw [List.nodup_append]
  refine ⟨nodup_of_bookP ha, (nodup_of_bookP hb).filter _, fun x hx y hy e => ?_⟩
  subst e
  rw [List.mem_filter] at hy
  simp [hx] at hy
theorem merge_perm {a b : List Ent} (ha : bookP a) (hb : bookP b) : (mergeL a b).Perm (mergeL b a) :=
  (List.perm_ext_iff_of_nodup (merge_nodup ha hb) (merge_nodup hb ha)).2 fun e => by rw [mem_mergeL, mem_mergeL, or_comm]
theorem merge_turned (a b : List Ent) : (mergeW a b).isSome = (mergeW b a).isSome ∧ ∀ l m, mergeW a b = some l → mergeW b a = some m → l.Perm m := by
  by_cases ha : bookV a
  · by_cases hb : bookV b
    · have hp := merge_perm ha.2 hb.2
      by_cases hm : bookV (mergeL a b)
      · have hm' := (bookV_perm hp).1 hm
        rw [mergeW_ok ⟨ha, hb, hm⟩, mergeW_ok ⟨hb, ha, hm'⟩]
        refine ⟨rfl, fun l m h1 h2 => ?_⟩
        injection h1 with h1; injection h2 with h2; subst h1; subst h2; exact hp
      · have hm' : ¬ bookV (mergeL b a) := fun h => hm ((bookV_perm hp).2 h)
        rw [mergeW_no fun h => hm h.2.2, mergeW_no fun h => hm' h.2.2]
        exact ⟨rfl, fun l m h1 => by cases h1⟩
    · rw [mergeW_no fun h => hb h.2.1, mergeW_no fun h => hb h.1]
      exact ⟨rfl, fun l m h1 => by cases h1⟩
  · rw [mergeW_no fun h => ha h.1, mergeW_no fun h => ha h.2.1]
    exact ⟨rfl, fun l m h1 => by cases h1⟩
open Classical in
theorem merge_self (a : List Ent) : mergeL a a = a := by
  unfold mergeL
  have : a.filter (fun e => !decide (e ∈ a)) = [] := by rw [List.filter_eq_nil_iff]; intro x hx; simp [hx]
  rw [this, List.append_nil]
theorem merge_own {a : List Ent} (h : bookV a) : mergeW a a = some a := by
  rw [mergeW_ok ⟨h, h, by rw [merge_self]; exact h⟩, merge_self]
theorem merge_own_no {a : List Ent} (h : ¬ bookV a) : mergeW a a = none := mergeW_no fun hh => h hh.1

end Go.Proofs.Ytpkkplpaefogmaa
