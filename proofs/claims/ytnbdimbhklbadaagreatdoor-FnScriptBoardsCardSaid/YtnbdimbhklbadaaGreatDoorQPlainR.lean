/-
  Contracts of functions and plain laws that the law's proof uses (parts: PlainR). Conditions: what each theorem names.
-/
import Derived.Test.YtnbdimbhklbadaaGreatDoorQPerms
namespace Go.Proofs.YtnbdimbhklbadaaGreatDoor
open Go.RowKit Pl
set_option linter.unusedVariables false
theorem prm_of_perm {q : List Nat} (h : q.Perm (List.range 10)) : Prm q :=
  { len := by rw [h.length_eq, List.length_range], lt := fun n hn => List.mem_range.1 (h.mem_iff.1 hn), nodup := h.nodup_iff.2 List.nodup_range }
theorem prm_range : Prm (List.range 10) := prm_of_perm (List.Perm.refl _)
theorem thenP_range {q : List Nat} (hq : q.length = 10) : thenP (List.range 10) q = q := by
  apply List.ext_getElem?
  intro j
  unfold thenP
  rw [List.getElem?_map]
  by_cases hj : j < 10
  · have : j < q.length := by rw [hq]; exact hj
    simp [hj, this]
  · rw [List.getElem?_eq_none (by simp; omega), List.getElem?_eq_none (by rw [hq]; omega)]; rfl
theorem prm_then {p q : List Nat} (hp : Prm p) (hq : Prm q) : Prm (thenP p q) := by
  apply prm_of_perm
  have h1 : (thenP p q).Perm (thenP (List.range 10) q) := hp.perm.map _
  rw [thenP_range hq.len] at h1
  exact h1.trans hq.perm
theorem prm_inv {p : List Nat} (hp : Prm p) : Prm (invP p) := by
  refine { len := by simp [invP], lt := ?_, nodup := ?_ }
  · intro n hn
    obtain ⟨t, ht, rfl⟩ := List.mem_map.1 hn
    have := List.idxOf_lt_length_of_mem (hp.mem (List.mem_range.1 ht))
    rwa [hp.len] at this
  · unfold invP
    refine List.pairwise_map.2 (List.Pairwise.imp_of_mem ?_ List.nodup_range)
    intro a b ha hb hab e
    have i1 := List.idxOf_lt_length_of_mem (hp.mem (List.mem_range.1 ha))
    have i2 := List.idxOf_lt_length_of_mem (hp.mem (List.mem_range.1 hb))
    have h1 := List.getElem_idxOf i1
    have h2 := List.getElem_idxOf i2
    apply hab
    rw [← h1, ← h2]
    congr 1
theorem prm_rot {n : Nat} (h : n ≤ 10) : Prm (rotP n) := by
  have key : ∀ n : Fin 11, (rotP n).Nodup ∧ ∀ m ∈ rotP n, m < 10 := by decide
  have := key ⟨n, by omega⟩
  exact { len := by simp [rotP], lt := this.2, nodup := this.1 }
theorem prm_reverse {p : List Nat} (hp : Prm p) : Prm p.reverse := prm_of_perm ((List.reverse_perm p).trans hp.perm)
def swpP (p : List Nat) (x y : Nat) : List Nat := (p.set x (p[y]?.getD 0)).set y (p[x]?.getD 0)
theorem swp_range : ∀ x y : Fin 10, (swpP (List.range 10) x y).Nodup ∧ ∀ m ∈ swpP (List.range 10) x y, m < 10 := by decide
theorem prm_swp {p : List Nat} {x y : Nat} (hp : Prm p) (hx : x < 10) (hy : y < 10) : Prm (swpP p x y) := by
  have hs := swp_range ⟨x, hx⟩ ⟨y, hy⟩
  have h1 : Prm (swpP (List.range 10) x y) := { len := by simp [swpP], lt := hs.2, nodup := hs.1 }
  have h2 : swpP p x y = thenP (swpP (List.range 10) x y) p := by
    have hpl := hp.len
    have xp : x < p.length := by omega
    have yp : y < p.length := by omega
    apply List.ext_getElem?
    intro j
    unfold thenP swpP
    rw [List.getElem?_map, List.getElem?_set, List.getElem?_set, List.getElem?_set, List.getElem?_set]
    simp only [List.length_set, List.length_range, hpl]
    by_cases e1 : y = j
    · subst e1; simp [hy, hx, xp]
    · rw [if_neg e1, if_neg e1]
      by_cases e2 : x = j
      · subst e2; simp [hy, hx, yp]
      · rw [if_neg e2, if_neg e2]
        by_cases hj : j < 10
        · have : j < p.length := by omega
          simp [hj, this]
        · rw [List.getElem?_eq_none (by omega), List.getElem?_eq_none (by simp; omega)]; rfl
  rw [h2]; exact prm_then h1 hp
def atP (q : List Nat) (o : Nat) : List Nat := thenP (thenP (rotP o) q) (rotP (10 - o))
theorem prm_at {q : List Nat} {o : Nat} (hq : Prm q) (ho : o ≤ 10) : Prm (atP q o) := prm_then (prm_then (prm_rot ho) hq) (prm_rot (by omega))
theorem rotP_at {n x : Nat} (hx : x < 10) : (rotP n)[x]?.getD 0 = (x + n) % 10 := by simp [rotP, hx]
theorem atP_at {q : List Nat} {o x : Nat} (hq : Prm q) (ho : o ≤ 10) (hx : x < 10) (h1 : (x + o) % 10 < q.length) (h2 : x < (atP q o).length) : (atP q o)[x] = (q[(x + o) % 10] + (10 - o)) % 10 := by
  have hl := hq.lt _ (List.getElem_mem h1)
  have e : (atP q o)[x]? = some ((q[(x + o) % 10] + (10 - o)) % 10) := by
    unfold atP thenP
    rw [List.getElem?_map, List.getElem?_map]
    have e1 : (rotP o)[x]? = some ((x + o) % 10) := by simp [rotP, hx]
    rw [e1]
    simp only [Option.map_some]
    rw [List.getElem?_eq_getElem h1, Option.getD_some, rotP_at hl]
  rw [List.getElem?_eq_getElem h2] at e
  injection e
def pT (q : List Nat) : ByteArray := mk (q.map letter)
theorem pT_size (q : List Nat) : (pT q).size = q.length := by simp [pT, size_mk]
theorem pT_at {q : List Nat} {k : Nat} (h : k < (pT q).size) (hk : k < q.length) : (pT q)[k] = letter q[k] := by
  rw [getElem_tl]; simp [pT, tl_mk]
theorem pT_dig {q : List Nat} {k : Nat} (h : k < (pT q).size) (hk : k < q.length) (ht : q[k] < 10) : ((pT q)[k].toNat : Int) - 97 = (q[k] : Int) := by
  rw [pT_at h hk, toNat_letter ht]; omega
theorem pT_snoc (q : List Nat) (n : Nat) : pT q ++ mk [letter n] = pT (q ++ [n]) := by unfold pT; rw [mk_append]; simp
theorem pT_append (p q : List Nat) : pT p ++ pT q = pT (p ++ q) := by unfold pT; rw [mk_append]; simp
theorem pT_extract (q : List Nat) (a b : Nat) : (pT q).extract a b = pT ((q.drop a).take (b - a)) := by
  unfold pT; rw [extract_mk', tl_mk, List.map_take, List.map_drop]
theorem pT_take {r : List Nat} {k : Nat} (hk : k < r.length) : pT (r.take k) ++ mk [letter r[k]] = pT (r.take (k + 1)) := by
  rw [pT_snoc, List.take_succ_eq_append_getElem hk]
theorem pT_wv {q : List Nat} (h : ∀ n ∈ q, n < 10) (hl : q.length ≤ 200) : wv (tl (pT q)) = true := by
  unfold pT; rw [tl_mk, wv_all (by simpa using hl), List.all_eq_true]
  intro c hc
  obtain ⟨n, hn, rfl⟩ := List.mem_map.1 hc
  exact isL_letter (h n hn)
def nth (l : List Nat) (k : Nat) : Nat := l[k]?.getD 0
theorem nth_eq {l : List Nat} {k : Nat} (h : k < l.length) : nth l k = l[k] := by simp [nth, h]
theorem nth_lt {l : List Nat} (h : ∀ n ∈ l, n < 10) (k : Nat) : nth l k < 10 := by
  unfold nth
  cases e : l[k]? with
  | none => simp
  | some x => exact h x (List.mem_of_getElem? e)
theorem pT_nth {r : List Nat} {k : Nat} (hk : k < r.length) : pT (r.take k) ++ mk [letter (nth r k)] = pT (r.take (k + 1)) := by rw [nth_eq hk]; exact pT_take hk
theorem nth_then {p q : List Nat} {k : Nat} (hk : k < p.length) : nth (thenP p q) k = nth q (nth p k) := by
  unfold nth thenP
  rw [List.getElem?_map, List.getElem?_eq_getElem hk]; rfl
theorem nth_at {q : List Nat} {o x : Nat} (hq : Prm q) (ho : o ≤ 10) (hx : x < 10) : nth (atP q o) x = (nth q ((x + o) % 10) + (10 - o)) % 10 := by
  have h1 : (x + o) % 10 < q.length := by rw [hq.len]; omega
  have h2 : x < (atP q o).length := by rw [(prm_at hq ho).len]; exact hx
  rw [nth_eq h2, nth_eq h1]; exact atP_at hq ho hx h1 h2
theorem pT_of_wv {s : ByteArray} (h : (tl s).all isL = true) : ∃ q : List Nat, s = pT q ∧ (∀ n ∈ q, n < 10) := by
  refine ⟨(tl s).map dg, ?_, ?_⟩
  · apply tl_inj
    unfold pT; rw [tl_mk, List.map_map]
    have : ∀ c ∈ tl s, (letter ∘ dg) c = id c := fun c hc => letter_dg (List.all_eq_true.1 h c hc)
    rw [List.map_congr_left this, List.map_id]
  · intro n hn
    obtain ⟨c, hc, rfl⟩ := List.mem_map.1 hn
    exact dg_lt (List.all_eq_true.1 h c hc)
theorem perm_pick {l : List Nat} {k : Nat} (h : k < l.length) (out : List Nat) : (out ++ [l[k]] ++ (l.take k ++ l.drop (k + 1))).Perm (out ++ l) := by
  have e : l = l.take k ++ l[k] :: l.drop (k + 1) := by rw [← List.drop_eq_getElem_cons h, List.take_append_drop]
  conv => rhs; rw [e]
  rw [List.append_assoc]
  exact List.Perm.append_left _ (by rw [List.singleton_append]; exact List.perm_middle.symm)
end Go.Proofs.YtnbdimbhklbadaaGreatDoor
