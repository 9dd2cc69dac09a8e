/-
  Contracts of functions and plain laws that the law's proof uses (parts: MachA). Conditions: what each theorem names.
-/
import Derived.ChangeKeysEq
import Derived.Test.YtnbdimbhklbadaaGreatDoorQPlainR
import Derived.Test.YtnbdimbhklbadaaGreatDoorQPerms
import Derived.Test.YtnbdimbhklbadaaGreatDoorQPlA
import Derived.Test.YtnbdimbhklbadaaGreatDoorQTextC
import Derived.Test.YtnbdimbhklbadaaGreatDoorQBsA
import Derived.Test.YtnbdimbhklbadaaGreatDoorQTextF
import Derived.Test.YtnbdimbhklbadaaGreatDoorQTextA
namespace Go.Proofs.YtnbdimbhklbadaaGreatDoor
open Go.RowKit Pl
set_option linter.unusedVariables false
def it (q : List Nat) (a : Nat) : Nat → Nat
  | 0 => a
  | n + 1 => nth q (it q a n)
theorem it_lt {q : List Nat} {a : Nat} (hq : Prm q) (ha : a < 10) : ∀ n, it q a n < 10
  | 0 => ha
  | n + 1 => nth_lt hq.lt _
theorem nodup_inj {l : List Nat} (h : l.Nodup) {i j : Nat} (hi : i < l.length) (hj : j < l.length) (e : l[i] = l[j]) : i = j := by
  rcases Nat.lt_trichotomy i j with hij | hij | hij
  · exact absurd e (List.pairwise_iff_getElem.1 h i j hi hj hij)
  · exact hij
  · exact absurd e.symm (List.pairwise_iff_getElem.1 h j i hj hi hij)
theorem nth_inj {q : List Nat} (hq : Prm q) {x y : Nat} (hx : x < 10) (hy : y < 10) (h : nth q x = nth q y) : x = y := by
  have hl := hq.len
  rw [nth_eq (show x < q.length by omega), nth_eq (show y < q.length by omega)] at h
  exact nodup_inj hq.nodup _ _ h
theorem it_back {q : List Nat} {a : Nat} (hq : Prm q) (ha : a < 10) : ∀ i j, it q a i = it q a (i + j) → it q a j = a
  | 0, j, h => by rw [Nat.zero_add] at h; exact h.symm
  | i + 1, j, h => it_back hq ha i j (nth_inj hq (it_lt hq ha _) (it_lt hq ha _) (by rw [show i + 1 + j = (i + j) + 1 by omega] at h; exact h))
theorem it_exists {q : List Nat} {a : Nat} (hq : Prm q) (ha : a < 10) : ∃ p, p < 10 ∧ it q a (p + 1) = a := by
  apply Classical.byContradiction
  intro hn
  have hnd : ((List.range 11).map (it q a)).Nodup := by
    refine List.pairwise_map.2 (List.Pairwise.imp_of_mem ?_ List.pairwise_lt_range)
    intro i j hi hj hij e
    have h1 := List.mem_range.1 hi
    have h2 := List.mem_range.1 hj
    exact hn ⟨j - i - 1, by omega, it_back hq ha i (j - i - 1 + 1) (by rw [show i + (j - i - 1 + 1) = j by omega]; exact e)⟩
  have := nodup_le hnd (m := List.range 10) (fun n hn => by
    obtain ⟨i, _, rfl⟩ := List.mem_map.1 hn
    exact List.mem_range.2 (it_lt hq ha i))
  simp at this
def per (q : List Nat) (a : Nat) : Nat := (((List.range 10).find? fun p => it q a (p + 1) == a).getD 0) + 1
theorem per_spec {q : List Nat} {a : Nat} (hq : Prm q) (ha : a < 10) : 1 ≤ per q a ∧ per q a ≤ 10 ∧ it q a (per q a) = a ∧ ∀ j, 1 ≤ j → j < per q a → it q a j ≠ a := by
  obtain ⟨p, hp, he⟩ := it_exists hq ha
  cases hf : (List.range 10).find? fun p => it q a (p + 1) == a with
  | none =>
    have := List.find?_eq_none.1 hf p (List.mem_range.2 hp)
    simp [he] at this
  | some x =>
    have hx := List.find?_range_eq_some.1 hf
    obtain ⟨h1, h2, h3⟩ := hx
    have h2 := List.mem_range.1 h2
    have e : per q a = x + 1 := by unfold per; rw [hf]; rfl
    rw [e]
    refine ⟨by omega, by omega, by simpa using h1, fun j hj1 hj2 ej => ?_⟩
    have := h3 (j - 1) (by omega)
    rw [show j - 1 + 1 = j by omega] at this
    simp [ej] at this
def orbTo (q : List Nat) (a j : Nat) : List Nat := (List.range j).map (it q a)
def orb (q : List Nat) (a : Nat) : List Nat := orbTo q a (per q a)
theorem orbTo_snoc (q : List Nat) (a j : Nat) : orbTo q a j ++ [it q a j] = orbTo q a (j + 1) := by simp [orbTo, List.range_succ]
theorem orbTo_len (q : List Nat) (a j : Nat) : (orbTo q a j).length = j := by simp [orbTo]
theorem orbTo_mem {q : List Nat} {a j x : Nat} : x ∈ orbTo q a j ↔ ∃ i, i < j ∧ it q a i = x := by
  unfold orbTo
  simp only [List.mem_map, List.mem_range]
theorem orbTo_lt {q : List Nat} {a j : Nat} (hq : Prm q) (ha : a < 10) : ∀ x ∈ orbTo q a j, x < 10 := fun x hx => by
  obtain ⟨i, _, rfl⟩ := orbTo_mem.1 hx
  exact it_lt hq ha i
theorem orb_bwd {q : List Nat} {a x : Nat} (hq : Prm q) (ha : a < 10) (hx : x < 10) (h : nth q x ∈ orb q a) : x ∈ orb q a := by
  obtain ⟨p1, p2, p3, p4⟩ := per_spec hq ha
  obtain ⟨i, hi, he⟩ := orbTo_mem.1 h
  cases i with
  | zero =>
    refine orbTo_mem.2 ⟨per q a - 1, by omega, nth_inj hq (it_lt hq ha _) hx ?_⟩
    have e2 : it q a (per q a - 1 + 1) = a := by rw [show per q a - 1 + 1 = per q a by omega]; exact p3
    rw [← he]; exact e2
  | succ i => exact orbTo_mem.2 ⟨i, by omega, nth_inj hq (it_lt hq ha _) hx he⟩
def cycs (q : List Nat) : Nat → List (List Nat)
  | 0 => []
  | k + 1 => if k ∈ (cycs q k).flatten then cycs q k else cycs q k ++ [orb q k]
theorem cycs_in {q : List Nat} {k : Nat} (h : k ∈ (cycs q k).flatten) : cycs q (k + 1) = cycs q k := by show (if _ then _ else _) = _; rw [if_pos h]
theorem cycs_out {q : List Nat} {k : Nat} (h : k ∉ (cycs q k).flatten) : cycs q (k + 1) = cycs q k ++ [orb q k] := by show (if _ then _ else _) = _; rw [if_neg h]
theorem cycs_mem (q : List Nat) : ∀ k, ∀ l ∈ cycs q k, ∃ a, a < k ∧ l = orb q a
  | 0, l, h => by simp [cycs] at h
  | k + 1, l, h => by
    by_cases hk : k ∈ (cycs q k).flatten
    · rw [cycs_in hk] at h
      obtain ⟨a, ha, e⟩ := cycs_mem q k l h
      exact ⟨a, by omega, e⟩
    · rw [cycs_out hk] at h
      rcases List.mem_append.1 h with h | h
      · obtain ⟨a, ha, e⟩ := cycs_mem q k l h
        exact ⟨a, by omega, e⟩
      · simp at h; exact ⟨k, by omega, h⟩
theorem cycs_len (q : List Nat) : ∀ k, (cycs q k).length ≤ k
  | 0 => by simp [cycs]
  | k + 1 => by
    have := cycs_len q k
    by_cases hk : k ∈ (cycs q k).flatten
    · rw [cycs_in hk]; omega
    · rw [cycs_out hk, List.length_append]; simp; exact this
theorem seen_mem {q : List Nat} {k x : Nat} : x ∈ (cycs q k).flatten ↔ ∃ l ∈ cycs q k, x ∈ l := List.mem_flatten
theorem seen_bwd {q : List Nat} {k x : Nat} (hq : Prm q) (hk : k ≤ 10) (hx : x < 10) (h : nth q x ∈ (cycs q k).flatten) : x ∈ (cycs q k).flatten := by
  obtain ⟨l, hl, hxl⟩ := seen_mem.1 h
  obtain ⟨a, ha, rfl⟩ := cycs_mem q k l hl
  exact seen_mem.2 ⟨_, hl, orb_bwd hq (by omega) hx hxl⟩
theorem seen_it {q : List Nat} {k a : Nat} (hq : Prm q) (hk : k ≤ 10) (ha : a < 10) : ∀ j, it q a j ∈ (cycs q k).flatten → a ∈ (cycs q k).flatten
  | 0, h => h
  | j + 1, h => seen_it hq hk ha j (seen_bwd hq hk (it_lt hq ha j) h)
theorem next_new {q : List Nat} {k j : Nat} (hq : Prm q) (hk : k < 10) (h : k ∉ (cycs q k).flatten) (hj : j < per q k) : it q k j ∉ (cycs q k).flatten ++ orbTo q k j := by
  obtain ⟨p1, p2, p3, p4⟩ := per_spec hq hk
  intro hm
  rcases List.mem_append.1 hm with hm | hm
  · exact h (seen_it hq (by omega) hk j hm)
  · obtain ⟨i, hi, e⟩ := orbTo_mem.1 hm
    have := it_back hq hk i (j - i) (by rw [show i + (j - i) = j by omega]; exact e)
    exact p4 (j - i) (by omega) (by omega) this
theorem next_old {q : List Nat} {k : Nat} (hq : Prm q) (hk : k < 10) : it q k (per q k) ∈ (cycs q k).flatten ++ orbTo q k (per q k) := by
  obtain ⟨p1, p2, p3, p4⟩ := per_spec hq hk
  rw [p3]
  exact List.mem_append.2 (.inr (orbTo_mem.2 ⟨0, by omega, rfl⟩))
theorem orb_fix {q : List Nat} {a : Nat} (hq : Prm q) (ha : a < 10) : (orb q a).length = 1 ↔ nth q a = a := by
  obtain ⟨p1, p2, p3, p4⟩ := per_spec hq ha
  unfold orb
  rw [orbTo_len]
  constructor
  · intro e; rw [e] at p3; exact p3
  · intro e
    apply Classical.byContradiction
    intro hne
    exact p4 1 (by omega) (by omega) e
theorem orb_one {q : List Nat} {a : Nat} (h : (orb q a).length = 1) : orb q a = [a] := by
  unfold orb at h ⊢
  rw [orbTo_len] at h
  rw [h]; rfl
theorem fix_new {q : List Nat} {k : Nat} (hq : Prm q) (hk : k < 10) (h : nth q k = k) : k ∉ (cycs q k).flatten := by
  intro hm
  obtain ⟨l, hl, hkl⟩ := seen_mem.1 hm
  obtain ⟨a, ha, rfl⟩ := cycs_mem q k l hl
  obtain ⟨i, hi, e⟩ := orbTo_mem.1 hkl
  have h1 : it q a (i + 1) = it q a i := by show nth q (it q a i) = _; rw [e, h]
  have h2 : it q a 1 = a := it_back hq (by omega) i 1 h1.symm
  have h3 : ∀ n, it q a n = a := fun n => by
    induction n with
    | zero => rfl
    | succ n ih => show nth q (it q a n) = a; rw [ih]; exact h2
  rw [h3 i] at e
  omega
def fixL (q : List Nat) (k : Nat) : List Nat := (List.range k).filter fun x => nth q x == x
def ones (l : List (List Nat)) : List Nat := (l.filter fun c => c.length == 1).flatten
theorem ones_fix {q : List Nat} (hq : Prm q) : ∀ k, k ≤ 10 → ones (cycs q k) = fixL q k
  | 0, _ => rfl
  | k + 1, hk => by
    have ih := ones_fix hq k (by omega)
    have hf : fixL q (k + 1) = fixL q k ++ (if nth q k = k then [k] else []) := by
      unfold fixL
      rw [List.range_succ, List.filter_append]
      by_cases e : nth q k = k <;> simp [e]
    rw [hf]
    by_cases hs : k ∈ (cycs q k).flatten
    · rw [cycs_in hs, if_neg (fun e => fix_new hq (by omega) e hs), List.append_nil, ih]
    · rw [cycs_out hs]
      unfold ones at ih ⊢
      rw [List.filter_append, List.flatten_append, ih]
      by_cases e : nth q k = k
      · have h1 := (orb_fix hq (by omega)).2 e
        rw [if_pos e, List.filter_cons, if_pos (by rw [h1]; rfl), orb_one h1]; rfl
      · rw [if_neg e, List.filter_cons, if_neg (fun h => e ((orb_fix hq (by omega)).1 (by simpa using h)))]; rfl
theorem inv_self {q : List Nat} (hq : Prm q) : thenP q q = List.range 10 ↔ invP q = q := by
  have hl := hq.len
  constructor
  · intro h
    refine (invP_is hq hl fun j hj => ?_).symm
    have e : (thenP q q)[j]? = some j := by rw [h, List.getElem?_range (by omega)]
    unfold thenP at e
    rw [List.getElem?_map, List.getElem?_eq_getElem hj] at e
    have hjl : q[j] < q.length := by rw [hl]; exact hq.lt _ (List.getElem_mem hj)
    simp only [Option.map_some] at e
    rw [List.getElem?_eq_getElem hjl] at e ⊢
    simpa using e
  · intro h
    apply List.ext_getElem?
    intro j
    unfold thenP
    rw [List.getElem?_map]
    by_cases hj : j < 10
    · have hjq : j < q.length := by omega
      have hjl : q[j] < q.length := by rw [hl]; exact hq.lt _ (List.getElem_mem hjq)
      have e : (invP q)[q[j]]? = some j := by
        unfold invP
        rw [List.getElem?_map]
        have : q[j] < 10 := by omega
        simp only [List.getElem?_range this, Option.map_some, Option.some.injEq]
        exact nodup_inj hq.nodup (List.idxOf_lt_length_of_mem (List.getElem_mem hjq)) hjq (List.getElem_idxOf (List.idxOf_lt_length_of_mem (List.getElem_mem hjq)))
      rw [h] at e
      rw [List.getElem?_eq_getElem hjq, Option.map_some, e]
      simp [hj]
    · rw [List.getElem?_eq_none (by omega), List.getElem?_eq_none (by simp; omega)]; rfl
theorem inv_nth {q : List Nat} (hq : Prm q) (hi : invP q = q) {x : Nat} (hx : x < 10) : nth q (nth q x) = x := by
  rw [← nth_then (by rw [hq.len]; exact hx), (inv_self hq).2 hi]
  simp [nth, hx]
theorem orb_two {q : List Nat} (hq : Prm q) (hi : invP q = q) {a : Nat} (ha : a < 10) : orb q a = if nth q a = a then [a] else [a, nth q a] := by
  obtain ⟨p1, p2, p3, p4⟩ := per_spec hq ha
  by_cases e : nth q a = a
  · rw [if_pos e]; exact orb_one ((orb_fix hq ha).2 e)
  · rw [if_neg e]
    have h2 : it q a 2 = a := inv_nth hq hi ha
    have hne : per q a ≠ 1 := fun h1 => e (by have := p3; rw [h1] at this; exact this)
    have hp : per q a = 2 := by
      apply Classical.byContradiction
      intro hn
      exact p4 2 (by omega) (by omega) h2
    unfold orb
    rw [hp]; rfl
def twos (q : List Nat) (k : Nat) : List (List Nat) := (cycs q k).filter fun c => c.length == 2
def pk (q : List Nat) (k : Nat) : List Nat := (List.range 10).map fun x => if x ∈ (cycs q k).flatten then nth q x else x
theorem pk_get (q : List Nat) (k x : Nat) (hx : x < 10) : (pk q k)[x]? = some (if x ∈ (cycs q k).flatten then nth q x else x) := by
  unfold pk; rw [List.getElem?_map]; simp [hx]
theorem pk_len (q : List Nat) (k : Nat) : (pk q k).length = 10 := by simp [pk]
theorem pk_fix {q : List Nat} {k : Nat} (h : k ∉ (cycs q k).flatten) (hq : Prm q) (hi : invP q = q) (hk : k < 10) (e : nth q k = k) : pk q (k + 1) = pk q k := by
  unfold pk
  rw [cycs_out h, orb_two hq hi hk, if_pos e]
  refine List.map_congr_left fun x hx => ?_
  rw [List.flatten_append]
  by_cases hxk : x = k
  · subst hxk; simp [e]
  · simp [hxk]
theorem pk_pair {q : List Nat} {k : Nat} (h : k ∉ (cycs q k).flatten) (hq : Prm q) (hi : invP q = q) (hk : k < 10) (e : nth q k ≠ k) : pk q (k + 1) = withP (pk q k) k (nth q k) := by
  have hy := nth_lt hq.lt k
  have hyk := inv_nth hq hi hk
  apply List.ext_getElem?
  intro x
  by_cases hx : x < 10
  · rw [pk_get _ _ _ hx]
    unfold withP
    rw [cycs_out h, orb_two hq hi hk, if_neg e, List.flatten_append, List.getElem?_set, List.getElem?_set, List.length_set, pk_len, pk_get _ _ _ hx]
    by_cases h1 : nth q k = x
    · subst h1; simp [hy, hyk]
    · rw [if_neg h1]
      by_cases h2 : k = x
      · subst h2; simp [hk]
      · rw [if_neg h2]
        simp [show ¬ x = nth q k from fun e => h1 e.symm, show ¬ x = k from fun e => h2 e.symm]
  · rw [List.getElem?_eq_none (by rw [pk_len]; omega), List.getElem?_eq_none (by rw [withP_len, pk_len]; omega)]
theorem seen_mono {q : List Nat} {x : Nat} : ∀ k d, x ∈ (cycs q k).flatten → x ∈ (cycs q (k + d)).flatten
  | k, 0, h => h
  | k, d + 1, h => by
    have ih := seen_mono k d h
    show x ∈ (cycs q ((k + d) + 1)).flatten
    by_cases hs : k + d ∈ (cycs q (k + d)).flatten
    · rw [cycs_in hs]; exact ih
    · rw [cycs_out hs, List.flatten_append]; exact List.mem_append.2 (.inl ih)
theorem seen_all {q : List Nat} (hq : Prm q) {x : Nat} (hx : x < 10) : x ∈ (cycs q 10).flatten := by
  have h1 : x ∈ (cycs q (x + 1)).flatten := by
    by_cases hs : x ∈ (cycs q x).flatten
    · rw [cycs_in hs]; exact hs
    · rw [cycs_out hs, List.flatten_append]
      refine List.mem_append.2 (.inr ?_)
      rw [List.flatten_singleton]
      exact orbTo_mem.2 ⟨0, (per_spec hq hx).1, rfl⟩
  have := seen_mono (x + 1) (9 - x) h1
  rwa [show x + 1 + (9 - x) = 10 by omega] at this
theorem pk_end {q : List Nat} (hq : Prm q) : pk q 10 = q := by
  have hl := hq.len
  apply List.ext_getElem?
  intro x
  by_cases hx : x < 10
  · rw [pk_get _ _ _ hx, if_pos (seen_all hq hx), nth_eq (by omega), List.getElem?_eq_getElem (by omega)]
  · rw [List.getElem?_eq_none (by rw [pk_len]; omega), List.getElem?_eq_none (by omega)]
theorem twos_fold {q : List Nat} (hq : Prm q) (hi : invP q = q) : ∀ k, k ≤ 10 → (twos q k).foldl (fun p c => withP p (nth c 0) (nth c 1)) (List.range 10) = pk q k
  | 0, _ => by simp [twos, cycs, pk]
  | k + 1, hk => by
    have ih := twos_fold hq hi k (by omega)
    by_cases hs : k ∈ (cycs q k).flatten
    · have e1 : twos q (k + 1) = twos q k := by unfold twos; rw [cycs_in hs]
      have e2 : pk q (k + 1) = pk q k := by unfold pk; rw [cycs_in hs]
      rw [e1, e2, ih]
    · by_cases e : nth q k = k
      · have e1 : twos q (k + 1) = twos q k := by
          unfold twos; rw [cycs_out hs, orb_two hq hi (by omega), if_pos e, List.filter_append]; simp
        rw [e1, pk_fix hs hq hi (by omega) e, ih]
      · have e1 : twos q (k + 1) = twos q k ++ [[k, nth q k]] := by
          unfold twos; rw [cycs_out hs, orb_two hq hi (by omega), if_neg e, List.filter_append]; simp
        rw [e1, List.foldl_append, ih, pk_pair hs hq hi (by omega) e]; rfl
theorem twos_mem {q : List Nat} (hq : Prm q) {c : List Nat} (h : c ∈ twos q 10) : c.length = 2 ∧ ∀ x ∈ c, x < 10 := by
  obtain ⟨h1, h2⟩ := List.mem_filter.1 h
  obtain ⟨a, ha, rfl⟩ := cycs_mem q 10 c h1
  exact ⟨by simpa using h2, orbTo_lt hq ha⟩
theorem twos_len (q : List Nat) : (twos q 10).length ≤ 10 := Nat.le_trans (List.length_filter_le _ _) (cycs_len q 10)
def twoS (q : List Nat) : List ByteArray := (twos q 10).map pT
def plugT (q : List Nat) : List UInt8 := if twos q 10 = [] then [45] else Go.Lib.join ((twoS q).map tl) [32]
theorem join_snoc (sp x : List UInt8) : ∀ l : List (List UInt8), l ≠ [] → Go.Lib.join (l ++ [x]) sp = Go.Lib.join l sp ++ sp ++ x
  | [], h => absurd rfl h
  | y :: r, _ => by
    rw [List.cons_append, Go.Lib.join_cons, Go.Lib.join_cons]
    simp [Go.Lib.joinTail, List.append_assoc]
def plugL (l : List (List Nat)) (k : Nat) : List UInt8 := Go.Lib.join (((l.take k).filter fun c => c.length == 2).map fun c => tl (pT c)) [32]
theorem twos_text_ne {l : List (List Nat)} {k : Nat} (h : (l.take k).filter (fun c => c.length == 2) ≠ []) : plugL l k ≠ [] := by
  unfold plugL
  cases e : (l.take k).filter (fun c => c.length == 2) with
  | nil => exact absurd e h
  | cons c r =>
    rw [List.map_cons, Go.Lib.join_cons]
    have hc : c.length = 2 := by
      have : c ∈ (l.take k).filter (fun c => c.length == 2) := by rw [e]; simp
      simpa using (List.mem_filter.1 this).2
    intro hn
    have h0 := (List.append_eq_nil_iff.1 hn).1
    have : (tl (pT c)).length = 2 := by rw [length_tl, pT_size, hc]
    rw [h0] at this; simp at this
theorem plugL_two {l : List (List Nat)} {k : Nat} (hk : k < l.length) (h : l[k].length = 2) : plugL l (k + 1) = if plugL l k = [] then tl (pT l[k]) else plugL l k ++ [32] ++ tl (pT l[k]) := by
  have e1 : (l.take (k + 1)).filter (fun c => c.length == 2) = (l.take k).filter (fun c => c.length == 2) ++ [l[k]] := by
    rw [List.take_succ_eq_append_getElem hk, List.filter_append, List.filter_cons, if_pos (by rw [h]; rfl)]; rfl
  by_cases hn : (l.take k).filter (fun c => c.length == 2) = []
  · have e2 : plugL l k = [] := by unfold plugL; rw [hn]; rfl
    rw [if_pos e2]
    unfold plugL
    rw [e1, hn, List.nil_append, List.map_singleton, Go.Lib.join_one]
  · rw [if_neg (twos_text_ne hn)]
    unfold plugL
    rw [e1, List.map_append, List.map_singleton, join_snoc _ _ _ (by intro e; exact hn (List.map_eq_nil_iff.1 e))]
theorem plugL_other {l : List (List Nat)} {k : Nat} (hk : k < l.length) (h : l[k].length ≠ 2) : plugL l (k + 1) = plugL l k := by
  unfold plugL
  rw [List.take_succ_eq_append_getElem hk, List.filter_append, List.filter_cons, if_neg (by simpa using h)]; simp
theorem plugL_end (q : List Nat) (l : List (List Nat)) (hl : l = cycs q 10) : plugT q = if plugL l l.length = [] then [45] else plugL l l.length := by
  have e2 : twos q 10 = l.filter (fun c => c.length == 2) := by rw [hl]; rfl
  have e : plugL l l.length = Go.Lib.join ((twoS q).map tl) [32] := by
    unfold plugL twoS
    rw [List.take_length, List.map_map, e2]; rfl
  unfold plugT
  by_cases h : twos q 10 = []
  · have : plugL l l.length = [] := by rw [e]; unfold twoS; rw [h]; rfl
    rw [if_pos h, if_pos this]
  · have : plugL l l.length ≠ [] := twos_text_ne (by rw [List.take_length, ← e2]; exact h)
    rw [if_neg h, if_neg this, e]
theorem cyc_len {q : List Nat} (hq : Prm q) {c : List Nat} (h : c ∈ cycs q 10) : 1 ≤ c.length ∧ c.length ≤ 10 ∧ ∀ x ∈ c, x < 10 := by
  obtain ⟨a, ha, rfl⟩ := cycs_mem q 10 c h
  obtain ⟨p1, p2, p3, p4⟩ := per_spec hq ha
  refine ⟨?_, ?_, orbTo_lt hq ha⟩
  · unfold orb; rw [orbTo_len]; exact p1
  · unfold orb; rw [orbTo_len]; exact p2
theorem plugL_len (l : List (List Nat)) : ∀ k, k ≤ l.length → (plugL l k).length ≤ 3 * k
  | 0, _ => by simp [plugL, Go.Lib.join_nil]
  | k + 1, hk => by
    have ih := plugL_len l k (by omega)
    have hk' : k < l.length := by omega
    by_cases h : l[k].length = 2
    · rw [plugL_two hk' h]
      have hz : (tl (pT l[k])).length = 2 := by rw [length_tl, pT_size, h]
      split
      · omega
      · simp only [List.length_append, List.length_singleton]; omega
    · rw [plugL_other hk' h]; omega
theorem plugT_len (q : List Nat) : (plugT q).length ≤ 40 := by
  have hl := cycs_len q 10
  rw [plugL_end q _ rfl]
  generalize cycs q 10 = l at hl ⊢
  have := plugL_len l _ (Nat.le_refl _)
  split
  · simp
  · omega
theorem mem_letter {q : List Nat} (hq : ∀ n ∈ q, n < 10) {k : Nat} (hk : k < 10) : letter k ∈ tl (pT q) ↔ k ∈ q := by
  unfold pT
  rw [tl_mk, List.mem_map]
  constructor
  · rintro ⟨a, ha, e⟩
    have := congrArg dg e
    rw [dg_letter (hq a ha), dg_letter hk] at this
    rw [← this]; exact ha
  · intro h; exact ⟨k, h, rfl⟩
theorem seen_lt {q : List Nat} (hq : Prm q) {k : Nat} (hk : k ≤ 10) : ∀ x ∈ (cycs q k).flatten, x < 10 := fun x hx => by
  obtain ⟨l, hl, hxl⟩ := seen_mem.1 hx
  obtain ⟨a, ha, rfl⟩ := cycs_mem q k l hl
  exact orbTo_lt hq (by omega) x hxl
theorem seen_size {q : List Nat} (hq : Prm q) : ∀ k, k ≤ 10 → (cycs q k).flatten.length ≤ 10 * k
  | 0, _ => by simp [cycs]
  | k + 1, hk => by
    have ih := seen_size hq k (by omega)
    by_cases hs : k ∈ (cycs q k).flatten
    · rw [cycs_in hs]; omega
    · rw [cycs_out hs, List.flatten_append, List.length_append, List.flatten_singleton]
      have := (per_spec hq (show k < 10 by omega)).2.1
      have : (orb q k).length ≤ 10 := by unfold orb; rw [orbTo_len]; exact this
      omega
def cycS (q : List Nat) (k : Nat) : List ByteArray := (cycs q k).map pT
theorem cycS_len (q : List Nat) (k : Nat) : (cycS q k).length = (cycs q k).length := by simp [cycS]
theorem fix_moved (q : List Nat) (hq : Prm q) : ∀ k, k ≤ 10 → (fixL q k).length + cntTo q k = k
  | 0, _ => rfl
  | k + 1, hk => by
    have ih := fix_moved q hq k (by omega)
    have hkl : k < q.length := by rw [hq.len]; omega
    by_cases e : q[k] = k
    · have e2 : nth q k = k := by rw [nth_eq hkl]; exact e
      rw [cntTo_same hkl e]
      unfold fixL at ih ⊢
      rw [List.range_succ, List.filter_append, List.length_append, List.filter_cons_of_pos (by simp [e2])]
      simp; omega
    · have e2 : nth q k ≠ k := by rw [nth_eq hkl]; exact e
      rw [cntTo_moved hkl e]
      unfold fixL at ih ⊢
      rw [List.range_succ, List.filter_append, List.length_append, List.filter_cons_of_neg (by simp [e2])]
      simp; omega
def IsPerm (s : ByteArray) : Prop := ∃ q, Prm q ∧ s = pT q
theorem pT_dgs {q : List Nat} (h : ∀ n ∈ q, n < 10) : (tl (pT q)).map dg = q := by
  unfold pT
  rw [tl_mk, List.map_map]
  have : ∀ n ∈ q, (dg ∘ letter) n = id n := fun n hn => dg_letter (h n hn)
  rw [List.map_congr_left this, List.map_id]
theorem pT_inj {q r : List Nat} (hq : ∀ n ∈ q, n < 10) (hr : ∀ n ∈ r, n < 10) (h : pT q = pT r) : q = r := by
  rw [← pT_dgs hq, ← pT_dgs hr, h]
theorem permOf_yes (w : World) (q : List Nat) (hq : Prm q) :
    Calls Tryz.prog 62 #[.string (pT q)] w fun e w' => e = .returned (.tuple #[.agg (pC q), .bool true]) ∧ Below w.heap.size w w' := by
  refine permOf_ok w (pT q) q (by rw [pT_size, hq.len]) ?_ ?_ hq
  · intro k h
    have hk : k < q.length := by rw [pT_size] at h; exact h
    rw [pT_at h hk]; exact isL_letter (hq.lt _ (List.getElem_mem hk))
  · intro k h h2
    rw [pT_at h h2, dg_letter (hq.lt _ (List.getElem_mem h2))]
theorem permOf_not (w : World) (a : ByteArray) (h : ¬ IsPerm a) :
    Calls Tryz.prog 62 #[.string a] w fun e w' => e = .returned (.tuple #[.agg (pC (List.replicate 10 0)), .bool false]) ∧ Below w.heap.size w w' := by
  by_cases hz : a.size = 10
  · refine permOf_no w a ((tl a).map dg) hz (by rw [List.length_map, length_tl, hz]) ?_ ?_
    · intro k h1 h2
      rw [List.getElem_map, getElem_tl]
    · rintro ⟨hL, hnd⟩
      apply h
      have hall : (tl a).all isL = true := List.all_eq_true.2 fun c hc => by
        obtain ⟨k, hk, rfl⟩ := List.mem_iff_getElem.1 hc
        have hk2 : k < a.size := by rw [← length_tl]; exact hk
        have := hL k hk2
        rwa [getElem_tl] at this
      obtain ⟨q, rfl, hlt⟩ := pT_of_wv hall
      rw [pT_dgs hlt] at hnd
      exact ⟨q, { len := by rw [← pT_size]; exact hz, lt := hlt, nodup := hnd }, rfl⟩
  · exact permOf_size w a hz
def cntL (q : List Nat) (k : Nat) : List Nat := (List.range 10).map fun x => (q.take k).count x
theorem cntL_len (q : List Nat) (k : Nat) : (cntL q k).length = 10 := by simp [cntL]
theorem cntL_get (q : List Nat) (k x : Nat) (hx : x < 10) : (cntL q k)[x]? = some ((q.take k).count x) := by simp [cntL, hx]
theorem cntL_succ {q : List Nat} {k : Nat} (hk : k < q.length) : (cntL q k).set q[k] ((q.take k).count q[k] + 1) = cntL q (k + 1) := by
  apply List.ext_getElem?
  intro x
  by_cases hx : x < 10
  · rw [List.getElem?_set, cntL_len, cntL_get _ _ _ hx, cntL_get _ _ _ hx, List.take_succ_eq_append_getElem hk, List.count_append]
    by_cases e : q[k] = x
    · subst e; simp [hx]
    · rw [if_neg e]; simp [e]
  · rw [List.getElem?_eq_none (by rw [List.length_set, cntL_len]; omega), List.getElem?_eq_none (by rw [cntL_len]; omega)]
theorem prm_counts {q : List Nat} (hl : q.length = 10) (hlt : ∀ n ∈ q, n < 10) : Prm q ↔ ∀ x, x < 10 → q.count x = 1 := by
  constructor
  · intro h x hx
    rw [List.Nodup.count h.nodup, if_pos (h.mem hx)]
  · intro h
    refine { len := hl, lt := hlt, nodup := ?_ }
    rw [List.nodup_iff_count]
    intro x
    by_cases hx : x < 10
    · rw [h x hx]; exact Nat.le_refl 1
    · have : x ∉ q := fun hm => hx (hlt x hm)
      rw [List.count_eq_zero_of_not_mem this]; exact Nat.zero_le _
theorem own_rd3' {w : World} {base : Nat} {e : TypeId} {size n cap : Nat} {A : Option Addr} {xs : List Value} (h : w.ownsRow base e size (.slice A n cap) n xs) : Rd w w.heap.size A xs := by
  obtain ⟨A', c', e', h2, h3, h4⟩ := ownsRow_rd h
  simp only [Value.slice.injEq] at e'
  obtain ⟨rfl, _, rfl⟩ := e'
  exact h4
set_option maxHeartbeats 8000000 in
set_option maxRecDepth 100000 in
theorem sLetterCounts_any (w : World) (q : List Nat) (hlt : ∀ n ∈ q, n < 10) (hl : q.length ≤ 200) :
    Calls Tryz.prog 257 #[.string (pT q)] w fun e w' => ∃ A, e = .returned (.slice A 10 10) ∧ Rd w' w'.heap.size A (natV (cntL q q.length)) ∧ Below w.heap.size w w' := by
  obtain ⟨iI, hi, hz0, hz1, hz2⟩ := info_parts Tryz.infoI
  have HI := Lib.hid hi; have HZ0 := Lib.hid hz0; have HZ1 := Lib.hid hz1; have HZ2 := Lib.hid hz2
  clear hi hz0 hz1 hz2
  have hwv := pT_wv hlt hl
  have hTn : (pT q).size = q.length := pT_size q
  have hdg := fun (w' : World) (k : Nat) (hk : k < q.length) => l1Digit_nth w' q hlt k k rfl hk (by omega)
  have hz : List.replicate 10 0 = cntL q 0 := by simp [cntL, List.replicate]; decide
  have HLT := Lib.hid hlt; have HDG := Lib.hid hdg; have HWV := Lib.hid hwv; have HTN := Lib.hid hTn; have HZZ := Lib.hid hz
  have hT1 : (pT q).size ≤ q.length := by omega
  have hT2 : q.length ≤ (pT q).size := by omega
  clear hdg hz hwv hTn hlt
  obtain ⟨T, hT⟩ : ∃ T, T = pT q := ⟨_, rfl⟩
  rw [← hT] at HDG HWV HTN hT1 hT2 ⊢
  clear hT
  go_enter Tryz.func257, Tryz.ntmps257
  go_wp2_with fail
  refine (sWordValid_is _ true _ HWV.out).mono ?_
  rintro _ _ ⟨rfl, rfl⟩
  go_wp2_with (at_make; refine wpList_make_full _ rfl _ _ 132 rfl w.heap.size 3 iI (.int .i64 0) 1 Tryz.underlying132 HI.out HZ0.out HZ1.out .i64 .i64 _ _ 10 rfl rfl rfl rfl (by rw [HZ2.out]; omega) (by unfold maxLen; omega) (Nat.le_refl _) ?_; intro w2 ho2 hg2)
  rw [made_ints, HZZ.out] at ho2
  have hb2 : Below w.heap.size w w2 := Below.grown (Below.refl _ _) hg2 (Nat.le_refl _) (by simp)
  obtain ⟨P, hP⟩ : ∃ P, P = w.heap.size := ⟨_, rfl⟩
  rw [← hP] at ho2 ⊢
  have HPE := Lib.hid hP; have HO2 := Lib.hid ho2; have HB2 := Lib.hid hb2; clear ho2 hb2 hg2 hP
  go_wp2_with fail
  go_loopw [4] (fun i wr => ∃ k : Nat, k ≤ T.size ∧ i = .int .i64 k ∧ wr.ownsRow P 3 1 (.slice (some ⟨P, 0, none⟩) 10 10) 10 (natV (cntL q k)) ∧ Below w.heap.size w wr) (fun i _ => T.size - (intOf i).toNat)
  case atStart => exact ⟨0, Nat.zero_le _, rfl, HO2.out, HB2.out⟩
  case round =>
    obtain ⟨k, hk, rfl, hown, hbl⟩ := hrel
    have HO := Lib.hid hown; have HBL := Lib.hid hbl; clear hown hbl HO2 HB2
    by_cases hlt : k < T.size
    · have hkq : k < q.length := by omega
      have hcon := fun w' => HDG.out w' k hkq
      have hst := cntL_succ hkq
      have hd := HLT.out _ (List.getElem_mem hkq)
      rw [nth_eq hkq] at hcon
      have hcn : (q.take k).count q[k] ≤ 200 := Nat.le_trans List.count_le_length (by rw [List.length_take]; omega)
      have hcg := cntL_get q k q[k] hd
      generalize (q.take k).count q[k] = n at hst hcn hcg
      generalize q[k] = d at hcon hst hd hcg
      have hc : wr.cell? ⟨P, d, none⟩ = some (.int .i64 (n : Int)) := by
        rw [HO.out.cellAt d (by omega)]
        simp [natV, hcg]
      have hf := HO.out.frozenAt d
      have hput := (HO.out.stored d (.int .i64 ((n + 1 : Nat) : Int))).1
      rw [natV_set, hst] at hput
      have hn1 : ((n + 1 : Nat) : Int) = (n : Int) + 1 := by omega
      rw [hn1] at hput
      have hb2 : Below w.heap.size w (wr.setCell ⟨P, d, none⟩ (.int .i64 ((n : Int) + 1))) := HBL.out.setCell (by rw [HPE.out]; exact Nat.le_refl _) _
      have HCON := Lib.hid hcon; have HPUT := Lib.hid hput; have HB2 := Lib.hid hb2; clear hcon hst hput hn1 hb2 hcg
      go_wp2_with fail
      refine (HCON.out _).mono ?_
      rintro _ _ ⟨rfl, rfl⟩
      go_wp2_with fail
      refine (HCON.out _).mono ?_
      rintro _ _ ⟨rfl, rfl⟩
      go_wp2_with fail
      go_roundw
      case rel => exact ⟨k + 1, by omega, by go_num, HPUT.out, HB2.out⟩
      case measure => simp [intOf]; omega
    · obtain rfl : k = T.size := by omega
      have ho := HO.out
      rw [HTN.out] at ho
      have HOO := Lib.hid ho; clear ho
      go_wp2_with fail
      go_ret
      exact ⟨_, rfl, own_rd3' HOO.out, HBL.out⟩
set_option maxHeartbeats 8000000 in
set_option maxRecDepth 100000 in
theorem sPermValid_any (w : World) (s : ByteArray) (b : Bool) (hb : b = true ↔ IsPerm s) :
    Calls Tryz.prog 206 #[.string s] w fun e w' => e = .returned (.bool b) ∧ Below w.heap.size w w' := by
  by_cases hz : s.size = 10
  · have hz1 : ((s.size : Int) != 10) = false := by simp; omega
    by_cases hv : wv (tl s) = true
    · obtain ⟨q, rfl, hlt⟩ := pT_of_wv (s := s) (by
        rw [wv_all (by rw [length_tl]; omega)] at hv; exact hv)
      have hql : q.length = 10 := by rw [← pT_size]; exact hz
      have hip : b = true ↔ ∀ x, x < 10 → q.count x = 1 := hb.trans (by
        rw [← prm_counts hql hlt]
        constructor
        · rintro ⟨q', hq', e⟩
          rw [pT_inj hlt hq'.lt e]; exact hq'
        · intro h; exact ⟨q, h, rfl⟩)
      have hcon := fun w' => sLetterCounts_any w' q hlt (by omega)
      have hcl : ∀ x, x < 10 → (cntL q q.length)[x]? = some (q.count x) := fun x hx => by rw [cntL_get _ _ _ hx, List.take_length]
      obtain ⟨C, hC⟩ : ∃ C, C = cntL q q.length := ⟨_, rfl⟩
      have hCl : C.length = 10 := by rw [hC]; exact cntL_len _ _
      rw [← hC] at hcon hcl
      have HIP := Lib.hid hip; have HCON := Lib.hid hcon; have HCL := Lib.hid hcl; have HV := Lib.hid hv; have HCLL := Lib.hid hCl
      clear hb hip hcon hcl hv hlt hC hz hql hCl
      obtain ⟨T, hT⟩ : ∃ T, T = pT q := ⟨_, rfl⟩
      rw [← hT] at HCON HV hz1 ⊢
      clear hT
      go_enter Tryz.func206, Tryz.ntmps206
      go_wp2_with fail
      refine (sWordValid_is _ true _ HV.out).mono ?_
      rintro _ _ ⟨rfl, rfl⟩
      go_wp2_with fail
      refine (HCON.out _).mono ?_
      rintro _ w1 ⟨A, rfl, hrd, hb1⟩
      have HRD := Lib.hid hrd; have HB1 := Lib.hid hb1; clear hrd hb1
      go_wp2_with fail
      go_loopw [4] (fun i wr => ∃ k : Nat, k ≤ 10 ∧ i = .int .i64 k ∧ Hid (∀ x, x < k → q.count x = 1) ∧ Below w1.heap.size w1 wr) (fun i _ => 10 - (intOf i).toNat)
      case atStart => exact ⟨0, Nat.zero_le _, rfl, Lib.hid (fun x hx => absurd hx (Nat.not_lt_zero x)), Below.refl _ _⟩
      case round =>
        obtain ⟨k, hk, rfl, HA, hbl⟩ := hrel
        have HBL := Lib.hid hbl; clear hbl
        have HBB := Lib.hid (HB1.out.trans (HBL.out.mono HB1.out.size))
        by_cases hlt : k < 10
        · obtain ⟨b0, off, rfl, hbb, c0⟩ := (HRD.out.below HBL.out).nat (k := k) (by rw [HCLL.out]; exact hlt)
          have hck : C[k]'(by rw [HCLL.out]; exact hlt) = q.count k := by
            have := HCL.out k hlt
            rw [List.getElem?_eq_getElem (by rw [HCLL.out]; exact hlt)] at this
            injection this
          rw [hck] at c0
          have hc200 : q.count k ≤ 1000000 ∨ True := .inr trivial
          by_cases h1 : q.count k = 1
          · have hnx : ∀ x, x < k + 1 → q.count x = 1 := fun x hx => by
              by_cases e : x = k
              · subst e; exact h1
              · exact HA.out x (by omega)
            rw [h1] at c0
            have HNX := Lib.hid hnx; clear hnx h1 hck hc200
            go_wp2_with fail
            go_roundw
            case rel => exact ⟨k + 1, by omega, by go_num, HNX, HBL.out⟩
            case measure => simp [intOf]; omega
          · have hbf : b = false := by
              rw [Bool.eq_false_iff]; intro e
              exact h1 (HIP.out.1 e k hlt)
            subst hbf
            have hne : (((q.count k : Nat) : Int) != 1) = true := by simp; omega
            clear hck hc200 h1
            generalize q.count k = n at c0 hne
            go_wp2_with fail
            go_ret
            exact ⟨rfl, HBB.out⟩
        · have hbt : b = true := HIP.out.2 fun x hx => HA.out x (by omega)
          subst hbt
          go_wp2_with fail
          go_ret
          exact ⟨rfl, HBB.out⟩
    · have hbf : b = false := by
        rw [Bool.eq_false_iff]; intro e
        obtain ⟨q, hq, rfl⟩ := hb.1 e
        exact hv (pT_wv hq.lt (by rw [hq.len]; omega))
      subst hbf
      have HV := Lib.hid (Bool.eq_false_iff.2 hv); clear hb hv hz
      go_enter Tryz.func206, Tryz.ntmps206
      go_wp2_with fail
      refine (sWordValid_is _ false _ HV.out).mono ?_
      rintro _ _ ⟨rfl, rfl⟩
      go_wp2_with fail
      go_ret
      exact ⟨rfl, Below.refl _ _⟩
  · have hbf : b = false := by
      rw [Bool.eq_false_iff]; intro e
      obtain ⟨q, hq, rfl⟩ := hb.1 e
      exact hz (by rw [pT_size, hq.len])
    subst hbf
    have hz1 : ((s.size : Int) != 10) = true := by simp; omega
    clear hb hz
    go_enter Tryz.func206, Tryz.ntmps206
    go_wp2_with fail
    go_ret
    exact ⟨rfl, Below.refl _ _⟩
set_option maxHeartbeats 2000000 in
theorem sl3Cycle_any (w : World) (q : List Nat) (a : Nat) (hq : Prm q) (ha : a < 10) :
    Calls Tryz.prog 324 #[.string (pT q), .int .i64 a] w fun e w' => e = .returned (.string (pT (orb q a))) ∧ Below w.heap.size w w' := by
  obtain ⟨p1, p2, p3, p4⟩ := per_spec hq ha
  have him : ∀ w' (k : Nat), k < 10 → Calls Tryz.prog 24 #[.string (pT q), .int .i64 (k : Int)] w' fun e w'' => e = .returned (.int .i64 (nth q k : Int)) ∧ w' = w'' := fun w' k hk => l2Image_any w' q hq.lt k _ rfl (by rw [hq.len]; exact hk) (by rw [hq.len]; omega)
  have hil := it_lt hq ha
  have hsn := fun j => (pT_snoc (orbTo q a j) (it q a j)).trans (by rw [orbTo_snoc])
  have h1 : mk [letter a] = pT (orbTo q a 1) := rfl
  have hgz : ∀ j, (pT (orbTo q a j)).size = j := fun j => by rw [pT_size, orbTo_len]
  have hit : ∀ j, nth q (it q a j) = it q a (j + 1) := fun j => rfl
  have hi1 : nth q a = it q a 1 := rfl
  have hend : pT (orb q a) = pT (orbTo q a (per q a)) := rfl
  obtain ⟨G, hG⟩ : ∃ G : Nat → ByteArray, G = fun j => pT (orbTo q a j) := ⟨_, rfl⟩
  have hGj : ∀ j, pT (orbTo q a j) = G j := fun j => by rw [hG]
  simp only [hGj] at hsn h1 hgz hend
  obtain ⟨R, hR⟩ : ∃ R, R = pT (orb q a) := ⟨_, rfl⟩
  rw [← hR] at hend ⊢
  generalize it q a = f at hil hsn hit hi1 p3 p4
  generalize per q a = M at p1 p2 p3 p4 hend
  obtain ⟨T, hT⟩ : ∃ T, T = pT q := ⟨_, rfl⟩
  rw [← hT] at him ⊢
  have HIM := Lib.hid him; have HIL := Lib.hid hil; have HSN := Lib.hid hsn; have HGZ := Lib.hid hgz; have HIT := Lib.hid hit; have HE := Lib.hid hend; have P3 := Lib.hid p3; have P4 := Lib.hid p4; have H1 := Lib.hid h1; have HI1 := Lib.hid hi1
  clear him hil hsn hgz hit hend p3 p4 h1 hi1 hG hGj hR hT hq
  go_enter Tryz.func324, Tryz.ntmps324
  go_wp2_with fail
  refine (l1Letter_is _ _ a (by omega) (by omega)).mono ?_
  rintro _ w1 ⟨rfl, hb1⟩
  have HB1 := Lib.hid hb1; clear hb1
  rw [H1.out]
  go_wp2_with fail
  refine (HIM.out _ a ha).mono ?_
  rintro _ _ ⟨rfl, rfl⟩
  rw [HI1.out]
  go_wp2_with fail
  go_loopw [5, 6] (fun s n wr => ∃ j : Nat, 1 ≤ j ∧ j ≤ M ∧ s = .string (G j) ∧ n = .int .i64 (f j : Int) ∧ Below w.heap.size w wr) (fun s _ _ => M - szOf s)
  case atStart => exact ⟨1, Nat.le_refl _, p1, rfl, rfl, HB1.out⟩
  case round =>
    obtain ⟨j, hj1, hj2, rfl, rfl, hbl⟩ := hrel
    have HBL := Lib.hid hbl; clear hbl HB1
    have hfl := HIL.out j
    have hgz := HGZ.out j
    by_cases hlt : j < M
    · have hne : ((f j : Int) != (a : Int)) = true := by
        have := P4.out j hj1 hlt
        simp; omega
      have hsn := HSN.out j
      have hgz2 := HGZ.out (j + 1)
      have hit := HIT.out j
      have HG2 := Lib.hid hgz2; have HG1 := Lib.hid hgz
      have hgb : (G j).size ≤ 10 := by omega
      clear hgz2 hgz
      generalize G j = N1 at hsn HG1 hgb ⊢
      generalize f j = x at hfl hne hsn hit ⊢
      have HSN1 := Lib.hid hsn; have HIT1 := Lib.hid hit; clear hsn hit
      go_wp2_with fail
      refine (l1Letter_is _ _ x (by omega) (by omega)).mono ?_
      rintro _ w2 ⟨rfl, hb2⟩
      have HB2 := Lib.hid (HBL.out.trans (hb2.mono HBL.out.size)); clear hb2
      have hz1 : (mk [letter x]).size ≤ 1 := by rw [size_mk]; simp
      generalize mk [letter x] = c at HSN1 hz1 ⊢
      go_wp2_with fail
      refine (HIM.out _ x hfl).mono ?_
      rintro _ _ ⟨rfl, rfl⟩
      rw [HIT1.out]
      go_wp2_with fail
      go_roundw
      case rel => exact ⟨j + 1, by omega, by omega, by rw [HSN1.out], rfl, HB2.out⟩
      case measure => simp only [szOf]; rw [HSN1.out, HG2.out]; have := HG1.out; omega
    · obtain rfl : j = M := by omega
      have hpe := P3.out
      have hne : ((f j : Int) != (a : Int)) = false := by simp; omega
      have HEE := Lib.hid hpe; clear hpe
      generalize f j = x at hne hfl ⊢
      go_wp2_with fail
      go_ret
      exact ⟨by rw [HE.out]; rfl, HBL.out⟩
theorem letter_nat {k : Nat} (hk : k < 10) : ((letter k).toNat : Int) = 97 + (k : Int) := by rw [toNat_letter hk]; omega
def CycMade (q : List Nat) (w : World) (e : Ending) (w' : World) : Prop := ∃ A cap, e = .returned (.slice A (cycS q 10).length cap) ∧ w'.ownsRow w.heap.size 9 1 (.slice A (cycS q 10).length cap) (cycS q 10).length (strV (cycS q 10)) ∧ Below w.heap.size w w'
theorem cycS_in {q : List Nat} {k : Nat} (h : k ∈ (cycs q k).flatten) : cycS q (k + 1) = cycS q k := by unfold cycS; rw [cycs_in h]
theorem cycS_out {q : List Nat} {k : Nat} (h : k ∉ (cycs q k).flatten) : cycS q (k + 1) = cycS q k ++ [pT (orb q k)] := by unfold cycS; rw [cycs_out h]; simp
theorem seenT_in {q : List Nat} {k : Nat} (h : k ∈ (cycs q k).flatten) : pT (cycs q (k + 1)).flatten = pT (cycs q k).flatten := by rw [cycs_in h]
theorem seenT_out {q : List Nat} {k : Nat} (h : k ∉ (cycs q k).flatten) : pT (cycs q k).flatten ++ pT (orb q k) = pT (cycs q (k + 1)).flatten := by
  rw [cycs_out h, List.flatten_append, List.flatten_singleton, pT_append]
theorem cycS_le (q : List Nat) (k : Nat) : (cycS q k).length ≤ k := by rw [cycS_len]; exact cycs_len q k
set_option maxHeartbeats 4000000 in
set_option maxRecDepth 100000 in
theorem sCyclesOf_any (w : World) (q : List Nat) (hq : Prm q) :
    Calls Tryz.prog 314 #[.string (pT q)] w (CycMade q w) := by
  obtain ⟨iS, hi, hz0, hz1, hz2⟩ := info_parts Tryz.infoS
  have HI := Lib.hid hi; have HZ0 := Lib.hid hz0; have HZ1 := Lib.hid hz1; have HZ2 := Lib.hid hz2
  clear hi hz0 hz1 hz2
  have hpv := fun w' => sPermValid_any w' (pT q) true ⟨fun _ => ⟨q, hq, rfl⟩, fun _ => rfl⟩
  have h3c := fun w' a (ha : a < 10) => sl3Cycle_any w' q a hq ha
  have how : (w.alloc (.cells #[] 9)).ownsRow w.heap.size 9 1 (.slice (some ⟨w.heap.size, 0, none⟩) 0 0) 0 (strV (cycS q 0)) := World.ownsRow_made w #[] 0 (Nat.le_refl _) (by decide) rfl
  have hb0 : Below w.heap.size w (w.alloc (.cells #[] 9)) := (Below.refl _ _).alloc (Nat.le_refl _) _
  have hsz : ∀ k, k ≤ 10 → (pT (cycs q k).flatten).size ≤ 100 := fun k hk => by rw [pT_size]; have := seen_size hq k hk; omega
  have HPV := Lib.hid hpv; have H3C := Lib.hid h3c; have HOW := Lib.hid how; have HB0 := Lib.hid hb0; have HSZ := Lib.hid hsz; have HQ := Lib.hid hq
  clear hpv h3c how hb0 hsz hq
  obtain ⟨P, hP⟩ : ∃ P, P = w.heap.size := ⟨_, rfl⟩
  obtain ⟨T, hT⟩ : ∃ T, T = pT q := ⟨_, rfl⟩
  rw [← hT] at HPV H3C ⊢
  clear hT
  go_enter Tryz.func314, Tryz.ntmps314
  go_wp2_with fail
  refine (HPV.out _).mono ?_
  rintro _ w1 ⟨rfl, hb1⟩
  have HO1 := Lib.hid (ownsRow_below HOW.out hb1)
  have HB1 := Lib.hid (HB0.out.trans (hb1.mono HB0.out.size)); clear hb1 HPV HOW HB0
  rw [← hP] at HO1 ⊢
  have HPE := Lib.hid hP; clear hP
  go_wp2_with fail
  go_loopw [3, 4, 5] (fun o s i wr => ∃ k : Nat, k ≤ 10 ∧ i = .int .i64 k ∧ s = .string (pT (cycs q k).flatten) ∧ wr.ownsRow P 9 1 o (cycS q k).length (strV (cycS q k)) ∧ Below w.heap.size w wr) (fun _ _ i _ => 10 - (intOf i).toNat)
  case atStart => exact ⟨0, Nat.zero_le _, rfl, rfl, HO1.out, HB1.out⟩
  case round =>
    obtain ⟨k, hk, rfl, rfl, hown, hbl⟩ := hrel
    have HO := Lib.hid hown; have HBL := Lib.hid hbl; clear hown hbl HO1 HB1
    obtain ⟨A3, c3, e3⟩ := slot_slice HO.out
    subst e3
    have hzs := HSZ.out k hk
    by_cases hlt : k < 10
    · have hfd := fun w' => l21Find_is w' (pT (cycs q k).flatten) (letter k) (by omega)
      rw [letter_nat hlt] at hfd
      have hcv : IntKind.u8.wrap (97 + (k : Int)) = 97 + (k : Int) := by
        have : ∀ n : Fin 10, IntKind.u8.wrap (97 + ((n.val : Nat) : Int)) = 97 + ((n.val : Nat) : Int) := by decide
        exact this ⟨k, hlt⟩
      by_cases hs : k ∈ (cycs q k).flatten
      · have hf0 : ¬ fdx (letter k) (tl (pT (cycs q k).flatten)) < 0 := by
          rw [fdx_ge ((mem_letter (seen_lt HQ.out hk) hlt).2 hs)]; omega
        have e1 := cycS_in hs
        have e2 := seenT_in hs
        generalize fdx (letter k) (tl (pT (cycs q k).flatten)) = F at hfd hf0
        have HFD := Lib.hid hfd; have E1 := Lib.hid e1; have E2 := Lib.hid e2; clear hfd e1 e2 hs
        obtain ⟨W, hW⟩ : ∃ W, W = pT (cycs q k).flatten := ⟨_, rfl⟩
        rw [← hW] at HFD hzs E2 ⊢
        clear hW
        go_wp2_with fail
        refine (HFD.out _).mono ?_
        rintro _ _ ⟨rfl, rfl⟩
        go_wp2_with fail
        go_roundw
        case rel => exact ⟨k + 1, by omega, by go_num, by rw [E2.out], by rw [E1.out]; exact HO.out, HBL.out⟩
        case measure => simp [intOf]; omega
      · have hf0 : fdx (letter k) (tl (pT (cycs q k).flatten)) < 0 := by
          rw [fdx_miss (fun hm => hs ((mem_letter (seen_lt HQ.out hk) hlt).1 hm))]; omega
        have e1 := cycS_out hs
        have e2 := seenT_out hs
        have hll := cycS_le q k
        have h3 := fun w' => H3C.out w' k hlt
        have hoz : (pT (orb q k)).size ≤ 10 := by
          rw [pT_size]; unfold orb; rw [orbTo_len]; exact (per_spec HQ.out hlt).2.1
        obtain ⟨O, hO⟩ : ∃ O, O = pT (orb q k) := ⟨_, rfl⟩
        rw [← hO] at e1 e2 h3 hoz
        clear hO
        generalize fdx (letter k) (tl (pT (cycs q k).flatten)) = F at hfd hf0
        obtain ⟨W, hW⟩ : ∃ W, W = pT (cycs q k).flatten := ⟨_, rfl⟩
        rw [← hW] at hfd hzs e2 ⊢
        clear hW
        obtain ⟨L, hL⟩ : ∃ L, L = (cycS q k).length := ⟨_, rfl⟩
        have HFD := Lib.hid hfd; have E1 := Lib.hid e1; have E2 := Lib.hid e2; have H3 := Lib.hid h3; have HLE := Lib.hid hL
        rw [← hL] at HO hll ⊢
        clear hfd e1 e2 hs h3 hL
        go_wp2_with fail
        refine (HFD.out _).mono ?_
        rintro _ _ ⟨rfl, rfl⟩
        go_wp2_with fail
        refine (H3.out _).mono ?_
        rintro _ w2 ⟨rfl, hb2⟩
        have HO2 := Lib.hid (ownsRow_below HO.out hb2); have HB2 := Lib.hid (HBL.out.trans (hb2.mono HBL.out.size))
        have hbw : P ≤ w2.heap.size := by rw [HPE.out]; exact HB2.out.size
        clear hb2 HO HBL H3
        go_wp2_with (at_builtin; refine wpList_append_own _ rfl _ _ 33 rfl P 9 iS (.string ByteArray.empty) 1 16 Tryz.undS HI.out HZ0.out HZ1.out HZ2.out rfl (by decide) _ L _ rfl (HO2.out.alloc _) ⟨w2.heap.size, 0, none⟩ 1 1 [.string O] rfl rfl (one_new w2 (.string O) 9) one_cell (by unfold maxLen; omega) (by omega) (by simp; omega) ?_)
        intro v' w7 ho' hg' _
        have hel : strV (cycS q k) ++ [Value.string O] = strV (cycS q (k + 1)) := by rw [E1.out]; simp [strV]
        have hel2 : L + 1 = (cycS q (k + 1)).length := by rw [E1.out, HLE.out]; simp
        rw [hel] at ho'
        have hb7 : Below w.heap.size w w7 := (HB2.out.alloc HB2.out.size _).grown hg' (Nat.le_trans HB2.out.size (by simp)) fun k' e => by have := (HO2.out.lt k' e).1; have := HPE.out; omega
        obtain ⟨A7, c7, e7⟩ := slot_slice ho'
        subst e7
        obtain ⟨b7, off7, ea, _, cl⟩ := (own_rd3' ho').str (k := L) (by omega)
        subst ea
        have hlast : (cycS q (k + 1))[L]'(by omega) = O := by simp only [E1.out]; rw [List.getElem_append_right (by rw [HLE.out]; exact Nat.le_refl _)]; simp [HLE.out]
        rw [hlast] at cl
        have HO7 := Lib.hid ho'; have HB7 := Lib.hid hb7; have HE2 := Lib.hid hel2; clear ho' hg' hb7 hel hel2 hlast
        have n1 : ((L + 1 : Nat) : Int) - 1 = (L : Int) := by omega
        go_wp2_with fail
        go_roundw
        case rel => exact ⟨k + 1, by omega, by go_num, by rw [E2.out], by rw [← HE2.out]; exact HO7.out, HB7.out⟩
        case measure => simp [intOf]; omega
    · obtain rfl : k = 10 := by omega
      go_wp2_with fail
      go_ret
      exact ⟨A3, c3, rfl, own_mono3 HO.out (by rw [HPE.out]; exact Nat.le_refl _), HBL.out⟩
theorem ones_yes {l : List (List Nat)} {k : Nat} (hk : k < l.length) (h : l[k].length = 1) : pT (ones (l.take k)) ++ pT l[k] = pT (ones (l.take (k + 1))) := by
  rw [pT_append, List.take_succ_eq_append_getElem hk]
  unfold ones
  rw [List.filter_append, List.filter_cons, if_pos (by rw [h]; rfl), List.flatten_append]; simp
theorem ones_no {l : List (List Nat)} {k : Nat} (hk : k < l.length) (h : l[k].length ≠ 1) : pT (ones (l.take k)) = pT (ones (l.take (k + 1))) := by
  rw [List.take_succ_eq_append_getElem hk]
  unfold ones
  rw [List.filter_append, List.filter_cons, if_neg (by simpa using h)]; simp
theorem cycS_at (q : List Nat) (n : Nat) : ∀ k (hk : k < (cycs q n).length) (hk2 : k < (cycS q n).length), (cycS q n)[k] = pT (cycs q n)[k] := fun k hk hk2 => by simp [cycS]
theorem ones_len {l : List (List Nat)} : (ones l).length ≤ l.length := by
  induction l with
  | nil => simp [ones]
  | cons x r ih =>
    unfold ones at ih ⊢
    by_cases h : x.length = 1
    · rw [List.filter_cons, if_pos (by rw [h]; rfl), List.flatten_cons, List.length_append, List.length_cons]; omega
    · rw [List.filter_cons, if_neg (by simpa using h), List.length_cons]; omega
set_option maxHeartbeats 4000000 in
set_option maxRecDepth 100000 in
theorem sFixedLetters_any (w : World) (q : List Nat) (hq : Prm q) :
    Calls Tryz.prog 298 #[.string (pT q)] w fun e w' => e = .returned (.string (pT (fixL q 10))) ∧ Below w.heap.size w w' := by
  have hcy := sCyclesOf_any w q hq
  have hfin := congrArg pT (ones_fix hq 10 (Nat.le_refl _))
  have hcl := cycs_len q 10
  have hall := fun c (hc : c ∈ cycs q 10) => cyc_len hq hc
  have hsl := cycS_len q 10
  have hat := cycS_at q 10
  unfold CycMade at hcy
  obtain ⟨R, hR⟩ : ∃ R, R = pT (fixL q 10) := ⟨_, rfl⟩
  rw [← hR] at hfin ⊢
  generalize cycS q 10 = Y at hcy hsl hat
  generalize cycs q 10 = l at hfin hcl hall hsl hat
  have hsl1 : Y.length ≤ l.length := by omega
  have hsl2 : l.length ≤ Y.length := by omega
  have HCY := Lib.hid hcy; have HF := Lib.hid hfin; have HALL := Lib.hid hall; have HAT := Lib.hid hat
  clear hcy hfin hall hat hR hsl hq
  go_enter Tryz.func298, Tryz.ntmps298
  go_wp2_with fail
  refine HCY.out.mono ?_
  rintro _ w1 ⟨A, cap, rfl, hown, hb1⟩
  have HRD := Lib.hid (own_rd3' hown); have HB1 := Lib.hid hb1; clear hown hb1
  go_wp2_with fail
  go_loopw [3, 5] (fun o i wr => ∃ k : Nat, k ≤ l.length ∧ i = .int .i64 k ∧ o = .string (pT (ones (l.take k))) ∧ Below w1.heap.size w1 wr) (fun _ i _ => l.length - (intOf i).toNat)
  case atStart => exact ⟨0, Nat.zero_le _, rfl, rfl, Below.refl _ _⟩
  case round =>
    obtain ⟨k, hk, rfl, rfl, hbl⟩ := hrel
    have HBL := Lib.hid hbl; clear hbl
    by_cases hlt : k < l.length
    · have hks : k < Y.length := by omega
      obtain ⟨b0, off, rfl, _, c0⟩ := (HRD.out.below HBL.out).str hks
      rw [HAT.out k hlt hks] at c0
      have hzo : (pT (ones (l.take k))).size ≤ 20 := by
        rw [pT_size]; have := @ones_len (l.take k); rw [List.length_take] at this; omega
      have hlk := (HALL.out _ (List.getElem_mem hlt)).2.1
      have hps : (pT l[k]).size = l[k].length := pT_size _
      by_cases h1 : l[k].length = 1
      · have hst := ones_yes hlt h1
        have hb : (((pT l[k]).size : Int) == 1) = true := by simp; omega
        have hz1 : (pT l[k]).size ≤ 10 := by omega
        have HST := Lib.hid hst; clear hst h1 hps hlk
        generalize pT l[k] = c at c0 hb hz1 HST
        obtain ⟨W, hW⟩ : ∃ W, W = pT (ones (l.take k)) := ⟨_, rfl⟩
        rw [← hW] at HST hzo ⊢
        clear hW
        go_wp2_with fail
        go_roundw
        case rel => exact ⟨k + 1, by omega, by go_num, by rw [HST.out], HBL.out⟩
        case measure => simp [intOf]; omega
      · have hst := ones_no hlt h1
        have hb : (((pT l[k]).size : Int) == 1) = false := by rw [beq_eq_false_iff_ne]; omega
        have hz1 : (pT l[k]).size ≤ 10 := by omega
        have HST := Lib.hid hst; clear hst h1 hps hlk
        generalize pT l[k] = c at c0 hb hz1
        obtain ⟨W, hW⟩ : ∃ W, W = pT (ones (l.take k)) := ⟨_, rfl⟩
        rw [← hW] at HST hzo ⊢
        clear hW
        go_wp2_with fail
        go_roundw
        case rel => exact ⟨k + 1, by omega, by go_num, by rw [HST.out], HBL.out⟩
        case measure => simp [intOf]; omega
    · obtain rfl : k = l.length := by omega
      go_wp2_with fail
      go_ret
      exact ⟨by rw [List.take_length, HF.out]; rfl, HB1.out.trans (HBL.out.mono HB1.out.size)⟩
def IsBoard (s : ByteArray) : Prop := ∃ q, Prm q ∧ invP q = q ∧ s = pT q
theorem board_perm {s : ByteArray} (h : IsBoard s) : IsPerm s := by obtain ⟨q, h1, _, h3⟩ := h; exact ⟨q, h1, h3⟩
theorem sPlugsValid_any (w : World) (s : ByteArray) (b : Bool) (hb : b = true ↔ IsBoard s) :
    Calls Tryz.prog 143 #[.string s] w fun e w' => e = .returned (.bool b) ∧ Below w.heap.size w w' := by
  by_cases hp : IsPerm s
  · have hpv := sPermValid_any w s true (Iff.intro (fun _ => hp) (fun _ => rfl))
    obtain ⟨q, hq, rfl⟩ := hp
    have hbk := fun w' => l2Back_any w' q hq
    have heq : ((pT (invP q)).toList == (pT q).toList) = b := by
      cases b with
      | true =>
        obtain ⟨r, hr, hi, e⟩ := hb.1 rfl
        rw [pT_inj hq.lt hr.lt e, hi]; exact beq_self_eq_true _
      | false =>
        rw [beq_eq_false_iff_ne]
        intro e
        have : pT (invP q) = pT q := by rw [toList_tl, toList_tl] at e; rw [← mk_tl (pT (invP q)), e, mk_tl]
        have := hb.2 ⟨q, hq, pT_inj (prm_inv hq).lt hq.lt this, rfl⟩
        cases this
    have HPV := Lib.hid hpv; have HBK := Lib.hid hbk; clear hpv hbk hb
    generalize pT (invP q) = X at HBK heq
    generalize pT q = T at HPV HBK heq
    go_enter Tryz.func143, Tryz.ntmps143
    go_wp2_with fail
    refine HPV.out.mono ?_
    rintro _ w1 ⟨rfl, hb1⟩
    have HB1 := Lib.hid hb1; clear hb1
    go_wp2_with fail
    refine (HBK.out _).mono ?_
    rintro _ w2 ⟨rfl, hb2⟩
    have HB2 := Lib.hid (HB1.out.trans (hb2.mono HB1.out.size)); clear hb2
    have HEQ := Lib.hid heq; clear heq
    go_wp2_with fail
    go_ret
    exact ⟨by rw [← HEQ.out]; rfl, HB2.out⟩
  · have hbf : b = false := by
      rw [Bool.eq_false_iff]; intro e; exact hp (board_perm (hb.1 e))
    subst hbf
    have hpv := sPermValid_any w s false (Iff.intro (fun h => Bool.noConfusion h) (fun h => absurd h hp))
    have HPV := Lib.hid hpv; clear hpv hb hp
    go_enter Tryz.func143, Tryz.ntmps143
    go_wp2_with fail
    refine HPV.out.mono ?_
    rintro _ w1 ⟨rfl, hb1⟩
    go_wp2_with fail
    go_ret
    exact ⟨rfl, hb1⟩
def IsRefl (s : ByteArray) : Prop := ∃ q, Prm q ∧ invP q = q ∧ (fixL q 10).length = 0 ∧ s = pT q
theorem sReflectorValid_any (w : World) (s : ByteArray) (b : Bool) (hb : b = true ↔ IsRefl s) :
    Calls Tryz.prog 256 #[.string s] w fun e w' => e = .returned (.bool b) ∧ Below w.heap.size w w' := by
  have hpc : Calls Tryz.prog 285 #[.string s] w fun e w' => ∃ n : Int, e = .returned (.int .i64 n) ∧ (n == 5) = b ∧ Below w.heap.size w w' := by
    by_cases hp : IsBoard s
    · have hpv := sPlugsValid_any w s true (Iff.intro (fun _ => hp) (fun _ => rfl))
      obtain ⟨q, hq, hi, rfl⟩ := hp
      have hfl := fun w' => sFixedLetters_any w' q hq
      have hz : (pT (fixL q 10)).size = (fixL q 10).length := pT_size _
      have hle : (fixL q 10).length ≤ 10 := by
        unfold fixL
        exact Nat.le_trans (List.length_filter_le _ _) (by simp)
      have hbb : b = true ↔ (fixL q 10).length = 0 := hb.trans ⟨fun ⟨r, hr, _, h0, e⟩ => by rw [pT_inj hq.lt hr.lt e]; exact h0, fun h0 => ⟨q, hq, hi, h0, rfl⟩⟩
      have hzl : (pT (fixL q 10)).size ≤ 10 := by omega
      have hfn : ((10 - ((pT (fixL q 10)).size : Int)) / 2 == 5) = b := by
        cases b with
        | true => have := hbb.1 rfl; simp; omega
        | false =>
          rw [beq_eq_false_iff_ne]; intro e
          have : (fixL q 10).length = 0 := by omega
          have := hbb.2 this
          cases this
      have HPV := Lib.hid hpv; have HFL := Lib.hid hfl; have HFN := Lib.hid hfn
      clear hpv hfl hz hle hbb hb hfn
      generalize pT (fixL q 10) = F at HFL hzl HFN
      generalize pT q = T at HPV HFL
      go_enter Tryz.func285, Tryz.ntmps285
      go_wp2_with fail
      refine HPV.out.mono ?_
      rintro _ w1 ⟨rfl, hb1⟩
      have HB1 := Lib.hid hb1; clear hb1
      go_wp2_with fail
      refine (HFL.out _).mono ?_
      rintro _ w2 ⟨rfl, hb2⟩
      have HB2 := Lib.hid (HB1.out.trans (hb2.mono HB1.out.size)); clear hb2
      go_wp2_with fail
      go_ret
      exact ⟨_, rfl, HFN.out, HB2.out⟩
    · have hpv := sPlugsValid_any w s false (Iff.intro (fun h => Bool.noConfusion h) (fun h => absurd h hp))
      have hbf : b = false := by
        rw [Bool.eq_false_iff]; intro e
        obtain ⟨q, hq, hi, _, e⟩ := hb.1 e
        exact hp ⟨q, hq, hi, e⟩
      subst hbf
      have HPV := Lib.hid hpv; clear hpv hb hp
      go_enter Tryz.func285, Tryz.ntmps285
      go_wp2_with fail
      refine HPV.out.mono ?_
      rintro _ w1 ⟨rfl, hb1⟩
      go_wp2_with fail
      go_ret
      exact ⟨-1, rfl, rfl, hb1⟩
  have HPC := Lib.hid hpc; clear hpc hb
  go_enter Tryz.func256, Tryz.ntmps256
  go_wp2_with fail
  refine HPC.out.mono ?_
  rintro _ w1 ⟨n, rfl, hn, hb1⟩
  have HN := Lib.hid hn; have HB1 := Lib.hid hb1; clear hn hb1
  go_wp2_with fail
  go_ret
  exact ⟨by rw [← HN.out]; rfl, HB1.out⟩
abbrev zP : List Nat := List.replicate 10 0
theorem zP_len : zP.length = 10 := rfl
theorem PB.made (w : World) : PB (w.alloc (.cells #[.int .u8 0, .int .u8 0, .int .u8 0, .int .u8 0, .int .u8 0, .int .u8 0, .int .u8 0, .int .u8 0, .int .u8 0, .int .u8 0] 52)) w.heap.size zP := heap_alloc_new w _
theorem PB.below {w w' : World} {p : Nat} {q : List Nat} (h : PB w p q) (hb : Below w.heap.size w w') : PB w' p q := (hb.block p (Array.getElem?_eq_some_iff.1 h).1).trans h
theorem PB.row {w : World} {p : Nat} {q : List Nat} (h : PB w p q) (r : List Nat) : PB (w.setRow p (pC r)) p r := setRow_heap w p _ (pC r) _ _ h
theorem PB.rowFar {w : World} {p p' : Nat} {q : List Nat} (h : PB w p q) (hn : p ≠ p') (r : List Nat) : PB (w.setRow p' (pC r)) p q := (setRow_other w p' p (pC r) hn).trans h
theorem cells_u8 : Tryz.prog.cellsOf 5 = 1 := by kernel_rfl
theorem plain_u8 : Tryz.prog.plainKey 5 = true := by kernel_rfl
theorem run_items (w : World) (d : Nat) (p r : List Nat) : ∀ is : List Nat, (∀ i ∈ is, i < p.length ∧ i < r.length) → (Op.eqItems (d + 1) 5 1 (pC p) (pC r) is).run Tryz.prog w = .ok (is.all fun i => nth p i == nth r i) w
  | [], _ => by simp [Op.eqItems]
  | i :: is, h => by
    have ih := run_items w d p r is fun j hj => h j (by simp [hj])
    obtain ⟨h1, h2⟩ := h i (by simp)
    have e1 : (pC p)[i * 1]? = some (.int .u8 (nth p i : Int)) := by rw [Nat.mul_one, nth_eq h1]; exact pC_get h1
    have e2 : (pC r)[i * 1]? = some (.int .u8 (nth r i : Int)) := by rw [Nat.mul_one, nth_eq h2]; exact pC_get h2
    simp only [Op.eqItems, Sem.run_bind, run_part_plain w plain_u8 e1, run_part_plain w plain_u8 e2, Result.andThen_ok, run_equalIn_int w d 5 .u8 .u8 _ _ Tryz.underlying5]
    rw [List.all_cons]
    by_cases e : nth p i = nth r i
    · simp [e, ih]
    · have : ((nth p i : Int) == (nth r i : Int)) = false := by rw [beq_eq_false_iff_ne]; omega
      simp [this, e]
theorem all_nth {p r : List Nat} (hp : p.length = 10) (hr : r.length = 10) : ((List.range 10).all fun i => nth p i == nth r i) = decide (p = r) := by
  by_cases e : p = r
  · subst e; simp
  · rw [decide_eq_false e, List.all_eq_false]
    apply Classical.byContradiction
    intro hn
    apply e
    apply List.ext_getElem (by omega)
    intro i h1 h2
    have : nth p i = nth r i := by
      apply Classical.byContradiction
      intro hne
      exact hn ⟨i, List.mem_range.2 (by omega), by simp [hne]⟩
    rwa [nth_eq h1, nth_eq h2] at this
theorem run_permEq (w : World) {p r : List Nat} (hp : p.length = 10) (hr : r.length = 10) : (Op.equalIn 10000 52 (.agg (pC p)) (.agg (pC r))).run Tryz.prog w = .ok (decide (p = r)) w := by
  obtain ⟨iB, hi, _⟩ := info_parts Tryz.infoB
  rw [show (10000 : Nat) = 9999 + 1 from rfl, run_equalIn_array w 9999 _ _ Tryz.underlying52 hi, cells_u8, show (9999 : Nat) = 9998 + 1 from rfl, run_items w 9998 p r (List.range 10) (fun i hi => by have := List.mem_range.1 hi; omega), all_nth hp hr]
theorem wpList_load_rowG {P : Program} {ops : Array Oper} {rest : List Oper} {o : Oper} {a : Act} {w : World} {Q : Exit → Act → World → Prop} (hw : Region.wanted o (yielded ops a.tmps) = true) (ty : TypeId) (x : Operand) (ho : o.op = .load ty x)
    (g : Nat) (hx : a.eval x = .pointer (some ⟨g, 0, none⟩)) (t : TypeId) (cs : Array Value) (fr : Nat × Nat) (d : TypeDesc) (hg : w.heap[g]? = some (.cells cs t fr))
    (hu : P.underlying ty = some d) (hd : (match d with | .struct _ | .array _ _ => true | _ => false) = true) (hi : (P.info? ty).map (·.size) = some cs.size)
    (h : wpList P ops Q rest (a.put o.dst (.agg cs)) w) : wpList P ops Q (o :: rest) a w :=
  wpList_step fun K hK => by rw [if_pos hw]; exact wp_load_row ty x ho g hx t cs fr d hg hu hd hi (hK _ _ h)
set_option maxHeartbeats 4000000 in
set_option maxRecDepth 100000 in
theorem plugsOf_yes (w : World) (q : List Nat) (hq : Prm q) (hi : invP q = q) :
    Calls Tryz.prog 32 #[.string (pT q)] w fun e w' => e = .returned (.tuple #[.agg (pC q), .bool true]) ∧ Below w.heap.size w w' := by
  have hpo := fun w' => permOf_yes w' q hq
  have hth := fun w' => then_any w' q q hq.toTen hq.toTen
  rw [(inv_self hq).2 hi] at hth
  have HPO := Lib.hid hpo; have HTH := Lib.hid hth; have HQL := Lib.hid hq.len
  have hb0 : Below w.heap.size w (w.alloc (.cells #[.int .u8 0, .int .u8 0, .int .u8 0, .int .u8 0, .int .u8 0, .int .u8 0, .int .u8 0, .int .u8 0, .int .u8 0, .int .u8 0] 52)) := (Below.refl _ _).alloc (Nat.le_refl _) _
  have HB0 := Lib.hid hb0; have HP0 := Lib.hid (PB.made w)
  clear hpo hth hi hb0 hq
  generalize pT q = T at HPO
  obtain ⟨P, hP⟩ : ∃ P, P = w.heap.size := ⟨_, rfl⟩
  go_enter Tryz.func32, Tryz.ntmps32
  go_wp2_with fail
  refine (HPO.out _).mono ?_
  rintro _ w1 ⟨rfl, hb1⟩
  have HP1 := Lib.hid (HP0.out.below hb1); have HB1 := Lib.hid (HB0.out.trans (hb1.mono HB0.out.size)); clear hb1 HP0 HB0 HPO
  rw [← hP] at HP1 ⊢
  have HPE := Lib.hid hP; clear hP
  have HG1 := Lib.hid (PB.made w1)
  have hpg : P ≠ w1.heap.size := by have := (Array.getElem?_eq_some_iff.1 HP1.out).1; omega
  have HP2 := Lib.hid (block_kept3 HP1.out (.cells #[.int .u8 0, .int .u8 0, .int .u8 0, .int .u8 0, .int .u8 0, .int .u8 0, .int .u8 0, .int .u8 0, .int .u8 0, .int .u8 0] 52))
  have HB2 := Lib.hid (HB1.out.alloc HB1.out.size (.cells #[.int .u8 0, .int .u8 0, .int .u8 0, .int .u8 0, .int .u8 0, .int .u8 0, .int .u8 0, .int .u8 0, .int .u8 0, .int .u8 0] 52))
  have HS3 := Lib.hid (HG1.out.row q)
  have HP3 := Lib.hid (PB.rowFar HP2.out hpg q)
  have HB3 := Lib.hid (below_setRow HB2.out HB1.out.size (pC q))
  go_wp2_with (first | (refine wpList_store_row rfl 52 _ _ rfl w1.heap.size (pC q) rfl rfl _ _ HG1.out (permSize HQL.out) (by rw [pC_size, pC_size, HQL.out]; rfl) (pC_one _) ?_) | (refine wpList_load_row rfl 52 _ rfl w1.heap.size rfl _ _ _ _ HS3.out Tryz.underlying52 rfl (permSize HQL.out) ?_) | (refine wpList_load_rowG (by rfl) 52 _ rfl w1.heap.size rfl _ _ _ _ HS3.out Tryz.underlying52 rfl (permSize HQL.out) ?_))
  obtain ⟨w3, hw3⟩ : ∃ w3, w3 = (w1.alloc (.cells #[.int .u8 0, .int .u8 0, .int .u8 0, .int .u8 0, .int .u8 0, .int .u8 0, .int .u8 0, .int .u8 0, .int .u8 0, .int .u8 0] 52)).setRow w1.heap.size (pC q) := ⟨_, rfl⟩
  rw [← hw3] at HS3 HP3 HB3 ⊢
  refine (HTH.out w3).mono ?_
  rintro _ w4 ⟨rfl, hb4⟩
  have HS4 := Lib.hid (HS3.out.below hb4); have HP4 := Lib.hid (HP3.out.below hb4); have HB4 := Lib.hid (HB3.out.trans (hb4.mono HB3.out.size))
  clear hb4 HS3 HP3 HB3 hw3 HP2 HG1 HB2 HP1
  go_wp2_with fail
  refine (identity_any w4).mono ?_
  rintro _ w5 ⟨rfl, hb5⟩
  have HS5 := Lib.hid (HS4.out.below hb5); have HP5 := Lib.hid (HP4.out.below hb5); have HB5 := Lib.hid (HB4.out.trans (hb5.mono HB4.out.size))
  clear hb5 HS4 HP4 HB4
  have heq := run_permEq w5 (p := [0, 1, 2, 3, 4, 5, 6, 7, 8, 9]) (r := [0, 1, 2, 3, 4, 5, 6, 7, 8, 9]) rfl rfl
  rw [decide_eq_true rfl] at heq
  have HS6 := Lib.hid (PB.row HP5.out q)
  have HB6 := Lib.hid (below_setRow (p := P) HB5.out (by rw [HPE.out]; exact Nat.le_refl _) (pC q))
  go_wp2_with (first | (refine wpList_load_row rfl 52 _ rfl w1.heap.size rfl _ _ _ _ HS5.out Tryz.underlying52 rfl (permSize HQL.out) ?_) | (refine wpList_store_row rfl 52 _ _ rfl P (pC q) rfl rfl _ _ HP5.out (permSize HQL.out) (by rw [pC_size, pC_size, HQL.out]; rfl) (pC_one _) ?_))
  refine bodyPost_ret (results_row_tmp rfl _ _ P _ (pC q) _ _ _ rfl HS6.out Tryz.underlying52 (permSize HQL.out)) rfl ⟨rfl, HB6.out⟩
set_option maxHeartbeats 4000000 in
set_option maxRecDepth 100000 in
theorem plugsOf_no (w : World) (s : ByteArray) (h : ¬ IsBoard s) :
    Calls Tryz.prog 32 #[.string s] w fun e w' => e = .returned (.tuple #[.agg (pC zP), .bool false]) ∧ Below w.heap.size w w' := by
  have hb0 : Below w.heap.size w (w.alloc (.cells #[.int .u8 0, .int .u8 0, .int .u8 0, .int .u8 0, .int .u8 0, .int .u8 0, .int .u8 0, .int .u8 0, .int .u8 0, .int .u8 0] 52)) := (Below.refl _ _).alloc (Nat.le_refl _) _
  have HB0 := Lib.hid hb0; have HP0 := Lib.hid (PB.made w)
  clear hb0
  obtain ⟨P, hP⟩ : ∃ P, P = w.heap.size := ⟨_, rfl⟩
  by_cases hp : IsPerm s
  · obtain ⟨q, hq, rfl⟩ := hp
    have hne : invP q ≠ q := fun e => h ⟨q, hq, e, rfl⟩
    have hpo := fun w' => permOf_yes w' q hq
    have hth := fun w' => then_any w' q q hq.toTen hq.toTen
    have hid : thenP q q ≠ List.range 10 := fun e => hne ((inv_self hq).1 e)
    have htl := (thenP_ten hq.toTen hq.toTen).len
    generalize thenP q q = r at hth hid htl
    have HPO := Lib.hid hpo; have HTH := Lib.hid hth; have HQL := Lib.hid hq.len; have HID := Lib.hid hid; have HTL := Lib.hid htl
    clear hpo hth hq hid hne h htl
    generalize pT q = T at HPO
    go_enter Tryz.func32, Tryz.ntmps32
    go_wp2_with fail
    refine (HPO.out _).mono ?_
    rintro _ w1 ⟨rfl, hb1⟩
    have HP1 := Lib.hid (HP0.out.below hb1); have HB1 := Lib.hid (HB0.out.trans (hb1.mono HB0.out.size)); clear hb1 HP0 HB0 HPO
    rw [← hP] at HP1 ⊢
    have HPE := Lib.hid hP; clear hP
    have HG1 := Lib.hid (PB.made w1)
    have hpg : P ≠ w1.heap.size := by have := (Array.getElem?_eq_some_iff.1 HP1.out).1; omega
    have HP2 := Lib.hid (block_kept3 HP1.out (.cells #[.int .u8 0, .int .u8 0, .int .u8 0, .int .u8 0, .int .u8 0, .int .u8 0, .int .u8 0, .int .u8 0, .int .u8 0, .int .u8 0] 52))
    have HB2 := Lib.hid (HB1.out.alloc HB1.out.size (.cells #[.int .u8 0, .int .u8 0, .int .u8 0, .int .u8 0, .int .u8 0, .int .u8 0, .int .u8 0, .int .u8 0, .int .u8 0, .int .u8 0] 52))
    have HS3 := Lib.hid (HG1.out.row q)
    have HP3 := Lib.hid (PB.rowFar HP2.out hpg q)
    have HB3 := Lib.hid (below_setRow HB2.out HB1.out.size (pC q))
    go_wp2_with (first | (refine wpList_store_row rfl 52 _ _ rfl w1.heap.size (pC q) rfl rfl _ _ HG1.out (permSize HQL.out) (by rw [pC_size, pC_size, HQL.out]; rfl) (pC_one _) ?_) | (refine wpList_load_rowG (by rfl) 52 _ rfl w1.heap.size rfl _ _ _ _ HS3.out Tryz.underlying52 rfl (permSize HQL.out) ?_))
    obtain ⟨w3, hw3⟩ : ∃ w3, w3 = (w1.alloc (.cells #[.int .u8 0, .int .u8 0, .int .u8 0, .int .u8 0, .int .u8 0, .int .u8 0, .int .u8 0, .int .u8 0, .int .u8 0, .int .u8 0] 52)).setRow w1.heap.size (pC q) := ⟨_, rfl⟩
    rw [← hw3] at HP3 HB3 ⊢
    refine (HTH.out w3).mono ?_
    rintro _ w4 ⟨rfl, hb4⟩
    have HP4 := Lib.hid (HP3.out.below hb4); have HB4 := Lib.hid (HB3.out.trans (hb4.mono HB3.out.size))
    clear hb4 HS3 HP3 HB3 hw3 HP2 HG1 HB2 HP1
    go_wp2_with fail
    refine (identity_any w4).mono ?_
    rintro _ w5 ⟨rfl, hb5⟩
    have HP5 := Lib.hid (HP4.out.below hb5); have HB5 := Lib.hid (HB4.out.trans (hb5.mono HB4.out.size))
    clear hb5 HP4 HB4
    have heq := run_permEq w5 (p := r) (r := [0, 1, 2, 3, 4, 5, 6, 7, 8, 9]) HTL.out rfl
    rw [decide_eq_false (show ¬ r = [0, 1, 2, 3, 4, 5, 6, 7, 8, 9] from HID.out)] at heq
    have HS6 := Lib.hid (PB.row HP5.out zP)
    have HB6 := Lib.hid (below_setRow (p := P) HB5.out (by rw [HPE.out]; exact Nat.le_refl _) (pC zP))
    go_wp2_with (first | (refine wpList_store_row rfl 52 _ _ rfl P (pC zP) rfl rfl _ _ HP5.out (permSize zP_len) (by rfl) (pC_one _) ?_))
    refine bodyPost_ret (results_row_tmp rfl _ _ P _ (pC zP) _ _ _ rfl HS6.out Tryz.underlying52 (permSize zP_len)) rfl ⟨rfl, HB6.out⟩
  · have hpo := fun w' => permOf_not w' s hp
    have HPO := Lib.hid hpo
    clear hpo hp h
    go_enter Tryz.func32, Tryz.ntmps32
    go_wp2_with fail
    refine (HPO.out _).mono ?_
    rintro _ w1 ⟨rfl, hb1⟩
    have HP1 := Lib.hid (HP0.out.below hb1); have HB1 := Lib.hid (HB0.out.trans (hb1.mono HB0.out.size)); clear hb1 HP0 HB0 HPO
    rw [← hP] at HP1 ⊢
    have HPE := Lib.hid hP; clear hP
    have HG1 := Lib.hid (PB.made w1)
    have hpg : P ≠ w1.heap.size := by have := (Array.getElem?_eq_some_iff.1 HP1.out).1; omega
    have HP2 := Lib.hid (block_kept3 HP1.out (.cells #[.int .u8 0, .int .u8 0, .int .u8 0, .int .u8 0, .int .u8 0, .int .u8 0, .int .u8 0, .int .u8 0, .int .u8 0, .int .u8 0] 52))
    have HB2 := Lib.hid (HB1.out.alloc HB1.out.size (.cells #[.int .u8 0, .int .u8 0, .int .u8 0, .int .u8 0, .int .u8 0, .int .u8 0, .int .u8 0, .int .u8 0, .int .u8 0, .int .u8 0] 52))
    have HP3 := Lib.hid (PB.rowFar HP2.out hpg zP)
    have HB3 := Lib.hid (below_setRow HB2.out HB1.out.size (pC zP))
    have HS6 := Lib.hid (PB.row HP3.out zP)
    have HB6 := Lib.hid (below_setRow (p := P) HB3.out (by rw [HPE.out]; exact Nat.le_refl _) (pC zP))
    go_wp2_with (first | (refine wpList_store_row rfl 52 _ _ rfl w1.heap.size (pC zP) rfl rfl _ _ HG1.out (permSize zP_len) (by rfl) (pC_one _) ?_) | (refine wpList_store_row rfl 52 _ _ rfl P (pC zP) rfl rfl _ _ HP3.out (permSize zP_len) (by rfl) (pC_one _) ?_))
    refine bodyPost_ret (results_row_tmp rfl _ _ P _ (pC zP) _ _ _ rfl HS6.out Tryz.underlying52 (permSize zP_len)) rfl ⟨rfl, HB6.out⟩
theorem plugsValid_any (w : World) (s : ByteArray) (b : Bool) (hb : b = true ↔ IsBoard s) :
    Calls Tryz.prog 80 #[.string s] w fun e w' => e = .returned (.bool b) ∧ Below w.heap.size w w' := by
  have hpo : ∃ q : List Nat, q.length = 10 ∧ Calls Tryz.prog 32 #[.string s] w fun e w' => e = .returned (.tuple #[.agg (pC q), .bool b]) ∧ Below w.heap.size w w' := by
    by_cases hp : IsBoard s
    · have hbt := hb.2 hp
      subst hbt
      obtain ⟨q, hq, hi, rfl⟩ := hp
      exact ⟨q, hq.len, plugsOf_yes w q hq hi⟩
    · have hbf : b = false := by rw [Bool.eq_false_iff]; exact fun e => hp (hb.1 e)
      subst hbf
      exact ⟨zP, rfl, plugsOf_no w s hp⟩
  obtain ⟨q, hql, hpo⟩ := hpo
  have HPO := Lib.hid hpo; have HQL := Lib.hid hql; clear hpo hql hb
  go_enter Tryz.func80, Tryz.ntmps80
  go_wp2_with fail
  refine HPO.out.mono ?_
  rintro _ w1 ⟨rfl, hb1⟩
  have HB1 := Lib.hid hb1; clear hb1
  have HG1 := Lib.hid (PB.made w1)
  have HB3 := Lib.hid (below_setRow (HB1.out.alloc HB1.out.size (.cells #[.int .u8 0, .int .u8 0, .int .u8 0, .int .u8 0, .int .u8 0, .int .u8 0, .int .u8 0, .int .u8 0, .int .u8 0, .int .u8 0] 52)) HB1.out.size (pC q))
  go_wp2_with (first | (refine wpList_store_row rfl 52 _ _ rfl w1.heap.size (pC q) rfl rfl _ _ HG1.out (permSize HQL.out) (by rw [pC_size, pC_size, HQL.out]; rfl) (pC_one _) ?_))
  go_ret
  exact ⟨rfl, HB3.out⟩
end Go.Proofs.YtnbdimbhklbadaaGreatDoor
