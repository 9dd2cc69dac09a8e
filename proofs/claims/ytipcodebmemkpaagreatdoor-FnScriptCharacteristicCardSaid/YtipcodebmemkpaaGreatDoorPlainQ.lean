/-
  Plain laws of cutting a text at a byte, and of sums of words. No program in sight.
-/
import Derived.Test.YtipcodebmemkpaaGreatDoorPlain
import Derived.Lib.SplitLaws
import Derived.Lib.Join
namespace Go.Proofs.YtipcodebmemkpaaGreatDoor
open Pl
set_option linter.unusedVariables false

/-- the parts of a list between the bytes c -/
def spl (c : UInt8) : List UInt8 → List (List UInt8)
  | [] => [[]]
  | x :: l => if x = c then [] :: spl c l else match spl c l with | [] => [[x]] | p :: ps => (x :: p) :: ps
theorem spl_ne (c : UInt8) (l : List UInt8) : spl c l ≠ [] := by
  cases l with
  | nil => simp [spl]
  | cons x l =>
    rw [spl]
    split
    · simp
    · split <;> simp
theorem spl_none {c : UInt8} : ∀ {l : List UInt8}, c ∉ l → spl c l = [l]
  | [], _ => rfl
  | x :: l, h => by
    simp only [List.mem_cons, not_or] at h
    rw [spl, if_neg (fun e => h.1 e.symm), spl_none h.2]
theorem spl_cons {c : UInt8} : ∀ {p : List UInt8} (l : List UInt8), c ∉ p → spl c (p ++ c :: l) = p :: spl c l
  | [], l, _ => by rw [List.nil_append, spl, if_pos rfl]
  | x :: p, l, h => by
    simp only [List.mem_cons, not_or] at h
    rw [List.cons_append, spl, if_neg (fun e => h.1 e.symm), spl_cons l h.2]
theorem length_spl (c : UInt8) : ∀ l : List UInt8, (spl c l).length = l.count c + 1
  | [] => rfl
  | x :: l => by
    have ih := length_spl c l
    rw [spl]
    by_cases h : x = c
    · subst h; rw [if_pos rfl, List.length_cons, ih, List.count_cons_self]
    · rw [if_neg h, List.count_cons_of_ne (by simpa using h), ← ih]
      split
      · rename_i e; exact absurd e (spl_ne c l)
      · rename_i e; rw [e]; rfl
theorem spl_mem {c : UInt8} : ∀ {l : List UInt8} {p : List UInt8}, p ∈ spl c l → c ∉ p ∧ p.length ≤ l.length ∧ ∀ x ∈ p, x ∈ l
  | [], p, h => by simp [spl] at h; subst h; simp
  | x :: l, p, h => by
    rw [spl] at h
    by_cases hx : x = c
    · rw [if_pos hx] at h
      rcases List.mem_cons.1 h with rfl | h
      · simp
      · have := spl_mem h
        exact ⟨this.1, by rw [List.length_cons]; omega, fun y hy => List.mem_cons_of_mem _ (this.2.2 y hy)⟩
    · rw [if_neg hx] at h
      have ih := fun q => @spl_mem c l q
      revert h ih
      cases hs : spl c l with
      | nil => exact absurd hs (spl_ne c l)
      | cons q qs =>
        intro h ih
        rcases List.mem_cons.1 h with rfl | h
        · have := ih q (by simp)
          refine ⟨by simp only [List.mem_cons, not_or]; exact ⟨fun e => hx e.symm, this.1⟩, by simp only [List.length_cons]; omega, fun y hy => ?_⟩
          rcases List.mem_cons.1 hy with rfl | hy
          · simp
          · exact List.mem_cons_of_mem _ (this.2.2 y hy)
        · have := ih p (List.mem_cons_of_mem _ h)
          exact ⟨this.1, by rw [List.length_cons]; omega, fun y hy => List.mem_cons_of_mem _ (this.2.2 y hy)⟩

/-- where a byte stands first, in the library's words -/
theorem index_one_hit {s : List UInt8} {c : UInt8} {i : Nat} (h : Lib.index s [c] = i) : i < s.length ∧ s[i]? = some c ∧ ∀ j, j < i → s[j]? ≠ some c := by
  rcases Lib.index_spec s [c] with ⟨h1, _⟩ | ⟨i', h1, h2, h3, h4⟩
  · omega
  · obtain rfl : i' = i := by omega
    have hh := Lib.occAt_head rfl h3
    refine ⟨(List.getElem?_eq_some_iff.1 hh).1, hh, fun j hj e => ?_⟩
    have hn := h4 j hj
    have hl := (List.getElem?_eq_some_iff.1 e).1
    rw [Lib.occAt_iff_take _ _ _ (by simp; omega)] at hn
    have : (s.drop j).take 1 = [c] := by
      rw [List.drop_eq_getElem_cons hl]
      have := (List.getElem?_eq_some_iff.1 e).2
      rw [this]; rfl
    simp [this] at hn
theorem index_one_miss {s : List UInt8} {c : UInt8} (h : Lib.index s [c] = -1) : c ∉ s := by
  intro hm
  obtain ⟨j, hj, e⟩ := List.mem_iff_getElem.1 hm
  rcases Lib.index_spec s [c] with ⟨h1, h2⟩ | ⟨i', h1, _⟩
  · have hn := h2 j (by omega)
    rw [Lib.occAt_iff_take _ _ _ (by simp; omega)] at hn
    have : (s.drop j).take 1 = [c] := by rw [List.drop_eq_getElem_cons hj, e]; rfl
    simp [this] at hn
  · omega
theorem at_split {s : List UInt8} {c : UInt8} {i : Nat} (h1 : s[i]? = some c) (h2 : ∀ j, j < i → s[j]? ≠ some c) : s = s.take i ++ c :: s.drop (i + 1) ∧ c ∉ s.take i := by
  obtain ⟨hi, e⟩ := List.getElem?_eq_some_iff.1 h1
  refine ⟨?_, fun hm => ?_⟩
  · conv => lhs; rw [← List.take_append_drop i s, List.drop_eq_getElem_cons hi, e]
  · obtain ⟨j, hj, ej⟩ := List.mem_iff_getElem.1 hm
    have hj' : j < i := by rw [List.length_take] at hj; omega
    refine h2 j hj' ?_
    rw [List.getElem?_eq_getElem (by omega)]
    rw [List.getElem_take] at ej
    rw [ej]

/-- the pieces of the library are the parts -/
theorem splitB_spl (c : UInt8) : ∀ (k : Nat) (s : ByteArray), Lib.countB s (mk [c]) = k → (Lib.splitB (mk [c]) 0 k s).map tl = spl c (tl s) := by
  intro k
  induction k with
  | zero =>
    intro s hk
    rcases Lib.indexB_cases s (mk [c]) with hix | ⟨i, hix, _⟩
    · rw [Lib.splitB_zero, spl_none (l := tl s) (index_one_miss hix)]; rfl
    · rw [Lib.countB_hit s (mk [c]) i (Nat.le_refl 1) hix] at hk; omega
  | succ k ih =>
    intro s hk
    rcases Lib.indexB_cases s (mk [c]) with hix | ⟨i, hix, _⟩
    · rw [Lib.countB_miss s _ hix] at hk; omega
    · rw [Lib.splitB_hit _ 0 k s i hix, List.map_cons, ih _ (by have := Lib.countB_hit s (mk [c]) i (Nat.le_refl 1) hix; omega)]
      obtain ⟨h1, h2, h3⟩ := index_one_hit hix
      obtain ⟨h4, h5⟩ := at_split h2 h3
      have e1 : tl (s.extract 0 (i + 0)) = (tl s).take i := by rw [extract_mk', tl_mk]; simp
      have e2 : tl (s.extract (i + (mk [c]).size) s.size) = (tl s).drop (i + 1) := by
        rw [extract_mk', tl_mk, show (mk [c]).size = 1 from rfl, List.take_of_length_le (by rw [List.length_drop, length_tl]; omega)]
      rw [e1, e2]
      have h4' : tl s = (tl s).take i ++ c :: (tl s).drop (i + 1) := h4
      conv => rhs; rw [h4']
      rw [spl_cons (p := (tl s).take i) _ h5]

/-- what stands before the first byte c, and what stands behind it -/
def bef (c : UInt8) (l : List UInt8) : List UInt8 := l.take (l.idxOf c)
def aft (c : UInt8) (l : List UInt8) : List UInt8 := l.drop (l.idxOf c + 1)
theorem idxOf_hit {c : UInt8} : ∀ {l : List UInt8} {i : Nat}, l[i]? = some c → (∀ j, j < i → l[j]? ≠ some c) → l.idxOf c = i
  | [], i, h, _ => by simp at h
  | x :: l, 0, h, _ => by simp at h; subst h; simp
  | x :: l, i + 1, h, h2 => by
    have hx : x ≠ c := fun e => h2 0 (by omega) (by simp [e])
    have hi := @idxOf_hit c l i (by simpa using h) (fun j hj => by have := h2 (j + 1) (by omega); simpa using this)
    have hxb : (x == c) = false := by rw [beq_eq_false_iff_ne]; exact hx
    rw [List.idxOf_cons, hi, hxb]
    rfl
theorem cut_bef (c : UInt8) (l : List UInt8) : Lib.cut l [c] = (bef c l, aft c l, decide (c ∈ l)) := by
  unfold Lib.cut
  rcases Lib.index_spec l [c] with ⟨h1, _⟩ | ⟨i, h1, _⟩
  · have hn := index_one_miss h1
    have : l.idxOf c = l.length := List.idxOf_eq_length hn
    rw [h1, if_neg (by omega)]
    simp [bef, aft, this, hn]
  · obtain ⟨h2, h3, h4⟩ := index_one_hit h1
    have := idxOf_hit h3 h4
    have hm : c ∈ l := List.mem_of_getElem? h3
    rw [h1, if_pos (by omega)]
    simp [bef, aft, this, hm]
theorem bef_aft {c : UInt8} {l : List UInt8} (h : c ∈ l) : bef c l ++ c :: aft c l = l := by
  have hl := List.idxOf_lt_length_of_mem h
  unfold bef aft
  conv => rhs; rw [← List.take_append_drop (l.idxOf c) l, List.drop_eq_getElem_cons hl]
  rw [List.getElem_idxOf hl]
theorem bef_of {c : UInt8} {p q : List UInt8} (h : c ∉ p) : bef c (p ++ c :: q) = p ∧ aft c (p ++ c :: q) = q := by
  have : (p ++ c :: q).idxOf c = p.length := by
    apply idxOf_hit
    · simp
    · intro j hj e
      rw [List.getElem?_append_left hj] at e
      exact h (List.mem_of_getElem? e)
  unfold bef aft
  rw [this]
  simp

theorem spl_join {c : UInt8} : ∀ (l : List (List UInt8)), l ≠ [] → (∀ p ∈ l, c ∉ p) → spl c (Lib.join l [c]) = l
  | [], h, _ => absurd rfl h
  | [p], _, h => by rw [Lib.join_one, spl_none (h p (by simp))]
  | p :: q :: r, _, h => by
    have ih := spl_join (c := c) (q :: r) (by simp) (fun x hx => h x (List.mem_cons_of_mem _ hx))
    have e : Lib.join (p :: q :: r) [c] = p ++ c :: Lib.join (q :: r) [c] := by
      rw [Lib.join_cons, Lib.join_cons]; simp [Lib.joinTail]
    rw [e, spl_cons _ (h p (by simp)), ih]

/-- the pieces as strings -/
def mkl (l : List (List UInt8)) : List ByteArray := l.map mk
theorem length_mkl (l : List (List UInt8)) : (mkl l).length = l.length := by simp [mkl]
theorem wv_not {l : List UInt8} {x : UInt8} (hl : wv l = true) (hx : x.toNat < 97) : x ∉ l := fun hm => by
  have := isL_bounds (wv_mem hl hm); omega
theorem combineW_ok' {t : Nat} {v w : List UInt8} (h : wv v = true ∧ wv w = true ∧ v.length = w.length) : combineW t v w = some (combine t v w) := if_pos h
theorem combine_length (t : Nat) (v w : List UInt8) (h : v.length = w.length) : (combine t v w).length = v.length := by simp [combine, h]
theorem combine_wv {t : Nat} {v w : List UInt8} (hv : wv v = true) (h : v.length = w.length) : wv (combine t v w) = true := by
  rw [wv_all (by rw [combine_length _ _ _ h]; exact wv_length hv), List.all_eq_true]
  intro c hc
  unfold combine at hc
  rw [List.zipWith_eq_zipWith_take_min] at hc
  obtain ⟨i, hi, rfl⟩ := List.mem_iff_getElem.1 hc
  rw [List.getElem_zipWith]
  exact isL_letter (Nat.mod_lt _ (by omega))
theorem combine_back {t u : Nat} (htu : ∀ a b : Nat, a < 10 → ((a + t * b) % 10 + u * b) % 10 = a) : ∀ (v w : List UInt8), v.length = w.length → (∀ c ∈ v, isL c = true) → combine u (combine t v w) w = v
  | [], [], _, _ => rfl
  | a :: v, b :: w, h, hv => by
    have ih := combine_back htu v w (by simpa using h) fun c hc => hv c (List.mem_cons_of_mem _ hc)
    unfold combine at ih ⊢
    rw [List.zipWith_cons_cons, List.zipWith_cons_cons, ih]
    congr 1
    rw [dg_letter (Nat.mod_lt _ (by omega)), htu _ _ (dg_lt (hv a (List.mem_cons_self ..))), letter_dg (hv a (List.mem_cons_self ..))]
  | [], b :: w, h, _ => by simp at h
  | a :: v, [], h, _ => by simp at h


end Go.Proofs.YtipcodebmemkpaaGreatDoor
