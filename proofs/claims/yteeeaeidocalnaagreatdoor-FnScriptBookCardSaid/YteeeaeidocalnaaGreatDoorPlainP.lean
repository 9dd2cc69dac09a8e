/-
  Plain laws of cutting a text at a byte, and of the book that a text tells. No conditions but those that each theorem names.
-/
import Derived.Test.YteeeaeidocalnaaGreatDoorPlainF
import Derived.Lib.SplitLaws
namespace Go.Proofs.YteeeaeidocalnaaGreatDoor
open Go.RowKit Pl
set_option linter.unusedVariables false

/-- the parts of a list between the bytes c -/
def spl (c : UInt8) : List UInt8 → List (List UInt8)
  | [] => [[]]
  | x :: l => if x = c then [] :: spl c l else match spl c l with | [] => [[x]] | p :: ps => (x :: p) :: ps
theorem spl_ne (c : UInt8) (l : List UInt8) : spl c l ≠ [] := by
  cases l with
  | nil => simp [spl]
  | cons x l =>
    rw [spl]
    split
    · simp
    · split <;> simp
theorem spl_none {c : UInt8} : ∀ {l : List UInt8}, c ∉ l → spl c l = [l]
  | [], _ => rfl
  | x :: l, h => by
    simp only [List.mem_cons, not_or] at h
    rw [spl, if_neg (fun e => h.1 e.symm), spl_none h.2]
theorem spl_cons {c : UInt8} : ∀ {p : List UInt8} (l : List UInt8), c ∉ p → spl c (p ++ c :: l) = p :: spl c l
  | [], l, _ => by rw [List.nil_append, spl, if_pos rfl]
  | x :: p, l, h => by
    simp only [List.mem_cons, not_or] at h
    rw [List.cons_append, spl, if_neg (fun e => h.1 e.symm), spl_cons l h.2]
theorem length_spl (c : UInt8) : ∀ l : List UInt8, (spl c l).length = l.count c + 1
  | [] => rfl
  | x :: l => by
    have ih := length_spl c l
    rw [spl]
    by_cases h : x = c
    · subst h; rw [if_pos rfl, List.length_cons, ih, List.count_cons_self]
    · rw [if_neg h, List.count_cons_of_ne (by simpa using h), ← ih]
      split
      · rename_i e; exact absurd e (spl_ne c l)
      · rename_i e; rw [e]; rfl
theorem spl_mem {c : UInt8} : ∀ {l : List UInt8} {p : List UInt8}, p ∈ spl c l → c ∉ p ∧ p.length ≤ l.length ∧ ∀ x ∈ p, x ∈ l
  | [], p, h => by simp [spl] at h; subst h; simp
  | x :: l, p, h => by
    rw [spl] at h
    by_cases hx : x = c
    · rw [if_pos hx] at h
      rcases List.mem_cons.1 h with rfl | h
      · simp
      · have := spl_mem h
        exact ⟨this.1, by rw [List.length_cons]; omega, fun y hy => List.mem_cons_of_mem _ (this.2.2 y hy)⟩
    · rw [if_neg hx] at h
      have ih := fun q => @spl_mem c l q
      revert h ih
      cases hs : spl c l with
      | nil => exact absurd hs (spl_ne c l)
      | cons q qs =>
        intro h ih
        rcases List.mem_cons.1 h with rfl | h
        · have := ih q (by simp)
          refine ⟨by simp only [List.mem_cons, not_or]; exact ⟨fun e => hx e.symm, this.1⟩, by simp only [List.length_cons]; omega, fun y hy => ?_⟩
          rcases List.mem_cons.1 hy with rfl | hy
          · simp
          · exact List.mem_cons_of_mem _ (this.2.2 y hy)
        · have := ih p (List.mem_cons_of_mem _ h)
          exact ⟨this.1, by rw [List.length_cons]; omega, fun y hy => List.mem_cons_of_mem _ (this.2.2 y hy)⟩

/-- where a byte stands first, in the library's words -/
theorem index_one_hit {s : List UInt8} {c : UInt8} {i : Nat} (h : Lib.index s [c] = i) : i < s.length ∧ s[i]? = some c ∧ ∀ j, j < i → s[j]? ≠ some c := by
  rcases Lib.index_spec s [c] with ⟨h1, _⟩ | ⟨i', h1, h2, h3, h4⟩
  · omega
  · obtain rfl : i' = i := by omega
    have hh := Lib.occAt_head rfl h3
    refine ⟨(List.getElem?_eq_some_iff.1 hh).1, hh, fun j hj e => ?_⟩
    have hn := h4 j hj
    have hl := (List.getElem?_eq_some_iff.1 e).1
    rw [Lib.occAt_iff_take _ _ _ (by simp; omega)] at hn
    have : (s.drop j).take 1 = [c] := by
      rw [List.drop_eq_getElem_cons hl]
      have := (List.getElem?_eq_some_iff.1 e).2
      rw [this]; rfl
    simp [this] at hn
theorem index_one_miss {s : List UInt8} {c : UInt8} (h : Lib.index s [c] = -1) : c ∉ s := by
  intro hm
  obtain ⟨j, hj, e⟩ := List.mem_iff_getElem.1 hm
  rcases Lib.index_spec s [c] with ⟨h1, h2⟩ | ⟨i', h1, _⟩
  · have hn := h2 j (by omega)
    rw [Lib.occAt_iff_take _ _ _ (by simp; omega)] at hn
    have : (s.drop j).take 1 = [c] := by rw [List.drop_eq_getElem_cons hj, e]; rfl
    simp [this] at hn
  · omega
theorem at_split {s : List UInt8} {c : UInt8} {i : Nat} (h1 : s[i]? = some c) (h2 : ∀ j, j < i → s[j]? ≠ some c) : s = s.take i ++ c :: s.drop (i + 1) ∧ c ∉ s.take i := by
  obtain ⟨hi, e⟩ := List.getElem?_eq_some_iff.1 h1
  refine ⟨?_, fun hm => ?_⟩
  · conv => lhs; rw [← List.take_append_drop i s, List.drop_eq_getElem_cons hi, e]
  · obtain ⟨j, hj, ej⟩ := List.mem_iff_getElem.1 hm
    have hj' : j < i := by rw [List.length_take] at hj; omega
    refine h2 j hj' ?_
    rw [List.getElem?_eq_getElem (by omega)]
    rw [List.getElem_take] at ej
    rw [ej]

/-- the pieces of the library are the parts -/
theorem splitB_spl (c : UInt8) : ∀ (k : Nat) (s : ByteArray), Lib.countB s (mk [c]) = k → (Lib.splitB (mk [c]) 0 k s).map tl = spl c (tl s) := by
  intro k
  induction k with
  | zero =>
    intro s hk
    rcases Lib.indexB_cases s (mk [c]) with hix | ⟨i, hix, _⟩
    · rw [Lib.splitB_zero, spl_none (l := tl s) (index_one_miss hix)]; rfl
    · rw [Lib.countB_hit s (mk [c]) i (Nat.le_refl 1) hix] at hk; omega
  | succ k ih =>
    intro s hk
    rcases Lib.indexB_cases s (mk [c]) with hix | ⟨i, hix, _⟩
    · rw [Lib.countB_miss s _ hix] at hk; omega
    · rw [Lib.splitB_hit _ 0 k s i hix, List.map_cons, ih _ (by have := Lib.countB_hit s (mk [c]) i (Nat.le_refl 1) hix; omega)]
      obtain ⟨h1, h2, h3⟩ := index_one_hit hix
      obtain ⟨h4, h5⟩ := at_split h2 h3
      have e1 : tl (s.extract 0 (i + 0)) = (tl s).take i := by rw [extract_mk', tl_mk]; simp
      have e2 : tl (s.extract (i + (mk [c]).size) s.size) = (tl s).drop (i + 1) := by
        rw [extract_mk', tl_mk, show (mk [c]).size = 1 from rfl, List.take_of_length_le (by rw [List.length_drop, length_tl]; omega)]
      rw [e1, e2]
      have h4' : tl s = (tl s).take i ++ c :: (tl s).drop (i + 1) := h4
      conv => rhs; rw [h4']
      rw [spl_cons (p := (tl s).take i) _ h5]

/-- what stands before the first byte c, and what stands behind it -/
def bef (c : UInt8) (l : List UInt8) : List UInt8 := l.take (l.idxOf c)
def aft (c : UInt8) (l : List UInt8) : List UInt8 := l.drop (l.idxOf c + 1)
theorem idxOf_hit {c : UInt8} : ∀ {l : List UInt8} {i : Nat}, l[i]? = some c → (∀ j, j < i → l[j]? ≠ some c) → l.idxOf c = i
  | [], i, h, _ => by simp at h
  | x :: l, 0, h, _ => by simp at h; subst h; simp
  | x :: l, i + 1, h, h2 => by
    have hx : x ≠ c := fun e => h2 0 (by omega) (by simp [e])
    have hi := @idxOf_hit c l i (by simpa using h) (fun j hj => by have := h2 (j + 1) (by omega); simpa using this)
    have hxb : (x == c) = false := by rw [beq_eq_false_iff_ne]; exact hx
    rw [List.idxOf_cons, hi, hxb]
    rfl
theorem cut_bef (c : UInt8) (l : List UInt8) : Lib.cut l [c] = (bef c l, aft c l, decide (c ∈ l)) := by
  unfold Lib.cut
  rcases Lib.index_spec l [c] with ⟨h1, _⟩ | ⟨i, h1, _⟩
  · have hn := index_one_miss h1
    have : l.idxOf c = l.length := List.idxOf_eq_length hn
    rw [h1, if_neg (by omega)]
    simp [bef, aft, this, hn]
  · obtain ⟨h2, h3, h4⟩ := index_one_hit h1
    have := idxOf_hit h3 h4
    have hm : c ∈ l := List.mem_of_getElem? h3
    rw [h1, if_pos (by omega)]
    simp [bef, aft, this, hm]
theorem bef_aft {c : UInt8} {l : List UInt8} (h : c ∈ l) : bef c l ++ c :: aft c l = l := by
  have hl := List.idxOf_lt_length_of_mem h
  unfold bef aft
  conv => rhs; rw [← List.take_append_drop (l.idxOf c) l, List.drop_eq_getElem_cons hl]
  rw [List.getElem_idxOf hl]
theorem bef_of {c : UInt8} {p q : List UInt8} (h : c ∉ p) : bef c (p ++ c :: q) = p ∧ aft c (p ++ c :: q) = q := by
  have : (p ++ c :: q).idxOf c = p.length := by
    apply idxOf_hit
    · simp
    · intro j hj e
      rw [List.getElem?_append_left hj] at e
      exact h (List.mem_of_getElem? e)
  unfold bef aft
  rw [this]
  simp

/-- the entry that a part tells -/
def entOf (p : List UInt8) : Ent := (mk (bef 61 p), mk (aft 61 p))
/-- the entries that a text tells -/
def entsOf (s : ByteArray) : List Ent := (spl 32 (tl s)).map entOf
open Classical in
/-- the book that a text tells -/
noncomputable def parseW (s : ByteArray) : Option (List Ent) :=
  if tl s = [45] then some [] else if tl s ≠ [] ∧ fmtB (entsOf s) = s then some (entsOf s) else none
theorem parseW_dash {s : ByteArray} (h : tl s = [45]) : parseW s = some [] := by unfold parseW; rw [if_pos h]
theorem parseW_ok {s : ByteArray} (h : tl s ≠ [45]) (h1 : tl s ≠ []) (h2 : fmtB (entsOf s) = s) : parseW s = some (entsOf s) := by
  unfold parseW; rw [if_neg h, if_pos ⟨h1, h2⟩]
theorem parseW_no {s : ByteArray} (h : tl s ≠ [45]) (h1 : tl s = [] ∨ fmtB (entsOf s) ≠ s) : parseW s = none := by
  unfold parseW; rw [if_neg h, if_neg (fun e => by rcases h1 with h1 | h1; exact e.1 h1; exact h1 e.2)]
theorem length_entsOf (s : ByteArray) : (entsOf s).length = (tl s).count 32 + 1 := by simp [entsOf, length_spl]
theorem mem_entsOf {s : ByteArray} {e : Ent} (h : e ∈ entsOf s) : e.1.size ≤ s.size ∧ e.2.size ≤ s.size := by
  unfold entsOf at h
  obtain ⟨p, hp, rfl⟩ := List.mem_map.1 h
  have := (spl_mem hp).2.1
  rw [length_tl] at this
  refine ⟨?_, ?_⟩
  · show (mk (bef 61 p)).size ≤ _
    rw [size_mk, bef, List.length_take]; omega
  · show (mk (aft 61 p)).size ≤ _
    rw [size_mk, aft, List.length_drop]; omega
/-- too many entries are no book -/
theorem parseW_many {s : ByteArray} (h : tl s ≠ [45]) (hn : 20 ≤ (tl s).count 32) : parseW s = none := by
  refine parseW_no h (Or.inr fun e => ?_)
  have hv : ¬ bookV (entsOf s) := fun hv => by have := hv.1; rw [length_entsOf] at this; omega
  rw [fmtB_no hv] at e
  have : tl s = [] := by rw [← e]; rfl
  rw [this] at hn; simp at hn
/-- a part without a sign between its word and its code is no entry -/
theorem parseW_plain {s : ByteArray} (h : tl s ≠ [45]) {p : List UInt8} (hp : p ∈ spl 32 (tl s)) (hn : 61 ∉ p) : parseW s = none := by
  by_cases h0 : tl s = []
  · exact parseW_no h (Or.inl h0)
  · refine parseW_no h (Or.inr fun e => ?_)
    have hv : ¬ bookV (entsOf s) := fun hv => by
      have hb := bookV_mem hv (s := (entOf p).1) (c := (entOf p).2) (List.mem_map_of_mem hp)
      have : aft 61 p = [] := by unfold aft; rw [List.idxOf_eq_length hn]; simp
      have h2 : (entOf p).2.size = 0 := by show (mk (aft 61 p)).size = 0; rw [this]; rfl
      omega
    rw [fmtB_no hv] at e
    exact h0 (by rw [← e]; rfl)

theorem parseW_some {s : ByteArray} {es : List Ent} (h : parseW s = some es) : bookV es ∧ fmtB es = s := by
  by_cases h1 : tl s = [45]
  · rw [parseW_dash h1] at h
    injection h with h; subst h
    have hv : bookV [] := ⟨by simp, by simp, by simp⟩
    exact ⟨hv, by rw [fmtB_none hv rfl]; exact tl_inj h1.symm⟩
  · by_cases h2 : tl s ≠ [] ∧ fmtB (entsOf s) = s
    · rw [parseW_ok h1 h2.1 h2.2] at h
      injection h with h; subst h
      refine ⟨Classical.byContradiction fun hv => ?_, h2.2⟩
      have := h2.2
      rw [fmtB_no hv] at this
      exact h2.1 (by rw [← this]; rfl)
    · rw [parseW_no h1 (by rcases Classical.not_and_iff_not_or_not.1 h2 with h | h; exact Or.inl (Classical.not_not.1 h); exact Or.inr h)] at h
      cases h

theorem ent_parts {e : Ent} (h1 : wv (tl e.1) = true) (h2 : wv (tl e.2) = true) : 32 ∉ entT e ∧ entOf (entT e) = e := by
  have hn : ∀ (l : List UInt8) (x : UInt8), wv l = true → x.toNat < 97 → x ∉ l := fun l x hl hx hm => by
    have := isL_bounds (wv_mem hl hm); omega
  refine ⟨?_, ?_⟩
  · unfold entT
    simp only [List.mem_append, List.mem_singleton, not_or]
    exact ⟨⟨hn _ _ h1 (by decide), by decide⟩, hn _ _ h2 (by decide)⟩
  · have := bef_of (c := 61) (p := tl e.1) (q := tl e.2) (hn _ _ h1 (by decide))
    unfold entOf entT
    rw [List.append_assoc]
    simp only [List.singleton_append, this.1, this.2, mk_tl]
theorem spl_join {c : UInt8} : ∀ (l : List (List UInt8)), l ≠ [] → (∀ p ∈ l, c ∉ p) → spl c (Lib.join l [c]) = l
  | [], h, _ => absurd rfl h
  | [p], _, h => by rw [Lib.join_one, spl_none (h p (by simp))]
  | p :: q :: r, _, h => by
    have ih := spl_join (c := c) (q :: r) (by simp) (fun x hx => h x (List.mem_cons_of_mem _ hx))
    have e : Lib.join (p :: q :: r) [c] = p ++ c :: Lib.join (q :: r) [c] := by
      rw [Lib.join_cons, Lib.join_cons]; simp [Lib.joinTail]
    rw [e, spl_cons _ (h p (by simp)), ih]
theorem entsOf_fmt {es : List Ent} (hv : bookV es) (h0 : es ≠ []) : entsOf (mk (fmtL es)) = es := by
  unfold entsOf fmtL
  rw [tl_mk, spl_join _ (by simpa using h0)]
  · rw [List.map_map]
    conv => rhs; rw [← List.map_id es]
    apply List.map_congr_left
    intro e he
    have := bookV_mem hv (s := e.1) (c := e.2) he
    exact (ent_parts (e := e) (by simp_all) (by simp_all)).2
  · intro p hp
    obtain ⟨e, he, rfl⟩ := List.mem_map.1 hp
    have := bookV_mem hv (s := e.1) (c := e.2) he
    exact (ent_parts (e := e) (by simp_all) (by simp_all)).1
theorem parseW_fmt {es : List Ent} (hv : bookV es) : parseW (fmtB es) = some es := by
  by_cases h0 : es = []
  · subst h0
    rw [fmtB_none hv rfl, parseW_dash rfl]
  · have hl : ¬ es.length = 0 := fun e => h0 (List.length_eq_zero_iff.1 e)
    rw [fmtB_some hv hl]
    have he := entsOf_fmt hv h0
    have hne := fmtL_ne (es := es) (by omega)
    have hd : tl (mk (fmtL es)) ≠ [45] := fun e => by
      have h1 : entsOf (mk (fmtL es)) = [(mk [45], mk [])] := by unfold entsOf; rw [e]; rfl
      rw [he] at h1
      subst h1
      have := bookV_mem hv (s := mk [45]) (c := mk []) (by simp)
      have h2 : (mk []).size = 0 := rfl
      omega
    rw [parseW_ok hd (by rw [tl_mk]; exact hne) (by rw [he, fmtB_some hv hl]), he]

end Go.Proofs.YteeeaeidocalnaaGreatDoor
