/-
  Plain laws of books, codes and words: what the functions on books compute, and what is true of that. No conditions but those that each theorem names.
-/
import Derived.Test.YteeeaeidocalnaaGreatDoorCode
namespace Go.Proofs.YteeeaeidocalnaaGreatDoor
open Go.RowKit Pl
set_option linter.unusedVariables false

theorem bookP_uniq1 {es : List (ByteArray × ByteArray)} (h : bookP es) {a b : ByteArray × ByteArray} (ha : a ∈ es) (hb : b ∈ es) (e : a.1 = b.1) : a = b := by
  obtain ⟨i, hi, rfl⟩ := List.mem_iff_getElem.1 ha
  obtain ⟨j, hj, rfl⟩ := List.mem_iff_getElem.1 hb
  have hp := List.pairwise_iff_getElem.1 h.2
  rcases Nat.lt_trichotomy i j with hij | hij | hij
  · exact absurd e (hp i j hi hj hij).1
  · subst hij; rfl
  · exact absurd e.symm (hp j i hj hi hij).1
theorem bookP_uniq2 {es : List (ByteArray × ByteArray)} (h : bookP es) {a b : ByteArray × ByteArray} (ha : a ∈ es) (hb : b ∈ es) (e : a.2 = b.2) : a = b := by
  obtain ⟨i, hi, rfl⟩ := List.mem_iff_getElem.1 ha
  obtain ⟨j, hj, rfl⟩ := List.mem_iff_getElem.1 hb
  have hp := List.pairwise_iff_getElem.1 h.2
  rcases Nat.lt_trichotomy i j with hij | hij | hij
  · exact absurd e (hp i j hi hj hij).2
  · subst hij; rfl
  · exact absurd e.symm (hp j i hj hi hij).2

theorem codeOf_iff {es : List (ByteArray × ByteArray)} {s c : ByteArray} : codeOf es s = some c ↔ bookV es ∧ (s, c) ∈ es := by
  unfold codeOf
  by_cases hv : bookV es
  · rw [if_pos hv]
    simp only [hv, true_and]
    constructor
    · intro h
      cases hf : findE es s with
      | none => rw [hf] at h; cases h
      | some e =>
        rw [hf] at h
        simp at h
        have h1 := List.mem_of_find?_eq_some hf
        have h2 := List.find?_some hf
        simp at h2
        subst h; subst h2; exact h1
    · intro h
      cases hf : findE es s with
      | none => exact absurd rfl (findE_none.1 hf _ h)
      | some e =>
        have h1 := List.mem_of_find?_eq_some hf
        have h2 := List.find?_some hf
        simp at h2
        have := bookP_uniq1 hv.2 h1 h h2
        subst this; rfl
  · rw [if_neg hv]
    constructor
    · intro h; cases h
    · intro h; exact absurd h.1 hv
theorem wordOf_iff {es : List (ByteArray × ByteArray)} {s c : ByteArray} : wordOf es c = some s ↔ bookV es ∧ (s, c) ∈ es := by
  unfold wordOf
  by_cases hv : bookV es
  · rw [if_pos hv, findE_swap]
    simp only [hv, true_and]
    constructor
    · intro h
      cases hf : es.find? fun e => decide (e.2 = c) with
      | none => rw [hf] at h; cases h
      | some e =>
        rw [hf] at h
        simp at h
        have h1 := List.mem_of_find?_eq_some hf
        have h2 := List.find?_some hf
        simp at h2
        subst h; subst h2; exact h1
    · intro h
      cases hf : es.find? fun e => decide (e.2 = c) with
      | none =>
        have := List.find?_eq_none.1 hf _ h
        simp at this
      | some e =>
        have h1 := List.mem_of_find?_eq_some hf
        have h2 := List.find?_some hf
        simp at h2
        have := bookP_uniq2 hv.2 h1 h h2
        subst this; rfl
  · rw [if_neg hv]
    constructor
    · intro h; cases h
    · intro h; exact absurd h.1 hv
theorem bookV_mem {es : List (ByteArray × ByteArray)} (h : bookV es) {s c : ByteArray} (hm : (s, c) ∈ es) : 1 ≤ s.size ∧ s.size ≤ 8 ∧ wv (tl s) = true ∧ c.size = 3 ∧ wv (tl c) = true := by
  have := h.2.1 _ hm
  simp [entOk] at this
  exact ⟨this.1.1.1.1, this.1.1.1.2, this.1.1.2, this.1.2, this.2⟩
theorem code_word {es : List (ByteArray × ByteArray)} {s c : ByteArray} (h : codeOf es s = some c) : wordOf es c = some s := wordOf_iff.2 (codeOf_iff.1 h)
theorem word_code {es : List (ByteArray × ByteArray)} {s c : ByteArray} (h : wordOf es c = some s) : codeOf es s = some c := codeOf_iff.2 (wordOf_iff.1 h)
theorem codeOf_size {es : List (ByteArray × ByteArray)} {s c : ByteArray} (h : codeOf es s = some c) : c.size = 3 ∧ wv (tl c) = true := by
  have := codeOf_iff.1 h
  exact ⟨(bookV_mem this.1 this.2).2.2.2.1, (bookV_mem this.1 this.2).2.2.2.2⟩

open Classical in
/-- the codes of words, in sequence -/
noncomputable def encW (es : List (ByteArray × ByteArray)) (ws : List ByteArray) : Option ByteArray :=
  if bookV es ∧ 3 * ws.length ≤ 200 ∧ ∀ s ∈ ws, (codeOf es s).isSome = true then some (mk (ws.flatMap fun s => tl (strO (codeOf es s)))) else none
theorem encW_ok {es : List (ByteArray × ByteArray)} {ws : List ByteArray} (h : bookV es ∧ 3 * ws.length ≤ 200 ∧ ∀ s ∈ ws, (codeOf es s).isSome = true) : encW es ws = some (mk (ws.flatMap fun s => tl (strO (codeOf es s)))) := if_pos h
theorem encW_no {es : List (ByteArray × ByteArray)} {ws : List ByteArray} (h : ¬ (bookV es ∧ 3 * ws.length ≤ 200 ∧ ∀ s ∈ ws, (codeOf es s).isSome = true)) : encW es ws = none := if_neg h
theorem strO_code {es : List (ByteArray × ByteArray)} {s : ByteArray} (h : (codeOf es s).isSome = true) : codeOf es s = some (strO (codeOf es s)) := by
  cases hc : codeOf es s with
  | none => rw [hc] at h; cases h
  | some c => rfl
theorem strO_word {es : List (ByteArray × ByteArray)} {s : ByteArray} (h : (wordOf es s).isSome = true) : wordOf es s = some (strO (wordOf es s)) := by
  cases hc : wordOf es s with
  | none => rw [hc] at h; cases h
  | some c => rfl
theorem enc_length {es : List (ByteArray × ByteArray)} {ws : List ByteArray} (h : ∀ s ∈ ws, (codeOf es s).isSome = true) : (ws.flatMap fun s => tl (strO (codeOf es s))).length = 3 * ws.length := by
  induction ws with
  | nil => rfl
  | cons s r ih =>
    rw [List.flatMap_cons, List.length_append, ih fun x hx => h x (List.mem_cons_of_mem _ hx), length_tl, (codeOf_size (strO_code (h s (List.mem_cons_self ..)))).1, List.length_cons]
    omega
theorem enc_letters {es : List (ByteArray × ByteArray)} {ws : List ByteArray} (h : ∀ s ∈ ws, (codeOf es s).isSome = true) : ∀ c ∈ (ws.flatMap fun s => tl (strO (codeOf es s))), isL c = true := by
  intro c hc
  obtain ⟨s, hs, hc⟩ := List.mem_flatMap.1 hc
  exact wv_mem (codeOf_size (strO_code (h s hs))).2 hc
theorem encW_some {es : List (ByteArray × ByteArray)} {ws : List ByteArray} {r : ByteArray} (h : encW es ws = some r) :
    bookV es ∧ 3 * ws.length ≤ 200 ∧ (∀ s ∈ ws, (codeOf es s).isSome = true) ∧ tl r = (ws.flatMap fun s => tl (strO (codeOf es s))) ∧ r.size = 3 * ws.length ∧ wv (tl r) = true := by
  unfold encW at h
  split at h
  · rename_i hc
    injection h with h
    subst h
    have hl := enc_length hc.2.2
    refine ⟨hc.1, hc.2.1, hc.2.2, rfl, hl, ?_⟩
    rw [wv_all (by rw [tl_mk, hl]; exact hc.2.1), tl_mk, List.all_eq_true]
    exact enc_letters hc.2.2
  · cases h
theorem enc_snoc (f : ByteArray → List UInt8) (ws : List ByteArray) (k : Nat) (hk : k < ws.length) : (ws.take (k + 1)).flatMap f = (ws.take k).flatMap f ++ f ws[k] := by
  rw [List.take_succ_eq_append_getElem hk, List.flatMap_append]; simp

/-- a string cut into codes -/
def chunks (l : List UInt8) : List ByteArray := (List.range (l.length / 3)).map fun k => mk ((l.drop (3 * k)).take 3)
theorem length_chunks (l : List UInt8) : (chunks l).length = l.length / 3 := by simp [chunks]
theorem chunks_get (l : List UInt8) (k : Nat) (hk : k < (chunks l).length) : (chunks l)[k] = mk ((l.drop (3 * k)).take 3) := by simp [chunks]
theorem chunks_cons (a l : List UInt8) (h : a.length = 3) : chunks (a ++ l) = mk a :: chunks l := by
  unfold chunks
  have e : (a ++ l).length / 3 = l.length / 3 + 1 := by rw [List.length_append, h]; omega
  rw [e, List.range_succ_eq_map, List.map_cons, List.map_map]
  congr 1
  · rw [Nat.mul_zero, List.drop_zero, List.take_append_of_le_length (by omega), List.take_of_length_le (by omega)]
  · apply List.map_congr_left
    intro k _
    show mk (((a ++ l).drop (3 * (k + 1))).take 3) = _
    have : 3 * (k + 1) = a.length + 3 * k := by omega
    rw [this, List.drop_append, List.drop_of_length_le (by omega)]
    simp
theorem chunks_enc (f : ByteArray → ByteArray) (ws : List ByteArray) (h : ∀ s ∈ ws, (f s).size = 3) : chunks (ws.flatMap fun s => tl (f s)) = ws.map f := by
  induction ws with
  | nil => simp [chunks]
  | cons s r ih =>
    rw [List.flatMap_cons, chunks_cons _ _ (by rw [length_tl]; exact h s (List.mem_cons_self ..)), ih fun x hx => h x (List.mem_cons_of_mem _ hx), mk_tl, List.map_cons]
theorem chunks_flat (n : Nat) : ∀ l : List UInt8, l.length = 3 * n → (chunks l).flatMap tl = l := by
  induction n with
  | zero => intro l h; have : l = [] := List.length_eq_zero_iff.1 (by omega); subst this; simp [chunks]
  | succ n ih =>
    intro l h
    have h3 : (l.take 3).length = 3 := by rw [List.length_take]; omega
    have e : l = l.take 3 ++ l.drop 3 := (List.take_append_drop 3 l).symm
    rw [e, chunks_cons _ _ h3, List.flatMap_cons, ih (l.drop 3) (by rw [List.length_drop]; omega), tl_mk]

open Classical in
/-- the words of codes -/
noncomputable def decW (es : List (ByteArray × ByteArray)) (s : ByteArray) : Option (List ByteArray) :=
  if bookV es ∧ wv (tl s) = true ∧ s.size % 3 = 0 ∧ ∀ c ∈ chunks (tl s), (wordOf es c).isSome = true then some ((chunks (tl s)).map fun c => strO (wordOf es c)) else none
theorem decW_ok {es : List (ByteArray × ByteArray)} {s : ByteArray} (h : bookV es ∧ wv (tl s) = true ∧ s.size % 3 = 0 ∧ ∀ c ∈ chunks (tl s), (wordOf es c).isSome = true) : decW es s = some ((chunks (tl s)).map fun c => strO (wordOf es c)) := if_pos h
theorem decW_no {es : List (ByteArray × ByteArray)} {s : ByteArray} (h : ¬ (bookV es ∧ wv (tl s) = true ∧ s.size % 3 = 0 ∧ ∀ c ∈ chunks (tl s), (wordOf es c).isSome = true)) : decW es s = none := if_neg h
theorem decW_some {es : List (ByteArray × ByteArray)} {s : ByteArray} {l : List ByteArray} (h : decW es s = some l) :
    (bookV es ∧ wv (tl s) = true ∧ s.size % 3 = 0 ∧ ∀ c ∈ chunks (tl s), (wordOf es c).isSome = true) ∧ l = ((chunks (tl s)).map fun c => strO (wordOf es c)) ∧ 3 * l.length = s.size := by
  unfold decW at h
  split at h
  · rename_i hc
    injection h with h
    refine ⟨hc, h.symm, ?_⟩
    rw [← h, List.length_map, length_chunks, length_tl]
    have := hc.2.2.1
    omega
  · cases h
theorem decW_size {es : List (ByteArray × ByteArray)} {s : ByteArray} {l : List ByteArray} (h : decW es s = some l) : ∀ x ∈ l, x.size ≤ 8 := by
  obtain ⟨h1, h2, _⟩ := decW_some h
  subst h2
  intro x hx
  obtain ⟨c, hc, rfl⟩ := List.mem_map.1 hx
  have hw := strO_word (h1.2.2.2 c hc)
  have := wordOf_iff.1 hw
  exact (bookV_mem this.1 this.2).2.1

theorem enc_dec {es : List (ByteArray × ByteArray)} {ws : List ByteArray} {r : ByteArray} (h : encW es ws = some r) : decW es r = some ws := by
  obtain ⟨h1, h2, h3, h4, h5, h6⟩ := encW_some h
  have hch : chunks (tl r) = ws.map fun s => strO (codeOf es s) := by
    rw [h4]; exact chunks_enc (fun s => strO (codeOf es s)) ws fun s hs => (codeOf_size (strO_code (h3 s hs))).1
  have hw : ∀ s ∈ ws, wordOf es (strO (codeOf es s)) = some s := fun s hs => code_word (strO_code (h3 s hs))
  rw [decW_ok ⟨h1, h6, by omega, ?_⟩, hch, List.map_map]
  · congr 1
    have : ∀ s ∈ ws, ((fun c => strO (wordOf es c)) ∘ fun s => strO (codeOf es s)) s = s := fun s hs => by
      show strO (wordOf es (strO (codeOf es s))) = s
      rw [hw s hs]; rfl
    conv => rhs; rw [← List.map_id ws]
    exact List.map_congr_left this
  · rw [hch]
    intro c hc
    obtain ⟨s, hs, rfl⟩ := List.mem_map.1 hc
    rw [hw s hs]; rfl
theorem dec_enc {es : List (ByteArray × ByteArray)} {s : ByteArray} {l : List ByteArray} (h : decW es s = some l) : encW es l = some s := by
  obtain ⟨⟨h1, h2, h3, h4⟩, h5, h6⟩ := decW_some h
  have hc : ∀ c ∈ chunks (tl s), codeOf es (strO (wordOf es c)) = some c := fun c hc => word_code (strO_word (h4 c hc))
  have hl := wv_length h2
  rw [length_tl] at hl
  rw [encW_ok ⟨h1, by omega, ?_⟩]
  · congr 1
    have e : (l.flatMap fun s => tl (strO (codeOf es s))) = tl s := by
      rw [h5, List.flatMap_map]
      have e2 : ((chunks (tl s)).flatMap fun a => tl (strO (codeOf es (strO (wordOf es a))))) = (chunks (tl s)).flatMap tl := by
        rw [List.flatMap_def, List.flatMap_def]
        congr 1
        apply List.map_congr_left
        intro c hcm
        rw [hc c hcm]; rfl
      rw [e2]
      exact chunks_flat (s.size / 3) _ (by rw [length_tl]; omega)
    rw [e, mk_tl]
  · rw [h5]
    intro x hx
    obtain ⟨c, hcm, rfl⟩ := List.mem_map.1 hx
    rw [hc c hcm]; rfl

/-- a sealed message -/
noncomputable def sealW (es : List (ByteArray × ByteArray)) (ws : List ByteArray) (sheet : ByteArray) (st : Int) : Option ByteArray :=
  match encW es ws with
  | none => none
  | some c => match sheetPart (tl sheet) st c.size with
    | none => none
    | some p => (combineW 1 (tl c) p).map mk
/-- an opened message -/
noncomputable def openW (es : List (ByteArray × ByteArray)) (s sheet : ByteArray) (st : Int) : Option (List ByteArray) :=
  match sheetPart (tl sheet) st s.size with
  | none => none
  | some p => match combineW 9 (tl s) p with
    | none => none
    | some c => decW es (mk c)

theorem part_wv' {l : List UInt8} {st n : Int} {r : List UInt8} (h : sheetPart l st n = some r) : wv r = true ∧ (r.length : Int) = n := by
  obtain ⟨h1, h2, h3, h4, h5, rfl⟩ := sheetPart_some_iff h
  constructor
  · have hl := wv_length h1
    rw [wv_all (by rw [List.length_take, List.length_drop]; omega), List.all_eq_true]
    exact fun c hc => wv_mem h1 (List.mem_of_mem_drop (List.mem_of_mem_take hc))
  · rw [List.length_take, List.length_drop]; omega
theorem combineW_ok' {t : Nat} {v w : List UInt8} (h : wv v = true ∧ wv w = true ∧ v.length = w.length) : combineW t v w = some (combine t v w) := if_pos h
theorem combine_length (t : Nat) (v w : List UInt8) (h : v.length = w.length) : (combine t v w).length = v.length := by simp [combine, h]
theorem combine_wv {t : Nat} {v w : List UInt8} (hv : wv v = true) (h : v.length = w.length) : wv (combine t v w) = true := by
  rw [wv_all (by rw [combine_length _ _ _ h]; exact wv_length hv), List.all_eq_true]
  intro c hc
  unfold combine at hc
  rw [List.zipWith_eq_zipWith_take_min] at hc
  obtain ⟨i, hi, rfl⟩ := List.mem_iff_getElem.1 hc
  rw [List.getElem_zipWith]
  exact isL_letter (Nat.mod_lt _ (by omega))
theorem combine_back {t u : Nat} (htu : ∀ a b : Nat, a < 10 → ((a + t * b) % 10 + u * b) % 10 = a) : ∀ (v w : List UInt8), v.length = w.length → (∀ c ∈ v, isL c = true) → combine u (combine t v w) w = v
  | [], [], _, _ => rfl
  | a :: v, b :: w, h, hv => by
    have ih := combine_back htu v w (by simpa using h) fun c hc => hv c (List.mem_cons_of_mem _ hc)
    unfold combine at ih ⊢
    rw [List.zipWith_cons_cons, List.zipWith_cons_cons, ih]
    congr 1
    rw [dg_letter (Nat.mod_lt _ (by omega)), htu _ _ (dg_lt (hv a (List.mem_cons_self ..))), letter_dg (hv a (List.mem_cons_self ..))]
  | [], b :: w, h, _ => by simp at h
  | a :: v, [], h, _ => by simp at h

theorem sealW_some {es : List (ByteArray × ByteArray)} {ws : List ByteArray} {sheet r : ByteArray} {st : Int} (h : sealW es ws sheet st = some r) :
    ∃ c p, encW es ws = some c ∧ sheetPart (tl sheet) st c.size = some p ∧ combineW 1 (tl c) p = some (tl r) ∧ wv (tl c) = true ∧ wv p = true ∧ p.length = c.size ∧ r = mk (combine 1 (tl c) p) ∧ r.size = c.size := by
  unfold sealW at h
  cases hc : encW es ws with
  | none => rw [hc] at h; cases h
  | some c =>
    rw [hc] at h
    simp only at h
    cases hp : sheetPart (tl sheet) st c.size with
    | none => rw [hp] at h; cases h
    | some p =>
      rw [hp] at h
      simp only at h
      have h1 := (encW_some hc).2.2.2.2.2
      have h2 := part_wv' hp
      have h3 : (tl c).length = p.length := by rw [length_tl]; omega
      rw [combineW_ok' ⟨h1, h2.1, h3⟩] at h
      simp at h
      refine ⟨c, p, rfl, hp, ?_, h1, h2.1, by omega, h.symm, ?_⟩
      · rw [combineW_ok' ⟨h1, h2.1, h3⟩, ← h, tl_mk]
      · rw [← h, size_mk, combine_length _ _ _ h3, length_tl]
theorem seal_open {es : List (ByteArray × ByteArray)} {ws : List ByteArray} {sheet r : ByteArray} {st : Int} (h : sealW es ws sheet st = some r) : openW es r sheet st = some ws := by
  obtain ⟨c, p, h1, h2, h3, h4, h5, h6, h7, h8⟩ := sealW_some h
  unfold openW
  rw [h8, h2]
  simp only
  have hl : (tl c).length = p.length := by rw [length_tl]; omega
  have hr : tl r = combine 1 (tl c) p := by rw [h7, tl_mk]
  rw [hr, combineW_ok' ⟨combine_wv h4 hl, h5, by rw [combine_length _ _ _ hl]; exact hl⟩]
  simp only
  rw [combine_back (by intro a b ha; omega) _ _ hl fun x hx => wv_mem h4 hx, mk_tl]
  exact enc_dec h1
theorem open_seal {es : List (ByteArray × ByteArray)} {l : List ByteArray} {sheet s : ByteArray} {st : Int} (h : openW es s sheet st = some l) : sealW es l sheet st = some s := by
  unfold openW at h
  cases hp : sheetPart (tl sheet) st s.size with
  | none => rw [hp] at h; cases h
  | some p =>
    rw [hp] at h
    simp only at h
    have h2 := part_wv' hp
    have hl : (tl s).length = p.length := by rw [length_tl]; omega
    cases hc : combineW 9 (tl s) p with
    | none => rw [hc] at h; cases h
    | some c =>
      rw [hc] at h
      simp only at h
      have hs : wv (tl s) = true := by
        cases hs : wv (tl s) with
        | true => rfl
        | false => unfold combineW at hc; rw [hs] at hc; simp at hc
      rw [combineW_ok' ⟨hs, h2.1, hl⟩] at hc
      injection hc with hc
      have hcl : c.length = s.size := by rw [← hc, combine_length _ _ _ hl, length_tl]
      have he := dec_enc h
      unfold sealW
      rw [he]
      simp only
      rw [size_mk, hcl, hp]
      simp only
      have hcw : wv c = true := by rw [← hc]; exact combine_wv hs hl
      rw [tl_mk, combineW_ok' ⟨hcw, h2.1, by rw [hcl]; omega⟩, ← hc, combine_back (by intro a b ha; omega) _ _ hl fun x hx => wv_mem hs hx]
      simp [mk_tl]

end Go.Proofs.YteeeaeidocalnaaGreatDoor
