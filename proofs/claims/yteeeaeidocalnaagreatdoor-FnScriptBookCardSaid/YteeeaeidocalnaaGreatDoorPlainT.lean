/-
  Plain facts of the script of a book: its lines, the parts of its lines, their sizes. No program in sight.
-/
import Derived.Test.YteeeaeidocalnaaGreatDoorPlainP
import Derived.Test.YteeeaeidocalnaaGreatDoorCutS
namespace Go.Proofs.YteeeaeidocalnaaGreatDoor
open Go.RowKit Pl
set_option linter.unusedVariables false

theorem wv_not {l : List UInt8} {x : UInt8} (hl : wv l = true) (hx : x.toNat < 97) : x ∉ l := fun hm => by
  have := isL_bounds (wv_mem hl hm); omega
theorem join_not {c : UInt8} (sp : List UInt8) (hs : c ∉ sp) : ∀ (l : List (List UInt8)), (∀ p ∈ l, c ∉ p) → c ∉ Lib.join l sp
  | [], _ => by simp [Lib.join_nil]
  | p :: r, h => by
    rw [Lib.join_cons]
    simp only [List.mem_append, not_or, Lib.joinTail, List.mem_flatten, List.mem_map, not_exists, not_and]
    refine ⟨h p (by simp), ?_⟩
    rintro x ⟨y, hy, rfl⟩
    simp only [List.mem_append, not_or]
    exact ⟨hs, h y (by simp [hy])⟩
theorem fmtB_line {es : List Ent} (hv : bookV es) : (10 : UInt8) ∉ tl (fmtB es) := by
  by_cases h0 : es.length = 0
  · rw [fmtB_none hv h0, tl_mk]; decide
  · rw [fmtB_some hv h0, tl_mk]
    refine join_not _ (by decide) _ ?_
    intro p hp
    obtain ⟨e, he, rfl⟩ := List.mem_map.1 hp
    have := bookV_mem hv (s := e.1) (c := e.2) he
    unfold entT
    simp only [List.mem_append, List.mem_singleton, not_or]
    exact ⟨⟨wv_not this.2.2.1 (by decide), by decide⟩, wv_not this.2.2.2.2 (by decide)⟩
theorem fmtB_le {es : List Ent} (hv : bookV es) : (fmtB es).size ≤ 260 := by
  by_cases h0 : es.length = 0
  · rw [fmtB_none hv h0, size_mk]; simp
  · rw [fmtB_some hv h0, size_mk]
    have := fmtL_le (book_small hv) es.length (Nat.le_refl _)
    rw [List.take_of_length_le (Nat.le_refl _)] at this
    have := hv.1
    omega
/-- a word that has a code -/
theorem coded_word {es : List Ent} {s : ByteArray} (h : (codeOf es s).isSome = true) : 1 ≤ s.size ∧ s.size ≤ 8 ∧ wv (tl s) = true := by
  have h1 := codeOf_iff.1 (strO_code h)
  have h2 := bookV_mem h1.1 h1.2
  exact ⟨h2.1, h2.2.1, h2.2.2.1⟩
theorem words_line {es : List Ent} {ws : List ByteArray} (h : ∀ s ∈ ws, (codeOf es s).isSome = true) : (10 : UInt8) ∉ Lib.join (ws.map tl) [32] := by
  refine join_not _ (by decide) _ ?_
  intro p hp
  obtain ⟨s, hs, rfl⟩ := List.mem_map.1 hp
  exact wv_not (coded_word (h s hs)).2.2 (by decide)
theorem words_split {es : List Ent} {ws : List ByteArray} (h : ∀ s ∈ ws, (codeOf es s).isSome = true) (h0 : ws ≠ []) : mkl (spl 32 (Lib.join (ws.map tl) [32])) = ws := by
  rw [spl_join _ (by simpa using h0)]
  · simp [mkl, Function.comp_def, mk_tl]
  · intro p hp
    obtain ⟨s, hs, rfl⟩ := List.mem_map.1 hp
    exact wv_not (coded_word (h s hs)).2.2 (by decide)
theorem words_ne {es : List Ent} {ws : List ByteArray} (h : ∀ s ∈ ws, (codeOf es s).isSome = true) (h0 : ws ≠ []) : Lib.join (ws.map tl) [32] ≠ [] := by
  cases ws with
  | nil => exact absurd rfl h0
  | cons s r =>
    have h1 := (coded_word (h s (by simp))).1
    intro e
    rw [List.map_cons, Lib.join_cons] at e
    have h2 := (List.append_eq_nil_iff.1 e).1
    have h3 := congrArg List.length h2
    rw [length_tl, List.length_nil] at h3; omega
/-- the lines of the script -/
theorem script_lines {f j r : List UInt8} (hf : (10 : UInt8) ∉ f) (hj : (10 : UInt8) ∉ j) (hr : (10 : UInt8) ∉ r) :
    mkl (spl 10 ([98, 111, 111, 107, 32] ++ f ++ [10, 99, 111, 100, 101, 32] ++ j ++ [10, 119, 111, 114, 100, 115, 32] ++ r ++ [10, 115, 104, 111, 119, 10])) =
      [mk ([98, 111, 111, 107] ++ 32 :: f), mk ([99, 111, 100, 101] ++ 32 :: j), mk ([119, 111, 114, 100, 115] ++ 32 :: r), mk [115, 104, 111, 119], mk []] := by
  have e : ([98, 111, 111, 107, 32] ++ f ++ [10, 99, 111, 100, 101, 32] ++ j ++ [10, 119, 111, 114, 100, 115, 32] ++ r ++ [10, 115, 104, 111, 119, 10] : List UInt8)
      = ([98, 111, 111, 107] ++ 32 :: f) ++ 10 :: (([99, 111, 100, 101] ++ 32 :: j) ++ 10 :: (([119, 111, 114, 100, 115] ++ 32 :: r) ++ 10 :: ([115, 104, 111, 119] ++ 10 :: []))) := by simp
  rw [e, spl_cons _ (by simp [hf]), spl_cons _ (by simp [hj]), spl_cons _ (by simp [hr]), spl_cons _ (by decide)]
  rfl

end Go.Proofs.YteeeaeidocalnaaGreatDoor
