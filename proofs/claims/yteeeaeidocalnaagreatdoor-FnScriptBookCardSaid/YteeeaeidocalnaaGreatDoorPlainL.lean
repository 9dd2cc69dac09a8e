/-
  More plain laws of books, codes and words. No conditions but those that each theorem names.
-/
import Derived.Test.YteeeaeidocalnaaGreatDoorPlainK
namespace Go.Proofs.YteeeaeidocalnaaGreatDoor
open Go.RowKit Pl
set_option linter.unusedVariables false

theorem enc_join {es : List (ByteArray × ByteArray)} {ws : List ByteArray} {r : ByteArray} (h : encW es ws = some r) (k : Nat) : ∃ x y, encW es (ws.take k) = some x ∧ encW es (ws.drop k) = some y ∧ x ++ y = r ∧ x.size ≤ 200 ∧ y.size ≤ 200 := by
  obtain ⟨h1, h2, h3, h4, h5, h6⟩ := encW_some h
  have e1 := encW_ok (es := es) (ws := ws.take k) ⟨h1, by rw [List.length_take]; omega, fun s hs => h3 s (List.mem_of_mem_take hs)⟩
  have e2 := encW_ok (es := es) (ws := ws.drop k) ⟨h1, by rw [List.length_drop]; omega, fun s hs => h3 s (List.mem_of_mem_drop hs)⟩
  refine ⟨_, _, e1, e2, ?_, ?_, ?_⟩
  · rw [mk_append, ← List.flatMap_append, List.take_append_drop]
    exact tl_inj h4.symm
  · have := (encW_some e1).2.2.2.2.1; rw [List.length_take] at this; omega
  · have := (encW_some e2).2.2.2.2.1; rw [List.length_drop] at this; omega

theorem bookV_take {es : List (ByteArray × ByteArray)} (h : bookV es) (k : Nat) : bookV (es.take k) :=
  ⟨by have := h.1; rw [List.length_take]; omega, fun e he => h.2.1 e (List.mem_of_mem_take he), h.2.2.sublist (List.take_sublist _ _)⟩
theorem bookV_drop {es : List (ByteArray × ByteArray)} (h : bookV es) (k : Nat) : bookV (es.drop k) :=
  ⟨by have := h.1; rw [List.length_drop]; omega, fun e he => h.2.1 e (List.mem_of_mem_drop he), h.2.2.sublist (List.drop_sublist _ _)⟩
theorem bookV_twice {es : List (ByteArray × ByteArray)} {e : ByteArray × ByteArray} (h : e ∈ es) : ¬ bookV (es ++ [e]) := by
  intro hv
  have := (List.pairwise_append.1 hv.2.2).2.2 e h e (by simp)
  exact this.1 rfl

theorem enc_rev {es : List (ByteArray × ByteArray)} {ws : List ByteArray} {r : ByteArray} (h : encW es ws = some r) : ∃ y, encW es ws.reverse = some y ∧ y.size = r.size ∧ wv (tl y) = true := by
  obtain ⟨h1, h2, h3, h4, h5, h6⟩ := encW_some h
  have e1 := encW_ok (es := es) (ws := ws.reverse) ⟨h1, by rw [List.length_reverse]; omega, fun s hs => h3 s (List.mem_reverse.1 hs)⟩
  have e2 := encW_some e1
  exact ⟨_, e1, by rw [e2.2.2.2.2.1, List.length_reverse, h5], e2.2.2.2.2.2⟩

theorem combine_cons (t : Nat) (x y : UInt8) (a b : List UInt8) : combine t (x :: a) (y :: b) = letter ((dg x + t * dg y) % 10) :: combine t a b := rfl
theorem depth_digit (x y q : UInt8) : letter ((dg (letter ((dg x + 1 * dg q) % 10)) + 9 * dg (letter ((dg y + 1 * dg q) % 10))) % 10) = letter ((dg x + 9 * dg y) % 10) := by
  rw [dg_letter (Nat.mod_lt _ (by omega)), dg_letter (Nat.mod_lt _ (by omega))]
  generalize dg x = a; generalize dg y = b; generalize dg q = c
  have : ((a + 1 * c) % 10 + 9 * ((b + 1 * c) % 10)) % 10 = (a + 9 * b) % 10 := by omega
  rw [this]
theorem combine_depth : ∀ (a b p : List UInt8), combine 9 (combine 1 a p) (combine 1 b p) = combine 9 (a.take p.length) (b.take p.length)
  | [], b, p => by simp [combine]
  | a, [], p => by simp [combine]
  | a, b, [] => by simp [combine]
  | x :: a, y :: b, q :: p => by
    rw [combine_cons, combine_cons, combine_cons, List.length_cons, List.take_succ_cons, List.take_succ_cons, combine_cons, combine_depth a b p, depth_digit]

/-- two messages in depth: what the law asks -/
theorem seal_depth {es : List (ByteArray × ByteArray)} {ws : List ByteArray} {sheet r : ByteArray} {st : Int} (h : sealW es ws sheet st = some r) :
    ∃ x y o d, encW es ws = some x ∧ encW es ws.reverse = some y ∧ sealW es ws.reverse sheet st = some o ∧ combineW 9 (tl r) (tl o) = some d ∧ combineW 9 (tl x) (tl y) = some d ∧ r.size ≤ 200 ∧ o.size ≤ 200 ∧ x.size ≤ 200 ∧ y.size ≤ 200 := by
  obtain ⟨c, p, h1, h2, h3, h4, h5, h6, h7, h8⟩ := sealW_some h
  obtain ⟨y, hy, hyz, hyw⟩ := enc_rev h1
  have hcz := (encW_some h1).2.2.2.2.1
  have hc2 := (encW_some h1).2.1
  have hlc : (tl c).length = p.length := by rw [length_tl]; omega
  have hly : (tl y).length = p.length := by rw [length_tl]; omega
  have ho : sealW es ws.reverse sheet st = some (mk (combine 1 (tl y) p)) := by
    unfold sealW
    rw [hy]
    simp only
    rw [hyz, h2]
    simp only
    rw [combineW_ok' ⟨hyw, h5, hly⟩]; rfl
  have hr : tl r = combine 1 (tl c) p := by rw [h7, tl_mk]
  refine ⟨c, y, _, combine 9 (tl c) (tl y), h1, hy, ho, ?_, ?_, by omega, ?_, by omega, by omega⟩
  · rw [hr, tl_mk, combineW_ok' ⟨combine_wv h4 hlc, combine_wv hyw hly, by rw [combine_length _ _ _ hlc, combine_length _ _ _ hly]; omega⟩, combine_depth,
      List.take_of_length_le (by omega), List.take_of_length_le (by omega)]
  · exact combineW_ok' ⟨h4, hyw, by omega⟩
  · rw [size_mk, combine_length _ _ _ hly, length_tl]; omega

end Go.Proofs.YteeeaeidocalnaaGreatDoor
