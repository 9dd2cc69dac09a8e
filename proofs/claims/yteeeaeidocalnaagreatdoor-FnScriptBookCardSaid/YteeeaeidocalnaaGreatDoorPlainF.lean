/-
  Plain laws of the text of a book. No conditions but those that each theorem names.
-/
import Derived.Test.YteeeaeidocalnaaGreatDoorPlainS
import Derived.Lib.Join
namespace Go.Proofs.YteeeaeidocalnaaGreatDoor
open Go.RowKit Pl
set_option linter.unusedVariables false

/-- the text of an entry -/
def entT (e : Ent) : List UInt8 := tl e.1 ++ [61] ++ tl e.2
/-- the texts of entries with blanks between them -/
def fmtL (es : List Ent) : List UInt8 := Lib.join (es.map entT) [32]
open Classical in
/-- the text of a book -/
noncomputable def fmtB (es : List Ent) : ByteArray := if bookV es then (if es.length = 0 then mk [45] else mk (fmtL es)) else mk []
theorem fmtB_no {es : List Ent} (h : ¬ bookV es) : fmtB es = mk [] := if_neg h
theorem fmtB_none {es : List Ent} (h : bookV es) (h0 : es.length = 0) : fmtB es = mk [45] := by unfold fmtB; rw [if_pos h, if_pos h0]
theorem fmtB_some {es : List Ent} (h : bookV es) (h0 : ¬ es.length = 0) : fmtB es = mk (fmtL es) := by unfold fmtB; rw [if_pos h, if_neg h0]
theorem fmtL_snoc (es : List Ent) (k : Nat) (hk : k < es.length) : fmtL (es.take (k + 1)) = (if k = 0 then [] else fmtL (es.take k) ++ [32]) ++ entT es[k] := by
  unfold fmtL
  match es, hk with
  | e :: r, hk =>
    match k, hk with
    | 0, hk => simp [Lib.join_one]
    | k + 1, hk =>
      have hk' : k < r.length := by simpa using hk
      rw [List.take_succ_cons, List.take_succ_cons, List.map_cons, List.map_cons, Lib.join_cons, Lib.join_cons, List.map_take, List.map_take,
        Lib.joinTail_take_succ [32] (r.map entT) k (entT r[k]) (by simp [hk'])]
      simp
theorem entT_ne (e : Ent) : entT e ≠ [] := by simp [entT]
theorem fmtL_ne {es : List Ent} (h : 0 < es.length) : fmtL es ≠ [] := by
  match es, h with
  | e :: r, _ => unfold fmtL; rw [List.map_cons, Lib.join_cons]; simp [entT]
theorem fmtL_le {es : List Ent} (h : ∀ e ∈ es, e.1.size ≤ 8 ∧ e.2.size ≤ 3) : ∀ k, k ≤ es.length → (fmtL (es.take k)).length ≤ 13 * k := by
  intro k
  induction k with
  | zero => intro _; simp [fmtL, Lib.join_nil]
  | succ k ih =>
    intro hk
    have := ih (by omega)
    rw [fmtL_snoc es k (by omega)]
    have he := h _ (List.getElem_mem (show k < es.length by omega))
    have : (entT es[k]).length ≤ 12 := by simp [entT, length_tl]; omega
    split
    · simp; omega
    · simp; omega
theorem book_small {es : List Ent} (h : bookV es) : ∀ e ∈ es, e.1.size ≤ 8 ∧ e.2.size ≤ 3 := fun e he => by
  have := bookV_mem h (s := e.1) (c := e.2) he
  omega

end Go.Proofs.YteeeaeidocalnaaGreatDoor
