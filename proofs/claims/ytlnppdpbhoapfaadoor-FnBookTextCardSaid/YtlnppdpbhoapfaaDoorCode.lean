/-
  Contracts of CodeOf and WordOf, of the program and of the reference. No conditions but those that each theorem names.
-/
import Derived.Test.YtlnppdpbhoapfaaDoorBook
namespace Go.Proofs.YtlnppdpbhoapfaaDoor
open Go.RowKit Pl
set_option linter.unusedVariables false

def strO (o : Option ByteArray) : ByteArray := match o with | some s => s | none => mk []
open Classical in
/-- the code of a word in a valid book -/
noncomputable def codeOf (es : List (ByteArray × ByteArray)) (s : ByteArray) : Option ByteArray := if bookV es then (findE es s).map Prod.snd else none
open Classical in
/-- the word of a code in a valid book -/
noncomputable def wordOf (es : List (ByteArray × ByteArray)) (s : ByteArray) : Option ByteArray := if bookV es then (findE (es.map Prod.swap) s).map Prod.snd else none
theorem valE_str (o : Option (ByteArray × ByteArray)) : valE o = strO (o.map Prod.snd) := by cases o <;> rfl

theorem find_first {α : Type} (p : α → Bool) (l : List α) : (l.find? p = none ∧ firstOf p l = -1) ∨ ∃ (k : Nat) (hk : k < l.length), firstOf p l = (k : Int) ∧ l.find? p = some l[k] := by
  cases hx : l.findIdx? p with
  | none =>
    left
    rw [List.findIdx?_eq_none_iff] at hx
    exact ⟨List.find?_eq_none.2 fun x h => by simp [hx x h], firstOf_no fun j hj => hx _ (List.getElem_mem hj)⟩
  | some k =>
    right
    rw [List.findIdx?_eq_some_iff_getElem] at hx
    obtain ⟨hk, h1, h2⟩ := hx
    refine ⟨k, hk, firstOf_at hk h1 fun j hj hjk => by simpa using h2 j hjk, ?_⟩
    rw [List.find?_eq_some_iff_getElem]
    exact ⟨h1, k, hk, rfl, fun j hj => by simpa using h2 j hj⟩
theorem findE_swap (es : List (ByteArray × ByteArray)) (s : ByteArray) : (findE (es.map Prod.swap) s).map Prod.snd = (es.find? fun e => decide (e.2 = s)).map Prod.fst := by
  unfold findE
  rw [List.find?_map]
  cases h : List.find? ((fun e : ByteArray × ByteArray => decide (e.1 = s)) ∘ Prod.swap) es with
  | none =>
    have : List.find? (fun e : ByteArray × ByteArray => decide (e.2 = s)) es = none := h
    rw [this]; rfl
  | some e =>
    have : List.find? (fun e : ByteArray × ByteArray => decide (e.2 = s)) es = some e := h
    rw [this]; rfl



































































































































































end Go.Proofs.YtlnppdpbhoapfaaDoor
