/-
  Contracts of CodeOf and WordOf, of the program and of the reference. No conditions but those that each theorem names.
-/
import Derived.Test.YteeeaeidocalnaaGreatDoorBook
namespace Go.Proofs.YteeeaeidocalnaaGreatDoor
open Go.RowKit Pl
set_option linter.unusedVariables false

def strO (o : Option ByteArray) : ByteArray := match o with | some s => s | none => mk []
open Classical in
/-- the code of a word in a valid book -/
noncomputable def codeOf (es : List (ByteArray × ByteArray)) (s : ByteArray) : Option ByteArray := if bookV es then (findE es s).map Prod.snd else none
open Classical in
/-- the word of a code in a valid book -/
noncomputable def wordOf (es : List (ByteArray × ByteArray)) (s : ByteArray) : Option ByteArray := if bookV es then (findE (es.map Prod.swap) s).map Prod.snd else none
theorem valE_str (o : Option (ByteArray × ByteArray)) : valE o = strO (o.map Prod.snd) := by cases o <;> rfl

theorem find_first {α : Type} (p : α → Bool) (l : List α) : (l.find? p = none ∧ firstOf p l = -1) ∨ ∃ (k : Nat) (hk : k < l.length), firstOf p l = (k : Int) ∧ l.find? p = some l[k] := by
  cases hx : l.findIdx? p with
  | none =>
    left
    rw [List.findIdx?_eq_none_iff] at hx
    exact ⟨List.find?_eq_none.2 fun x h => by simp [hx x h], firstOf_no fun j hj => hx _ (List.getElem_mem hj)⟩
  | some k =>
    right
    rw [List.findIdx?_eq_some_iff_getElem] at hx
    obtain ⟨hk, h1, h2⟩ := hx
    refine ⟨k, hk, firstOf_at hk h1 fun j hj hjk => by simpa using h2 j hjk, ?_⟩
    rw [List.find?_eq_some_iff_getElem]
    exact ⟨h1, k, hk, rfl, fun j hj => by simpa using h2 j hj⟩
theorem findE_swap (es : List (ByteArray × ByteArray)) (s : ByteArray) : (findE (es.map Prod.swap) s).map Prod.snd = (es.find? fun e => decide (e.2 = s)).map Prod.fst := by
  unfold findE
  rw [List.find?_map]
  cases h : List.find? ((fun e : ByteArray × ByteArray => decide (e.1 = s)) ∘ Prod.swap) es with
  | none =>
    have : List.find? (fun e : ByteArray × ByteArray => decide (e.2 = s)) es = none := h
    rw [this]; rfl
  | some e =>
    have : List.find? (fun e : ByteArray × ByteArray => decide (e.2 = s)) es = some e := h
    rw [this]; rfl


























theorem sCodeOf_any (w : World) (B : Nat) (A : Option Addr) (cap : Nat) (es : List (ByteArray × ByteArray)) (s : ByteArray) (h : Rd w B A (entV es)) (hc : es.length ≤ cap) (hm : es.length ≤ 1048576) :
    Calls Tryz.prog 40 #[.slice A es.length cap, .string s] w fun e w' => e = .returned (.tuple #[.string (strO (codeOf es s)), .bool (codeOf es s).isSome]) ∧ w = w' := by
  have HR := Lib.hid h; clear h
  by_cases hv : bookV es
  · have hr : codeOf es s = (es.find? fun e => decide (e.1 = s)).map Prod.snd := by unfold codeOf; rw [if_pos hv]; rfl
    obtain ⟨bt, hbt, HV⟩ : ∃ bt : Bool, bt = true ∧ Hid (bookV es ↔ bt = true) := ⟨true, rfl, Lib.hid ⟨fun _ => rfl, fun _ => hv⟩⟩
    have HBT := Lib.hid hbt; clear hbt
    rcases find_first (fun e : ByteArray × ByteArray => decide (e.1 = s)) es with ⟨f1, f2⟩ | ⟨k, hk, f2, f1⟩
    · rw [hr, f1]
      have F2 := Lib.hid f2; clear hr f1 f2 hv
      go_enter Tryz.func40, Tryz.ntmps40
      go_wp2_with fail
      refine (l19Index_any _ B _ cap es s HR.out hc hm).mono ?_
      rintro _ _ ⟨rfl, rfl⟩
      rw [F2.out]
      go_wp2_with fail
      refine (sBookValid_is _ B _ cap es HR.out hc hm bt HV.out).mono ?_
      rintro _ _ ⟨rfl, rfl⟩
      rw [HBT.out]
      go_wp2_with fail
      go_ret2
      exact ⟨rfl, rfl⟩
    · rw [hr, f1]
      have F2 := Lib.hid f2; clear hr f1 f2 hv
      obtain ⟨b, off, rfl, hb, c0, c1⟩ := HR.out.ent hk
      generalize es[k] = e at c0 c1 ⊢
      go_enter Tryz.func40, Tryz.ntmps40
      go_wp2_with fail
      refine (l19Index_any _ B _ cap es s HR.out hc hm).mono ?_
      rintro _ _ ⟨rfl, rfl⟩
      rw [F2.out]
      go_wp2_with fail
      refine (sBookValid_is _ B _ cap es HR.out hc hm bt HV.out).mono ?_
      rintro _ _ ⟨rfl, rfl⟩
      rw [HBT.out]
      go_wp2_with fail
      go_ret2
      exact ⟨rfl, rfl⟩
  · have hr : codeOf es s = none := by unfold codeOf; rw [if_neg hv]
    rw [hr]
    have HV : Hid (bookV es ↔ false = true) := Lib.hid ⟨fun h => absurd h hv, fun h => by cases h⟩
    clear hr hv
    generalize hf : firstOf (fun e : ByteArray × ByteArray => decide (e.1 = s)) es = f
    have HF := Lib.hid hf; clear hf
    go_enter Tryz.func40, Tryz.ntmps40
    go_wp2_with fail
    refine (l19Index_any _ B _ cap es s HR.out hc hm).mono ?_
    rintro _ _ ⟨rfl, rfl⟩
    rw [HF.out]
    go_wp2_with fail
    refine (sBookValid_is _ B _ cap es HR.out hc hm false HV.out).mono ?_
    rintro _ _ ⟨rfl, rfl⟩
    go_wp2_with fail
    go_ret2
    exact ⟨rfl, rfl⟩


















































































end Go.Proofs.YteeeaeidocalnaaGreatDoor
