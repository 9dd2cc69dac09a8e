/-
  What is read in a part of a slice. No conditions but those that each theorem names.
-/
import Derived.Test.YtlnppdpbhoapfaaFrame
namespace Go.Proofs.Ytlnppdpbhoapfaa
open Go.RowKit Pl
set_option linter.unusedVariables false

theorem Rd.take {w : World} {B : Nat} {A : Option Addr} {xs : List Value} (h : Rd w B A xs) (k : Nat) : Rd w B A (xs.take k) := fun hn => by
  have hx : xs ≠ [] := by rintro rfl; simp at hn
  obtain ⟨b, off, e, hb, hc⟩ := h hx
  refine ⟨b, off, e, hb, fun j hj => ?_⟩
  rw [List.length_take] at hj
  rw [hc j (by omega), List.getElem_take]
theorem strV_take (l : List ByteArray) (k : Nat) : strV (l.take k) = (strV l).take k := by simp [strV]
theorem strV_drop (l : List ByteArray) (k : Nat) : strV (l.drop k) = (strV l).drop k := by simp [strV]

theorem entV_take (l : List (ByteArray × ByteArray)) (k : Nat) : entV (l.take k) = (entV l).take (2 * k) := by
  induction l generalizing k with
  | nil => simp [entV]
  | cons e r ih =>
    cases k with
    | zero => simp [entV]
    | succ k =>
      have := ih k
      simp only [entV] at this ⊢
      rw [List.take_succ_cons, List.flatMap_cons, List.flatMap_cons, this, show 2 * (k + 1) = 2 * k + 1 + 1 by omega]
      simp
theorem entV_drop (l : List (ByteArray × ByteArray)) (k : Nat) : entV (l.drop k) = (entV l).drop (2 * k) := by
  induction l generalizing k with
  | nil => simp [entV]
  | cons e r ih =>
    cases k with
    | zero => simp [entV]
    | succ k =>
      have := ih k
      simp only [entV] at this ⊢
      rw [List.drop_succ_cons, List.flatMap_cons, this, show 2 * (k + 1) = 2 * k + 1 + 1 by omega]
      simp
/-- what is read from the place k on -/
theorem Rd.drop {w : World} {B : Nat} {b off : Nat} {xs : List Value} (h : Rd w B (some ⟨b, off, none⟩) xs) (k : Nat) : Rd w B (some ⟨b, off + k, none⟩) (xs.drop k) := fun hn => by
  have hx : xs ≠ [] := by rintro rfl; simp at hn
  obtain ⟨b', off', e, hb, hc⟩ := h hx
  simp only [Option.some.injEq, Addr.mk.injEq, and_true] at e
  obtain ⟨rfl, rfl⟩ := e
  refine ⟨b, off + k, rfl, hb, fun j hj => ?_⟩
  rw [List.length_drop] at hj
  rw [show off + k + j = off + (k + j) by omega, hc (k + j) (by omega), List.getElem_drop]
theorem Rd.dropO {w : World} {B : Nat} {A : Option Addr} {xs : List Value} (h : Rd w B A xs) (k : Nat) : Rd w B (A.map fun x => x.add k) (xs.drop k) := fun hn => by
  have hx : xs ≠ [] := by rintro rfl; simp at hn
  obtain ⟨b, off, rfl, hb, hc⟩ := h hx
  have h2 : Rd w B (some ⟨b, off, none⟩) xs := h
  have := h2.drop k hn
  simp only [Option.map_some, add_none]
  exact this

end Go.Proofs.Ytlnppdpbhoapfaa
