/-
  The library's Join at a row of strings of the call's own. Conditions: what each theorem names.
-/
import Derived.Test.YtipcodebmemkpaaGreatDoorPlainQ
import Derived.Test.YtipcodebmemkpaaGreatDoorOwn
import Derived.Test.YtipcodebmemkpaaGreatDoorShelf
namespace Go.Proofs.YtipcodebmemkpaaGreatDoor
open Go.RowKit Pl
set_option linter.unusedVariables false

theorem lens_le (n : Nat) : ∀ l : List (List UInt8), (∀ s ∈ l, s.length ≤ n) → Lib.lens l ≤ l.length * n
  | [], _ => by simp [Lib.lens]
  | x :: r, h => by
    have h1 := lens_le n r fun s hs => h s (by simp [hs])
    have h2 := h x (by simp)
    simp only [Lib.lens, List.length_cons, Nat.add_mul, Nat.one_mul] at h1 ⊢
    simp
    omega
theorem join_le (l : List (List UInt8)) (sp : List UInt8) (n : Nat) (h : ∀ s ∈ l, s.length ≤ n) : (Lib.join l sp).length ≤ l.length * (n + sp.length) := by
  cases l with
  | nil => simp [Lib.join_nil]
  | cons x r =>
    rw [Lib.join_length]
    have h1 := lens_le n (x :: r) h
    rw [Nat.mul_add]
    have h2 : sp.length * r.length ≤ (x :: r).length * sp.length := by
      rw [Nat.mul_comm, List.length_cons]; exact Nat.mul_le_mul_right _ (Nat.le_succ _)
    omega
theorem join_own (w : World) (base : Nat) (A : Option Addr) (cap : Nat) (ws : List ByteArray) (sep : ByteArray) (ho : w.ownsRow base 9 1 (.slice A ws.length cap) ws.length (strV ws)) (h0 : ws ≠ [])
    (hl : ws.length ≤ 1000000) (hz : (Lib.join (ws.map tl) (tl sep)).length ≤ 1000000) :
    Calls Tryz.prog 86 #[.slice A ws.length cap, .string sep] w fun e w' => e = .returned (.string (mk (Lib.join (ws.map tl) (tl sep)))) ∧ Below w.heap.size w w' := by
  obtain ⟨A', cap', he, hc, _, hr⟩ := ownsRow_rd ho
  simp only [Value.slice.injEq] at he
  obtain ⟨rfl, _, rfl⟩ := he
  obtain ⟨b, o, rfl, hb, hcells⟩ := hr (by intro e; have := congrArg List.length e; rw [length_strV, List.length_nil] at this; exact h0 (List.length_eq_zero_iff.1 this))
  exact Tryz.strings_Join b o cap ws sep w (by
    intro j x hx
    obtain ⟨hj, rfl⟩ := List.getElem?_eq_some_iff.1 hx
    rw [hcells j (by rw [length_strV]; exact hj)]; simp [strV]) hb (by omega) hc (Nat.le_trans hz (by decide))

end Go.Proofs.YtipcodebmemkpaaGreatDoor
