/-
  Plain laws of cribs and menus. No program in sight.
-/
import Derived.Test.YtipcodebmemkpaaGreatDoorPlainQ
import Derived.Lib.ItoaNum
namespace Go.Proofs.YtipcodebmemkpaaGreatDoor
open Pl
set_option linter.unusedVariables false

/-- a crib differs from the word in every place -/
def crAll (c k : List UInt8) (t n : Nat) : Bool := (List.range n).all fun i => k[i]? != c[t + i]?
def cribF (c k : List UInt8) (t : Int) : Bool := wv c && (wv k && (!k.isEmpty && (decide (0 ≤ t) && (decide (t + k.length ≤ c.length) && crAll c k t.toNat k.length))))
theorem crAll_succ (c k : List UInt8) (t n : Nat) : crAll c k t (n + 1) = (crAll c k t n && (k[n]? != c[t + n]?)) := by
  unfold crAll; rw [List.range_succ, List.all_append]; simp
theorem crAll_bad {c k : List UInt8} {t i : Nat} (n : Nat) (h : (k[i]? != c[t + i]?) = false) (hi : i < n) : crAll c k t n = false := by
  unfold crAll
  rw [List.all_eq_false]
  exact ⟨i, List.mem_range.2 hi, by rw [h]; simp⟩
/-- the places in which a crib fits -/
def cribP (c k : List UInt8) : List Nat := (List.range c.length).filter fun t => cribF c k t
/-- a link: two letters and a key -/
abbrev Lnk := ByteArray × ByteArray × Nat
def menuL (c k : List UInt8) (t : Nat) : List Lnk := (List.range k.length).map fun i => (mk ((k.drop i).take 1), mk ((c.drop (t + i)).take 1), t + i + 1)
theorem length_menuL (c k : List UInt8) (t : Nat) : (menuL c k t).length = k.length := by simp [menuL]
/-- a menu that is valid -/
def menuV (m : List Lnk) : Prop := 1 ≤ m.length ∧ m.length ≤ 12 ∧ (∀ x ∈ m, x.1.size = 1 ∧ x.2.1.size = 1 ∧ wv (tl x.1 ++ tl x.2.1) = true ∧ x.1 ≠ x.2.1 ∧ 1 ≤ x.2.2 ∧ x.2.2 ≤ 60) ∧ m.Pairwise fun x y => x.2.2 < y.2.2
theorem cribF_iff {c k : List UInt8} {t : Int} : cribF c k t = true ↔ wv c = true ∧ wv k = true ∧ k ≠ [] ∧ 0 ≤ t ∧ t + k.length ≤ c.length ∧ crAll c k t.toNat k.length = true := by
  unfold cribF
  simp only [Bool.and_eq_true, Bool.not_eq_true', decide_eq_true_eq, List.isEmpty_eq_false_iff]
theorem menuL_valid {c k : List UInt8} {t : Nat} (h : cribF c k t = true) (h1 : k.length ≤ 12) (h2 : t + k.length ≤ 60) : menuV (menuL c k t) := by
  obtain ⟨hc, hk, hn, _, hle, hall⟩ := cribF_iff.1 h
  have hpos : 0 < k.length := List.length_pos_iff.2 hn
  refine ⟨by rw [length_menuL]; exact hpos, by rw [length_menuL]; exact h1, ?_, ?_⟩
  · intro x hx
    obtain ⟨i, hi, rfl⟩ := List.mem_map.1 hx
    have hi := List.mem_range.1 hi
    have hic : t + i < c.length := by omega
    have e1 : (k.drop i).take 1 = [k[i]] := by rw [List.drop_eq_getElem_cons hi]; rfl
    have e2 : (c.drop (t + i)).take 1 = [c[t + i]] := by rw [List.drop_eq_getElem_cons hic]; rfl
    have l1 := wv_mem hk (List.getElem_mem hi)
    have l2 := wv_mem hc (List.getElem_mem hic)
    have hne : k[i] ≠ c[t + i] := by
      have := List.all_eq_true.1 hall i (List.mem_range.2 hi)
      rw [Int.toNat_natCast, List.getElem?_eq_getElem hi, List.getElem?_eq_getElem hic] at this
      intro e; rw [e] at this; simp at this
    simp only [e1, e2]
    refine ⟨by rw [size_mk]; rfl, by rw [size_mk]; rfl, ?_, ?_, by omega, by omega⟩
    · rw [tl_mk, tl_mk]; simp [wv, l1, l2]
    · intro e
      have := congrArg tl e
      rw [tl_mk, tl_mk] at this
      injection this with h0; exact hne h0
  · unfold menuL
    rw [List.pairwise_map]
    refine List.Pairwise.imp ?_ List.pairwise_lt_range
    intro a b hab
    show t + a + 1 < t + b + 1
    omega
/-- a link's text -/
def lnkT (x : Lnk) : List UInt8 := tl x.1 ++ tl x.2.1 ++ Go.Lib.itoa x.2.2
def menuT (m : List Lnk) : List UInt8 := Go.Lib.join (m.map lnkT) [32]

end Go.Proofs.YtipcodebmemkpaaGreatDoor
