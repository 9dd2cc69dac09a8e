/-
  Contracts of the laws' own marks: what is written into a slice that the caller holds, and that it is found there again. No conditions but those that each theorem names.
-/
import Derived.Test.YteeeaeidocalnaaGreatDoorTexts
import Derived.Test.YteeeaeidocalnaaGreatDoorPlainK
import Derived.Test.YteeeaeidocalnaaGreatDoorWords
namespace Go.Proofs.YteeeaeidocalnaaGreatDoor
open Go.RowKit Pl
set_option linter.unusedVariables false

/-- the digits of a number -/
def mtD (k : Nat) : List UInt8 := if h : k = 0 then [] else mtD (k / 10) ++ [UInt8.ofNat (48 + k % 10)]
theorem mtD_zero : mtD 0 = [] := by rw [mtD]; rfl
theorem mtD_pos {k : Nat} (h : k ≠ 0) : mtD k = mtD (k / 10) ++ [UInt8.ofNat (48 + k % 10)] := by rw [mtD, dif_neg h]
theorem mtD_length (k : Nat) : (mtD k).length ≤ k := by
  induction k using Nat.strongRecOn with
  | ind k ih =>
    by_cases h : k = 0
    · subst h; rw [mtD_zero]; simp
    · rw [mtD_pos h, List.length_append]
      have := ih (k / 10) (by omega)
      simp; omega
/-- the mark with a number -/
def mt (k : Nat) : ByteArray := mk (109 :: mtD k)














































def mks (n k0 : Nat) : List ByteArray := (List.range n).map fun j => mt (k0 + j)
theorem length_mks (n k0 : Nat) : (mks n k0).length = n := by simp [mks]
theorem mks_get (n k0 j : Nat) (h : j < (mks n k0).length) : (mks n k0)[j] = mt (k0 + j) := by simp [mks]

theorem own_at {w : World} {base : Nat} {e : TypeId} {size n cap : Nat} {A : Option Addr} {xs : List Value} (h : w.ownsRow base e size (.slice A n cap) n xs) (hn : 0 < n) : ∃ g, A = some ⟨g, 0, none⟩ ∧ base ≤ g := by
  obtain ⟨h1, ⟨h2, rfl⟩ | ⟨g, cap', cur, h2, h3, h4⟩⟩ := h
  · omega
  · injection h2 with h2; exact ⟨g, h2, h3⟩















































theorem one_keep {wr W W' : World} {a1 : Addr} {u1 : Value} (h : W.cell? a1 = some u1 ∧ Below wr.heap.size wr W) (hb : Below W.heap.size W W') : W'.cell? a1 = some u1 ∧ Below wr.heap.size wr W' := by
  obtain ⟨h1, h5⟩ := h
  exact ⟨(hb.cell (World.block_lt_of_cell? _ _ h1)).trans h1, h5.trans (hb.mono h5.size)⟩

theorem one_keep2 {w W W' : World} {a1 : Addr} {u1 : Value} (h : W.cell? a1 = some u1 ∧ Below w.heap.size w W) (hb : Below W.heap.size W W') : W'.cell? a1 = some u1 ∧ Below w.heap.size w W' := by
  obtain ⟨h1, h5⟩ := h
  exact ⟨(hb.cell (World.block_lt_of_cell? _ _ h1)).trans h1, h5.trans (hb.mono h5.size)⟩



































def mke (n k0 : Nat) : List (ByteArray × ByteArray) := (List.range n).map fun j => (mt (k0 + 2 * j), mt (k0 + 2 * j + 1))
theorem length_mke (n k0 : Nat) : (mke n k0).length = n := by simp [mke]
theorem mke_get (n k0 j : Nat) (h : j < (mke n k0).length) : (mke n k0)[j] = (mt (k0 + 2 * j), mt (k0 + 2 * j + 1)) := by simp [mke]























































































































theorem own_apart {wA wB : World} {b1 b2 : Nat} {e1 e2 : TypeId} {z1 z2 n1 n2 : Nat} {v1 v2 : Value} {x1 x2 : List Value} (h1 : wA.ownsRow b1 e1 z1 v1 n1 x1) (h2 : wB.ownsRow b2 e2 z2 v2 n2 x2) (hle : wA.heap.size ≤ b2) : v1.ownBlock = none ∨ v1.ownBlock ≠ v2.ownBlock := by
  cases hv : v1.ownBlock with
  | none => exact .inl rfl
  | some k =>
    refine .inr fun e => ?_
    have := (h1.lt k hv).2
    have := (h2.lt k e.symm).1
    omega
theorem own_apart' {a b : Option Nat} (h : a = none ∨ a ≠ b) : b = none ∨ b ≠ a := by
  cases b with
  | none => exact .inl rfl
  | some k =>
    refine .inr fun e => ?_
    rcases h with h | h
    · rw [h] at e; cases e
    · exact h e.symm
theorem own_rd {w : World} {base : Nat} {e : TypeId} {size n cap : Nat} {A : Option Addr} {xs : List Value} (h : w.ownsRow base e size (.slice A n cap) n xs) : Rd w w.heap.size A xs := by
  obtain ⟨A', cap', he, _, _, hr⟩ := ownsRow_rd h
  simp only [Value.slice.injEq] at he
  rw [he.1]; exact hr
theorem own_le {w : World} {base : Nat} {e : TypeId} {size n cap : Nat} {A : Option Addr} {xs : List Value} (h : w.ownsRow base e size (.slice A n cap) n xs) : n ≤ cap := by
  obtain ⟨A', cap', he, h1, _, hr⟩ := ownsRow_rd h
  simp only [Value.slice.injEq] at he
  omega
theorem dec_len (es : List (ByteArray × ByteArray)) (s : ByteArray) (h : ¬ 1048576 < s.size) : ((decW es s).getD []).length ≤ 1048576 := by
  cases hd : decW es s with
  | none => simp
  | some l => have := (decW_some hd).2.2; simp; omega
theorem open_len (es : List (ByteArray × ByteArray)) (s sheet : ByteArray) (st : Int) (h : ¬ 1048576 < s.size) : ((openW es s sheet st).getD []).length ≤ 1048576 := by
  cases hd : openW es s sheet st with
  | none => simp
  | some l =>
    have h1 := open_seal hd
    obtain ⟨c, p, h2, _, _, _, _, _, _, h8⟩ := sealW_some h1
    have := (encW_some h2).2.2.2.2.1
    simp; omega

end Go.Proofs.YteeeaeidocalnaaGreatDoor
