/-
  Words for memory: a reader of drawn bytes, a row of cells that is read, and what keeps them. Nothing is said of any function. No conditions.
-/
import Derived.Test.YtipcodebmemkpaaGreatDoorRows
import Derived.Test.YtipcodebmemkpaaGreatDoorPlain
import Derived.WalkKit
import Derived.WalkSpells
import Derived.WalkLawsBesides
import Derived.Lib.Hide
import Derived.IntWalk
import Derived.Deep.Draws
import Derived.Laws.BytesString
import Derived.Laws.Cells
import Derived.Lib.ConvBytes
namespace Go.Proofs.YtipcodebmemkpaaGreatDoor
open Go.RowKit Pl
set_option linter.unusedVariables false

/-- A slice value at A reads as the cells xs, and lies below block B. -/
def Rd (w : World) (B : Nat) (A : Option Addr) (xs : List Value) : Prop :=
  xs ≠ [] → ∃ b off, A = some ⟨b, off, none⟩ ∧ b < B ∧ ∀ (j : Nat) (h : j < xs.length), w.cell? ⟨b, off + j, none⟩ = some xs[j]

section
variable {w w' : World} {B B' : Nat} {A : Option Addr} {xs : List Value}
theorem Rd.nil : Rd w B A [] := fun h => absurd rfl h
theorem Rd.keep (h : Rd w B A xs) (hk : ∀ k, k < B → w'.heap[k]? = w.heap[k]?) : Rd w' B A xs := fun hn => by
  obtain ⟨b, off, e, hb, hc⟩ := h hn
  exact ⟨b, off, e, hb, fun j hj => (World.cell?_of_block (a := ⟨b, off + j, none⟩) (hk b hb)).trans (hc j hj)⟩
theorem Rd.below (h : Rd w B A xs) (hb : Below B w w') : Rd w' B A xs := h.keep hb.block
theorem Rd.mono (h : Rd w B A xs) (hB : B ≤ B') : Rd w B' A xs := fun hn => by
  obtain ⟨b, off, e, hb, hc⟩ := h hn
  exact ⟨b, off, e, by omega, hc⟩
theorem Rd.only (h : Rd w B A xs) {R : Nat} (hg : w.grownBy w' (some R)) (hB : B ≤ w.heap.size) (hR : B ≤ R) : Rd w' B A xs :=
  h.keep fun k hk => hg.block k (by omega) (by intro e; injection e; omega)
end

/-- the cells of a slice of bytes -/
def bytesV (l : List UInt8) : List Value := l.map fun c => .int .u8 c.toNat
theorem length_bytesV (l : List UInt8) : (bytesV l).length = l.length := by simp [bytesV]

/-- R is a block that holds a reader of drawn bytes, at most N of which are read. -/
def Rdr (w : World) (R N : Nat) : Prop :=
  ∃ (A : Option Addr) (cap : Nat) (p : Nat) (bs : List UInt8), w.heap[R]? = some (.cells #[.slice A bs.length cap, .int .i64 p] 97 (0, 0)) ∧ p ≤ N ∧ bs.length ≤ 2000 ∧ bs.length ≤ cap ∧ Rd w R A (bytesV bs)

theorem only_refl (w : World) (r : Option Nat) : w.grownBy w r := ⟨rfl, rfl, rfl, Nat.le_refl _, fun _ _ _ => rfl⟩
theorem only_trans {a b c : World} {r : Option Nat} (h : a.grownBy b r) (k : b.grownBy c r) : a.grownBy c r :=
  ⟨k.os.trans h.os, k.tape.trans h.tape, k.output.trans h.output, Nat.le_trans h.size k.size, fun i hi hn => (k.block i (Nat.lt_of_lt_of_le hi h.size) hn).trans (h.block i hi hn)⟩
theorem only_of_below {a b : World} (h : Below a.heap.size a b) (r : Option Nat) : a.grownBy b r := ⟨h.os, h.tape, h.output, h.size, fun i hi _ => h.block i hi⟩
theorem below_of_only {B R : Nat} {a b : World} (h : a.grownBy b (some R)) (hB : B ≤ a.heap.size) (hR : B ≤ R) : Below B a b :=
  ⟨h.os, h.tape, h.output, h.size, fun i hi => h.block i (by omega) (by intro e; injection e; omega)⟩
theorem only_drewN {a b : World} {r : Option Nat} (h : a.grownBy b r) (n : Nat) : a.grownBy (b.drewN n) r := ⟨h.os, h.tape, h.output, h.size, h.block⟩
theorem only_of_drew {a b : World} {r : Option Nat} (h : a.drew.grownBy b r) : a.grownBy b r := ⟨h.os, h.tape, h.output, h.size, h.block⟩
theorem below_of_drew {B : Nat} {a b : World} (h : Below B a.drew b) : Below B a b := ⟨h.os, h.tape, h.output, h.size, h.block⟩
theorem only_setCell {a b : World} {R : Nat} (h : a.grownBy b (some R)) (i : Nat) (u : Value) : a.grownBy (b.setCell ⟨R, i, none⟩ u) (some R) :=
  ⟨h.os, h.tape, h.output, by simpa [World.setCell] using h.size, fun k hk hn => (Below.heap_setCell b ⟨R, i, none⟩ u k (by intro e; exact hn (by rw [e]))).trans (h.block k hk hn)⟩
theorem below_drewN' {B : Nat} {a w : World} (h : Below B a w) (n : Nat) : Below B a (w.drewN n) := ⟨h.os, h.tape, h.output, h.size, h.block⟩

theorem Rdr.lt {w : World} {R N : Nat} (h : Rdr w R N) : R < w.heap.size := by
  obtain ⟨A, cap, p, bs, hb, _⟩ := h
  exact (Array.getElem?_eq_some_iff.1 hb).1
theorem Rdr.mono {w : World} {R N N' : Nat} (h : Rdr w R N) (hN : N ≤ N') : Rdr w R N' := by
  obtain ⟨A, cap, p, bs, hb, hp, h1, h2, h3⟩ := h
  exact ⟨A, cap, p, bs, hb, by omega, h1, h2, h3⟩
theorem Rdr.below {w w' : World} {R N : Nat} (h : Rdr w R N) (hb : Below w.heap.size w w') : Rdr w' R N := by
  have hl := h.lt
  obtain ⟨A, cap, p, bs, hb', hp, h1, h2, h3⟩ := h
  exact ⟨A, cap, p, bs, (hb.block R hl).trans hb', hp, h1, h2, h3.keep fun k hk => hb.block k (by omega)⟩
theorem Rdr.alloc {w : World} {R N : Nat} (h : Rdr w R N) (o : Obj) : Rdr (w.alloc o) R N := h.below ((Below.refl _ _).alloc (Nat.le_refl _) o)
theorem Rdr.drewN {w : World} {R N : Nat} (h : Rdr w R N) (n : Nat) : Rdr (w.drewN n) R N := h

theorem add_none (b off j : Nat) : (⟨b, off, none⟩ : Addr).add j = ⟨b, off + j, none⟩ := by
  unfold Addr.add; split <;> simp_all
theorem push_fold (l : List UInt8) (r : ByteArray) : (l.map fun c : UInt8 => (c.toNat : Int)).foldl (fun r n => r.push (UInt8.ofNat n.toNat)) r = ⟨(tl r ++ l).toArray⟩ := by
  induction l generalizing r with
  | nil => simp [tl]
  | cons c l ih =>
    rw [List.map_cons, List.foldl_cons, ih]
    congr 1
    simp [tl, ByteArray.push]

/-- 'string(b)': the bytes in memory as a string -/
theorem conv_string {P : Program} (w : World) (src dst e : TypeId) (b off c : Nat) (l : List UInt8)
    (hs : P.underlying src = some (.slice e)) (he : P.underlying e = some (.int .u8)) (hd : P.underlying dst = some .string)
    (hc : ∀ (j : Nat) (h : j < l.length), w.cell? ⟨b, off + j, none⟩ = some (.int .u8 l[j].toNat)) :
    (convert src dst (.slice (some ⟨b, off, none⟩) l.length c)).run P w = .ok (.string (mk l)) w := by
  rw [run_convert_bytes_string w src dst e _ _ _ hs he hd]
  rw [run_bytesToString w _ _ _ (l.map fun c : UInt8 => (c.toNat : Int)) ?_]
  · rw [push_fold]; rfl
  · have h := run_loadCells_list (P := P) (w := w) ⟨b, off, none⟩ (bytesV l) (fun j v hv => by
      rw [add_none]
      have hj : j < l.length := by
        have := (List.getElem?_eq_some_iff.1 hv).1
        rwa [length_bytesV] at this
      rw [hc j hj]
      rw [← hv]
      simp [bytesV, hj])
    rw [length_bytesV] at h
    rw [h]
    simp [bytesV]

/-- 'string([]byte{c})' of a new block of one byte -/
theorem conv_one {P : Program} (src dst e : TypeId) (hs : P.underlying src = some (.slice e)) (he : P.underlying e = some (.int .u8)) (hd : P.underlying dst = some .string)
    (v : Int) (h0 : 0 ≤ v) (h1 : v < 256) (w : World) :
    (convert src dst (.slice (some ⟨w.heap.size, 0, none⟩) 1 1)).run P (w.alloc (.cells #[.int .u8 v] e)) = .ok (.string (mk [UInt8.ofNat v.toNat])) (w.alloc (.cells #[.int .u8 v] e)) := by
  refine conv_string (w.alloc _) src dst e w.heap.size 0 1 [UInt8.ofNat v.toNat] hs he hd fun j hj => ?_
  have : j = 0 := by simpa using hj
  subst this
  rw [cell_of_row _ _ _ _ _ _ (heap_alloc_new w _)]
  have : v.toNat % 256 = v.toNat := Nat.mod_eq_of_lt (by omega)
  simp [UInt8.toNat_ofNat', this, Int.toNat_of_nonneg h0]

end Go.Proofs.YtipcodebmemkpaaGreatDoor
