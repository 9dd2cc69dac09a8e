/-
  Contracts of functions and plain laws that the law's proof uses (parts: Door, JoinC, CutD, RcJoin). Conditions: what each theorem names.
-/
import Derived.Lib.LaidIn
import Derived.Lib.LaidU8T
import Derived.Deep.DeepHandedRow
import Derived.Deep.DeepWitnessRowRef
import Derived.ProofKit
import Derived.SizedLaws
import Derived.SevenTiedAt
import Derived.Test.YtnbdimbhklbadaaGreatDoorRows
import Derived.Test.YtnbdimbhklbadaaGreatDoorQBsA
import Derived.Test.YtnbdimbhklbadaaGreatDoorQShelf
import Derived.Test.YtnbdimbhklbadaaGreatDoorQPlA
import Derived.OwnWalk
import Derived.Deep.AppendLies
namespace Go.Proofs.YtnbdimbhklbadaaGreatDoor
open Go.RowKit Pl
open Go.ChangeShapes Go.WideShapes Go.ChangeAt Go.Lib
set_option linter.unusedVariables false
def ML (w : World) : Prop := ∃ m, w.cell? ⟨1, 0, none⟩ = some (.int .i64 m)
theorem ML.lt {w : World} (h : ML w) : 1 < w.heap.size := by obtain ⟨m, h⟩ := h; exact World.block_lt_of_cell? _ _ h
theorem ML.below {w w' : World} {B : Nat} (h : ML w) (hb : Below B w w') (hB : w.heap.size ≤ B) : ML w' := by
  have hl := h.lt
  obtain ⟨m, h⟩ := h
  exact ⟨m, (hb.cell (p := ⟨1, 0, none⟩) (Nat.lt_of_lt_of_le hl hB)).trans h⟩
theorem ML.drewN {w : World} (h : ML w) (n : Nat) : ML (w.drewN n) := h
theorem ml_of_shaped (w : World) (h : w.ShapedOpen Tryz.prog) : ML w := Tryz.laysM145.s1_3 w h
end Go.Proofs.YtnbdimbhklbadaaGreatDoor
namespace Go.Proofs.YtnbdimbhklbadaaGreatDoor
open Go.RowKit Pl
set_option linter.unusedVariables false
theorem lens_le (n : Nat) : ∀ l : List (List UInt8), (∀ s ∈ l, s.length ≤ n) → Lib.lens l ≤ l.length * n
  | [], _ => by simp [Lib.lens]
  | x :: r, h => by
    have h1 := lens_le n r fun s hs => h s (by simp [hs])
    have h2 := h x (by simp)
    simp only [Lib.lens, List.length_cons, Nat.add_mul, Nat.one_mul] at h1 ⊢
    simp
    omega
theorem join_le (l : List (List UInt8)) (sp : List UInt8) (n : Nat) (h : ∀ s ∈ l, s.length ≤ n) : (Lib.join l sp).length ≤ l.length * (n + sp.length) := by
  cases l with
  | nil => simp [Lib.join_nil]
  | cons x r =>
    rw [Lib.join_length]
    have h1 := lens_le n (x :: r) h
    rw [Nat.mul_add]
    have h2 : sp.length * r.length ≤ (x :: r).length * sp.length := by
      rw [Nat.mul_comm, List.length_cons]; exact Nat.mul_le_mul_right _ (Nat.le_succ _)
    omega
theorem join_own (w : World) (base : Nat) (A : Option Addr) (cap : Nat) (ws : List ByteArray) (sep : ByteArray) (ho : w.ownsRow base 9 1 (.slice A ws.length cap) ws.length (strV ws)) (h0 : ws ≠ [])
    (hl : ws.length ≤ 1000000) (hz : (Lib.join (ws.map tl) (tl sep)).length ≤ 1000000) :
    Calls Tryz.prog 27 #[.slice A ws.length cap, .string sep] w fun e w' => e = .returned (.string (mk (Lib.join (ws.map tl) (tl sep)))) ∧ Below w.heap.size w w' := by
  obtain ⟨A', cap', he, hc, _, hr⟩ := ownsRow_rd ho
  simp only [Value.slice.injEq] at he
  obtain ⟨rfl, _, rfl⟩ := he
  obtain ⟨b, o, rfl, hb, hcells⟩ := hr (by intro e; have := congrArg List.length e; rw [length_strV, List.length_nil] at this; exact h0 (List.length_eq_zero_iff.1 this))
  exact Tryz.strings_Join b o cap ws sep w (by
    intro j x hx
    obtain ⟨hj, rfl⟩ := List.getElem?_eq_some_iff.1 hx
    rw [hcells j (by rw [length_strV]; exact hj)]; simp [strV]) hb (by omega) hc (Nat.le_trans hz (by decide))
end Go.Proofs.YtnbdimbhklbadaaGreatDoor
namespace Go.Proofs.YtnbdimbhklbadaaGreatDoor
open Go.RowKit Pl
set_option linter.unusedVariables false
theorem split_any (w : World) (s : ByteArray) (c : UInt8) (hml : ML w) (hs : s.size ≤ 1048576) :
    Calls Tryz.prog 35 #[.string s, .string (mk [c])] w fun e w' => e = .returned (.slice (some ⟨w.heap.size, 0, none⟩) (spl c (tl s)).length (spl c (tl s)).length) ∧ w' = w.alloc (.cells (strV (mkl (spl c (tl s)))).toArray 9) := by
  obtain ⟨m, hm⟩ := hml
  have e1 : mkl (spl c (tl s)) = Lib.splitB (mk [c]) 0 (Lib.countB s (mk [c])) s := by
    unfold mkl
    rw [← splitB_spl c _ s rfl, List.map_map]
    conv => rhs; rw [← List.map_id (Lib.splitB (mk [c]) 0 (Lib.countB s (mk [c])) s)]
    rfl
  have e2 : (spl c (tl s)).length = Lib.countB s (mk [c]) + 1 := by
    rw [← length_mkl, e1, Lib.splitB_all (mk [c]) (Nat.le_refl 1) 0 _ s rfl]
  rw [e2, e1]
  exact Tryz.strings_Split s (mk [c]) m w (by omega) hm (Nat.le_refl 1)
theorem cut_any (w : World) (s : ByteArray) (c : UInt8) (hml : ML w) (hs : s.size ≤ 1048576) :
    Calls Tryz.prog 67 #[.string s, .string (mk [c])] w fun e w' => e = .returned (.tuple #[.string (mk (bef c (tl s))), .string (mk (aft c (tl s))), .bool (decide (c ∈ tl s))]) ∧ ∃ n, w' = w.drewN n := by
  obtain ⟨m, hm⟩ := hml
  have h := Tryz.strings_Cut s (mk [c]) m w (by omega) hm
  have e : Lib.cut s.data.toList (mk [c]).data.toList = (bef c (tl s), aft c (tl s), decide (c ∈ tl s)) := cut_bef c (tl s)
  rw [e] at h
  exact h
theorem count_any (w : World) (s : ByteArray) (c : UInt8) :
    Calls Tryz.prog 100 #[.string s, .string (mk [c])] w fun e w' => e = .returned (.int .i64 ((tl s).count c : Nat)) ∧ w = w' := by
  have h := Tryz.strings_Count_one s c w
  exact h.mono fun e w' ⟨h1, h2⟩ => ⟨h1, h2.symm⟩
theorem split_rd (w : World) (l : List ByteArray) : Rd (w.alloc (.cells (strV l).toArray 9)) (w.heap.size + 1) (some ⟨w.heap.size, 0, none⟩) (strV l) := fun _ =>
  ⟨w.heap.size, 0, rfl, by omega, fun j hj => by
    rw [Nat.zero_add, cell_of_row _ _ _ _ _ _ (heap_alloc_new w _)]
    simp [hj]⟩
theorem cell_alloc2 {w : World} {a : Addr} {u : Value} (h : w.cell? a = some u) (o : Obj) : (w.alloc o).cell? a = some u := by
  rw [World.cell?_alloc_lt _ _ _ (World.block_lt_of_cell? w a h)]; exact h
theorem cell_grown2 {w w' : World} {row : Option Nat} {a : Addr} {u : Value} (hg : w.grownBy w' row) (h : w.cell? a = some u) (hne : some a.block ≠ row) : w'.cell? a = some u :=
  (hg.cell_far _ (World.block_lt_of_cell? _ _ h) hne).trans h
theorem szalloc (w : World) (o : Obj) : (w.alloc o).heap.size = w.heap.size + 1 := by simp
end Go.Proofs.YtnbdimbhklbadaaGreatDoor
namespace Go.Proofs.YtnbdimbhklbadaaGreatDoor
open Go.RowKit Pl
set_option linter.unusedVariables false
theorem joinW_snoc (l : List ByteArray) (sp : List UInt8) (k : Nat) (hk : k < l.length) :
    Lib.join ((l.take (k + 1)).map tl) sp = (if k = 0 then [] else Lib.join ((l.take k).map tl) sp ++ sp) ++ tl l[k] := by
  cases l with
  | nil => simp at hk
  | cons x r =>
    cases k with
    | zero => simp [Lib.join_one]
    | succ k =>
      have hk' : k < r.length := by simpa using hk
      have h := Lib.joinTail_take_succ sp (r.map tl) k (tl r[k]) (by simp [hk'])
      rw [if_neg (by omega)]
      simp only [List.take_succ_cons, List.map_cons, Lib.join_cons, List.getElem_cons_succ, List.map_take, h, List.append_assoc]
theorem joinW_le (l : List ByteArray) (sp : List UInt8) (m : Nat) (hm : ∀ s ∈ l, s.size ≤ m) (k : Nat) : k ≤ l.length → (Lib.join ((l.take k).map tl) sp).length ≤ k * (m + sp.length) := by
  induction k with
  | zero => intro _; simp [Lib.join_nil]
  | succ k ih =>
    intro hk
    have h := ih (by omega)
    have hx := hm _ (List.getElem_mem (show k < l.length by omega))
    rw [joinW_snoc l sp k (by omega), List.length_append, length_tl, Nat.succ_mul]
    split
    · simp; omega
    · rw [List.length_append]; omega
set_option maxHeartbeats 4000000 in
set_option maxRecDepth 100000 in
theorem rcJoin_any (w : World) (A : Option Addr) (cap : Nat) (l : List ByteArray) (sp : ByteArray) (h : Rd w w.heap.size A (strV l)) (hl : l.length ≤ 1000) (hc : l.length ≤ cap) (hm : ∀ s ∈ l, s.size ≤ 100) (hs : sp.size ≤ 10) :
    Calls Tryz.prog 13 #[.slice A l.length cap, .string sp] w fun e w' => e = .returned (.string (mk (Lib.join (l.map tl) (tl sp)))) ∧ ∃ q, w' = w.drewN q := by
  have HR := Lib.hid h; have HM := Lib.hid hm; clear h hm
  obtain ⟨t, ht⟩ : ∃ t, t = mk (Lib.join (l.map tl) (tl sp)) := ⟨_, rfl⟩
  rw [← ht]
  have HT := Lib.hid ht; clear ht
  go_enter Tryz.func13, Tryz.ntmps13
  go_wp2_with fail
  go_loopw [5, 6] (fun o i wr => ∃ k : Nat, k ≤ l.length ∧ i = .int .i64 k ∧ o = .string (mk (Lib.join ((l.take k).map tl) (tl sp))) ∧ ∃ q, wr = w.drewN q) (fun _ i _ => l.length - (intOf i).toNat)
  case atStart => exact ⟨0, Nat.zero_le _, rfl, rfl, 0, rfl⟩
  case round =>
    obtain ⟨k, hk, rfl, rfl, q, rfl⟩ := hrel
    have hz := joinW_le l (tl sp) 100 HM.out k hk
    rw [length_tl] at hz
    have hzm : (mk (Lib.join ((l.take k).map tl) (tl sp))).size ≤ 110000 := by
      rw [size_mk]
      refine Nat.le_trans hz (Nat.le_trans (Nat.mul_le_mul (Nat.le_trans hk hl) (show 100 + sp.size ≤ 110 by omega)) (by omega))
    clear hz
    by_cases hlt : k < l.length
    · have hsn := joinW_snoc l (tl sp) k hlt
      have hn : strV l ≠ [] := by intro e; have := congrArg List.length e; rw [length_strV, List.length_nil] at this; omega
      obtain ⟨b, off, rfl, _, hcell⟩ := HR.out hn
      have hx := hcell k (by rw [length_strV]; exact hlt)
      have hx1 : ∀ n, (w.drewN n).cell? ⟨b, off + k, none⟩ = some (.string l[k]) := by intro n; rw [show (w.drewN n).cell? ⟨b, off + k, none⟩ = w.cell? ⟨b, off + k, none⟩ from rfl, hx]; simp [strV]
      have hek := HM.out _ (List.getElem_mem hlt)
      clear hx hcell hn
      by_cases hk0 : k = 0
      · subst hk0
        have hnx : mk (Lib.join ((l.take (0 + 1)).map tl) (tl sp)) = mk (Lib.join ((l.take 0).map tl) (tl sp)) ++ l[0] := by
          rw [hsn, if_pos rfl]
          simp only [append_tl, tl_mk, List.take_zero]
          simp [Lib.join_nil]
        have HNX := Lib.hid hnx; clear hnx hsn
        simp only [Nat.add_zero] at hx1
        generalize l[0] = e at hx1 HNX hek
        generalize mk (Lib.join ((l.take 0).map tl) (tl sp)) = acc at hzm HNX ⊢
        go_wp2_with fail
        go_roundw
        case rel => exact ⟨0 + 1, by omega, by go_num, by rw [HNX.out], _, rfl⟩
        case measure => simp [intOf]; omega
      · have hnx : mk (Lib.join ((l.take (k + 1)).map tl) (tl sp)) = mk (Lib.join ((l.take k).map tl) (tl sp)) ++ sp ++ l[k] := by
          rw [hsn, if_neg hk0]
          simp only [append_tl, tl_mk]
        have hkp : 0 < k := by omega
        have HNX := Lib.hid hnx; clear hnx hsn hk0
        generalize l[k] = e at hx1 HNX hek
        generalize mk (Lib.join ((l.take k).map tl) (tl sp)) = acc at hzm HNX ⊢
        go_wp2_with fail
        go_roundw
        case rel => exact ⟨k + 1, by omega, by go_num, by rw [HNX.out], _, rfl⟩
        case measure => simp [intOf]; omega
    · have hkl : k = l.length := by omega
      subst hkl
      rw [List.take_of_length_le (Nat.le_refl _), ← HT.out]
      go_wp2_with fail
      go_ret
      exact ⟨rfl, q, rfl⟩
end Go.Proofs.YtnbdimbhklbadaaGreatDoor
