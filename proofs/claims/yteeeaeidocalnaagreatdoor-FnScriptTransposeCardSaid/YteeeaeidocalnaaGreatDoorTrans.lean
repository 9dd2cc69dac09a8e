/-
  Contracts of orders of places, of the program and of the reference. No conditions but those that each theorem names.
-/
import Derived.Test.YteeeaeidocalnaaGreatDoorInts
import Derived.Test.YteeeaeidocalnaaGreatDoorPlainX
namespace Go.Proofs.YteeeaeidocalnaaGreatDoor
open Go.RowKit Pl
set_option linter.unusedVariables false

set_option maxRecDepth 100000 in
theorem zero200 : Tryz.zeroCells104 = seenC 200 [] := by rw [seenC_nil]; kernel_rfl
theorem places_new {p : List Nat} (hp : Places p) {k : Nat} (hk : k < p.length) : p[k] ∉ p.take k := by
  intro hm
  obtain ⟨i, hi, he⟩ := List.mem_iff_getElem.1 hm
  rw [List.length_take] at hi
  rw [List.getElem_take] at he
  have := List.pairwise_iff_getElem.1 hp.nodup i k (by omega) hk (by omega)
  exact this he

set_option maxHeartbeats 4000000 in
set_option maxRecDepth 100000 in
theorem placesValid_true (w : World) (A : Option Addr) (cap : Nat) (p : List Nat) (h : Rd w w.heap.size A (natV p)) (hc : p.length ≤ cap) (hp : Places p) (hl : p.length ≤ 200) :
    Calls Tryz.prog 49 #[.slice A p.length cap] w fun e w' => e = .returned (.bool true) ∧ Below w.heap.size w w' := by
  have HR := Lib.hid h; have HP := Lib.hid hp; clear h hp
  have hm := heap_alloc_new w (.cells Tryz.zeroCells104 104)
  rw [show (Tryz.zeroCells104) = seenC 200 (p.take 0) from zero200] at hm
  have hb0 : Below w.heap.size w (w.alloc (.cells Tryz.zeroCells104 104)) := (Below.refl _ _).alloc (Nat.le_refl _) _
  have HM := Lib.hid hm; have HB0 := Lib.hid hb0; clear hm hb0
  go_enter Tryz.func49, Tryz.ntmps49
  go_wp2_with fail
  go_loopw [11] (fun i wr => ∃ k : Nat, k ≤ p.length ∧ i = .int .i64 k ∧ wr.heap[w.heap.size]? = some (.cells (seenC 200 (p.take k)) 104 (0, 0)) ∧ Below w.heap.size w wr) (fun i _ => p.length - (intOf i).toNat)
  case atStart => exact ⟨0, Nat.zero_le _, rfl, HM.out, HB0.out⟩
  case round =>
    obtain ⟨k, hk, rfl, hblk, hbl⟩ := hrel
    have HBK := Lib.hid hblk; have HBL := Lib.hid hbl; clear hblk hbl HM HB0
    by_cases hlt : k < p.length
    · obtain ⟨b, off, rfl, hbb, c0⟩ := (HR.out.below HBL.out).nat hlt
      have hpl := HP.out.lt (List.getElem_mem hlt)
      have hnew := places_new HP.out hlt
      have htk : p.take (k + 1) = p.take k ++ [p[k]] := List.take_succ_eq_append_getElem hlt
      generalize p[k] = t at c0 hpl hnew htk
      have c1 : wr.cell? ⟨w.heap.size, t, none⟩ = some (.bool false) := by
        rw [cell_of_row wr _ _ _ _ _ HBK.out, seenC_get 200 _ (by omega), decide_eq_false hnew]
      have f1 : wr.frozen? ⟨w.heap.size, t, none⟩ = false := by simp [World.frozen?, HBK.out]
      have hset := set_block2 HBK.out t (.bool true)
      rw [seenC_put, ← htk] at hset
      have HSET := Lib.hid hset; clear hset hnew htk
      go_wp2_with fail
      go_roundw
      case rel => exact ⟨k + 1, by omega, by go_num, HSET.out, HBL.out.setCell (Nat.le_refl _) _⟩
      case measure => simp [intOf]; omega
    · go_wp2_with fail
      go_ret
      exact ⟨rfl, HBL.out⟩

end Go.Proofs.YteeeaeidocalnaaGreatDoor
