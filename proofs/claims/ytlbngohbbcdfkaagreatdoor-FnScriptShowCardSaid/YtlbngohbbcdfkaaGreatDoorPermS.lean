/-
  Contract of a permutation's String. Conditions: what each theorem names.
-/
import Derived.Test.YtlbngohbbcdfkaaGreatDoorPerm2
namespace Go.Proofs.YtlbngohbbcdfkaaGreatDoor
open Go.RowKit Pl
set_option linter.unusedVariables false

/-- block p is an array of ten bytes -/
abbrev BT (w : World) (p : Nat) (q : List Nat) : Prop := w.heap[p]? = some (.cells (pC q) 95 (0, 0))
theorem BT.put {w : World} {p : Nat} {q : List Nat} (h : BT w p q) (k n : Nat) : BT (w.setCell ⟨p, k, none⟩ (.int .u8 (n : Int))) p (q.set k n) := by
  unfold BT
  rw [setCell_eq_setRow w p k _ _ _ _ h, pC_set]
  exact setRow_heap w p _ _ _ _ h
theorem BT.cell {w : World} {p : Nat} {q : List Nat} (h : BT w p q) {k : Nat} (hk : k < q.length) : w.cell? ⟨p, k, none⟩ = some (.int .u8 (q[k] : Int)) := by
  rw [cell_of_row w p k _ _ _ h]; exact pC_get hk
theorem BT.frozen {w : World} {p : Nat} {q : List Nat} (h : BT w p q) (k : Nat) : w.frozen? ⟨p, k, none⟩ = false := by
  have h2 : w.heap[p]? = some (.cells (pC q) 95 (0, 0)) := h
  simp [World.frozen?, h2]
theorem BT.conv {w : World} {p : Nat} {q : List UInt8} (h : BT w p (q.map UInt8.toNat)) (hl : q.length = 10) : (convert 22 9 (.slice (some ⟨p, 0, none⟩) 10 10)).run Tryz.prog w = .ok (.string (mk q)) w := by
  have h1 := conv_string w 22 9 5 p 0 10 q Tryz.underlying22 Tryz.underlying5 Tryz.underlying9 fun j hj => by
    rw [Nat.zero_add, h.cell (by simpa using hj)]
    simp
  rw [hl] at h1
  exact h1
/-- what is written of the letters -/
def LtTo (p u : List Nat) (k : Nat) : Prop := u.length = 10 ∧ ∀ j (h : j < p.length), j < k → u[j]? = some (letter p[j]).toNat
theorem ltTo_put {p u : List Nat} {k : Nat} (h : LtTo p u k) (hp : Ten p) (hk : k < p.length) : LtTo p (u.set k (letter p[k]).toNat) (k + 1) := by
  refine ⟨by rw [List.length_set]; exact h.1, fun j hj hjk => ?_⟩
  rw [List.getElem?_set]
  by_cases e : k = j
  · subst e
    rw [if_pos rfl, if_pos (by rw [h.1, ← hp.len]; exact hk)]
  · rw [if_neg e]
    exact h.2 j hj (by omega)
theorem ltTo_end {p u : List Nat} (h : LtTo p u 10) (hp : Ten p) : u = (p.map letter).map UInt8.toNat := by
  apply List.ext_getElem?
  intro j
  by_cases hj : j < p.length
  · rw [h.2 j hj (by rw [← hp.len]; exact hj)]; simp [hj]
  · rw [List.getElem?_eq_none (by rw [h.1, ← hp.len]; omega), List.getElem?_eq_none (by simp; omega)]

set_option maxHeartbeats 4000000 in
set_option maxRecDepth 100000 in
theorem permStr_any (w : World) (p : List Nat) (hp : Ten p) :
    Calls Tryz.prog 206 #[.agg (pC p)] w fun e w' => e = .returned (.string (mk (p.map letter))) ∧ Below w.heap.size w w' := by
  have hpl := hp.len
  obtain ⟨W, hW⟩ : ∃ W, W = (w.alloc (.cells (pC p) 96)).alloc (.cells #[.int .u8 0, .int .u8 0, .int .u8 0, .int .u8 0, .int .u8 0, .int .u8 0, .int .u8 0, .int .u8 0, .int .u8 0, .int .u8 0] 95) := ⟨_, rfl⟩
  have hb : Below w.heap.size w W := by rw [hW]; exact ((Below.refl _ _).alloc (Nat.le_refl _) _).alloc (by simp) _
  have g0 : PB W w.heap.size p := by
    rw [hW]
    have h1 := heap_alloc_new w (.cells (pC p) 96)
    exact block_kept3 h1 _
  have g1 : BT W (w.heap.size + 1) (List.replicate 10 0) := by
    rw [hW]
    have h1 := heap_alloc_new (w.alloc (.cells (pC p) 96)) (.cells #[.int .u8 0, .int .u8 0, .int .u8 0, .int .u8 0, .int .u8 0, .int .u8 0, .int .u8 0, .int .u8 0, .int .u8 0, .int .u8 0] 95)
    rw [szalloc3] at h1
    exact h1
  have HPL := Lib.hid hpl; have HP := Lib.hid hp
  have HB := Lib.hid hb; have G1 := Lib.hid g1
  have g0' := g0
  rw [hW] at g0'
  have G0' := Lib.hid g0'; have HWE := Lib.hid hW
  clear hpl hp hb g0 g1 g0' hW
  go_enter Tryz.func206, Tryz.ntmps206
  go_wp2_with (refine wpList_load_row rfl 96 _ rfl w.heap.size rfl _ _ _ _ G0'.out Tryz.underlying96 rfl (permSize HPL.out) ?_)
  rw [← HWE.out]
  clear G0' HWE
  go_loopw [7] (fun i wr => ∃ (k : Nat) (u : List Nat), k ≤ 10 ∧ i = .int .i64 k ∧ Hid (LtTo p u k) ∧ BT wr (w.heap.size + 1) u ∧ Below w.heap.size w wr) (fun i _ => 10 - (intOf i).toNat)
  case atStart => exact ⟨0, List.replicate 10 0, by omega, rfl, ⟨by simp, fun j _ hj => by omega⟩, G1.out, HB.out⟩
  case round =>
    obtain ⟨k, u, hk, rfl, HI, h1, hbl⟩ := hrel
    have P1 := Lib.hid h1; have HBL := Lib.hid hbl; clear h1 hbl G1 HB
    by_cases hlt : k < 10
    · have hkp : k < p.length := by rw [HPL.out]; exact hlt
      have hpk := HP.out.lt _ (List.getElem_mem hkp)
      have hix : ∀ w' : World, (Instr.index 96 (.agg (pC p)) (.int .i64 (k : Int))).run Tryz.prog w' = .ok (.int .u8 (p[k] : Int)) w' := fun w' => index_perm w' p k hkp HPL.out
      have hin := ltTo_put HI.out HP.out hkp
      have c1 := P1.out.cell (k := k) (by rw [HI.out.1]; exact hlt)
      have f1 := P1.out.frozen k
      have hput := P1.out.put k (letter p[k]).toNat
      have HPUT := Lib.hid hput; have HIN := Lib.hid hin; clear hput hin
      go_wp2_with fail
      refine (letter_any _ _ hpk).mono ?_
      rintro _ wz ⟨rfl, rfl⟩
      go_wp2_with fail
      go_roundw
      case rel => exact ⟨k + 1, _, by omega, by go_num, HIN, HPUT.out, HBL.out.setCell (show w.heap.size ≤ w.heap.size + 1 by omega) _⟩
      case measure => simp [intOf]; omega
    · have hke : k = 10 := by omega
      subst hke
      have hu := ltTo_end HI.out HP.out
      subst hu
      have hcv := P1.out.conv (by rw [List.length_map]; exact HPL.out)
      go_wp2_with fail
      go_ret
      exact ⟨rfl, HBL.out⟩

end Go.Proofs.YtlbngohbbcdfkaaGreatDoor
