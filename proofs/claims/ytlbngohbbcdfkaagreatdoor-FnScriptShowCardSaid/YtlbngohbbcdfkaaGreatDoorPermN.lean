/-
  Contract of a permutation's pairs: half of what it moves. Conditions: what each theorem names.
-/
import Derived.Test.YtlbngohbbcdfkaaGreatDoorPermS
namespace Go.Proofs.YtlbngohbbcdfkaaGreatDoor
open Go.RowKit Pl
set_option linter.unusedVariables false

/-- how many of the first k numbers are moved -/
def cntTo (p : List Nat) (k : Nat) : Nat := ((List.range k).filter fun j => p[j]? != some j).length
theorem cntTo_le (p : List Nat) (k : Nat) : cntTo p k ≤ k := by
  have := List.length_filter_le (fun j => p[j]? != some j) (List.range k)
  rwa [List.length_range] at this
theorem cntTo_same {p : List Nat} {k : Nat} (hk : k < p.length) (h : p[k] = k) : cntTo p (k + 1) = cntTo p k := by
  unfold cntTo
  rw [List.range_succ, List.filter_append, List.filter_cons_of_neg (by simp [hk, h])]
  simp
theorem cntTo_moved {p : List Nat} {k : Nat} (hk : k < p.length) (h : p[k] ≠ k) : cntTo p (k + 1) = cntTo p k + 1 := by
  unfold cntTo
  rw [List.range_succ, List.filter_append, List.filter_cons_of_pos (by simp [hk, h])]
  simp
def pairsP (p : List Nat) : Nat := cntTo p 10 / 2

set_option maxHeartbeats 4000000 in
set_option maxRecDepth 100000 in
theorem pairs_any (w : World) (p : List Nat) (hp : Ten p) :
    Calls Tryz.prog 251 #[.agg (pC p)] w fun e w' => e = .returned (.int .i64 (pairsP p)) ∧ Below w.heap.size w w' := by
  have hpl := hp.len
  obtain ⟨W, hW⟩ : ∃ W, W = w.alloc (.cells (pC p) 96) := ⟨_, rfl⟩
  have hb : Below w.heap.size w W := by rw [hW]; exact (Below.refl _ _).alloc (Nat.le_refl _) _
  have g0 : PB (w.alloc (.cells (pC p) 96)) w.heap.size p := heap_alloc_new w (.cells (pC p) 96)
  have HPL := Lib.hid hpl; have HP := Lib.hid hp
  have HB := Lib.hid hb; have G0' := Lib.hid g0; have HWE := Lib.hid hW
  clear hpl hp hb g0 hW
  go_enter Tryz.func251, Tryz.ntmps251
  go_wp2_with (refine wpList_load_row rfl 96 _ rfl w.heap.size rfl _ _ _ _ G0'.out Tryz.underlying96 rfl (permSize HPL.out) ?_)
  rw [← HWE.out]
  clear G0' HWE
  go_loopw [3, 7] (fun n i wr => ∃ k : Nat, k ≤ 10 ∧ i = .int .i64 k ∧ n = .int .i64 (cntTo p k : Nat) ∧ Below w.heap.size w wr) (fun n i _ => 10 - (intOf i).toNat)
  case atStart => exact ⟨0, by omega, rfl, rfl, HB.out⟩
  case round =>
    obtain ⟨k, hk, rfl, rfl, hbl⟩ := hrel
    have HBL := Lib.hid hbl; clear hbl HB
    have hcl := cntTo_le p k
    by_cases hlt : k < 10
    · have hkp : k < p.length := by rw [HPL.out]; exact hlt
      have hpk := HP.out.lt _ (List.getElem_mem hkp)
      have hix : ∀ w' : World, (Instr.index 96 (.agg (pC p)) (.int .i64 (k : Int))).run Tryz.prog w' = .ok (.int .u8 (p[k] : Int)) w' := fun w' => index_perm w' p k hkp HPL.out
      by_cases he : p[k] = k
      · have hn := cntTo_same hkp he
        have he' : ((p[k] : Nat) : Int) = (k : Int) := by rw [he]
        have HN := Lib.hid hn; clear hn he
        go_wp2_with fail
        go_roundw
        case rel => exact ⟨k + 1, by omega, by go_num, by rw [HN.out], HBL.out⟩
        case measure => simp [intOf]; omega
      · have hn := cntTo_moved hkp he
        have he' : ¬ ((p[k] : Nat) : Int) = (k : Int) := by omega
        have HN := Lib.hid hn; clear hn he
        go_wp2_with fail
        go_roundw
        case rel => exact ⟨k + 1, by omega, by go_num, by rw [HN.out]; go_num, HBL.out⟩
        case measure => simp [intOf]; omega
    · have hke : k = 10 := by omega
      subst hke
      have hd : ((pairsP p : Nat) : Int) = ((cntTo p 10 : Nat) : Int) / 2 := by unfold pairsP; omega
      have HD := Lib.hid hd; clear hd
      go_wp2_with fail
      go_ret
      exact ⟨by rw [HD.out]; rfl, HBL.out⟩

end Go.Proofs.YtlbngohbbcdfkaaGreatDoor
