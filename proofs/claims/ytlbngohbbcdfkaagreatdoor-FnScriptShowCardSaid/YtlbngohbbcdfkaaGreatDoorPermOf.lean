/-
  Contract of permOf: the permutation that ten letters spell. Conditions: what each theorem names.
-/
import Derived.Test.YtlbngohbbcdfkaaGreatDoorBits
namespace Go.Proofs.YtlbngohbbcdfkaaGreatDoor
open Go.RowKit Pl
set_option linter.unusedVariables false

set_option maxHeartbeats 4000000 in
set_option maxRecDepth 100000 in
theorem permOf_ok (w : World) (a : ByteArray) (p : List Nat) (hal : a.size = 10) (hL : ∀ k (h : k < a.size), isL a[k] = true) (hv : ∀ k (h : k < a.size) (h2 : k < p.length), p[k] = dg a[k]) (hp : Prm p) :
    Calls Tryz.prog 119 #[.string a] w fun e w' => e = .returned (.tuple #[.agg (pC p), .bool true]) ∧ Below w.heap.size w w' := by
  have hpl := hp.len
  have hb : Below w.heap.size w ((w.alloc (.cells #[.int .u8 0, .int .u8 0, .int .u8 0, .int .u8 0, .int .u8 0, .int .u8 0, .int .u8 0, .int .u8 0, .int .u8 0, .int .u8 0] 96)).alloc (.cells #[.int .u8 0, .int .u8 0, .int .u8 0, .int .u8 0, .int .u8 0, .int .u8 0, .int .u8 0, .int .u8 0, .int .u8 0, .int .u8 0] 96)) := ((Below.refl _ _).alloc (Nat.le_refl _) _).alloc (by simp) _
  have g0 : PB ((w.alloc (.cells #[.int .u8 0, .int .u8 0, .int .u8 0, .int .u8 0, .int .u8 0, .int .u8 0, .int .u8 0, .int .u8 0, .int .u8 0, .int .u8 0] 96)).alloc (.cells #[.int .u8 0, .int .u8 0, .int .u8 0, .int .u8 0, .int .u8 0, .int .u8 0, .int .u8 0, .int .u8 0, .int .u8 0, .int .u8 0] 96)) w.heap.size (List.replicate 10 0) :=
    block_kept3 (heap_alloc_new w _) _
  have g1 : PB ((w.alloc (.cells #[.int .u8 0, .int .u8 0, .int .u8 0, .int .u8 0, .int .u8 0, .int .u8 0, .int .u8 0, .int .u8 0, .int .u8 0, .int .u8 0] 96)).alloc (.cells #[.int .u8 0, .int .u8 0, .int .u8 0, .int .u8 0, .int .u8 0, .int .u8 0, .int .u8 0, .int .u8 0, .int .u8 0, .int .u8 0] 96)) (w.heap.size + 1) (p.take 0 ++ List.replicate (10 - 0) 0) := by
    have h1 := heap_alloc_new (w.alloc (.cells #[.int .u8 0, .int .u8 0, .int .u8 0, .int .u8 0, .int .u8 0, .int .u8 0, .int .u8 0, .int .u8 0, .int .u8 0, .int .u8 0] 96)) (.cells #[.int .u8 0, .int .u8 0, .int .u8 0, .int .u8 0, .int .u8 0, .int .u8 0, .int .u8 0, .int .u8 0, .int .u8 0, .int .u8 0] 96)
    rw [szalloc3] at h1
    exact h1
  have HPL := Lib.hid hpl; have HP := Lib.hid hp; have HLL := Lib.hid hL; have HV := Lib.hid hv; have HAL := Lib.hid hal
  have HB := Lib.hid hb; have G0 := Lib.hid g0; have G1 := Lib.hid g1
  have hai : ((a.size : Nat) : Int) = 10 := by omega
  clear hpl hp hL hv hb g0 g1 hal
  go_enter Tryz.func119, Tryz.ntmps119
  go_wp2_with fail
  go_loopw [5, 11] (fun s i wr => ∃ k sn : Nat, k ≤ 10 ∧ i = .int .i64 k ∧ s = .int .i64 sn ∧ Hid (Seen sn (p.take k)) ∧ PB wr w.heap.size (List.replicate 10 0) ∧ PB wr (w.heap.size + 1) (p.take k ++ List.replicate (10 - k) 0) ∧ Below w.heap.size w wr) (fun s i _ => 10 - (intOf i).toNat)
  case atStart => exact ⟨0, 0, by omega, rfl, rfl, Lib.hid seen_none, G0.out, G1.out, HB.out⟩
  case round =>
    obtain ⟨k, sn, hk, rfl, rfl, HS, h0, h1, hbl⟩ := hrel
    have P0 := Lib.hid h0; have P1 := Lib.hid h1; have HBL := Lib.hid hbl; clear h0 h1 hbl G0 G1 HB
    by_cases hlt : k < 10
    · have hka : k < a.size := by rw [HAL.out]; exact hlt
      have hkp : k < p.length := by rw [HPL.out]; exact hlt
      have HC := Lib.hid (HLL.out k hka)
      have hpk := HP.out.lt _ (List.getElem_mem hkp)
      have hvk := HV.out k hka hkp
      have hnot : p[k] ∉ p.take k := by
        intro hm
        obtain ⟨j, hj, e⟩ := List.mem_iff_getElem.1 hm
        rw [List.length_take] at hj
        rw [List.getElem_take] at e
        exact List.pairwise_iff_getElem.1 HP.out.nodup j k (by omega) hkp (by omega) e
      have hand := HS.out.and_out hpk hnot
      have hor := HS.out.or_ hpk
      have hput := HS.out.put hpk
      rw [← List.take_succ_eq_append_getElem hkp] at hput
      have hl : (p.take k ++ List.replicate (10 - k) 0).length = 10 := by have := HPL.out; simp; omega
      have c1 := P1.out.cell (k := k) (by rw [hl]; exact hlt)
      have f1 := P1.out.frozen k
      have hnx : (p.take k ++ List.replicate (10 - k) 0).set k p[k] = p.take (k + 1) ++ List.replicate (10 - (k + 1)) 0 := by
        have e1 : 10 - k = (10 - (k + 1)) + 1 := by omega
        rw [List.set_append_right _ _ (by rw [List.length_take]; omega), List.length_take, Nat.min_eq_left (by omega), Nat.sub_self, e1, List.replicate_succ, List.set_cons_zero, List.take_succ_eq_append_getElem hkp, List.append_assoc]
        rfl
      have hpp := P1.out.put k p[k]
      rw [hnx] at hpp
      have hf0 := P0.out.far (p' := w.heap.size + 1) (by omega) k (.int .u8 (p[k] : Int))
      rw [hvk] at hand hor hput hpp hf0 hpk
      have hw : IntKind.i64.wrap (2 ^ dg a[k]) = 2 ^ dg a[k] := by
        have : ∀ n : Fin 10, IntKind.i64.wrap ((2 : Int) ^ n.val) = 2 ^ n.val := by decide
        exact this ⟨dg a[k], hpk⟩
      have HPUT := Lib.hid hput; have HPP := Lib.hid hpp; have HF0 := Lib.hid hf0; clear hput hpp hf0 hnx hnot hvk
      go_wp2_with (first
        | (go_at_call 73; refine (isLetter_is _ true _ HC.out).mono ?_; rintro e w' ⟨rfl, rfl⟩)
        | (go_at_call 191; refine (number_any _ _ HC.out).mono ?_; rintro e w' ⟨rfl, rfl⟩))
      go_roundw
      case rel => exact ⟨k + 1, _, by omega, by go_num, rfl, HPUT, HF0.out, HPP.out, HBL.out.setCell (Nat.le_succ _) _⟩
      case measure => simp [intOf]; omega
    · have hke : k = 10 := by omega
      subst hke
      have hp1 := P1.out
      rw [show p.take 10 ++ List.replicate (10 - 10) 0 = p by rw [List.take_of_length_le (by rw [HPL.out]; exact Nat.le_refl _)]; simp] at hp1
      have HPP := Lib.hid hp1; clear hp1
      go_wp2_with (first | (refine wpList_load_row rfl 96 _ rfl (w.heap.size + 1) rfl _ _ _ _ HPP.out Tryz.underlying96 rfl (permSize HPL.out) ?_) | (refine wpList_store_row rfl 96 _ _ rfl w.heap.size (pC p) rfl rfl _ _ P0.out (permSize HPL.out) (by rw [pC_size, pC_size, HPL.out]; rfl) (pC_one p) ?_))
      have hs := setRow_heap wr w.heap.size _ (pC p) _ _ P0.out
      refine bodyPost_ret (results_row_tmp rfl _ _ w.heap.size _ (pC p) _ _ _ rfl hs Tryz.underlying96 (permSize HPL.out)) rfl ⟨rfl, ?_⟩
      exact below_setRow HBL.out (Nat.le_refl _) _

end Go.Proofs.YtlbngohbbcdfkaaGreatDoor
