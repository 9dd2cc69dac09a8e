/-
  Contract of permOf where the text spells no permutation. Conditions: what each theorem names.
-/
import Derived.Test.YtlbngohbbcdfkaaGreatDoorPermW
namespace Go.Proofs.YtlbngohbbcdfkaaGreatDoor
open Go.RowKit Pl
set_option linter.unusedVariables false

theorem ten10 : (List.replicate 10 0).length = 10 := rfl

set_option maxHeartbeats 4000000 in
set_option maxRecDepth 100000 in
theorem permOf_no (w : World) (a : ByteArray) (p : List Nat) (hal : a.size = 10) (hpl : p.length = 10) (hv : ∀ k (h : k < a.size) (h2 : k < p.length), p[k] = dg a[k]) (hbad : ¬ ((∀ k (h : k < a.size), isL a[k] = true) ∧ p.Nodup)) :
    Calls Tryz.prog 119 #[.string a] w fun e w' => e = .returned (.tuple #[.agg (pC (List.replicate 10 0)), .bool false]) ∧ Below w.heap.size w w' := by
  have hb : Below w.heap.size w ((w.alloc (.cells #[.int .u8 0, .int .u8 0, .int .u8 0, .int .u8 0, .int .u8 0, .int .u8 0, .int .u8 0, .int .u8 0, .int .u8 0, .int .u8 0] 96)).alloc (.cells #[.int .u8 0, .int .u8 0, .int .u8 0, .int .u8 0, .int .u8 0, .int .u8 0, .int .u8 0, .int .u8 0, .int .u8 0, .int .u8 0] 96)) := ((Below.refl _ _).alloc (Nat.le_refl _) _).alloc (by simp) _
  have g0 : PB ((w.alloc (.cells #[.int .u8 0, .int .u8 0, .int .u8 0, .int .u8 0, .int .u8 0, .int .u8 0, .int .u8 0, .int .u8 0, .int .u8 0, .int .u8 0] 96)).alloc (.cells #[.int .u8 0, .int .u8 0, .int .u8 0, .int .u8 0, .int .u8 0, .int .u8 0, .int .u8 0, .int .u8 0, .int .u8 0, .int .u8 0] 96)) w.heap.size (List.replicate 10 0) :=
    block_kept3 (heap_alloc_new w _) _
  have g1 : PB ((w.alloc (.cells #[.int .u8 0, .int .u8 0, .int .u8 0, .int .u8 0, .int .u8 0, .int .u8 0, .int .u8 0, .int .u8 0, .int .u8 0, .int .u8 0] 96)).alloc (.cells #[.int .u8 0, .int .u8 0, .int .u8 0, .int .u8 0, .int .u8 0, .int .u8 0, .int .u8 0, .int .u8 0, .int .u8 0, .int .u8 0] 96)) (w.heap.size + 1) (List.replicate 10 0) := by
    have h1 := heap_alloc_new (w.alloc (.cells #[.int .u8 0, .int .u8 0, .int .u8 0, .int .u8 0, .int .u8 0, .int .u8 0, .int .u8 0, .int .u8 0, .int .u8 0, .int .u8 0] 96)) (.cells #[.int .u8 0, .int .u8 0, .int .u8 0, .int .u8 0, .int .u8 0, .int .u8 0, .int .u8 0, .int .u8 0, .int .u8 0, .int .u8 0] 96)
    rw [szalloc3] at h1
    exact h1
  have HPL := Lib.hid hpl; have HV := Lib.hid hv; have HAL := Lib.hid hal; have HBAD := Lib.hid hbad
  have HB := Lib.hid hb; have G0 := Lib.hid g0; have G1 := Lib.hid g1
  have hai : ((a.size : Nat) : Int) = 10 := by omega
  clear hpl hv hb g0 g1 hal hbad
  go_enter Tryz.func119, Tryz.ntmps119
  go_wp2_with fail
  go_loopw [5, 11] (fun s i wr => ∃ (k sn : Nat) (u : List Nat), k ≤ 10 ∧ i = .int .i64 k ∧ s = .int .i64 sn ∧ Hid (Seen sn (p.take k) ∧ (p.take k).Nodup ∧ (∀ j (h : j < a.size), j < k → isL a[j] = true) ∧ u.length = 10) ∧ PB wr w.heap.size (List.replicate 10 0) ∧ PB wr (w.heap.size + 1) u ∧ Below w.heap.size w wr) (fun s i _ => 10 - (intOf i).toNat)
  case atStart => exact ⟨0, 0, List.replicate 10 0, by omega, rfl, rfl, Lib.hid ⟨seen_none, by simp, fun j _ h => by omega, rfl⟩, G0.out, G1.out, HB.out⟩
  case round =>
    obtain ⟨k, sn, u, hk, rfl, rfl, HS, h0, h1, hbl⟩ := hrel
    have P0 := Lib.hid h0; have P1 := Lib.hid h1; have HBL := Lib.hid hbl; clear h0 h1 hbl G0 G1 HB
    by_cases hlt : k < 10
    · have hka : k < a.size := by rw [HAL.out]; exact hlt
      have hkp : k < p.length := by rw [HPL.out]; exact hlt
      by_cases hc : isL a[k] = true
      · have HC := Lib.hid hc; clear hc
        have hvk := HV.out k hka hkp
        have hpk : p[k] < 10 := by rw [hvk]; exact dg_lt HC.out
        by_cases hm : p[k] ∈ p.take k
        · have hand := HS.out.1.and_in hpk hm
          rw [hvk] at hand hpk
          clear hvk hm
          go_wp2_with (first
            | (go_at_call 73; refine (isLetter_is _ true _ HC.out).mono ?_; rintro e w' ⟨rfl, rfl⟩)
            | (go_at_call 191; refine (number_any _ _ HC.out).mono ?_; rintro e w' ⟨rfl, rfl⟩)
            | (refine wpList_store_row rfl 96 _ _ rfl w.heap.size (pC (List.replicate 10 0)) rfl rfl _ _ P0.out (permSize ten10) (by rfl) (pC_one _) ?_))
          have hs := setRow_heap _ w.heap.size _ (pC (List.replicate 10 0)) _ _ P0.out
          refine bodyPost_ret (results_row_tmp rfl _ _ w.heap.size _ (pC (List.replicate 10 0)) _ _ _ rfl hs Tryz.underlying96 (permSize ten10)) rfl ⟨rfl, ?_⟩
          exact below_setRow HBL.out (Nat.le_refl _) _
        · have hand := HS.out.1.and_out hpk hm
          have hor := HS.out.1.or_ hpk
          have hput := HS.out.1.put hpk
          rw [← List.take_succ_eq_append_getElem hkp] at hput
          have hnd : (p.take (k + 1)).Nodup := by
            rw [List.take_succ_eq_append_getElem hkp]
            refine List.nodup_append.2 ⟨HS.out.2.1, by simp, fun x hx y hy e => ?_⟩
            rw [List.mem_singleton] at hy
            subst hy; subst e; exact hm hx
          have hlL : ∀ j (h : j < a.size), j < k + 1 → isL a[j] = true := fun j h hj => by
            rcases Nat.lt_or_ge j k with h2 | h2
            · exact HS.out.2.2.1 j h h2
            · have e : j = k := by omega
              subst e; exact HC.out
          have hul := HS.out.2.2.2
          have c1 := P1.out.cell (k := k) (by rw [hul]; exact hlt)
          have f1 := P1.out.frozen k
          have hpp := P1.out.put k p[k]
          have hf0 := P0.out.far (p' := w.heap.size + 1) (by omega) k (.int .u8 (p[k] : Int))
          rw [hvk] at hand hor hput hpp hf0 hpk
          have hw : IntKind.i64.wrap (2 ^ dg a[k]) = 2 ^ dg a[k] := by
            have : ∀ n : Fin 10, IntKind.i64.wrap ((2 : Int) ^ n.val) = 2 ^ n.val := by decide
            exact this ⟨dg a[k], hpk⟩
          have hH : Seen (sn ||| 2 ^ dg a[k]) (p.take (k + 1)) ∧ (p.take (k + 1)).Nodup ∧ (∀ j (h : j < a.size), j < k + 1 → isL a[j] = true) ∧ (u.set k (dg a[k])).length = 10 := ⟨hput, hnd, hlL, by rw [List.length_set]; exact hul⟩
          have HH := Lib.hid hH; have HPP := Lib.hid hpp; have HF0 := Lib.hid hf0; clear hput hpp hf0 hm hvk hnd hlL hH
          go_wp2_with (first
            | (go_at_call 73; refine (isLetter_is _ true _ HC.out).mono ?_; rintro e w' ⟨rfl, rfl⟩)
            | (go_at_call 191; refine (number_any _ _ HC.out).mono ?_; rintro e w' ⟨rfl, rfl⟩))
          go_roundw
          case rel => exact ⟨k + 1, _, _, by omega, by go_num, rfl, HH, HF0.out, HPP.out, HBL.out.setCell (Nat.le_succ _) _⟩
          case measure => simp [intOf]; omega
      · have HC := Lib.hid (show isL a[k] = false by simpa using hc); clear hc
        go_wp2_with (first
          | (go_at_call 73; refine (isLetter_is _ false _ HC.out).mono ?_; rintro e w' ⟨rfl, rfl⟩)
          | (refine wpList_store_row rfl 96 _ _ rfl w.heap.size (pC (List.replicate 10 0)) rfl rfl _ _ P0.out (permSize ten10) (by rfl) (pC_one _) ?_))
        have hs := setRow_heap _ w.heap.size _ (pC (List.replicate 10 0)) _ _ P0.out
        refine bodyPost_ret (results_row_tmp rfl _ _ w.heap.size _ (pC (List.replicate 10 0)) _ _ _ rfl hs Tryz.underlying96 (permSize ten10)) rfl ⟨rfl, ?_⟩
        exact below_setRow HBL.out (Nat.le_refl _) _
    · have hke : k = 10 := by omega
      subst hke
      have h2 := HS.out.2.1
      rw [List.take_of_length_le (by rw [HPL.out]; exact Nat.le_refl _)] at h2
      exact absurd ⟨fun k h => HS.out.2.2.1 k h (by rw [← HAL.out]; exact h), h2⟩ HBAD.out

set_option maxHeartbeats 4000000 in
set_option maxRecDepth 100000 in
theorem permOf_size (w : World) (a : ByteArray) (hal : a.size ≠ 10) :
    Calls Tryz.prog 119 #[.string a] w fun e w' => e = .returned (.tuple #[.agg (pC (List.replicate 10 0)), .bool false]) ∧ Below w.heap.size w w' := by
  have hb : Below w.heap.size w ((w.alloc (.cells #[.int .u8 0, .int .u8 0, .int .u8 0, .int .u8 0, .int .u8 0, .int .u8 0, .int .u8 0, .int .u8 0, .int .u8 0, .int .u8 0] 96)).alloc (.cells #[.int .u8 0, .int .u8 0, .int .u8 0, .int .u8 0, .int .u8 0, .int .u8 0, .int .u8 0, .int .u8 0, .int .u8 0, .int .u8 0] 96)) := ((Below.refl _ _).alloc (Nat.le_refl _) _).alloc (by simp) _
  have g0 : PB ((w.alloc (.cells #[.int .u8 0, .int .u8 0, .int .u8 0, .int .u8 0, .int .u8 0, .int .u8 0, .int .u8 0, .int .u8 0, .int .u8 0, .int .u8 0] 96)).alloc (.cells #[.int .u8 0, .int .u8 0, .int .u8 0, .int .u8 0, .int .u8 0, .int .u8 0, .int .u8 0, .int .u8 0, .int .u8 0, .int .u8 0] 96)) w.heap.size (List.replicate 10 0) :=
    block_kept3 (heap_alloc_new w _) _
  have g1 : PB ((w.alloc (.cells #[.int .u8 0, .int .u8 0, .int .u8 0, .int .u8 0, .int .u8 0, .int .u8 0, .int .u8 0, .int .u8 0, .int .u8 0, .int .u8 0] 96)).alloc (.cells #[.int .u8 0, .int .u8 0, .int .u8 0, .int .u8 0, .int .u8 0, .int .u8 0, .int .u8 0, .int .u8 0, .int .u8 0, .int .u8 0] 96)) (w.heap.size + 1) (List.replicate 10 0) := by
    have h1 := heap_alloc_new (w.alloc (.cells #[.int .u8 0, .int .u8 0, .int .u8 0, .int .u8 0, .int .u8 0, .int .u8 0, .int .u8 0, .int .u8 0, .int .u8 0, .int .u8 0] 96)) (.cells #[.int .u8 0, .int .u8 0, .int .u8 0, .int .u8 0, .int .u8 0, .int .u8 0, .int .u8 0, .int .u8 0, .int .u8 0, .int .u8 0] 96)
    rw [szalloc3] at h1
    exact h1
  have HB := Lib.hid hb; have G0 := Lib.hid g0; have G1 := Lib.hid g1
  have hai : ¬ ((a.size : Nat) : Int) = 10 := by omega
  clear hb g0 g1 hal
  go_enter Tryz.func119, Tryz.ntmps119
  go_wp2_with (first
    | (refine wpList_load_row rfl 96 _ rfl (w.heap.size + 1) rfl _ _ _ _ G1.out Tryz.underlying96 rfl (permSize ten10) ?_)
    | (refine wpList_store_row rfl 96 _ _ rfl w.heap.size (pC (List.replicate 10 0)) rfl rfl _ _ G0.out (permSize ten10) (by rfl) (pC_one _) ?_))
  have hs := setRow_heap _ w.heap.size _ (pC (List.replicate 10 0)) _ _ G0.out
  refine bodyPost_ret (results_row_tmp rfl _ _ w.heap.size _ (pC (List.replicate 10 0)) _ _ _ rfl hs Tryz.underlying96 (permSize ten10)) rfl ⟨rfl, ?_⟩
  exact below_setRow HB.out (Nat.le_refl _) _

end Go.Proofs.YtlbngohbbcdfkaaGreatDoor
