/-
  Contracts of what a gapped key tells of a word, and a gapped word of a key. No conditions but those that each theorem names.
-/
import Derived.Test.YtcgihkapcfpjcaaPart
namespace Go.Proofs.Ytcgihkapcfpjcaa
open Go.RowKit Pl
set_option linter.unusedVariables false

theorem minus_take (v p : List UInt8) (k : Nat) (hv : k < v.length) (hp : k < p.length) :
    ((minusL v p).take k ++ p.drop k).set k (minusC v[k] p[k]) = (minusL v p).take (k + 1) ++ p.drop (k + 1) := by
  have hl : k < (minusL v p).length := by simp [minusL]; omega
  have ht : ((minusL v p).take k).length = k := by simp; omega
  rw [List.set_append_right _ _ (by omega), ht, Nat.sub_self, List.drop_eq_getElem_cons hp, List.set_cons_zero, List.take_succ_eq_append_getElem hl, List.append_assoc]
  congr 2
  simp [minusL]

theorem minus_keep (v p : List UInt8) (k : Nat) (hv : k < v.length) (hp : k < p.length) (h : minusC v[k] p[k] = p[k]) :
    (minusL v p).take (k + 1) ++ p.drop (k + 1) = (minusL v p).take k ++ p.drop k := by
  have hl : k < (minusL v p).length := by simp [minusL]; omega
  have e : (minusL v p)[k] = p[k] := by rw [← h]; simp [minusL]
  rw [List.take_succ_eq_append_getElem hl, e, List.append_assoc, List.singleton_append, ← List.drop_eq_getElem_cons hp]

set_option maxHeartbeats 2000000 in
set_option maxRecDepth 100000 in
theorem without_some (v p : ByteArray) (r : List UInt8) (w : World) (h : minusW (tl v) (tl p) = some r) :
    Calls Try.prog 59 #[.string v, .string p] w fun e w' => e = .returned (.tuple #[.string (mk r), .bool true]) ∧ Below w.heap.size w w' := by
  unfold minusW at h
  by_cases hc : wv (tl v) = true ∧ pv (tl p) = true ∧ (tl v).length = (tl p).length
  · rw [if_pos hc] at h
    injection h with h
    subst h
    obtain ⟨h1, h2, h3⟩ := hc
    have hl := pv_length h2
    rw [length_tl, length_tl] at h3
    rw [length_tl] at hl
    have hb : (((v.size : Nat) : Int) != ((p.size : Nat) : Int)) = false := by simp; omega
    have hle : p.size ≤ v.size := by omega
    have HE := Lib.hid h3; clear h3
    have H1 := Lib.hid h1; clear h1
    have H2 := Lib.hid h2; clear h2
    have hcv := Lib.run_convert_string_bytes (P := Try.prog) w 9 24 5 p Try.underlying9 Try.underlying24 Try.underlying5
    have hbuf := Buf.made w p
    have hbel := below_made w p
    obtain ⟨w0, hw0⟩ : ∃ w0, w0 = Lib.bytesWorld w 5 p := ⟨_, rfl⟩
    obtain ⟨cap, hcap⟩ : ∃ cap, cap = grownCap w p.size 0 5 := ⟨_, rfl⟩
    rw [← hw0] at hcv hbuf hbel
    rw [← hcap] at hcv
    clear hw0 hcap
    go_enter Try.func59, Try.ntmps59
    go_wp2_with fail
    refine (wordValid_is _ true _ H1.out).mono ?_
    rintro e w' ⟨rfl, rfl⟩
    go_wp2_with fail
    refine (partialValid_is _ true _ H2.out).mono ?_
    rintro e w' ⟨rfl, rfl⟩
    go_wp2_with fail
    go_loopw [27] (fun i wr => ∃ k : Nat, k ≤ p.size ∧ i = .int .i64 k ∧ Buf wr w.heap.size ((minusL (tl v) (tl p)).take k ++ (tl p).drop k) ∧ Below w.heap.size w wr) (fun i _ => p.size - (intOf i).toNat)
    case atStart => exact ⟨0, Nat.zero_le _, rfl, by simpa using hbuf, hbel⟩
    case round =>
      obtain ⟨k, hk, rfl, hB, hbl⟩ := hrel
      clear hbuf hbel hcv
      have hlen : ((minusL (tl v) (tl p)).take k ++ (tl p).drop k).length = p.size := by
        have := HE.out
        simp [minusL, length_tl]; omega
      have HL := Lib.hid hlen; clear hlen
      have HBL := Lib.hid hbl; clear hbl
      by_cases hlt : k < p.size
      · have hkv : k < v.size := by omega
        have lv : isL v[k] = true := wv_mem H1.out (by rw [getElem_tl]; exact List.getElem_mem _)
        have lp : isP p[k] = true := pv_mem H2.out (by rw [getElem_tl]; exact List.getElem_mem _)
        have hc : wr.cell? ⟨w.heap.size, k, none⟩ = some (.int .u8 p[k].toNat) := by
          rw [hB.cell (by rw [HL.out]; exact hlt)]
          have ht : ((minusL (tl v) (tl p)).take k).length = k := by have := HE.out; simp [minusL, length_tl]; omega
          rw [List.getElem_append_right (by omega)]
          simp [ht, getElem_tl]
        have hf : wr.frozen? ⟨w.heap.size, k, none⟩ = false := hB.frozen (by rw [HL.out]; exact hlt)
        have HB' := Lib.hid hB; clear hB
        have LV := Lib.hid lv; clear lv
        have LP := Lib.hid lp; clear lp
        by_cases hg : p[k].toNat = 45
        · have hgb : (((p[k].toNat : Nat) : Int) != 45) = false := by simp; omega
          have HG := Lib.hid hg; clear hg
          have hp45 : minusC v[k] p[k] = p[k] := by
            unfold minusC; rw [if_pos HG.out]; exact UInt8.toNat_inj.1 (by rw [HG.out]; rfl)
          have HP := Lib.hid hp45; clear hp45
          go_wp2_with fail
          go_roundw
          case rel =>
            refine ⟨k + 1, by omega, by go_num, ?_, HBL.out⟩
            rw [minus_keep (tl v) (tl p) k (by rw [length_tl]; exact hkv) (by rw [length_tl]; exact hlt) HP.out]
            exact HB'.out
          case measure => simp [intOf]; omega
        · have hgb : (((p[k].toNat : Nat) : Int) != 45) = true := by rw [bne_iff_ne]; omega
          have hpl : isL p[k] = true := isL_of_isP LP.out hg
          have hpd := dg_lt hpl
          have HPL := Lib.hid hpl; clear hpl
          have hmc : letter ((dg v[k] + (10 - dg p[k])) % 10) = minusC v[k] p[k] := by unfold minusC; rw [if_neg hg]
          have HMC := Lib.hid hmc; clear hmc
          go_wp2_with fail
          refine wp_region_still_tail 13 (by kernel_rfl) (by kernel_rfl) ?_
          simp only [List.take_succ_cons, List.take_zero, List.drop_succ_cons, List.drop_zero]
          change wpStill _ _ wr.drew (fun a' => wpList _ _ _ _ a' wr.drew) _ _
          replace hc : wr.drew.cell? ⟨w.heap.size, k, none⟩ = some (.int .u8 p[k].toNat) := hc
          replace hf : wr.drew.frozen? ⟨w.heap.size, k, none⟩ = false := hf
          replace HB' : Hid (Buf wr.drew w.heap.size ((minusL (tl v) (tl p)).take k ++ (tl p).drop k)) := HB'
          replace HBL : Hid (Below w.heap.size w wr.drew) := Lib.hid HBL.out.drew
          generalize wr.drew = w2 at hc hf HB' HBL ⊢
          repeat still_step
          still_call (number_any _ _ HPL.out)
          repeat still_step
          still_call (shifted_int _ _ (10 - dg p[k]) _ LV.out (by rw [IntWalk.i64_in _ (by omega)]; omega) (by omega))
          repeat still_step
          refine wpStill_nil ?_
          go_wp2_with fail
          go_roundw
          case rel =>
            have e' : ((minusL (tl v) (tl p)).take k ++ (tl p).drop k).set k (minusC v[k] p[k]) = (minusL (tl v) (tl p)).take (k + 1) ++ (tl p).drop (k + 1) :=
              minus_take (tl v) (tl p) k (by rw [length_tl]; exact hkv) (by rw [length_tl]; exact hlt)
            exact ⟨k + 1, by omega, by go_num, by rw [← e', ← HMC.out]; exact HB'.out.set_ _, HBL.out.setCell (Nat.le_refl _) _⟩
          case measure => simp [intOf]; omega
      · have e : k = p.size := by omega
        subst e
        have hcv2 := hB.conv cap
        rw [HL.out] at hcv2
        have er : (minusL (tl v) (tl p)).take p.size ++ (tl p).drop p.size = minusL (tl v) (tl p) := by
          rw [List.take_of_length_le (by simp [minusL, length_tl]; omega), List.drop_of_length_le (by rw [length_tl]; omega), List.append_nil]
        rw [er] at hcv2
        clear hB er
        go_wp2_with fail
        go_ret2
        exact ⟨rfl, HBL.out⟩
  · rw [if_neg hc] at h; cases h

set_option maxHeartbeats 1000000 in
theorem without_none (v x : ByteArray) (w : World) (h : minusW (tl v) (tl x) = none) :
    Calls Try.prog 59 #[.string v, .string x] w fun e w' => e = .returned (.tuple #[.string (mk []), .bool false]) ∧ Below w.heap.size w w' := by
  unfold minusW at h
  by_cases hc : wv (tl v) = true ∧ pv (tl x) = true ∧ (tl v).length = (tl x).length
  · rw [if_pos hc] at h; cases h
  · clear h
    by_cases h1 : wv (tl v) = true
    · by_cases h2 : pv (tl x) = true
      · have h3 : v.size ≠ x.size := fun e => hc ⟨h1, h2, by rw [length_tl, length_tl]; exact e⟩
        have hb : (((v.size : Nat) : Int) != ((x.size : Nat) : Int)) = true := by rw [bne_iff_ne]; omega
        have H1 := Lib.hid h1; clear h1
        have H2 := Lib.hid h2; clear h2 hc h3
        go_enter Try.func59, Try.ntmps59
        go_wp2_with fail
        refine (wordValid_is _ true _ H1.out).mono ?_
        rintro e w' ⟨rfl, rfl⟩
        go_wp2_with fail
        refine (partialValid_is _ true _ H2.out).mono ?_
        rintro e w' ⟨rfl, rfl⟩
        go_wp2_with fail
        go_ret2
        exact ⟨rfl, Below.refl _ _⟩
      · have H1 := Lib.hid h1; clear h1
        have H2 := Lib.hid (show pv (tl x) = false by simpa using h2); clear h2 hc
        go_enter Try.func59, Try.ntmps59
        go_wp2_with fail
        refine (wordValid_is _ true _ H1.out).mono ?_
        rintro e w' ⟨rfl, rfl⟩
        go_wp2_with fail
        refine (partialValid_is _ false _ H2.out).mono ?_
        rintro e w' ⟨rfl, rfl⟩
        go_wp2_with fail
        go_ret2
        exact ⟨rfl, Below.refl _ _⟩
    · have H1 := Lib.hid (show wv (tl v) = false by simpa using h1); clear h1 hc
      go_enter Try.func59, Try.ntmps59
      go_wp2_with fail
      refine (wordValid_is _ false _ H1.out).mono ?_
      rintro e w' ⟨rfl, rfl⟩
      go_wp2_with fail
      go_ret2
      exact ⟨rfl, Below.refl _ _⟩

set_option maxHeartbeats 2000000 in
theorem l18Minus_any (v p : ByteArray) (w : World) (hv : ∀ c ∈ tl v, isL c = true) (hp : ∀ c ∈ tl p, isP c = true) (hle : p.size ≤ v.size) (hl : v.size ≤ 100000) :
    Calls Try.prog 67 #[.string v, .string p] w fun e w' => e = .returned (.string (mk (minusL (tl v) (tl p)))) ∧ Below w.heap.size w w' := by
  have H1 := Lib.hid hv; clear hv
  have H2 := Lib.hid hp; clear hp
  go_enter Try.func67, Try.ntmps67
  go_wp2_with fail
  go_loopw [5, 6] (fun s i wr => ∃ k : Nat, k ≤ p.size ∧ i = .int .i64 k ∧ s = .string (mk ((minusL (tl v) (tl p)).take k)) ∧ Below w.heap.size w wr) (fun _ i _ => p.size - (intOf i).toNat)
  case atStart => exact ⟨0, Nat.zero_le _, rfl, rfl, Below.refl _ _⟩
  case round =>
    obtain ⟨k, hk, rfl, rfl, hbl⟩ := hrel
    have HBL := Lib.hid hbl; clear hbl
    by_cases hlt : k < p.size
    · have hkv : k < v.size := by omega
      have lv : isL v[k] = true := H1.out _ (by rw [getElem_tl]; exact List.getElem_mem _)
      have lp : isP p[k] = true := H2.out _ (by rw [getElem_tl]; exact List.getElem_mem _)
      have bv := isL_bounds lv
      have LP := Lib.hid lp; clear lp
      have LV := Lib.hid lv; clear lv
      have hz : (mk ((minusL (tl v) (tl p)).take k)).size ≤ 1000000 := by rw [size_mk]; simp [minusL, length_tl]; omega
      have hstep : (minusL (tl v) (tl p)).take (k + 1) = (minusL (tl v) (tl p)).take k ++ [minusC v[k] p[k]] := by
        rw [List.take_succ_eq_append_getElem (by simp [minusL, length_tl]; omega)]
        simp [minusL, getElem_tl]
      have HST := Lib.hid hstep; clear hstep
      by_cases hg : p[k].toNat = 45
      · have hgb : (((p[k].toNat : Nat) : Int) == 45) = true := by simp; omega
        have HG := Lib.hid hg; clear hg
        go_wp2_with fail
        go_roundw
        case rel => exact ⟨k + 1, by omega, by go_num, by
          rw [HST.out]; unfold minusC; rw [if_pos HG.out]; exact congrArg Value.string (mk_append _ [45]), HBL.out⟩
        case measure => simp [intOf]; omega
      · have hgb : (((p[k].toNat : Nat) : Int) == 45) = false := by simp; omega
        have hpl : isL p[k] = true := isL_of_isP LP.out hg
        have bp := isL_bounds hpl
        have HPL := Lib.hid hpl; clear hpl
        have HG := Lib.hid hg; clear hg
        go_wp2_with fail
        refine (l1Digit_any v k _ hkv (by omega)).mono ?_
        rintro e w1 ⟨rfl, rfl⟩
        go_wp2_with fail
        refine (l1Digit_any p k _ hlt (by omega)).mono ?_
        rintro e w1 ⟨rfl, rfl⟩
        go_wp2_with fail
        refine (l1Letter_any _ _ (by omega)).mono ?_
        rintro e w1 ⟨rfl, hb1⟩
        have hlet : letter ((((v[k].toNat : Int) - 97) - ((p[k].toNat : Int) - 97)) % 10).toNat = minusC v[k] p[k] := by
          unfold minusC; rw [if_neg HG.out]; congr 1; unfold dg; omega
        have HLT := Lib.hid hlet; clear hlet
        have hz1 : (mk [letter ((((v[k].toNat : Int) - 97) - ((p[k].toNat : Int) - 97)) % 10).toNat]).size ≤ 1 := by rw [size_mk]; simp
        go_wp2_with fail
        go_roundw
        case rel => exact ⟨k + 1, by omega, by go_num, by rw [HST.out, mk_append, HLT.out], HBL.out.trans (hb1.mono HBL.out.size)⟩
        case measure => simp [intOf]; omega
    · go_wp2_with fail
      go_ret
      refine ⟨str_eq ?_, HBL.out⟩
      rw [List.take_of_length_le (by simp [minusL, length_tl]; omega)]

theorem l18Fits_is (v p : ByteArray) (b : Bool) (w : World) (h : decide (wv (tl v) = true ∧ pv (tl p) = true ∧ (tl v).length = (tl p).length) = b) :
    Calls Try.prog 66 #[.string v, .string p] w fun e w' => e = .returned (.bool b) ∧ w = w' := by
  by_cases h1 : wv (tl v) = true
  · by_cases h2 : pv (tl p) = true
    · have e : b = (((v.size : Nat) : Int) == ((p.size : Nat) : Int)) := by
        rw [← h]; simp only [h1, h2, true_and, length_tl]
        by_cases hs : v.size = p.size
        · simp [hs]
        · have : ¬ ((v.size : Int) = (p.size : Int)) := by omega
          simp [hs, this]
      subst e
      have H1 := Lib.hid h1; clear h1
      have H2 := Lib.hid h2; clear h2 h
      go_enter Try.func66, Try.ntmps66
      go_wp2_with fail
      refine (sWordValid_is _ true _ H1.out).mono ?_
      rintro e w' ⟨rfl, rfl⟩
      go_wp2_with fail
      refine (sPartialValid_is _ true _ H2.out).mono ?_
      rintro e w' ⟨rfl, rfl⟩
      go_wp2_with fail
      go_ret
      exact ⟨rfl, rfl⟩
    · have e : b = false := by rw [← h]; simp [h2]
      subst e
      have H1 := Lib.hid h1; clear h1
      have H2 := Lib.hid (show pv (tl p) = false by simpa using h2); clear h2 h
      go_enter Try.func66, Try.ntmps66
      go_wp2_with fail
      refine (sWordValid_is _ true _ H1.out).mono ?_
      rintro e w' ⟨rfl, rfl⟩
      go_wp2_with fail
      refine (sPartialValid_is _ false _ H2.out).mono ?_
      rintro e w' ⟨rfl, rfl⟩
      go_wp2_with fail
      go_ret
      exact ⟨rfl, rfl⟩
  · have e : b = false := by rw [← h]; simp [h1]
    subst e
    have H1 := Lib.hid (show wv (tl v) = false by simpa using h1); clear h1 h
    go_enter Try.func66, Try.ntmps66
    go_wp2_with fail
    refine (sWordValid_is _ false _ H1.out).mono ?_
    rintro e w' ⟨rfl, rfl⟩
    go_wp2_with fail
    go_ret
    exact ⟨rfl, rfl⟩

theorem minusW_some_iff {v p r : List UInt8} (h : minusW v p = some r) : wv v = true ∧ pv p = true ∧ v.length = p.length ∧ r = minusL v p := by
  unfold minusW at h
  split at h
  · rename_i hc
    injection h with h
    exact ⟨hc.1, hc.2.1, hc.2.2, h.symm⟩
  · cases h
theorem minusW_none_iff {v p : List UInt8} (h : minusW v p = none) : ¬ (wv v = true ∧ pv p = true ∧ v.length = p.length) := by
  unfold minusW at h
  split at h
  · cases h
  · assumption
theorem minusW_ok {v p : List UInt8} (h : wv v = true ∧ pv p = true ∧ v.length = p.length) : minusW v p = some (minusL v p) := by
  unfold minusW; rw [if_pos h]

end Go.Proofs.Ytcgihkapcfpjcaa
