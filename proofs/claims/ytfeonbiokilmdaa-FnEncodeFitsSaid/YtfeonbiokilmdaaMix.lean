/-
  Contracts of the reference's sums and differences of words. No conditions but those that each theorem names.
-/
import Derived.Test.YtfeonbiokilmdaaDraw
namespace Go.Proofs.Ytfeonbiokilmdaa
open Go.RowKit Pl
set_option linter.unusedVariables false

theorem mix_letter (t : Nat) (τ : Int) (a b : UInt8) (ha : isL a = true) (hb : isL b = true) (h : (t = 1 ∧ τ = 1) ∨ (t = 9 ∧ τ = -1)) :
    (((a.toNat : Int) - 97 + τ * ((b.toNat : Int) - 97)) % 10).toNat = (dg a + t * dg b) % 10 := by
  have h1 := isL_bounds ha
  have h2 := isL_bounds hb
  unfold dg
  rcases h with ⟨rfl, rfl⟩ | ⟨rfl, rfl⟩ <;> omega

set_option maxHeartbeats 2000000 in
theorem sMix_some (v x : ByteArray) (t : Nat) (τ : Int) (r : List UInt8) (w : World) (ht : (t = 1 ∧ τ = 1) ∨ (t = 9 ∧ τ = -1)) (h : combineW t (tl v) (tl x) = some r) :
    Calls Try.prog 104 #[.string v, .string x, .int .i64 τ] w fun e w' => e = .returned (.tuple #[.string (mk r), .bool true]) ∧ Below w.heap.size w w' := by
  unfold combineW at h
  by_cases hc : wv (tl v) = true ∧ wv (tl x) = true ∧ (tl v).length = (tl x).length
  · rw [if_pos hc] at h
    injection h with h
    subst h
    obtain ⟨h1, h2, h3⟩ := hc
    have hl := wv_length h1
    rw [length_tl, length_tl] at h3
    rw [length_tl] at hl
    have hb : (((v.size : Nat) : Int) != ((x.size : Nat) : Int)) = false := by simp; omega
    have hle : v.size ≤ x.size := by omega
    have hle' : x.size ≤ 200 := by omega
    have HE := Lib.hid h3; clear h3
    have H1 := Lib.hid h1; clear h1
    have H2 := Lib.hid h2; clear h2
    have HT := Lib.hid ht
    have hτ : -1 ≤ τ ∧ τ ≤ 1 := by omega
    go_enter Try.func104, Try.ntmps104
    go_wp2_with fail
    refine (sWordValid_is _ true _ H1.out).mono ?_
    rintro e w' ⟨rfl, rfl⟩
    go_wp2_with fail
    refine (sWordValid_is _ true _ H2.out).mono ?_
    rintro e w' ⟨rfl, rfl⟩
    go_wp2_with fail
    go_loopw [8, 9] (fun s i wr => ∃ k : Nat, k ≤ v.size ∧ i = .int .i64 k ∧ s = .string (mk ((combine t (tl v) (tl x)).take k)) ∧ Below w.heap.size w wr) (fun _ i _ => v.size - (intOf i).toNat)
    case atStart => exact ⟨0, Nat.zero_le _, rfl, rfl, Below.refl _ _⟩
    case round =>
      obtain ⟨k, hk, rfl, rfl, hbl⟩ := hrel
      have HBL := Lib.hid hbl; clear hbl
      by_cases hlt : k < v.size
      · have hkx : k < x.size := by omega
        have lv : isL v[k] = true := wv_mem H1.out (by rw [getElem_tl]; exact List.getElem_mem _)
        have lx : isL x[k] = true := wv_mem H2.out (by rw [getElem_tl]; exact List.getElem_mem _)
        have bv := isL_bounds lv
        have bx := isL_bounds lx
        have LV := Lib.hid lv; clear lv
        have LX := Lib.hid lx; clear lx
        have hz : (mk ((combine t (tl v) (tl x)).take k)).size ≤ 1000 := by rw [size_mk]; simp; omega
        have hmul : -9 ≤ τ * ((x[k].toNat : Int) - 97) ∧ τ * ((x[k].toNat : Int) - 97) ≤ 9 := by
          rcases HT.out with ⟨_, rfl⟩ | ⟨_, rfl⟩ <;> omega
        go_wp2_with fail
        refine (l1Digit_any v k _ hlt (by omega)).mono ?_
        rintro e w1 ⟨rfl, rfl⟩
        go_wp2_with fail
        refine (l1Digit_any x k _ hkx (by omega)).mono ?_
        rintro e w1 ⟨rfl, rfl⟩
        go_wp2_with fail
        refine (l1Letter_any _ _ (by omega)).mono ?_
        rintro e w1 ⟨rfl, hb1⟩
        have hz1 : (mk [letter (((v[k].toNat : Int) - 97 + τ * ((x[k].toNat : Int) - 97)) % 10).toNat]).size ≤ 1 := by rw [size_mk]; simp
        go_wp2_with fail
        go_roundw
        case rel => exact ⟨k + 1, by omega, by go_num, by
          rw [mk_append, mix_letter t τ _ _ LV.out LX.out HT.out, List.take_succ_eq_append_getElem (by simp [combine, length_tl]; omega)]
          simp [combine, getElem_tl], HBL.out.trans (hb1.mono HBL.out.size)⟩
        case measure => simp [intOf]; omega
      · go_wp2_with fail
        go_ret2
        refine ⟨sb_eq ?_ _, HBL.out⟩
        rw [List.take_of_length_le (by have := HE.out; simp [combine, length_tl]; omega)]
  · rw [if_neg hc] at h; cases h

set_option maxHeartbeats 1000000 in
theorem sMix_none (v x : ByteArray) (t : Nat) (τ : Int) (w : World) (h : combineW t (tl v) (tl x) = none) :
    Calls Try.prog 104 #[.string v, .string x, .int .i64 τ] w fun e w' => e = .returned (.tuple #[.string (mk []), .bool false]) ∧ Below w.heap.size w w' := by
  unfold combineW at h
  by_cases hc : wv (tl v) = true ∧ wv (tl x) = true ∧ (tl v).length = (tl x).length
  · rw [if_pos hc] at h; cases h
  · clear h
    by_cases h1 : wv (tl v) = true
    · by_cases h2 : wv (tl x) = true
      · have h3 : v.size ≠ x.size := fun e => hc ⟨h1, h2, by rw [length_tl, length_tl]; exact e⟩
        have hb : (((v.size : Nat) : Int) != ((x.size : Nat) : Int)) = true := by rw [bne_iff_ne]; omega
        have H1 := Lib.hid h1; clear h1
        have H2 := Lib.hid h2; clear h2 hc h3
        go_enter Try.func104, Try.ntmps104
        go_wp2_with fail
        refine (sWordValid_is _ true _ H1.out).mono ?_
        rintro e w' ⟨rfl, rfl⟩
        go_wp2_with fail
        refine (sWordValid_is _ true _ H2.out).mono ?_
        rintro e w' ⟨rfl, rfl⟩
        go_wp2_with fail
        go_ret2
        exact ⟨rfl, Below.refl _ _⟩
      · have H1 := Lib.hid h1; clear h1
        have H2 := Lib.hid (show wv (tl x) = false by simpa using h2); clear h2 hc
        go_enter Try.func104, Try.ntmps104
        go_wp2_with fail
        refine (sWordValid_is _ true _ H1.out).mono ?_
        rintro e w' ⟨rfl, rfl⟩
        go_wp2_with fail
        refine (sWordValid_is _ false _ H2.out).mono ?_
        rintro e w' ⟨rfl, rfl⟩
        go_wp2_with fail
        go_ret2
        exact ⟨rfl, Below.refl _ _⟩
    · have H1 := Lib.hid (show wv (tl v) = false by simpa using h1); clear h1 hc
      go_enter Try.func104, Try.ntmps104
      go_wp2_with fail
      refine (sWordValid_is _ false _ H1.out).mono ?_
      rintro e w' ⟨rfl, rfl⟩
      go_wp2_with fail
      go_ret2
      exact ⟨rfl, Below.refl _ _⟩

theorem sAddWords_some (v x : ByteArray) (r : List UInt8) (w : World) (h : combineW 1 (tl v) (tl x) = some r) :
    Calls Try.prog 87 #[.string v, .string x] w fun e w' => e = .returned (.tuple #[.string (mk r), .bool true]) ∧ Below w.heap.size w w' := by
  have H := Lib.hid h; clear h
  go_enter Try.func87, Try.ntmps87
  go_wp2_with fail
  refine (sMix_some _ _ 1 1 r _ (.inl ⟨rfl, rfl⟩) H.out).mono ?_
  rintro e w1 ⟨rfl, hb⟩
  go_wp2_with fail
  go_ret2
  exact ⟨rfl, hb⟩
theorem sAddWords_none (v x : ByteArray) (w : World) (h : combineW 1 (tl v) (tl x) = none) :
    Calls Try.prog 87 #[.string v, .string x] w fun e w' => e = .returned (.tuple #[.string (mk []), .bool false]) ∧ Below w.heap.size w w' := by
  have H := Lib.hid h; clear h
  go_enter Try.func87, Try.ntmps87
  go_wp2_with fail
  refine (sMix_none _ _ 1 1 _ H.out).mono ?_
  rintro e w1 ⟨rfl, hb⟩
  go_wp2_with fail
  go_ret2
  exact ⟨rfl, hb⟩
theorem sSubWords_some (v x : ByteArray) (r : List UInt8) (w : World) (h : combineW 9 (tl v) (tl x) = some r) :
    Calls Try.prog 89 #[.string v, .string x] w fun e w' => e = .returned (.tuple #[.string (mk r), .bool true]) ∧ Below w.heap.size w w' := by
  have H := Lib.hid h; clear h
  go_enter Try.func89, Try.ntmps89
  go_wp2_with fail
  refine (sMix_some _ _ 9 (-1) r _ (.inr ⟨rfl, rfl⟩) H.out).mono ?_
  rintro e w1 ⟨rfl, hb⟩
  go_wp2_with fail
  go_ret2
  exact ⟨rfl, hb⟩
theorem sSubWords_none (v x : ByteArray) (w : World) (h : combineW 9 (tl v) (tl x) = none) :
    Calls Try.prog 89 #[.string v, .string x] w fun e w' => e = .returned (.tuple #[.string (mk []), .bool false]) ∧ Below w.heap.size w w' := by
  have H := Lib.hid h; clear h
  go_enter Try.func89, Try.ntmps89
  go_wp2_with fail
  refine (sMix_none _ _ 9 (-1) _ H.out).mono ?_
  rintro e w1 ⟨rfl, hb⟩
  go_wp2_with fail
  go_ret2
  exact ⟨rfl, hb⟩

end Go.Proofs.Ytfeonbiokilmdaa
