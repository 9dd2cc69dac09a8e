/-
  Contracts of PlaceWord, of the program and of the reference, and the walk of the law FnExactPlaceWord. No conditions.
-/
import Derived.Test.YtcgihkapcfpjcaaDraw
import Derived.Test.YtcgihkapcfpjcaaPlainC
import Derived.Test.YtcgihkapcfpjcaaShelf
import Derived.Test.YtcgihkapcfpjcaaPart
import Derived.Deep.QuietTactic
import Derived.BigQuiet
namespace Go.Proofs.Ytcgihkapcfpjcaa
open Go.RowKit Pl
set_option linter.unusedVariables false

/-- a word in a place, with gaps round it -/
def placeW (l : List UInt8) (at_ n : Int) : Option (List UInt8) :=
  if wv l = true ∧ 0 ≤ n ∧ n ≤ 200 ∧ 0 ≤ at_ ∧ at_ ≤ n - l.length then some (List.replicate at_.toNat 45 ++ l ++ List.replicate (n.toNat - at_.toNat - l.length) 45) else none
theorem placeW_some_iff {l r : List UInt8} {a n : Int} (h : placeW l a n = some r) :
    wv l = true ∧ 0 ≤ n ∧ n ≤ 200 ∧ 0 ≤ a ∧ a ≤ n - l.length ∧ r = List.replicate a.toNat 45 ++ l ++ List.replicate (n.toNat - a.toNat - l.length) 45 := by
  unfold placeW at h
  split at h
  · rename_i hc
    injection h with h
    exact ⟨hc.1, hc.2.1, hc.2.2.1, hc.2.2.2.1, hc.2.2.2.2, h.symm⟩
  · cases h
theorem placeW_none_iff {l : List UInt8} {a n : Int} (h : placeW l a n = none) : ¬ (wv l = true ∧ 0 ≤ n ∧ n ≤ 200 ∧ 0 ≤ a ∧ a ≤ n - l.length) := by
  unfold placeW at h
  split at h
  · cases h
  · assumption
theorem repeat_one (c : UInt8) (n : Nat) : Lib.repeatL [c] n = List.replicate n c := by
  induction n with
  | zero => rfl
  | succ n ih => simp [Lib.repeatL, ih, List.replicate_succ]

set_option maxHeartbeats 2000000 in
theorem place_some (s : ByteArray) (a n : Int) (r : List UInt8) (w : World) (h : placeW (tl s) a n = some r) :
    Calls Try.prog 36 #[.string s, .int .i64 a, .int .i64 n] w fun e w' => e = .returned (.tuple #[.string (mk r), .bool true]) ∧ Below w.heap.size w w' := by
  obtain ⟨h1, h2, h3, h4, h5, h6⟩ := placeW_some_iff h
  clear h
  have hl := wv_length h1
  rw [length_tl] at hl h5 h6
  obtain ⟨n', rfl⟩ := Int.eq_ofNat_of_zero_le h2
  obtain ⟨a', rfl⟩ := Int.eq_ofNat_of_zero_le h4
  have H1 := Lib.hid h1; clear h1
  have H6 := Lib.hid h6; clear h6
  have hsz : (mk (List.replicate n' (45 : UInt8))).size = n' := by rw [size_mk, List.length_replicate]
  have HSZ := Lib.hid hsz
  have hle1 : (a' : Int) ≤ ((mk (List.replicate n' (45 : UInt8))).size : Int) := by omega
  have hle2 : (a' : Int) + (s.size : Int) ≤ ((mk (List.replicate n' (45 : UInt8))).size : Int) := by omega
  have hle3 : (mk (List.replicate n' (45 : UInt8))).size ≤ 200 := by omega
  have hb1 : ¬ ((n' : Int) - (s.size : Int) < (a' : Int)) := by omega
  clear hsz
  go_enter Try.func36, Try.ntmps36
  go_wp2_with fail
  refine (wordValid_is _ true _ H1.out).mono ?_
  rintro e w' ⟨rfl, rfl⟩
  go_wp2_with fail
  refine (Try.strings_Repeat (mk [45]) n' _ (by omega) (by rw [size_mk]; simp; omega)).mono ?_
  rintro e w1 ⟨rfl, hb⟩
  have HB := Lib.hid hb; clear hb
  have er : (ByteArray.mk (Lib.repeatL (mk [45]).data.toList n').toArray) = mk (List.replicate n' 45) := by
    show mk (Lib.repeatL [45] n') = _
    rw [repeat_one]
  rw [er]
  clear er
  go_wp2_with fail
  have hw1 : IntKind.i64.wrap ((a' : Int) + (s.size : Int)) = (a' : Int) + (s.size : Int) := IntWalk.i64_in _ (by omega)
  have hw2 : 0 ≤ (a' : Int) + (s.size : Int) := by omega
  have hw3 : ((a' : Int) + (s.size : Int)).toNat = a' + s.size := by omega
  have hx1 : ((mk (List.replicate n' (45 : UInt8))).extract 0 a').size ≤ 1000 := by simp [ByteArray.size_extract]; omega
  have hx2 : ((mk (List.replicate n' (45 : UInt8))).extract (a' + s.size) (mk (List.replicate n' (45 : UInt8))).size).size ≤ 1000 := by simp [ByteArray.size_extract]; omega
  go_quiet (fail)
  clear hw1 hw3
  go_wp2_with fail
  go_ret2
  refine ⟨sb_eq ?_ _, below_drewN' HB.out _⟩
  rw [H6.out, extract_mk', extract_mk', HSZ.out, tl_mk, append_tl, append_tl, tl_mk, tl_mk, tl_mk]
  congr 2
  · congr 1
    rw [List.drop_zero, Nat.sub_zero, List.take_replicate]
    congr 1; omega
  · rw [List.drop_replicate, List.take_replicate]
    congr 1; simp; omega

set_option maxHeartbeats 2000000 in
theorem place_none (s : ByteArray) (a n : Int) (w : World) (ha : -9223372036854775808 ≤ a ∧ a ≤ 9223372036854775807) (hn : -9223372036854775808 ≤ n ∧ n ≤ 9223372036854775807) (h : placeW (tl s) a n = none) :
    Calls Try.prog 36 #[.string s, .int .i64 a, .int .i64 n] w fun e w' => e = .returned (.tuple #[.string (mk []), .bool false]) ∧ Below w.heap.size w w' := by
  have hc := placeW_none_iff h
  clear h
  by_cases h1 : wv (tl s) = true
  · have hl := wv_length h1
    rw [length_tl] at hl
    have hx : n < 0 ∨ (0 ≤ n ∧ 200 < n) ∨ (0 ≤ n ∧ n ≤ 200 ∧ a < 0) ∨ (0 ≤ n ∧ n ≤ 200 ∧ 0 ≤ a ∧ n - (s.size : Int) < a) := by
      simp only [h1, true_and, length_tl] at hc; omega
    have HW := Lib.hid h1; clear h1 hc
    rcases hx with h2 | ⟨h2, h3⟩ | ⟨h2, h3, h4⟩ | ⟨h2, h3, h4, h5⟩
    all_goals
      go_enter Try.func36, Try.ntmps36
      go_wp2_with fail
      refine (wordValid_is _ true _ HW.out).mono ?_
      rintro e w' ⟨rfl, rfl⟩
      go_wp2_with fail
      go_ret2
      exact ⟨rfl, Below.refl _ _⟩
  · have HW := Lib.hid (show wv (tl s) = false by simpa using h1); clear h1 hc
    go_enter Try.func36, Try.ntmps36
    go_wp2_with fail
    refine (wordValid_is _ false _ HW.out).mono ?_
    rintro e w' ⟨rfl, rfl⟩
    go_wp2_with fail
    go_ret2
    exact ⟨rfl, Below.refl _ _⟩

set_option maxHeartbeats 2000000 in
theorem sPlace_some (s : ByteArray) (a n : Int) (r : List UInt8) (w : World) (h : placeW (tl s) a n = some r) :
    Calls Try.prog 35 #[.string s, .int .i64 a, .int .i64 n] w fun e w' => e = .returned (.tuple #[.string (mk r), .bool true]) ∧ Below w.heap.size w w' := by
  obtain ⟨h1, h2, h3, h4, h5, h6⟩ := placeW_some_iff h
  clear h
  have hl := wv_length h1
  rw [length_tl] at hl h5 h6
  obtain ⟨n', rfl⟩ := Int.eq_ofNat_of_zero_le h2
  obtain ⟨a', rfl⟩ := Int.eq_ofNat_of_zero_le h4
  have H1 := Lib.hid h1; clear h1
  have H6 := Lib.hid h6; clear h6
  have hx1 : (mk (List.replicate a' (45 : UInt8))).size ≤ 200 := by rw [size_mk, List.length_replicate]; omega
  have hx2 : (mk (List.replicate (n' - a' - s.size) (45 : UInt8))).size ≤ 200 := by rw [size_mk, List.length_replicate]; omega
  go_enter Try.func35, Try.ntmps35
  go_wp2_with fail
  refine (sWordValid_is _ true _ H1.out).mono ?_
  rintro e w' ⟨rfl, rfl⟩
  go_wp2_with fail
  refine (l1In_is _ _ _ true _ (by simp; omega)).mono ?_
  rintro e w' ⟨rfl, rfl⟩
  go_wp2_with fail
  refine (l1In_is _ _ _ true _ (by simp; omega)).mono ?_
  rintro e w' ⟨rfl, rfl⟩
  go_wp2_with fail
  refine (l21Many_one _ 45 a' (by omega)).mono ?_
  rintro e w' ⟨rfl, rfl⟩
  go_wp2_with fail
  rw [show ((n' : Int) - (a' : Int) - (s.size : Int)) = ((n' - a' - s.size : Nat) : Int) by omega]
  refine (l21Many_one _ 45 (n' - a' - s.size) (by omega)).mono ?_
  rintro e w' ⟨rfl, rfl⟩
  go_wp2_with fail
  go_ret2
  refine ⟨sb_eq ?_ _, Below.refl _ _⟩
  rw [H6.out, append_tl, append_tl, tl_mk, tl_mk, tl_mk]
  simp

set_option maxHeartbeats 2000000 in
theorem sPlace_none (s : ByteArray) (a n : Int) (w : World) (ha : -9223372036854775808 ≤ a ∧ a ≤ 9223372036854775807) (hn : -9223372036854775808 ≤ n ∧ n ≤ 9223372036854775807) (h : placeW (tl s) a n = none) :
    Calls Try.prog 35 #[.string s, .int .i64 a, .int .i64 n] w fun e w' => e = .returned (.tuple #[.string (mk []), .bool false]) ∧ Below w.heap.size w w' := by
  have hc := placeW_none_iff h
  clear h
  by_cases h1 : wv (tl s) = true
  · have hl := wv_length h1
    rw [length_tl] at hl
    have hx : ¬ (0 ≤ n ∧ n ≤ 200) ∨ (0 ≤ n ∧ n ≤ 200 ∧ ¬ (0 ≤ a ∧ a ≤ n - (s.size : Int))) := by
      simp only [h1, true_and, length_tl] at hc; omega
    have HW := Lib.hid h1; clear h1 hc
    rcases hx with h2 | ⟨h2, h3, h4⟩
    · go_enter Try.func35, Try.ntmps35
      go_wp2_with fail
      refine (sWordValid_is _ true _ HW.out).mono ?_
      rintro e w' ⟨rfl, rfl⟩
      go_wp2_with fail
      refine (l1In_is _ _ _ false _ (by simp; omega)).mono ?_
      rintro e w' ⟨rfl, rfl⟩
      go_wp2_with fail
      go_ret2
      exact ⟨rfl, Below.refl _ _⟩
    · go_enter Try.func35, Try.ntmps35
      go_wp2_with fail
      refine (sWordValid_is _ true _ HW.out).mono ?_
      rintro e w' ⟨rfl, rfl⟩
      go_wp2_with fail
      refine (l1In_is _ _ _ true _ (by simp; omega)).mono ?_
      rintro e w' ⟨rfl, rfl⟩
      go_wp2_with fail
      refine (l1In_is _ _ _ false _ (by simp; omega)).mono ?_
      rintro e w' ⟨rfl, rfl⟩
      go_wp2_with fail
      go_ret2
      exact ⟨rfl, Below.refl _ _⟩
  · have HW := Lib.hid (show wv (tl s) = false by simpa using h1); clear h1 hc
    go_enter Try.func35, Try.ntmps35
    go_wp2_with fail
    refine (sWordValid_is _ false _ HW.out).mono ?_
    rintro e w' ⟨rfl, rfl⟩
    go_wp2_with fail
    go_ret2
    exact ⟨rfl, Below.refl _ _⟩

set_option maxHeartbeats 1000000 in
theorem fnExactPlaceWord_walk (w : World) (a0 : ByteArray) (w0 : a0.size ≤ maxLen) (a1 : Int) (hb : -9223372036854775808 ≤ a1 ∧ a1 ≤ 9223372036854775807) (a2 : Int) (hb2 : -9223372036854775808 ≤ a2 ∧ a2 ≤ 9223372036854775807) :
    Calls Try.prog 8 #[.string a0, .int .i64 a1, .int .i64 a2] w fun e w' => e = .returned (.bool true) ∧ Below w.heap.size w w' := by
  by_cases hs : a0.size > 1048576
  · go_enter Try.func8, Try.ntmps8
    go_wp2_with fail
    go_ret
    exact ⟨rfl, Below.refl _ _⟩
  · cases h : placeW (tl a0) a1 a2 with
    | some r =>
      have H := Lib.hid h; clear h
      go_enter Try.func8, Try.ntmps8
      go_wp2_with fail
      refine (sPlace_some _ _ _ r _ H.out).mono ?_
      rintro e w1 ⟨rfl, hb1⟩
      go_wp2_with fail
      refine (place_some _ _ _ r _ H.out).mono ?_
      rintro e w2 ⟨rfl, hb2⟩
      go_wp2_with fail
      go_ret
      exact ⟨rfl, hb1.trans (hb2.mono hb1.size)⟩
    | none =>
      have H := Lib.hid h; clear h
      go_enter Try.func8, Try.ntmps8
      go_wp2_with fail
      refine (sPlace_none _ _ _ _ hb hb2 H.out).mono ?_
      rintro e w1 ⟨rfl, hb1⟩
      go_wp2_with fail
      refine (place_none _ _ _ _ hb hb2 H.out).mono ?_
      rintro e w2 ⟨rfl, hb2⟩
      go_wp2_with fail
      go_ret
      exact ⟨rfl, hb1.trans (hb2.mono hb1.size)⟩

end Go.Proofs.Ytcgihkapcfpjcaa
