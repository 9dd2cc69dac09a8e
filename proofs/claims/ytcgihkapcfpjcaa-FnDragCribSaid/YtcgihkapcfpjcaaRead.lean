/-
  Contracts of KeyFrom, ReadWith and ReadDepth, of the program and of the reference. No conditions.
-/
import Derived.Test.YtcgihkapcfpjcaaMinus
namespace Go.Proofs.Ytcgihkapcfpjcaa
open Go.RowKit Pl
set_option linter.unusedVariables false

theorem keyFrom_some (v p : ByteArray) (r : List UInt8) (w : World) (h : minusW (tl v) (tl p) = some r) :
    Calls Try.prog 23 #[.string v, .string p] w fun e w' => e = .returned (.tuple #[.string (mk r), .bool true]) ∧ Below w.heap.size w w' := by
  have H := Lib.hid h; clear h
  go_enter Try.func23, Try.ntmps23
  go_wp2_with fail
  refine (without_some _ _ r _ H.out).mono ?_
  rintro e w1 ⟨rfl, hb⟩
  go_wp2_with fail
  go_ret2
  exact ⟨rfl, hb⟩
theorem keyFrom_none (v p : ByteArray) (w : World) (h : minusW (tl v) (tl p) = none) :
    Calls Try.prog 23 #[.string v, .string p] w fun e w' => e = .returned (.tuple #[.string (mk []), .bool false]) ∧ Below w.heap.size w w' := by
  have H := Lib.hid h; clear h
  go_enter Try.func23, Try.ntmps23
  go_wp2_with fail
  refine (without_none _ _ _ H.out).mono ?_
  rintro e w1 ⟨rfl, hb⟩
  go_wp2_with fail
  go_ret2
  exact ⟨rfl, hb⟩
theorem sKeyFrom_some (v p : ByteArray) (r : List UInt8) (w : World) (h : minusW (tl v) (tl p) = some r) :
    Calls Try.prog 46 #[.string v, .string p] w fun e w' => e = .returned (.tuple #[.string (mk r), .bool true]) ∧ Below w.heap.size w w' := by
  obtain ⟨h1, h2, h3, h4⟩ := minusW_some_iff h
  clear h
  subst h4
  have hl := wv_length h1
  have h3' : v.size = p.size := h3
  rw [length_tl] at hl
  have HF := Lib.hid (show decide (wv (tl v) = true ∧ pv (tl p) = true ∧ (tl v).length = (tl p).length) = true by simp [h1, h2, h3])
  have H1 := Lib.hid h1; clear h1
  have H2 := Lib.hid h2; clear h2
  have hle : p.size ≤ v.size := by omega
  clear h3 h3'
  go_enter Try.func46, Try.ntmps46
  go_wp2_with fail
  refine (l18Fits_is _ _ true _ HF.out).mono ?_
  rintro e w1 ⟨rfl, rfl⟩
  go_wp2_with fail
  refine (l18Minus_any v p _ (fun c hc => wv_mem H1.out hc) (fun c hc => pv_mem H2.out hc) hle (by omega)).mono ?_
  rintro e w1 ⟨rfl, hb⟩
  go_wp2_with fail
  go_ret2
  exact ⟨rfl, hb⟩
theorem sKeyFrom_none (v p : ByteArray) (w : World) (h : minusW (tl v) (tl p) = none) :
    Calls Try.prog 46 #[.string v, .string p] w fun e w' => e = .returned (.tuple #[.string (mk []), .bool false]) ∧ Below w.heap.size w w' := by
  have HF := Lib.hid (show decide (wv (tl v) = true ∧ pv (tl p) = true ∧ (tl v).length = (tl p).length) = false by simpa using minusW_none_iff h)
  clear h
  go_enter Try.func46, Try.ntmps46
  go_wp2_with fail
  refine (l18Fits_is _ _ false _ HF.out).mono ?_
  rintro e w1 ⟨rfl, rfl⟩
  go_wp2_with fail
  go_ret2
  exact ⟨rfl, Below.refl _ _⟩
theorem readWith_some (v p : ByteArray) (r : List UInt8) (w : World) (h : minusW (tl v) (tl p) = some r) :
    Calls Try.prog 22 #[.string v, .string p] w fun e w' => e = .returned (.tuple #[.string (mk r), .bool true]) ∧ Below w.heap.size w w' := by
  have H := Lib.hid h; clear h
  go_enter Try.func22, Try.ntmps22
  go_wp2_with fail
  refine (without_some _ _ r _ H.out).mono ?_
  rintro e w1 ⟨rfl, hb⟩
  go_wp2_with fail
  go_ret2
  exact ⟨rfl, hb⟩
theorem readWith_none (v p : ByteArray) (w : World) (h : minusW (tl v) (tl p) = none) :
    Calls Try.prog 22 #[.string v, .string p] w fun e w' => e = .returned (.tuple #[.string (mk []), .bool false]) ∧ Below w.heap.size w w' := by
  have H := Lib.hid h; clear h
  go_enter Try.func22, Try.ntmps22
  go_wp2_with fail
  refine (without_none _ _ _ H.out).mono ?_
  rintro e w1 ⟨rfl, hb⟩
  go_wp2_with fail
  go_ret2
  exact ⟨rfl, hb⟩
theorem sReadWith_some (v p : ByteArray) (r : List UInt8) (w : World) (h : minusW (tl v) (tl p) = some r) :
    Calls Try.prog 31 #[.string v, .string p] w fun e w' => e = .returned (.tuple #[.string (mk r), .bool true]) ∧ Below w.heap.size w w' := by
  obtain ⟨h1, h2, h3, h4⟩ := minusW_some_iff h
  clear h
  subst h4
  have hl := wv_length h1
  have h3' : v.size = p.size := h3
  rw [length_tl] at hl
  have HF := Lib.hid (show decide (wv (tl v) = true ∧ pv (tl p) = true ∧ (tl v).length = (tl p).length) = true by simp [h1, h2, h3])
  have H1 := Lib.hid h1; clear h1
  have H2 := Lib.hid h2; clear h2
  have hle : p.size ≤ v.size := by omega
  clear h3 h3'
  go_enter Try.func31, Try.ntmps31
  go_wp2_with fail
  refine (l18Fits_is _ _ true _ HF.out).mono ?_
  rintro e w1 ⟨rfl, rfl⟩
  go_wp2_with fail
  refine (l18Minus_any v p _ (fun c hc => wv_mem H1.out hc) (fun c hc => pv_mem H2.out hc) hle (by omega)).mono ?_
  rintro e w1 ⟨rfl, hb⟩
  go_wp2_with fail
  go_ret2
  exact ⟨rfl, hb⟩
theorem sReadWith_none (v p : ByteArray) (w : World) (h : minusW (tl v) (tl p) = none) :
    Calls Try.prog 31 #[.string v, .string p] w fun e w' => e = .returned (.tuple #[.string (mk []), .bool false]) ∧ Below w.heap.size w w' := by
  have HF := Lib.hid (show decide (wv (tl v) = true ∧ pv (tl p) = true ∧ (tl v).length = (tl p).length) = false by simpa using minusW_none_iff h)
  clear h
  go_enter Try.func31, Try.ntmps31
  go_wp2_with fail
  refine (l18Fits_is _ _ false _ HF.out).mono ?_
  rintro e w1 ⟨rfl, rfl⟩
  go_wp2_with fail
  go_ret2
  exact ⟨rfl, Below.refl _ _⟩
/-- what a gapped word tells about another word -/
def depthW (v p x : List UInt8) : Option (List UInt8) := match minusW v p with | some k => minusW x k | none => none

theorem readDepth_some (v p x : ByteArray) (k r : List UInt8) (w : World) (h : minusW (tl v) (tl p) = some k) (h2 : minusW (tl x) k = some r) :
    Calls Try.prog 33 #[.string v, .string p, .string x] w fun e w' => e = .returned (.tuple #[.string (mk r), .bool true]) ∧ Below w.heap.size w w' := by
  have H := Lib.hid h; clear h
  have H2 := Lib.hid h2; clear h2
  go_enter Try.func33, Try.ntmps33
  go_wp2_with fail
  refine (without_some _ _ k _ H.out).mono ?_
  rintro e w1 ⟨rfl, hb⟩
  go_wp2_with fail
  refine (without_some _ (mk k) r _ H2.out).mono ?_
  rintro e w2 ⟨rfl, hb2⟩
  go_wp2_with fail
  go_ret2
  exact ⟨rfl, hb.trans (hb2.mono hb.size)⟩
theorem readDepth_none1 (v p x : ByteArray) (w : World) (h : minusW (tl v) (tl p) = none) :
    Calls Try.prog 33 #[.string v, .string p, .string x] w fun e w' => e = .returned (.tuple #[.string (mk []), .bool false]) ∧ Below w.heap.size w w' := by
  have H := Lib.hid h; clear h
  go_enter Try.func33, Try.ntmps33
  go_wp2_with fail
  refine (without_none _ _ _ H.out).mono ?_
  rintro e w1 ⟨rfl, hb⟩
  go_wp2_with fail
  go_ret2
  exact ⟨rfl, hb⟩
theorem readDepth_none2 (v p x : ByteArray) (k : List UInt8) (w : World) (h : minusW (tl v) (tl p) = some k) (h2 : minusW (tl x) k = none) :
    Calls Try.prog 33 #[.string v, .string p, .string x] w fun e w' => e = .returned (.tuple #[.string (mk []), .bool false]) ∧ Below w.heap.size w w' := by
  have H := Lib.hid h; clear h
  have H2 := Lib.hid h2; clear h2
  go_enter Try.func33, Try.ntmps33
  go_wp2_with fail
  refine (without_some _ _ k _ H.out).mono ?_
  rintro e w1 ⟨rfl, hb⟩
  go_wp2_with fail
  refine (without_none _ (mk k) _ H2.out).mono ?_
  rintro e w2 ⟨rfl, hb2⟩
  go_wp2_with fail
  go_ret2
  exact ⟨rfl, hb.trans (hb2.mono hb.size)⟩
theorem minusC_isP {c p : UInt8} (hp : isP p = true) : isP (minusC c p) = true := by
  unfold minusC
  split
  · decide
  · exact isP_of_isL (isL_letter (by omega))
theorem minusL_mem {v p : List UInt8} (hp : ∀ c ∈ p, isP c = true) : ∀ c ∈ minusL v p, isP c = true := by
  intro c hc
  unfold minusL at hc
  rw [List.mem_iff_getElem] at hc
  obtain ⟨i, hi, rfl⟩ := hc
  rw [List.getElem_zipWith]
  exact minusC_isP (hp _ (List.getElem_mem _))
theorem pv_minusL {v p : List UInt8} (hp : pv p = true) (h : v.length = p.length) : pv (minusL v p) = true := by
  have hl := pv_length hp
  rw [pv_all (by rw [length_minusL _ _ (by omega)]; exact hl), List.all_eq_true]
  exact minusL_mem (fun c hc => pv_mem hp hc)
theorem depth_fits {v p x k : List UInt8} (h : minusW v p = some k) : (wv x = true ∧ pv k = true ∧ x.length = k.length) ↔ (wv x = true ∧ pv p = true ∧ x.length = p.length) := by
  obtain ⟨h1, h2, h3, rfl⟩ := minusW_some_iff h
  rw [length_minusL _ _ (by omega)]
  simp [pv_minusL h2 h3, h2]

theorem sReadDepth_some (v p x : ByteArray) (k r : List UInt8) (w : World) (h : minusW (tl v) (tl p) = some k) (h2 : minusW (tl x) k = some r) :
    Calls Try.prog 34 #[.string v, .string p, .string x] w fun e w' => e = .returned (.tuple #[.string (mk r), .bool true]) ∧ Below w.heap.size w w' := by
  have hd := depth_fits (x := tl x) h
  obtain ⟨a1, a2, a3, a4⟩ := minusW_some_iff h
  obtain ⟨b1, b2, b3, b4⟩ := minusW_some_iff h2
  obtain ⟨_, _, c3⟩ := hd.1 ⟨b1, b2, b3⟩
  have hl := wv_length a1
  have hlx := wv_length b1
  rw [length_tl] at hl hlx
  have a3' : v.size = p.size := a3
  have c3' : x.size = p.size := c3
  have hle : p.size ≤ v.size := by omega
  have hk : k.length ≤ x.size := by rw [← b3, length_tl]; omega
  have HF := Lib.hid (show decide (wv (tl v) = true ∧ pv (tl p) = true ∧ (tl v).length = (tl p).length) = true by simp [a1, a2, a3])
  have HF2 := Lib.hid (show decide (wv (tl x) = true ∧ pv (tl p) = true ∧ (tl x).length = (tl p).length) = true by simp [b1, a2, c3])
  have A1 := Lib.hid a1
  have A2 := Lib.hid a2
  have B1 := Lib.hid b1
  have B2 := Lib.hid b2
  have A4 := Lib.hid a4
  have B4 := Lib.hid b4
  clear h h2 hd a1 a2 a3 a4 b1 b2 b3 b4 a3' c3 c3'
  go_enter Try.func34, Try.ntmps34
  go_wp2_with fail
  refine (l18Fits_is _ _ true _ HF.out).mono ?_
  rintro e w1 ⟨rfl, rfl⟩
  go_wp2_with fail
  refine (l18Fits_is _ _ true _ HF2.out).mono ?_
  rintro e w1 ⟨rfl, rfl⟩
  go_wp2_with fail
  refine (l18Minus_any v p _ (fun c hc => wv_mem A1.out hc) (fun c hc => pv_mem A2.out hc) hle (by omega)).mono ?_
  rintro e w1 ⟨rfl, hb⟩
  rw [← A4.out]
  go_wp2_with fail
  refine (l18Minus_any x (mk k) _ (fun c hc => wv_mem B1.out hc) (fun c hc => pv_mem B2.out hc) (by rw [size_mk]; exact hk) (by omega)).mono ?_
  rintro e w2 ⟨rfl, hb2⟩
  rw [tl_mk, ← B4.out]
  go_wp2_with fail
  go_ret2
  exact ⟨rfl, hb.trans (hb2.mono hb.size)⟩
theorem sReadDepth_none1 (v p x : ByteArray) (w : World) (h : minusW (tl v) (tl p) = none) :
    Calls Try.prog 34 #[.string v, .string p, .string x] w fun e w' => e = .returned (.tuple #[.string (mk []), .bool false]) ∧ Below w.heap.size w w' := by
  have HF := Lib.hid (show decide (wv (tl v) = true ∧ pv (tl p) = true ∧ (tl v).length = (tl p).length) = false by simpa using minusW_none_iff h)
  clear h
  go_enter Try.func34, Try.ntmps34
  go_wp2_with fail
  refine (l18Fits_is _ _ false _ HF.out).mono ?_
  rintro e w1 ⟨rfl, rfl⟩
  go_wp2_with fail
  go_ret2
  exact ⟨rfl, Below.refl _ _⟩
theorem sReadDepth_none2 (v p x : ByteArray) (k : List UInt8) (w : World) (h : minusW (tl v) (tl p) = some k) (h2 : minusW (tl x) k = none) :
    Calls Try.prog 34 #[.string v, .string p, .string x] w fun e w' => e = .returned (.tuple #[.string (mk []), .bool false]) ∧ Below w.heap.size w w' := by
  have hd := depth_fits (x := tl x) h
  obtain ⟨a1, a2, a3, a4⟩ := minusW_some_iff h
  have HF := Lib.hid (show decide (wv (tl v) = true ∧ pv (tl p) = true ∧ (tl v).length = (tl p).length) = true by simp [a1, a2, a3])
  have HF2 := Lib.hid (show decide (wv (tl x) = true ∧ pv (tl p) = true ∧ (tl x).length = (tl p).length) = false by
    rw [decide_eq_false_iff_not, ← hd]; exact minusW_none_iff h2)
  clear h h2 hd a1 a2 a3 a4
  go_enter Try.func34, Try.ntmps34
  go_wp2_with fail
  refine (l18Fits_is _ _ true _ HF.out).mono ?_
  rintro e w1 ⟨rfl, rfl⟩
  go_wp2_with fail
  refine (l18Fits_is _ _ false _ HF2.out).mono ?_
  rintro e w1 ⟨rfl, rfl⟩
  go_wp2_with fail
  go_ret2
  exact ⟨rfl, Below.refl _ _⟩

end Go.Proofs.Ytcgihkapcfpjcaa
