/-
  Contracts of SealCodes and OpenCodes, of the program and of the reference. No conditions but those that each theorem names.
-/
import Derived.Test.YtfeonbiokilmdaaDec
import Derived.Test.YtfeonbiokilmdaaComb
import Derived.Test.YtfeonbiokilmdaaMix
namespace Go.Proofs.Ytfeonbiokilmdaa
open Go.RowKit Pl
set_option linter.unusedVariables false

theorem seal_no1 {es : List (ByteArray × ByteArray)} {ws : List ByteArray} {sheet : ByteArray} {st : Int} (h : encW es ws = none) : sealW es ws sheet st = none := by unfold sealW; rw [h]
theorem seal_no2 {es : List (ByteArray × ByteArray)} {ws : List ByteArray} {sheet c : ByteArray} {st : Int} (h : encW es ws = some c) (h2 : sheetPart (tl sheet) st c.size = none) : sealW es ws sheet st = none := by unfold sealW; rw [h]; simp only; rw [h2]
theorem seal_yes {es : List (ByteArray × ByteArray)} {ws : List ByteArray} {sheet c : ByteArray} {st : Int} {p : List UInt8} (h : encW es ws = some c) (h2 : sheetPart (tl sheet) st c.size = some p) : ∃ r, combineW 1 (tl c) (tl (mk p)) = some r ∧ sealW es ws sheet st = some (mk r) := by
  have h1 := (encW_some h).2.2.2.2.2
  have h3 := part_wv' h2
  have h4 : (tl c).length = p.length := by rw [length_tl]; omega
  have h5 := combineW_ok' (t := 1) ⟨h1, h3.1, h4⟩
  refine ⟨_, by rw [tl_mk]; exact h5, ?_⟩
  unfold sealW; rw [h]; simp only; rw [h2]; simp only; rw [h5]; rfl
theorem enc_size {es : List (ByteArray × ByteArray)} {ws : List ByteArray} {c : ByteArray} (h : encW es ws = some c) : c.size ≤ 200 := by have := encW_some h; omega

set_option maxHeartbeats 4000000 in
theorem seal_any (w : World) (A A' : Option Addr) (cap cap' : Nat) (es : List (ByteArray × ByteArray)) (ws : List ByteArray) (sheet : ByteArray) (st : Int) (h : Rd w w.heap.size A (entV es)) (hc : es.length ≤ cap) (hz : ∀ e ∈ es, e.1.size ≤ maxLen ∧ e.2.size ≤ maxLen)
    (h' : Rd w w.heap.size A' (strV ws)) (hc' : ws.length ≤ cap') (hm' : ws.length ≤ 1048576) (hz' : ∀ s ∈ ws, s.size ≤ maxLen) (hst : -9223372036854775808 ≤ st ∧ st ≤ 9223372036854775807) :
    Calls Try.prog 45 #[.slice A es.length cap, .slice A' ws.length cap', .string sheet, .int .i64 st] w fun e w' => e = .returned (.tuple #[.string (strO (sealW es ws sheet st)), .bool (sealW es ws sheet st).isSome]) ∧ Below w.heap.size w w' := by
  obtain ⟨r, hr⟩ : ∃ r, r = sealW es ws sheet st := ⟨_, rfl⟩
  rw [← hr]
  have HRR := Lib.hid hr; clear hr
  have HST := Lib.hid hst; clear hst
  go_enter Try.func45, Try.ntmps45
  go_wp2_with fail
  refine (encode_any w A A' cap cap' es ws h hc hz h' hc' hm' hz').mono ?_
  rintro _ w1 ⟨rfl, hb1⟩
  have HB := Lib.hid hb1; clear hb1 h hz h' hz'
  cases he : encW es ws with
  | none =>
    obtain rfl : r = none := by rw [HRR.out]; exact seal_no1 he
    have HE := Lib.hid he; clear HRR he
    simp only [strO, Option.isSome_none]
    have hz0 : (mk []).size = 0 := rfl
    go_wp2_with fail
    cases hp : sheetPart (tl sheet) st 0 with
    | none =>
      refine (sheetPart_none _ _ _ _ HST.out (by simpa [size_mk] using hp)).mono ?_
      rintro _ _ ⟨rfl, rfl⟩
      clear hp
      go_wp2_with fail
      go_ret2
      exact ⟨rfl, HB.out⟩
    | some p =>
      refine (sheetPart_some _ _ _ p _ (by simpa [size_mk] using hp)).mono ?_
      rintro _ _ ⟨rfl, rfl⟩
      clear hp
      go_wp2_with fail
      go_ret2
      exact ⟨rfl, HB.out⟩
  | some c =>
    have hcz := enc_size he
    simp only [strO, Option.isSome_some]
    cases hp : sheetPart (tl sheet) st c.size with
    | none =>
      obtain rfl : r = none := by rw [HRR.out]; exact seal_no2 he hp
      have HP := Lib.hid hp; clear HRR he hp
      go_wp2_with fail
      refine (sheetPart_none _ _ _ _ HST.out HP.out).mono ?_
      rintro _ _ ⟨rfl, rfl⟩
      go_wp2_with fail
      go_ret2
      exact ⟨rfl, HB.out⟩
    | some p =>
      obtain ⟨q, hq, hq2⟩ := seal_yes he hp
      obtain rfl : r = some (mk q) := HRR.out.trans hq2
      have HP := Lib.hid hp; have HQ := Lib.hid hq; clear HRR he hp hq hq2
      go_wp2_with fail
      refine (sheetPart_some _ _ _ p _ HP.out).mono ?_
      rintro _ _ ⟨rfl, rfl⟩
      go_wp2_with fail
      refine (addWords_some c (mk p) q _ HQ.out).mono ?_
      rintro _ w2 ⟨rfl, hb2⟩
      replace HB := Lib.hid (HB.out.trans (hb2.mono HB.out.size))
      clear hb2
      go_wp2_with fail
      go_ret2
      exact ⟨rfl, HB.out⟩

set_option maxHeartbeats 4000000 in
theorem sSeal_any (w : World) (B B' : Nat) (A A' : Option Addr) (cap cap' : Nat) (es : List (ByteArray × ByteArray)) (ws : List ByteArray) (sheet : ByteArray) (st : Int) (h : Rd w B A (entV es)) (hc : es.length ≤ cap) (hm : es.length ≤ 1048576)
    (h' : Rd w B' A' (strV ws)) (hc' : ws.length ≤ cap') (hm' : ws.length ≤ 1048576) (hst : -9223372036854775808 ≤ st ∧ st ≤ 9223372036854775807) :
    Calls Try.prog 46 #[.slice A es.length cap, .slice A' ws.length cap', .string sheet, .int .i64 st] w fun e w' => e = .returned (.tuple #[.string (strO (sealW es ws sheet st)), .bool (sealW es ws sheet st).isSome]) ∧ Below w.heap.size w w' := by
  obtain ⟨r, hr⟩ : ∃ r, r = sealW es ws sheet st := ⟨_, rfl⟩
  rw [← hr]
  have HRR := Lib.hid hr; clear hr
  have HST := Lib.hid hst; clear hst
  have HB := Lib.hid (Below.refl w.heap.size w)
  go_enter Try.func46, Try.ntmps46
  go_wp2_with fail
  refine (sEncode_any w _ _ A A' cap cap' es ws h hc hm h' hc' hm').mono ?_
  rintro _ _ ⟨rfl, rfl⟩
  clear h h'
  cases he : encW es ws with
  | none =>
    obtain rfl : r = none := by rw [HRR.out]; exact seal_no1 he
    have HE := Lib.hid he; clear HRR he
    simp only [strO, Option.isSome_none]
    have hz0 : (mk []).size = 0 := rfl
    go_wp2_with fail
    cases hp : sheetPart (tl sheet) st 0 with
    | none =>
      refine (sSheetPart_none _ _ _ _ HST.out (by simpa [size_mk] using hp)).mono ?_
      rintro _ _ ⟨rfl, rfl⟩
      clear hp
      go_wp2_with fail
      go_ret2
      exact ⟨rfl, HB.out⟩
    | some p =>
      refine (sSheetPart_some _ _ _ p _ (by simpa [size_mk] using hp)).mono ?_
      rintro _ _ ⟨rfl, rfl⟩
      clear hp
      go_wp2_with fail
      go_ret2
      exact ⟨rfl, HB.out⟩
  | some c =>
    have hcz := enc_size he
    simp only [strO, Option.isSome_some]
    cases hp : sheetPart (tl sheet) st c.size with
    | none =>
      obtain rfl : r = none := by rw [HRR.out]; exact seal_no2 he hp
      have HP := Lib.hid hp; clear HRR he hp
      go_wp2_with fail
      refine (sSheetPart_none _ _ _ _ HST.out HP.out).mono ?_
      rintro _ _ ⟨rfl, rfl⟩
      go_wp2_with fail
      go_ret2
      exact ⟨rfl, HB.out⟩
    | some p =>
      obtain ⟨q, hq, hq2⟩ := seal_yes he hp
      obtain rfl : r = some (mk q) := HRR.out.trans hq2
      have HP := Lib.hid hp; have HQ := Lib.hid hq; clear HRR he hp hq hq2
      go_wp2_with fail
      refine (sSheetPart_some _ _ _ p _ HP.out).mono ?_
      rintro _ _ ⟨rfl, rfl⟩
      go_wp2_with fail
      refine (sAddWords_some c (mk p) q _ HQ.out).mono ?_
      rintro _ w2 ⟨rfl, hb2⟩
      replace HB := Lib.hid (HB.out.trans (hb2.mono HB.out.size))
      clear hb2
      go_wp2_with fail
      go_ret2
      exact ⟨rfl, HB.out⟩

end Go.Proofs.Ytfeonbiokilmdaa
