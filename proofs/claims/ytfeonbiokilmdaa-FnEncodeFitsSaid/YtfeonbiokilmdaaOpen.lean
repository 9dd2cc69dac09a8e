/-
  Contracts of OpenCodes, of the program and of the reference. No conditions but those that each theorem names.
-/
import Derived.Test.YtfeonbiokilmdaaSeal
namespace Go.Proofs.Ytfeonbiokilmdaa
open Go.RowKit Pl
set_option linter.unusedVariables false

theorem open_no1 {es : List (ByteArray × ByteArray)} {s sheet : ByteArray} {st : Int} (h : sheetPart (tl sheet) st s.size = none) : openW es s sheet st = none := by unfold openW; rw [h]
theorem open_no2 {es : List (ByteArray × ByteArray)} {s sheet : ByteArray} {st : Int} {p : List UInt8} (h : sheetPart (tl sheet) st s.size = some p) (h2 : wv (tl s) = false) : combineW 9 (tl s) (tl (mk p)) = none ∧ openW es s sheet st = none := by
  have h3 : combineW 9 (tl s) p = none := by unfold combineW; rw [h2]; simp
  refine ⟨by rw [tl_mk]; exact h3, ?_⟩
  unfold openW; rw [h]; simp only; rw [h3]
theorem open_yes {es : List (ByteArray × ByteArray)} {s sheet : ByteArray} {st : Int} {p : List UInt8} (h : sheetPart (tl sheet) st s.size = some p) (h2 : wv (tl s) = true) : ∃ c, combineW 9 (tl s) (tl (mk p)) = some c ∧ openW es s sheet st = decW es (mk c) ∧ c.length ≤ 200 := by
  have h3 := part_wv' h
  have h4 : (tl s).length = p.length := by rw [length_tl]; omega
  have h5 := combineW_ok' (t := 9) ⟨h2, h3.1, h4⟩
  refine ⟨_, by rw [tl_mk]; exact h5, ?_, ?_⟩
  · unfold openW; rw [h]; simp only; rw [h5]
  · rw [combine_length _ _ _ h4]; exact wv_length h2
theorem ListedO.back {o : Option (List ByteArray)} {w w1 w2 : World} {e : Ending} (h : ListedO o w1 e w2) (hb : Below w.heap.size w w1) : ListedO o w e w2 := by
  obtain ⟨v, rfl, h1, h2⟩ := h
  exact ⟨v, rfl, ownsRow_base h1 hb.size, hb.trans (h2.mono hb.size)⟩
theorem slot_slice {v : Value} {w : World} {base : Nat} {e : TypeId} {size n : Nat} {xs : List Value} (h : w.ownsRow base e size v n xs) : ∃ A cap, v = .slice A n cap := by
  obtain ⟨h1, ⟨rfl, rfl⟩ | ⟨g, cap, cur, rfl, h2, h3⟩⟩ := h
  · exact ⟨_, _, rfl⟩
  · exact ⟨_, _, rfl⟩

set_option maxHeartbeats 4000000 in
theorem open_any (w : World) (A : Option Addr) (cap : Nat) (es : List (ByteArray × ByteArray)) (s sheet : ByteArray) (st : Int) (h : Rd w w.heap.size A (entV es)) (hc : es.length ≤ cap) (hz : ∀ e ∈ es, e.1.size ≤ maxLen ∧ e.2.size ≤ maxLen)
    (hs : s.size ≤ maxLen) (hst : -9223372036854775808 ≤ st ∧ st ≤ 9223372036854775807) :
    Calls Try.prog 50 #[.slice A es.length cap, .string s, .string sheet, .int .i64 st] w (ListedO (openW es s sheet st) w) := by
  have hs' : s.size ≤ 9223372036854775807 := hs
  obtain ⟨r, hr⟩ : ∃ r, r = openW es s sheet st := ⟨_, rfl⟩
  rw [← hr]
  have HRR := Lib.hid hr; have HS := Lib.hid hs; clear hr hs
  have HST := Lib.hid hst; have HR := Lib.hid h; have HZ := Lib.hid hz; clear hst h hz
  have HB := Lib.hid (Below.refl w.heap.size w)
  cases hp : sheetPart (tl sheet) st s.size with
  | none =>
    obtain rfl : r = none := by rw [HRR.out]; exact open_no1 hp
    have HP := Lib.hid hp; clear hp HRR
    go_enter Try.func50, Try.ntmps50
    go_wp2_with fail
    refine (sheetPart_none _ _ _ _ HST.out HP.out).mono ?_
    rintro _ _ ⟨rfl, rfl⟩
    go_wp2_with fail
    go_ret2
    exact listedNone w _ HB.out
  | some p =>
    cases hw : wv (tl s) with
    | false =>
      obtain ⟨hq, hr⟩ := open_no2 (es := es) hp hw
      obtain rfl : r = none := HRR.out.trans hr
      have HP := Lib.hid hp; have HQ := Lib.hid hq; clear hp HRR hq hr hw
      go_enter Try.func50, Try.ntmps50
      go_wp2_with fail
      refine (sheetPart_some _ _ _ p _ HP.out).mono ?_
      rintro _ _ ⟨rfl, rfl⟩
      go_wp2_with fail
      refine (subWords_none s (mk p) _ HQ.out).mono ?_
      rintro _ w2 ⟨rfl, hb2⟩
      replace HB := Lib.hid (HB.out.trans (hb2.mono HB.out.size))
      clear hb2
      go_wp2_with fail
      go_ret2
      exact listedNone w _ HB.out
    | true =>
      obtain ⟨c, hq, hr, hcl⟩ := open_yes (es := es) hp hw
      have hr' := HRR.out.trans hr
      have HP := Lib.hid hp; have HQ := Lib.hid hq; have HRC := Lib.hid hr'; clear hp HRR hq hr hw hr'
      go_enter Try.func50, Try.ntmps50
      go_wp2_with fail
      refine (sheetPart_some _ _ _ p _ HP.out).mono ?_
      rintro _ _ ⟨rfl, rfl⟩
      go_wp2_with fail
      refine (subWords_some s (mk p) c _ HQ.out).mono ?_
      rintro _ w2 ⟨rfl, hb2⟩
      replace HB := Lib.hid (HB.out.trans (hb2.mono HB.out.size))
      replace HR := Lib.hid ((HR.out.below hb2).mono hb2.size)
      clear hb2
      go_wp2_with fail
      refine (decode_any w2 A cap es (mk c) HR.out hc HZ.out (by rw [size_mk]; unfold maxLen; omega)).mono ?_
      rintro e w3 hd
      rw [← HRC.out] at hd
      have hd := hd.back HB.out
      obtain ⟨v, rfl, hown, hbel⟩ := hd
      obtain ⟨A9, cap9, rfl⟩ := slot_slice hown
      have HOWN := Lib.hid hown; have HBEL := Lib.hid hbel; clear hown hbel
      go_wp2_with fail
      go_ret2
      exact ⟨_, rfl, HOWN.out, HBEL.out⟩

theorem listedMade' (w w' : World) (g : Nat) (hg : g = w'.heap.size) (hb : Below w.heap.size w w') : ListedO none w (.returned (.tuple #[.slice (some ⟨g, 0, none⟩) 0 0, .bool false])) (w'.alloc (.cells #[] 9)) := listedMade w w' g hg hb

set_option maxHeartbeats 4000000 in
theorem sOpen_any (w : World) (A : Option Addr) (cap : Nat) (es : List (ByteArray × ByteArray)) (s sheet : ByteArray) (st : Int) (h : Rd w w.heap.size A (entV es)) (hc : es.length ≤ cap) (hm : es.length ≤ 1048576)
    (hs : s.size ≤ maxLen) (hst : -9223372036854775808 ≤ st ∧ st ≤ 9223372036854775807) :
    Calls Try.prog 52 #[.slice A es.length cap, .string s, .string sheet, .int .i64 st] w (ListedO (openW es s sheet st) w) := by
  have hs' : s.size ≤ 9223372036854775807 := hs
  obtain ⟨r, hr⟩ : ∃ r, r = openW es s sheet st := ⟨_, rfl⟩
  rw [← hr]
  have HRR := Lib.hid hr; have HS := Lib.hid hs; clear hr hs
  have HST := Lib.hid hst; have HR := Lib.hid h; clear hst h
  have HB := Lib.hid (Below.refl w.heap.size w)
  cases hp : sheetPart (tl sheet) st s.size with
  | none =>
    obtain rfl : r = none := by rw [HRR.out]; exact open_no1 hp
    have HP := Lib.hid hp; clear hp HRR
    go_enter Try.func52, Try.ntmps52
    go_wp2_with fail
    refine (sSheetPart_none _ _ _ _ HST.out HP.out).mono ?_
    rintro _ _ ⟨rfl, rfl⟩
    go_wp2_with fail
    go_ret2
    exact listedMade w _ _ (by simp) HB.out
  | some p =>
    cases hw : wv (tl s) with
    | false =>
      obtain ⟨hq, hr⟩ := open_no2 (es := es) hp hw
      obtain rfl : r = none := HRR.out.trans hr
      have HP := Lib.hid hp; have HW := Lib.hid hw; clear hp HRR hq hr hw
      go_enter Try.func52, Try.ntmps52
      go_wp2_with fail
      refine (sSheetPart_some _ _ _ p _ HP.out).mono ?_
      rintro _ _ ⟨rfl, rfl⟩
      go_wp2_with fail
      refine (sWordValid_is s false _ HW.out).mono ?_
      rintro _ _ ⟨rfl, rfl⟩
      go_wp2_with fail
      go_ret2
      exact listedMade w _ _ (by simp) HB.out
    | true =>
      obtain ⟨c, hq, hr, hcl⟩ := open_yes (es := es) hp hw
      have hr' := HRR.out.trans hr
      have HP := Lib.hid hp; have HQ := Lib.hid hq; have HRC := Lib.hid hr'; have HW := Lib.hid hw; clear hp HRR hq hr hw hr'
      go_enter Try.func52, Try.ntmps52
      go_wp2_with fail
      refine (sSheetPart_some _ _ _ p _ HP.out).mono ?_
      rintro _ _ ⟨rfl, rfl⟩
      go_wp2_with fail
      refine (sWordValid_is s true _ HW.out).mono ?_
      rintro _ _ ⟨rfl, rfl⟩
      go_wp2_with fail
      refine (sSubWords_some s (mk p) c _ HQ.out).mono ?_
      rintro _ w2 ⟨rfl, hb2⟩
      replace HB := Lib.hid (HB.out.trans (hb2.mono HB.out.size))
      replace HR := Lib.hid ((HR.out.below hb2).mono hb2.size)
      clear hb2
      go_wp2_with fail
      refine (sDecode_any w2 A cap es (mk c) HR.out hc hm (by rw [size_mk]; unfold maxLen; omega)).mono ?_
      rintro e w3 hd
      rw [← HRC.out] at hd
      have hd := hd.back HB.out
      obtain ⟨v, rfl, hown, hbel⟩ := hd
      obtain ⟨A9, cap9, rfl⟩ := slot_slice hown
      have HOWN := Lib.hid hown; have HBEL := Lib.hid hbel; clear hown hbel
      go_wp2_with fail
      go_ret2
      exact ⟨_, rfl, HOWN.out, HBEL.out⟩

end Go.Proofs.Ytfeonbiokilmdaa
