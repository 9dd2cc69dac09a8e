/-
  The walk of the law FnExactParseBook: it returns true whatever the string is; nothing that was there is changed. Condition: the library's own bound is some integer.
-/
import Derived.Test.YtlnppdpbhoapfaaDoorParse
import Derived.Test.YtlnppdpbhoapfaaDoorMark
namespace Go.Proofs.YtlnppdpbhoapfaaDoor
open Go.RowKit Pl
set_option linter.unusedVariables false

theorem parse_len (s : ByteArray) : ((parseW s).getD []).length ≤ 20 := by
  cases h : parseW s with
  | none => simp
  | some es => exact (parseW_some h).1.1

set_option maxHeartbeats 8000000 in
theorem fnExactParseBook_walk (w : World) (hml : ML w) (s : ByteArray) (hs : s.size ≤ maxLen) :
    Calls Tryd.prog 3 #[.string s] w fun e w' => e = .returned (.bool true) ∧ Below w.heap.size w w' := by
  have hs' : s.size ≤ 9223372036854775807 := hs
  clear hs
  by_cases hbig : 1048576 < s.size
  · go_enter Tryd.func3, Tryd.ntmps3
    go_wp2_with fail
    go_ret
    exact ⟨rfl, Below.refl _ _⟩
  have HML := Lib.hid hml; have HB := Lib.hid (Below.refl w.heap.size w); clear hml
  go_enter Tryd.func3, Tryd.ntmps3
  go_wp2_with fail
  refine (sParse_any w s (by omega)).mono ?_
  rintro _ w3 ⟨v3, rfl, ho3, hb3⟩
  obtain ⟨r, hr⟩ : ∃ r, r = parseW s := ⟨_, rfl⟩
  rw [← hr] at ho3 ⊢
  have HRR := Lib.hid hr; clear hr
  have hrl : (r.getD []).length ≤ 20 := by rw [HRR.out]; exact parse_len s
  replace HB := Lib.hid (HB.out.trans (hb3.mono HB.out.size))
  clear hb3
  obtain ⟨A3, cap3, rfl⟩ := slot_slice ho3
  have HW := Lib.hid ho3; clear ho3
  go_wp2_with fail
  refine (parse_any w3 s (HML.out.below HB.out (Nat.le_refl _)) (by omega)).mono ?_
  have AT5 := Lib.hid HB.out.size
  rintro _ w5 ⟨v5, rfl, ho5, hb5⟩
  rw [← HRR.out] at ho5 ⊢
  have AP2 := Lib.hid (own_apart HW.out ho5 (Nat.le_refl _))
  replace HB := Lib.hid (HB.out.trans (hb5.mono HB.out.size))
  replace HW := Lib.hid (ownsRow_below HW.out hb5)
  clear hb5
  obtain ⟨A5, cap5, rfl⟩ := slot_slice ho5
  have HG := Lib.hid ho5; clear ho5
  obtain ⟨b, hb⟩ : ∃ b, b = r.isSome := ⟨_, rfl⟩
  rw [← hb]
  have HBB := Lib.hid hb; clear hb
  have hbb : (b != b) = false := by simp
  obtain ⟨l, hll⟩ : ∃ l, l = r.getD [] := ⟨_, rfl⟩
  rw [← hll] at HW HG hrl AP2
  rw [← hll]
  have HLL := Lib.hid hll; clear hll
  go_wp2_with fail
  refine (eqEntryS_same _ A5 A3 cap5 cap3 l (own_rd HG.out) (own_rd HW.out) (by omega) (own_le HG.out) (own_le HW.out)).mono ?_
  rintro _ w6 ⟨rfl, hb6⟩
  replace HB := Lib.hid (HB.out.trans (hb6.mono HB.out.size))
  replace HW := Lib.hid (ownsRow_below HW.out hb6)
  replace HG := Lib.hid (ownsRow_below HG.out hb6)
  clear hb6
  go_wp2_with fail
  refine (markEntryS_any _ _ _ l.length 1 _ HG.out (by omega) (by omega) (by omega)).mono ?_
  rintro _ w11 ⟨rfl, ho11, hg11⟩
  replace HB := Lib.hid (HB.out.grown hg11 HB.out.size fun k hk => Nat.le_trans (AT5.out) (HG.out.lt k hk).1)
  replace HW := Lib.hid (HW.out.kept hg11 AP2.out)
  replace HG := Lib.hid ho11
  clear ho11 hg11 AP2
  go_wp2_with fail
  refine (heldEntryS_any _ A5 cap5 l.length 1 (own_rd HG.out) (own_le HG.out) (by omega) (by omega) (by omega)).mono ?_
  rintro _ w12 ⟨rfl, hb12⟩
  replace HB := Lib.hid (HB.out.trans (hb12.mono HB.out.size))
  replace HW := Lib.hid (ownsRow_below HW.out hb12)
  replace HG := Lib.hid (ownsRow_below HG.out hb12)
  clear hb12
  go_wp2_with fail
  refine (parse_any _ s (HML.out.below HB.out (Nat.le_refl _)) (by omega)).mono ?_
  rintro _ w14 ⟨v14, rfl, ho14, hb14⟩
  rw [← HRR.out] at ho14 ⊢
  rw [← HBB.out]
  rw [← HLL.out] at ho14
  replace HB := Lib.hid (HB.out.trans (hb14.mono HB.out.size))
  replace HW := Lib.hid (ownsRow_below HW.out hb14)
  replace HG := Lib.hid (ownsRow_below HG.out hb14)
  clear hb14
  obtain ⟨A14, cap14, rfl⟩ := slot_slice ho14
  have HH := Lib.hid ho14; clear ho14
  go_wp2_with fail
  refine (eqEntryS_same _ A14 A3 cap14 cap3 l (own_rd HH.out) (own_rd HW.out) (by omega) (own_le HH.out) (own_le HW.out)).mono ?_
  rintro _ w15 ⟨rfl, hb15⟩
  replace HB := Lib.hid (HB.out.trans (hb15.mono HB.out.size))
  replace HG := Lib.hid (ownsRow_below HG.out hb15)
  clear hb15
  go_wp2_with fail
  refine (heldEntryS_any _ A5 cap5 l.length 1 (own_rd HG.out) (own_le HG.out) (by omega) (by omega) (by omega)).mono ?_
  rintro _ w16 ⟨rfl, hb16⟩
  replace HB := Lib.hid (HB.out.trans (hb16.mono HB.out.size))
  clear hb16
  go_wp2_with fail
  go_ret
  exact ⟨rfl, HB.out⟩

end Go.Proofs.YtlnppdpbhoapfaaDoor
