/-
  The walk of the law FnExactSortBook: it returns true whatever the entries and the string are; nothing that was there is changed. No conditions.
-/
import Derived.Test.YtpkkplpaefogmaaSortS
import Derived.Test.YtpkkplpaefogmaaMark
import Derived.Test.YtpkkplpaefogmaaDrawG
namespace Go.Proofs.Ytpkkplpaefogmaa
open Go.RowKit Pl
set_option linter.unusedVariables false

theorem sort_len (es : List Ent) : ((sortW es).getD []).length ≤ 1048576 := by
  by_cases h : bookV es
  · rw [sortW_ok h, Option.getD_some, length_sortE]; have := h.1; omega
  · rw [sortW_no h]; simp

set_option maxHeartbeats 8000000 in
theorem fnExactSortBook_walk (w : World) (A : Option Addr) (cap : Nat) (es : List (ByteArray × ByteArray)) (h : Rd w w.heap.size A (entV es)) (hc : es.length ≤ cap) (hm : cap ≤ maxLen) (hz : ∀ e ∈ es, e.1.size ≤ maxLen ∧ e.2.size ≤ maxLen) :
    Calls Try.prog 7 #[.slice A es.length cap] w fun e w' => e = .returned (.bool true) ∧ Below w.heap.size w w' := by
  have HR0 := Lib.hid h; have HZ := Lib.hid hz; have HB := Lib.hid (Below.refl w.heap.size w); clear h hz
  go_enter Try.func7, Try.ntmps7
  go_wp2_with fail
  refine (szEntryS_any w A cap es 1048576 HR0.out hc hm HZ.out (by omega) (by omega)).mono ?_
  rintro _ w1 ⟨m, rfl, hm1, hb1⟩
  replace HB := Lib.hid (HB.out.trans (hb1.mono HB.out.size))
  clear hb1
  rcases hm1 with rfl | ⟨m0, m1, hl, hsz⟩
  · go_wp2_with fail
    go_ret
    exact ⟨rfl, HB.out⟩
  clear hsz
  go_wp2_with fail
  refine (toEntryS_any _ A cap es ((HR0.out.below HB.out).mono HB.out.size) hc hl).mono ?_
  rintro _ w2 ⟨v2, rfl, ho2, hb2⟩
  obtain ⟨A2, cap2, rfl, hc2, _, hr2⟩ := ownsRow_rd ho2
  replace HB := Lib.hid (HB.out.trans (hb2.mono HB.out.size))
  clear hb2
  have HX := Lib.hid hr2; clear ho2 hr2
  go_wp2_with fail
  refine (sSort_any w2 A2 cap2 es HX.out hc2 hl).mono ?_
  rintro _ w3 ⟨v3, rfl, ho3, hb3⟩
  obtain ⟨r, hr⟩ : ∃ r, r = sortW es := ⟨_, rfl⟩
  rw [← hr] at ho3 ⊢
  have HRR := Lib.hid hr; clear hr
  have hrl : (r.getD []).length ≤ 1048576 := by rw [HRR.out]; exact sort_len es
  replace HB := Lib.hid (HB.out.trans (hb3.mono HB.out.size))
  clear hb3
  obtain ⟨A3, cap3, rfl⟩ := slot_slice ho3
  have HW := Lib.hid ho3; clear HX ho3
  go_wp2_with fail
  refine (toEntryS_any _ A cap es ((HR0.out.below HB.out).mono HB.out.size) hc hl).mono ?_
  have HB3S := Lib.hid HB.out.size
  rintro _ w4 ⟨v4, rfl, ho4, hb4⟩
  have AP1 := Lib.hid (own_apart HW.out ho4 (Nat.le_refl _))
  replace HB := Lib.hid (HB.out.trans (hb4.mono HB.out.size))
  replace HW := Lib.hid (ownsRow_below HW.out hb4)
  clear hb4
  obtain ⟨A4, cap4, rfl⟩ := slot_slice ho4
  have AT4 := Lib.hid (HB3S.out); have HX := Lib.hid ho4; clear ho4
  go_wp2_with fail
  refine (sort_any w4 A4 cap4 es (own_rd HX.out) (own_le HX.out) (own_none HX.out) HZ.out).mono ?_
  have AT5 := Lib.hid HB.out.size
  rintro _ w5 ⟨v5, rfl, ho5, hb5⟩
  rw [← HRR.out] at ho5 ⊢
  have AP2 := Lib.hid (own_apart HW.out ho5 (Nat.le_refl _))
  have AP3 := Lib.hid (own_apart HX.out ho5 (Nat.le_refl _))
  replace HB := Lib.hid (HB.out.trans (hb5.mono HB.out.size))
  replace HW := Lib.hid (ownsRow_below HW.out hb5)
  replace HX := Lib.hid (ownsRow_below HX.out hb5)
  clear hb5
  obtain ⟨A5, cap5, rfl⟩ := slot_slice ho5
  have HG := Lib.hid ho5; clear ho5
  obtain ⟨b, hb⟩ : ∃ b, b = r.isSome := ⟨_, rfl⟩
  rw [← hb]
  have HBB := Lib.hid hb; clear hb
  have hbb : (b != b) = false := by simp
  obtain ⟨l, hll⟩ : ∃ l, l = r.getD [] := ⟨_, rfl⟩
  rw [← hll] at HW HG hrl AP1 AP2 AP3
  rw [← hll]
  have HLL := Lib.hid hll; clear hll
  go_wp2_with fail
  refine (eqEntryS_same _ A5 A3 cap5 cap3 l (own_rd HG.out) (own_rd HW.out) hrl (own_le HG.out) (own_le HW.out)).mono ?_
  rintro _ w6 ⟨rfl, hb6⟩
  replace HB := Lib.hid (HB.out.trans (hb6.mono HB.out.size))
  replace HW := Lib.hid (ownsRow_below HW.out hb6)
  replace HX := Lib.hid (ownsRow_below HX.out hb6)
  replace HG := Lib.hid (ownsRow_below HG.out hb6)
  clear hb6
  go_wp2_with fail
  refine (toEntryS_any _ A cap es ((HR0.out.below HB.out).mono HB.out.size) hc hl).mono ?_
  rintro _ w7 ⟨v7, rfl, ho7, hb7⟩
  obtain ⟨A7, cap7, rfl⟩ := slot_slice ho7
  replace HB := Lib.hid (HB.out.trans (hb7.mono HB.out.size))
  replace HW := Lib.hid (ownsRow_below HW.out hb7)
  replace HX := Lib.hid (ownsRow_below HX.out hb7)
  replace HG := Lib.hid (ownsRow_below HG.out hb7)
  clear hb7
  have HU := Lib.hid ho7; clear ho7
  go_wp2_with fail
  refine (eqEntryS_same _ A4 A7 cap4 cap7 es (own_rd HX.out) (own_rd HU.out) hl (own_le HX.out) (own_le HU.out)).mono ?_
  rintro _ w8 ⟨rfl, hb8⟩
  replace HB := Lib.hid (HB.out.trans (hb8.mono HB.out.size))
  replace HW := Lib.hid (ownsRow_below HW.out hb8)
  replace HX := Lib.hid (ownsRow_below HX.out hb8)
  replace HG := Lib.hid (ownsRow_below HG.out hb8)
  clear hb8
  clear HU
  go_wp2_with fail
  refine (markEntryS_any _ _ _ es.length 1 _ HX.out hl (by omega) (by omega)).mono ?_
  rintro _ w9 ⟨rfl, ho9, hg9⟩
  replace HB := Lib.hid (HB.out.grown hg9 HB.out.size fun k hk => Nat.le_trans (AT4.out) (HX.out.lt k hk).1)
  replace HW := Lib.hid (HW.out.kept hg9 AP1.out)
  replace HG := Lib.hid (HG.out.kept hg9 (own_apart' AP3.out))
  clear ho9 hg9 HX AP1 AP3
  go_wp2_with fail
  refine (eqEntryS_same _ A5 A3 cap5 cap3 l (own_rd HG.out) (own_rd HW.out) hrl (own_le HG.out) (own_le HW.out)).mono ?_
  rintro _ w10 ⟨rfl, hb10⟩
  replace HB := Lib.hid (HB.out.trans (hb10.mono HB.out.size))
  replace HW := Lib.hid (ownsRow_below HW.out hb10)
  replace HG := Lib.hid (ownsRow_below HG.out hb10)
  clear hb10
  go_wp2_with fail
  refine (markEntryS_any _ _ _ l.length 1 _ HG.out hrl (by omega) (by omega)).mono ?_
  rintro _ w11 ⟨rfl, ho11, hg11⟩
  replace HB := Lib.hid (HB.out.grown hg11 HB.out.size fun k hk => Nat.le_trans (AT5.out) (HG.out.lt k hk).1)
  replace HW := Lib.hid (HW.out.kept hg11 AP2.out)
  replace HG := Lib.hid ho11
  clear ho11 hg11 AP2
  go_wp2_with fail
  refine (heldEntryS_any _ A5 cap5 l.length 1 (own_rd HG.out) (own_le HG.out) hrl (by omega) (by omega)).mono ?_
  rintro _ w12 ⟨rfl, hb12⟩
  replace HB := Lib.hid (HB.out.trans (hb12.mono HB.out.size))
  replace HW := Lib.hid (ownsRow_below HW.out hb12)
  replace HG := Lib.hid (ownsRow_below HG.out hb12)
  clear hb12
  go_wp2_with fail
  refine (toEntryS_any _ A cap es ((HR0.out.below HB.out).mono HB.out.size) hc hl).mono ?_
  rintro _ w13 ⟨v13, rfl, ho13, hb13⟩
  obtain ⟨A13, cap13, rfl⟩ := slot_slice ho13
  replace HB := Lib.hid (HB.out.trans (hb13.mono HB.out.size))
  replace HW := Lib.hid (ownsRow_below HW.out hb13)
  replace HG := Lib.hid (ownsRow_below HG.out hb13)
  clear hb13
  have HX := Lib.hid ho13; clear ho13
  go_wp2_with fail
  refine (sort_any w13 A13 cap13 es (own_rd HX.out) (own_le HX.out) (own_none HX.out) HZ.out).mono ?_
  rintro _ w14 ⟨v14, rfl, ho14, hb14⟩
  rw [← HRR.out] at ho14 ⊢
  rw [← HBB.out]
  rw [← HLL.out] at ho14
  replace HB := Lib.hid (HB.out.trans (hb14.mono HB.out.size))
  replace HW := Lib.hid (ownsRow_below HW.out hb14)
  replace HG := Lib.hid (ownsRow_below HG.out hb14)
  clear hb14
  obtain ⟨A14, cap14, rfl⟩ := slot_slice ho14
  have HH := Lib.hid ho14; clear ho14
  go_wp2_with fail
  refine (eqEntryS_same _ A14 A3 cap14 cap3 l (own_rd HH.out) (own_rd HW.out) hrl (own_le HH.out) (own_le HW.out)).mono ?_
  rintro _ w15 ⟨rfl, hb15⟩
  replace HB := Lib.hid (HB.out.trans (hb15.mono HB.out.size))
  replace HG := Lib.hid (ownsRow_below HG.out hb15)
  clear hb15
  go_wp2_with fail
  refine (heldEntryS_any _ A5 cap5 l.length 1 (own_rd HG.out) (own_le HG.out) hrl (by omega) (by omega)).mono ?_
  rintro _ w16 ⟨rfl, hb16⟩
  replace HB := Lib.hid (HB.out.trans (hb16.mono HB.out.size))
  clear hb16
  go_wp2_with fail
  go_ret
  exact ⟨rfl, HB.out⟩

end Go.Proofs.Ytpkkplpaefogmaa
