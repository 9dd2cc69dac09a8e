/-
  The walk of the law FnExactFormatBook: it returns true whatever the entries are; nothing that was there is changed. No conditions.
-/
import Derived.Test.YtfeonbiokilmdaaFmt
namespace Go.Proofs.Ytfeonbiokilmdaa
open Go.RowKit Pl
set_option linter.unusedVariables false

set_option maxHeartbeats 4000000 in
set_option maxRecDepth 100000 in
theorem fnExactFormatBook_walk (w : World) (A : Option Addr) (cap : Nat) (es : List (ByteArray × ByteArray)) (h : Rd w w.heap.size A (entV es)) (hc : es.length ≤ cap) (hm : cap ≤ maxLen) (hz : ∀ e ∈ es, e.1.size ≤ maxLen ∧ e.2.size ≤ maxLen) :
    Calls Try.prog 7 #[.slice A es.length cap] w fun e w' => e = .returned (.bool true) ∧ Below w.heap.size w w' := by
  have HR := Lib.hid h; have HZ := Lib.hid hz; have HB := Lib.hid (Below.refl w.heap.size w); clear h hz
  go_enter Try.func7, Try.ntmps7
  go_wp2_with fail
  refine (szEntryS_any w A cap es 1048576 HR.out hc hm HZ.out (by omega) (by omega)).mono ?_
  rintro _ w1 ⟨m, rfl, hm1, hb1⟩
  replace HB := Lib.hid (HB.out.trans (hb1.mono HB.out.size))
  replace HR := Lib.hid ((HR.out.below hb1).mono hb1.size)
  clear hb1
  rcases hm1 with rfl | ⟨m0, m1, hl, hsz⟩
  · go_wp2_with fail
    go_ret
    exact ⟨rfl, HB.out⟩
  clear hsz
  go_wp2_with fail
  refine (toEntryS_any _ A cap es HR.out hc hl).mono ?_
  rintro _ w3 ⟨v3, rfl, ho3, hb3⟩
  obtain ⟨A3, cap3, rfl, hc3, _, hr3⟩ := ownsRow_rd ho3
  replace HB := Lib.hid (HB.out.trans (hb3.mono HB.out.size))
  replace HR := Lib.hid ((HR.out.below hb3).mono hb3.size)
  clear hb3
  have HX := Lib.hid hr3; clear ho3 hr3
  go_wp2_with fail
  refine (sFormat_any _ _ A3 cap3 es HX.out hc3 hl).mono ?_
  rintro _ _ ⟨rfl, q, rfl⟩
  clear HX
  have hb4 : Below w3.heap.size w3 (w3.drewN q) := below_drewN' (Below.refl _ _) q
  obtain ⟨w4, hw4⟩ : ∃ w4, w4 = w3.drewN q := ⟨_, rfl⟩
  rw [← hw4] at hb4 ⊢
  replace HB := Lib.hid (HB.out.trans (hb4.mono HB.out.size))
  replace HR := Lib.hid ((HR.out.below hb4).mono hb4.size)
  clear hb4
  clear hw4
  go_wp2_with fail
  refine (toEntryS_any _ A cap es HR.out hc hl).mono ?_
  rintro _ w5 ⟨v5, rfl, ho5, hb5⟩
  obtain ⟨A5, cap5, rfl, hc5, _, hr5⟩ := ownsRow_rd ho5
  replace HB := Lib.hid (HB.out.trans (hb5.mono HB.out.size))
  replace HR := Lib.hid ((HR.out.below hb5).mono hb5.size)
  clear hb5
  have HX := Lib.hid hr5; clear ho5 hr5
  go_wp2_with fail
  refine (format_any _ A5 cap5 es HX.out hc5 HZ.out).mono ?_
  rintro _ w7 ⟨rfl, hb7⟩
  replace HB := Lib.hid (HB.out.trans (hb7.mono HB.out.size))
  replace HR := Lib.hid ((HR.out.below hb7).mono hb7.size)
  replace HX := Lib.hid ((HX.out.below hb7).mono hb7.size)
  clear hb7
  generalize fmtB es = r
  go_wp2_with fail
  refine (toEntryS_any _ A cap es HR.out hc hl).mono ?_
  rintro _ w8 ⟨v8, rfl, ho8, hb8⟩
  obtain ⟨A8, cap8, rfl, hc8, _, hr8⟩ := ownsRow_rd ho8
  replace HB := Lib.hid (HB.out.trans (hb8.mono HB.out.size))
  replace HX := Lib.hid ((HX.out.below hb8).mono hb8.size)
  clear hb8
  have HU := Lib.hid hr8; clear ho8 hr8
  go_wp2_with fail
  refine (eqEntryS_same _ A5 A8 cap5 cap8 es HX.out HU.out hl hc5 hc8).mono ?_
  rintro _ w9 ⟨rfl, hb9⟩
  replace HB := Lib.hid (HB.out.trans (hb9.mono HB.out.size))
  clear hb9
  clear HX HU
  go_wp2_with fail
  go_ret
  exact ⟨rfl, HB.out⟩

end Go.Proofs.Ytfeonbiokilmdaa
