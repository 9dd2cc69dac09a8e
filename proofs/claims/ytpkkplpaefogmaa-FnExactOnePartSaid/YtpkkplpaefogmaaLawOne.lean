/-
  The walk of the law FnExactOnePart: it returns true whatever the entries are; nothing that was there is changed. No conditions.
-/
import Derived.Test.YtpkkplpaefogmaaSortS
import Derived.Test.YtpkkplpaefogmaaDrawG
namespace Go.Proofs.Ytpkkplpaefogmaa
open Go.RowKit Pl
set_option linter.unusedVariables false

open Classical in
theorem one_bool (es : List (ByteArray × ByteArray)) : ∃ b : Bool, oneP es ↔ b = true := ⟨decide (oneP es), by simp⟩

set_option maxHeartbeats 4000000 in
theorem fnExactOnePart_walk (w : World) (A : Option Addr) (cap : Nat) (es : List (ByteArray × ByteArray)) (h : Rd w w.heap.size A (entV es)) (hc : es.length ≤ cap) (hm : cap ≤ maxLen) (hz : ∀ e ∈ es, e.1.size ≤ maxLen ∧ e.2.size ≤ maxLen) :
    Calls Try.prog 6 #[.slice A es.length cap] w fun e w' => e = .returned (.bool true) ∧ Below w.heap.size w w' := by
  have HR := Lib.hid h; have HZ := Lib.hid hz; clear h hz
  go_enter Try.func6, Try.ntmps6
  go_wp2_with fail
  refine (szEntryS_any w A cap es 1048576 HR.out hc hm HZ.out (by omega) (by omega)).mono ?_
  rintro _ w1 ⟨m, rfl, hm1, hb1⟩
  have HB1 := Lib.hid hb1; clear hb1
  rcases hm1 with rfl | ⟨m0, m1, hl, hsz⟩
  · go_wp2_with fail
    go_ret
    exact ⟨rfl, HB1.out⟩
  · clear hsz
    have HR1 := Lib.hid ((HR.out.below HB1.out).mono HB1.out.size); clear HR
    obtain ⟨b, hb⟩ := one_bool es
    have HBK := Lib.hid hb; clear hb
    go_wp2_with fail
    refine (toEntryS_any w1 A cap es HR1.out hc hl).mono ?_
    rintro _ w2 ⟨v2, rfl, ho2, hb2⟩
    obtain ⟨A2, cap2, rfl, hc2, hm2, hr2⟩ := ownsRow_rd ho2
    have HB2 := Lib.hid (HB1.out.trans (hb2.mono HB1.out.size))
    have HR2 := Lib.hid ((HR1.out.below hb2).mono hb2.size); clear ho2 hb2 HR1
    have HX2 := Lib.hid hr2; clear hr2
    go_wp2_with fail
    refine (sOne_any w2 A2 cap2 es b HBK.out HX2.out hc2 hl).mono ?_
    rintro _ w2b ⟨rfl, hb2b⟩
    have HB2b := Lib.hid (HB2.out.trans (hb2b.mono HB2.out.size))
    have HR2b := Lib.hid ((HR2.out.below hb2b).mono hb2b.size); clear hb2b HX2 HR2
    go_wp2_with fail
    refine (toEntryS_any w2b A cap es HR2b.out hc hl).mono ?_
    rintro _ w3 ⟨v3, rfl, ho3, hb3⟩
    obtain ⟨A3, cap3, rfl, hc3, hm3, hr3⟩ := ownsRow_rd ho3
    have HN3 := Lib.hid (own_none ho3)
    have HB3 := Lib.hid (HB2b.out.trans (hb3.mono HB2b.out.size))
    have HR3 := Lib.hid ((HR2b.out.below hb3).mono hb3.size); clear ho3 hb3 HR2b
    have HX3 := Lib.hid hr3; clear hr3
    go_wp2_with fail
    refine (onePart_any w3 A3 cap3 es b HBK.out HX3.out hc3 HN3.out HZ.out).mono ?_
    rintro _ w4 ⟨rfl, hb4⟩
    have HB4 := Lib.hid (HB3.out.trans (hb4.mono HB3.out.size))
    have HR4 := Lib.hid ((HR3.out.below hb4).mono hb4.size)
    have HX4 := Lib.hid ((HX3.out.below hb4).mono hb4.size); clear hb4 HR3 HX3
    have hbb : (b != b) = false := by simp
    go_wp2_with fail
    refine (toEntryS_any w4 A cap es HR4.out hc hl).mono ?_
    rintro _ w5 ⟨v5, rfl, ho5, hb5⟩
    obtain ⟨A5, cap5, rfl, hc5, hm5, hr5⟩ := ownsRow_rd ho5
    have HB5 := Lib.hid (HB4.out.trans (hb5.mono HB4.out.size))
    have HX5 := Lib.hid ((HX4.out.below hb5).mono hb5.size); clear ho5 hb5 HR4 HX4
    have HY5 := Lib.hid hr5; clear hr5
    go_wp2_with fail
    refine (eqEntryS_same w5 A3 A5 cap3 cap5 es HX5.out HY5.out hl hc3 hc5).mono ?_
    rintro _ w6 ⟨rfl, hb6⟩
    go_wp2_with fail
    go_ret
    exact ⟨rfl, HB5.out.trans (hb6.mono HB5.out.size)⟩

end Go.Proofs.Ytpkkplpaefogmaa
