/-
  The walk of the law FnExactSealCodes: it returns true whatever the entries, the words, the sheet and the start are; nothing that was there is changed. No conditions.
-/
import Derived.Test.YtggecpiiphjnaaaSeal
namespace Go.Proofs.Ytggecpiiphjnaaa
open Go.RowKit Pl
set_option linter.unusedVariables false

set_option maxHeartbeats 4000000 in
theorem fnExactSealCodes_walk (w : World) (A : Option Addr) (cap : Nat) (es : List (ByteArray × ByteArray)) (h : Rd w w.heap.size A (entV es)) (hc : es.length ≤ cap) (hm : cap ≤ maxLen) (hz : ∀ e ∈ es, e.1.size ≤ maxLen ∧ e.2.size ≤ maxLen)
    (A' : Option Addr) (cap' : Nat) (ws : List ByteArray) (h' : Rd w w.heap.size A' (strV ws)) (hc' : ws.length ≤ cap') (hm' : cap' ≤ maxLen) (hz' : ∀ s ∈ ws, s.size ≤ maxLen) (sheet : ByteArray) (hsh : sheet.size ≤ maxLen) (st : Int) (hst : -9223372036854775808 ≤ st ∧ st ≤ 9223372036854775807) :
    Calls Try.prog 16 #[.slice A es.length cap, .slice A' ws.length cap', .string sheet, .int .i64 st] w fun e w' => e = .returned (.bool true) ∧ Below w.heap.size w w' := by
  by_cases hbig : 1048576 < sheet.size
  · go_enter Try.func16, Try.ntmps16
    go_wp2_with fail
    go_ret
    exact ⟨rfl, Below.refl _ _⟩
  · have HST := Lib.hid hst; clear hst
    have HR := Lib.hid h; have HZ := Lib.hid hz; have HS := Lib.hid h'; have HZ' := Lib.hid hz'; have HB := Lib.hid (Below.refl w.heap.size w); clear h hz h' hz'
    go_enter Try.func16, Try.ntmps16
    go_wp2_with fail
    refine (szEntryS_any w A cap es 1048576 HR.out hc hm HZ.out (by omega) (by omega)).mono ?_
    rintro _ w1 ⟨m, rfl, hm1, hb1⟩
    replace HB := Lib.hid (HB.out.trans (hb1.mono HB.out.size))
    replace HR := Lib.hid ((HR.out.below hb1).mono hb1.size)
    replace HS := Lib.hid ((HS.out.below hb1).mono hb1.size)
    clear hb1
    rcases hm1 with rfl | ⟨m0, m1, hl, hsz⟩
    · go_wp2_with fail
      go_ret
      exact ⟨rfl, HB.out⟩
    clear hsz
    go_wp2_with fail
    refine (szStringS_any w1 A' cap' ws m HS.out hc' hm' HZ'.out m0 m1).mono ?_
    rintro _ w2 ⟨m', rfl, hm2, hb2⟩
    replace HB := Lib.hid (HB.out.trans (hb2.mono HB.out.size))
    replace HR := Lib.hid ((HR.out.below hb2).mono hb2.size)
    replace HS := Lib.hid ((HS.out.below hb2).mono hb2.size)
    clear hb2
    rcases hm2 with rfl | ⟨m0', m1', hl', hsz⟩
    · go_wp2_with fail
      go_ret
      exact ⟨rfl, HB.out⟩
    clear hsz
    go_wp2_with fail
    refine (toEntryS_any _ A cap es HR.out hc hl).mono ?_
    rintro _ w3 ⟨v3, rfl, ho3, hb3⟩
    obtain ⟨A3, cap3, rfl, hc3, _, hr3⟩ := ownsRow_rd ho3
    replace HB := Lib.hid (HB.out.trans (hb3.mono HB.out.size))
    replace HR := Lib.hid ((HR.out.below hb3).mono hb3.size)
    replace HS := Lib.hid ((HS.out.below hb3).mono hb3.size)
    clear hb3
    have HX := Lib.hid hr3; clear ho3 hr3
    go_wp2_with fail
    refine (toStringS_any _ A' cap' ws HS.out hc' hl').mono ?_
    rintro _ w4 ⟨v4, rfl, ho4, hb4⟩
    obtain ⟨A4, cap4, rfl, hc4, _, hr4⟩ := ownsRow_rd ho4
    replace HB := Lib.hid (HB.out.trans (hb4.mono HB.out.size))
    replace HR := Lib.hid ((HR.out.below hb4).mono hb4.size)
    replace HS := Lib.hid ((HS.out.below hb4).mono hb4.size)
    replace HX := Lib.hid ((HX.out.below hb4).mono hb4.size)
    clear hb4
    have HY := Lib.hid hr4; clear ho4 hr4
    go_wp2_with fail
    refine (sSeal_any _ _ _ A3 A4 cap3 cap4 es ws sheet st HX.out hc3 hl HY.out hc4 hl' HST.out).mono ?_
    rintro _ w4b ⟨rfl, hb4b⟩
    replace HB := Lib.hid (HB.out.trans (hb4b.mono HB.out.size))
    replace HR := Lib.hid ((HR.out.below hb4b).mono hb4b.size)
    replace HS := Lib.hid ((HS.out.below hb4b).mono hb4b.size)
    clear hb4b
    clear HX HY
    go_wp2_with fail
    refine (toEntryS_any _ A cap es HR.out hc hl).mono ?_
    rintro _ w5 ⟨v5, rfl, ho5, hb5⟩
    obtain ⟨A5, cap5, rfl, hc5, _, hr5⟩ := ownsRow_rd ho5
    replace HB := Lib.hid (HB.out.trans (hb5.mono HB.out.size))
    replace HR := Lib.hid ((HR.out.below hb5).mono hb5.size)
    replace HS := Lib.hid ((HS.out.below hb5).mono hb5.size)
    clear hb5
    have HX := Lib.hid hr5; clear ho5 hr5
    go_wp2_with fail
    refine (toStringS_any _ A' cap' ws HS.out hc' hl').mono ?_
    rintro _ w6 ⟨v6, rfl, ho6, hb6⟩
    obtain ⟨A6, cap6, rfl, hc6, _, hr6⟩ := ownsRow_rd ho6
    replace HB := Lib.hid (HB.out.trans (hb6.mono HB.out.size))
    replace HR := Lib.hid ((HR.out.below hb6).mono hb6.size)
    replace HS := Lib.hid ((HS.out.below hb6).mono hb6.size)
    replace HX := Lib.hid ((HX.out.below hb6).mono hb6.size)
    clear hb6
    have HY := Lib.hid hr6; clear ho6 hr6
    go_wp2_with fail
    refine (seal_any _ A5 A6 cap5 cap6 es ws sheet st HX.out hc5 HZ.out HY.out hc6 hl' HZ'.out HST.out).mono ?_
    rintro _ w7 ⟨rfl, hb7⟩
    replace HB := Lib.hid (HB.out.trans (hb7.mono HB.out.size))
    replace HR := Lib.hid ((HR.out.below hb7).mono hb7.size)
    replace HS := Lib.hid ((HS.out.below hb7).mono hb7.size)
    replace HX := Lib.hid ((HX.out.below hb7).mono hb7.size)
    replace HY := Lib.hid ((HY.out.below hb7).mono hb7.size)
    clear hb7
    generalize (sealW es ws sheet st).isSome = b
    generalize strO (sealW es ws sheet st) = r
    have hbb : (b != b) = false := by simp
    go_wp2_with fail
    refine (toEntryS_any _ A cap es HR.out hc hl).mono ?_
    rintro _ w8 ⟨v8, rfl, ho8, hb8⟩
    obtain ⟨A8, cap8, rfl, hc8, _, hr8⟩ := ownsRow_rd ho8
    replace HB := Lib.hid (HB.out.trans (hb8.mono HB.out.size))
    replace HR := Lib.hid ((HR.out.below hb8).mono hb8.size)
    replace HS := Lib.hid ((HS.out.below hb8).mono hb8.size)
    replace HX := Lib.hid ((HX.out.below hb8).mono hb8.size)
    replace HY := Lib.hid ((HY.out.below hb8).mono hb8.size)
    clear hb8
    have HU := Lib.hid hr8; clear ho8 hr8
    go_wp2_with fail
    refine (eqEntryS_same _ A5 A8 cap5 cap8 es HX.out HU.out hl hc5 hc8).mono ?_
    rintro _ w9 ⟨rfl, hb9⟩
    replace HB := Lib.hid (HB.out.trans (hb9.mono HB.out.size))
    replace HR := Lib.hid ((HR.out.below hb9).mono hb9.size)
    replace HS := Lib.hid ((HS.out.below hb9).mono hb9.size)
    replace HY := Lib.hid ((HY.out.below hb9).mono hb9.size)
    clear hb9
    clear HX HU
    go_wp2_with fail
    refine (toStringS_any _ A' cap' ws HS.out hc' hl').mono ?_
    rintro _ w10 ⟨v10, rfl, ho10, hb10⟩
    obtain ⟨A10, cap10, rfl, hc10, _, hr10⟩ := ownsRow_rd ho10
    replace HB := Lib.hid (HB.out.trans (hb10.mono HB.out.size))
    replace HY := Lib.hid ((HY.out.below hb10).mono hb10.size)
    clear hb10
    have HU := Lib.hid hr10; clear ho10 hr10
    go_wp2_with fail
    refine (eqStringS_same _ A6 A10 cap6 cap10 ws HY.out HU.out hl' hc6 hc10).mono ?_
    rintro _ w11 ⟨rfl, hb11⟩
    replace HB := Lib.hid (HB.out.trans (hb11.mono HB.out.size))
    clear hb11
    go_wp2_with fail
    go_ret
    exact ⟨rfl, HB.out⟩

end Go.Proofs.Ytggecpiiphjnaaa
