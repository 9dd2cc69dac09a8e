/-
  The walk of the law FnCodesSealOpen: it returns true whatever the bytes are; nothing that was there is changed. No conditions.
-/
import Derived.Test.YtfeonbiokilmdaaDrawE
import Derived.Test.YtfeonbiokilmdaaPlainL
import Derived.Test.YtfeonbiokilmdaaMark
namespace Go.Proofs.Ytfeonbiokilmdaa
open Go.RowKit Pl
set_option linter.unusedVariables false

set_option maxHeartbeats 8000000 in
set_option maxRecDepth 100000 in
theorem fnCodesSealOpen_walk (w : World) (A : Option Addr) (cap : Nat) (bs : List UInt8) (h : Rd w w.heap.size A (bytesV bs)) (hc : bs.length ≤ cap) :
    Calls Try.prog 13 #[.slice A bs.length cap] w fun e w' => e = .returned (.bool true) ∧ Below w.heap.size w w' := by
  by_cases hlen : 1048576 < bs.length
  · go_enter Try.func13, Try.ntmps13
    go_wp2_with fail
    go_ret
    exact ⟨rfl, Below.refl _ _⟩
  · go_enter Try.func13, Try.ntmps13
    go_wp2_with fail
    refine (drawSealCodes_any w A cap bs h hc).mono ?_
    rintro _ w1 ⟨A1, cap1, es, A2, cap2, ws, sheet, st, rfl, hr1, hc1, hz, hl, hr2, hc2, hz2, hl2, hm2, hsh, hst, hb1⟩
    have HR := Lib.hid hr1; have HZ := Lib.hid hz; have HS := Lib.hid hr2; have HZ2 := Lib.hid hz2; have HB := Lib.hid hb1; clear hr1 hz hr2 hz2 hb1 h
    go_wp2_with fail
    refine (seal_any _ A1 A2 cap1 cap2 es ws sheet st HR.out hc1 HZ.out HS.out hc2 (by omega) HZ2.out (by omega)).mono ?_
    rintro _ w2 ⟨rfl, hb2⟩
    replace HB := Lib.hid (HB.out.trans (hb2.mono HB.out.size))
    replace HR := Lib.hid ((HR.out.below hb2).mono hb2.size)
    replace HS := Lib.hid ((HS.out.below hb2).mono hb2.size)
    clear hb2
    go_wp2_with fail
    refine (sSeal_any _ _ _ A1 A2 cap1 cap2 es ws sheet st HR.out hc1 (by omega) HS.out hc2 (by omega) (by omega)).mono ?_
    rintro _ w3 ⟨rfl, hb3⟩
    replace HB := Lib.hid (HB.out.trans (hb3.mono HB.out.size))
    replace HR := Lib.hid ((HR.out.below hb3).mono hb3.size)
    replace HS := Lib.hid ((HS.out.below hb3).mono hb3.size)
    clear hb3
    cases he : sealW es ws sheet st with
    | none =>
      simp only [strO, Option.isSome_none]
      clear he
      go_wp2_with fail
      go_ret
      exact ⟨rfl, HB.out⟩
    | some r =>
      simp only [strO, Option.isSome_some]
      have hd := seal_open he
      have hrz : r.size = 3 * ws.length := by
        obtain ⟨c, p, h1, h2, h3, h4, h5, h6, h7, h8⟩ := sealW_some he
        rw [h8]; exact (encW_some h1).2.2.2.2.1
      have HD := Lib.hid hd; clear hd he
      have hfin : ((r.size : Int) == 3 * (ws.length : Int)) = true := by rw [beq_iff_eq]; omega
      go_wp2_with fail
      refine (open_any _ A1 cap1 es r sheet st HR.out hc1 HZ.out (Nat.le_trans (show r.size ≤ 1000 by omega) (by decide)) (by omega)).mono ?_
      rintro _ w4 ⟨v4, rfl, ho4, hb4⟩
      rw [HD.out] at ho4 ⊢
      replace HB := Lib.hid (HB.out.trans (hb4.mono HB.out.size))
      replace HS := Lib.hid ((HS.out.below hb4).mono hb4.size)
      clear hb4
      obtain ⟨A4, cap4, rfl⟩ := slot_slice ho4
      have HW := Lib.hid ho4; clear ho4
      simp only [Option.isSome_some]
      go_wp2_with fail
      refine (rcTexts_same _ A4 A2 cap4 cap2 ws (own_rd HW.out) HS.out (by omega) (own_le HW.out) hc2).mono ?_
      rintro _ w5 ⟨rfl, hb5⟩
      replace HB := Lib.hid (HB.out.trans (hb5.mono HB.out.size))
      clear hb5
      go_wp2_with fail
      go_ret
      exact ⟨rfl, HB.out⟩

end Go.Proofs.Ytfeonbiokilmdaa
