/-
  The walk of the law FnEncodeDecode: it returns true whatever the bytes are; nothing that was there is changed. No conditions.
-/
import Derived.Test.YtfeonbiokilmdaaDrawE
import Derived.Test.YtfeonbiokilmdaaPlainL
import Derived.Test.YtfeonbiokilmdaaMark
namespace Go.Proofs.Ytfeonbiokilmdaa
open Go.RowKit Pl
set_option linter.unusedVariables false

set_option maxHeartbeats 8000000 in
set_option maxRecDepth 100000 in
theorem fnEncodeDecode_walk (w : World) (A : Option Addr) (cap : Nat) (bs : List UInt8) (h : Rd w w.heap.size A (bytesV bs)) (hc : bs.length ≤ cap) :
    Calls Try.prog 9 #[.slice A bs.length cap] w fun e w' => e = .returned (.bool true) ∧ Below w.heap.size w w' := by
  by_cases hlen : 1048576 < bs.length
  · go_enter Try.func9, Try.ntmps9
    go_wp2_with fail
    go_ret
    exact ⟨rfl, Below.refl _ _⟩
  · go_enter Try.func9, Try.ntmps9
    go_wp2_with fail
    refine (drawEncodeWords_any w A cap bs h hc).mono ?_
    rintro _ w1 ⟨A1, cap1, es, A2, cap2, ws, rfl, hr1, hc1, hz, hl, hr2, hc2, hz2, hl2, hm2, hb1⟩
    have HR := Lib.hid hr1; have HZ := Lib.hid hz; have HS := Lib.hid hr2; have HZ2 := Lib.hid hz2; have HB := Lib.hid hb1; clear hr1 hz hr2 hz2 hb1 h
    go_wp2_with fail
    refine (encode_any _ A1 A2 cap1 cap2 es ws HR.out hc1 HZ.out HS.out hc2 (by omega) HZ2.out).mono ?_
    rintro _ w2 ⟨rfl, hb2⟩
    replace HB := Lib.hid (HB.out.trans (hb2.mono HB.out.size))
    replace HR := Lib.hid ((HR.out.below hb2).mono hb2.size)
    replace HS := Lib.hid ((HS.out.below hb2).mono hb2.size)
    clear hb2
    go_wp2_with fail
    refine (sEncode_any _ _ _ A1 A2 cap1 cap2 es ws HR.out hc1 (by omega) HS.out hc2 (by omega)).mono ?_
    rintro _ _ ⟨rfl, rfl⟩
    cases he : encW es ws with
    | none =>
      simp only [strO, Option.isSome_none]
      clear he
      go_wp2_with fail
      go_ret
      exact ⟨rfl, HB.out⟩
    | some r =>
      simp only [strO, Option.isSome_some]
      have hd := enc_dec he
      have hrz := (encW_some he).2.2.2.2.1
      have HD := Lib.hid hd; clear hd he
      have hfin : ((r.size : Int) == 3 * (ws.length : Int)) = true := by rw [beq_iff_eq]; omega
      go_wp2_with fail
      refine (decode_any _ A1 cap1 es r HR.out hc1 HZ.out (Nat.le_trans (show r.size ≤ 1000 by omega) (by decide))).mono ?_
      rintro _ w3 ⟨v3, rfl, ho3, hb3⟩
      rw [HD.out] at ho3 ⊢
      replace HB := Lib.hid (HB.out.trans (hb3.mono HB.out.size))
      replace HS := Lib.hid ((HS.out.below hb3).mono hb3.size)
      clear hb3
      obtain ⟨A3, cap3, rfl⟩ := slot_slice ho3
      have HW := Lib.hid ho3; clear ho3
      simp only [Option.isSome_some]
      go_wp2_with fail
      refine (rcTexts_same _ A3 A2 cap3 cap2 ws (own_rd HW.out) HS.out (by omega) (own_le HW.out) hc2).mono ?_
      rintro _ w4 ⟨rfl, hb4⟩
      replace HB := Lib.hid (HB.out.trans (hb4.mono HB.out.size))
      clear hb4
      go_wp2_with fail
      go_ret
      exact ⟨rfl, HB.out⟩

end Go.Proofs.Ytfeonbiokilmdaa
