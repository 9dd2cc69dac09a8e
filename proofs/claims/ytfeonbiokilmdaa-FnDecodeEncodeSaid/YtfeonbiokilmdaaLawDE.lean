/-
  The walk of the law FnDecodeEncode: it returns true whatever the bytes are; nothing that was there is changed. No conditions.
-/
import Derived.Test.YtfeonbiokilmdaaDrawE
import Derived.Test.YtfeonbiokilmdaaPlainL
import Derived.Test.YtfeonbiokilmdaaMark
namespace Go.Proofs.Ytfeonbiokilmdaa
open Go.RowKit Pl
set_option linter.unusedVariables false

set_option maxHeartbeats 8000000 in
set_option maxRecDepth 100000 in
theorem fnDecodeEncode_walk (w : World) (A : Option Addr) (cap : Nat) (bs : List UInt8) (h : Rd w w.heap.size A (bytesV bs)) (hc : bs.length ≤ cap) :
    Calls Try.prog 10 #[.slice A bs.length cap] w fun e w' => e = .returned (.bool true) ∧ Below w.heap.size w w' := by
  by_cases hlen : 1048576 < bs.length
  · go_enter Try.func10, Try.ntmps10
    go_wp2_with fail
    go_ret
    exact ⟨rfl, Below.refl _ _⟩
  · go_enter Try.func10, Try.ntmps10
    go_wp2_with fail
    refine (drawDecodeCodes_any w A cap bs h hc).mono ?_
    rintro _ w1 ⟨A1, cap1, es, s, rfl, hr1, hc1, hz, hl, hsz, hb1⟩
    have HR := Lib.hid hr1; have HZ := Lib.hid hz; have HB := Lib.hid hb1; clear hr1 hz hb1 h
    have hsm : s.size ≤ maxLen := Nat.le_trans hsz (by decide)
    have HSM := Lib.hid hsm; clear hsm
    go_wp2_with fail
    refine (decode_any _ A1 cap1 es s HR.out hc1 HZ.out HSM.out).mono ?_
    rintro _ w2 ⟨v2, rfl, ho2, hb2⟩
    obtain ⟨A2, cap2, rfl⟩ := slot_slice ho2
    have HO2 := Lib.hid ho2; clear ho2
    replace HB := Lib.hid (HB.out.trans (hb2.mono HB.out.size))
    replace HR := Lib.hid ((HR.out.below hb2).mono hb2.size)
    clear hb2
    go_wp2_with fail
    refine (sDecode_any _ A1 cap1 es s HR.out hc1 (by omega) HSM.out).mono ?_
    rintro _ w3 ⟨v3, rfl, ho3, hb3⟩
    obtain ⟨A3, cap3, rfl⟩ := slot_slice ho3
    replace HB := Lib.hid (HB.out.trans (hb3.mono HB.out.size))
    replace HR := Lib.hid ((HR.out.below hb3).mono hb3.size)
    replace HO2 := Lib.hid (ownsRow_below HO2.out hb3)
    clear hb3
    have HO3 := Lib.hid ho3; clear ho3
    obtain ⟨o, ho⟩ : ∃ o, o = decW es s := ⟨_, rfl⟩
    rw [← ho] at HO2 HO3 ⊢
    have hlo : (o.getD []).length ≤ 1048576 := by rw [ho]; exact dec_len es s (by omega)
    have HOE := Lib.hid ho; clear ho
    go_wp2_with fail
    refine (rcTexts_same _ A2 A3 cap2 cap3 (o.getD []) (own_rd HO2.out) (own_rd HO3.out) hlo (own_le HO2.out) (own_le HO3.out)).mono ?_
    rintro _ w4 ⟨rfl, hb4⟩
    replace HB := Lib.hid (HB.out.trans (hb4.mono HB.out.size))
    replace HR := Lib.hid ((HR.out.below hb4).mono hb4.size)
    replace HO2 := Lib.hid (ownsRow_below HO2.out hb4)
    replace HO3 := Lib.hid (ownsRow_below HO3.out hb4)
    clear hb4
    cases o with
    | none =>
      simp only [Option.isSome_none, Option.getD_none]
      go_wp2_with fail
      refine (rcTexts_same _ A2 A3 cap2 cap3 [] (own_rd HO2.out) (own_rd HO3.out) (by simp) (by simp) (by simp)).mono ?_
      rintro _ w5 ⟨rfl, hb5⟩
      replace HB := Lib.hid (HB.out.trans (hb5.mono HB.out.size))
      clear hb5
      go_wp2_with fail
      go_ret
      exact ⟨rfl, HB.out⟩
    | some ws =>
      simp only [Option.isSome_some, Option.getD_some] at HO2 HO3 hlo ⊢
      have hen := dec_enc HOE.out.symm
      have hz2 : ∀ x ∈ ws, x.size ≤ maxLen := fun x hx => Nat.le_trans (decW_size HOE.out.symm x hx) (by decide)
      have h3 := (decW_some HOE.out.symm).2.2
      have HEN := Lib.hid hen; have HZ2 := Lib.hid hz2; clear hen hz2 HO3
      have hfin : ((ws.length : Int) * 3 == (s.size : Int)) = true := by rw [beq_iff_eq]; omega
      go_wp2_with fail
      refine (encode_any _ A1 A2 cap1 cap2 es ws HR.out hc1 HZ.out (own_rd HO2.out) (own_le HO2.out) hlo HZ2.out).mono ?_
      rintro _ w6 ⟨rfl, hb6⟩
      replace HB := Lib.hid (HB.out.trans (hb6.mono HB.out.size))
      clear hb6
      rw [HEN.out]
      simp only [strO, Option.isSome_some]
      go_wp2_with fail
      go_ret
      exact ⟨rfl, HB.out⟩

end Go.Proofs.Ytfeonbiokilmdaa
