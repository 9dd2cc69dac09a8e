/-
  The walk of the law FnCodesOpenSeal: it returns true whatever the bytes are; nothing that was there is changed. No conditions.
-/
import Derived.Test.YtfeonbiokilmdaaDrawE
import Derived.Test.YtfeonbiokilmdaaPlainL
import Derived.Test.YtfeonbiokilmdaaMark
import Derived.Test.YtfeonbiokilmdaaDrawF
namespace Go.Proofs.Ytfeonbiokilmdaa
open Go.RowKit Pl
set_option linter.unusedVariables false

theorem open_word_size {es : List (ByteArray × ByteArray)} {l : List ByteArray} {sheet s : ByteArray} {st : Int} (h : openW es s sheet st = some l) : ∀ x ∈ l, x.size ≤ maxLen := by
  unfold openW at h
  split at h
  · cases h
  · split at h
    · cases h
    · exact fun x hx => Nat.le_trans (decW_size h x hx) (by decide)

set_option maxHeartbeats 8000000 in
set_option maxRecDepth 100000 in
theorem fnCodesOpenSeal_walk (w : World) (A : Option Addr) (cap : Nat) (bs : List UInt8) (h : Rd w w.heap.size A (bytesV bs)) (hc : bs.length ≤ cap) :
    Calls Try.prog 14 #[.slice A bs.length cap] w fun e w' => e = .returned (.bool true) ∧ Below w.heap.size w w' := by
  by_cases hlen : 1048576 < bs.length
  · go_enter Try.func14, Try.ntmps14
    go_wp2_with fail
    go_ret
    exact ⟨rfl, Below.refl _ _⟩
  · go_enter Try.func14, Try.ntmps14
    go_wp2_with fail
    refine (drawOpenCodes_any w A cap bs h hc).mono ?_
    rintro _ w1 ⟨A1, cap1, es, s, sheet, st, rfl, hr1, hc1, hz, hl, hsz, hsh, hst, hb1⟩
    have HR := Lib.hid hr1; have HZ := Lib.hid hz; have HB := Lib.hid hb1; clear hr1 hz hb1 h
    have hsm : s.size ≤ maxLen := Nat.le_trans hsz (by decide)
    have HSM := Lib.hid hsm; clear hsm
    go_wp2_with fail
    refine (open_any _ A1 cap1 es s sheet st HR.out hc1 HZ.out HSM.out (by omega)).mono ?_
    rintro _ w2 ⟨v2, rfl, ho2, hb2⟩
    obtain ⟨A2, cap2, rfl⟩ := slot_slice ho2
    have HO2 := Lib.hid ho2; clear ho2
    replace HB := Lib.hid (HB.out.trans (hb2.mono HB.out.size))
    replace HR := Lib.hid ((HR.out.below hb2).mono hb2.size)
    clear hb2
    go_wp2_with fail
    refine (sOpen_any _ A1 cap1 es s sheet st HR.out hc1 (by omega) HSM.out (by omega)).mono ?_
    rintro _ w3 ⟨v3, rfl, ho3, hb3⟩
    obtain ⟨A3, cap3, rfl⟩ := slot_slice ho3
    replace HB := Lib.hid (HB.out.trans (hb3.mono HB.out.size))
    replace HR := Lib.hid ((HR.out.below hb3).mono hb3.size)
    replace HO2 := Lib.hid (ownsRow_below HO2.out hb3)
    clear hb3
    have HO3 := Lib.hid ho3; clear ho3
    obtain ⟨o, ho⟩ : ∃ o, o = openW es s sheet st := ⟨_, rfl⟩
    rw [← ho] at HO2 HO3 ⊢
    have hlo : (o.getD []).length ≤ 1048576 := by rw [ho]; exact open_len es s sheet st (by omega)
    have HOE := Lib.hid ho; clear ho
    go_wp2_with fail
    refine (rcTexts_same _ A2 A3 cap2 cap3 (o.getD []) (own_rd HO2.out) (own_rd HO3.out) hlo (own_le HO2.out) (own_le HO3.out)).mono ?_
    rintro _ w4 ⟨rfl, hb4⟩
    replace HB := Lib.hid (HB.out.trans (hb4.mono HB.out.size))
    replace HR := Lib.hid ((HR.out.below hb4).mono hb4.size)
    replace HO2 := Lib.hid (ownsRow_below HO2.out hb4)
    replace HO3 := Lib.hid (ownsRow_below HO3.out hb4)
    clear hb4
    cases o with
    | none =>
      simp only [Option.isSome_none, Option.getD_none]
      go_wp2_with fail
      refine (rcTexts_same _ A2 A3 cap2 cap3 [] (own_rd HO2.out) (own_rd HO3.out) (by simp) (by simp) (by simp)).mono ?_
      rintro _ w5 ⟨rfl, hb5⟩
      replace HB := Lib.hid (HB.out.trans (hb5.mono HB.out.size))
      clear hb5
      go_wp2_with fail
      go_ret
      exact ⟨rfl, HB.out⟩
    | some ws =>
      simp only [Option.isSome_some, Option.getD_some] at HO2 HO3 hlo ⊢
      have hen := open_seal HOE.out.symm
      have hz2 : ∀ x ∈ ws, x.size ≤ maxLen := open_word_size HOE.out.symm
      have HEN := Lib.hid hen; have HZ2 := Lib.hid hz2; clear hen hz2 HO3
      go_wp2_with fail
      refine (seal_any _ A1 A2 cap1 cap2 es ws sheet st HR.out hc1 HZ.out (own_rd HO2.out) (own_le HO2.out) hlo HZ2.out (by omega)).mono ?_
      rintro _ w6 ⟨rfl, hb6⟩
      replace HB := Lib.hid (HB.out.trans (hb6.mono HB.out.size))
      clear hb6
      rw [HEN.out]
      simp only [strO, Option.isSome_some]
      go_wp2_with fail
      go_ret
      exact ⟨rfl, HB.out⟩

end Go.Proofs.Ytfeonbiokilmdaa
