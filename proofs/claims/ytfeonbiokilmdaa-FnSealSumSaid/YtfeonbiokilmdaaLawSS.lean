/-
  The walk of the law FnSealSum: it returns true whatever the bytes are; nothing that was there is changed. No conditions.
-/
import Derived.Test.YtfeonbiokilmdaaDrawE
import Derived.Test.YtfeonbiokilmdaaPlainL
import Derived.Test.YtfeonbiokilmdaaMark
namespace Go.Proofs.Ytfeonbiokilmdaa
open Go.RowKit Pl
set_option linter.unusedVariables false

set_option maxHeartbeats 8000000 in
set_option maxRecDepth 100000 in
theorem fnSealSum_walk (w : World) (A : Option Addr) (cap : Nat) (bs : List UInt8) (h : Rd w w.heap.size A (bytesV bs)) (hc : bs.length ≤ cap) :
    Calls Try.prog 11 #[.slice A bs.length cap] w fun e w' => e = .returned (.bool true) ∧ Below w.heap.size w w' := by
  by_cases hlen : 1048576 < bs.length
  · go_enter Try.func11, Try.ntmps11
    go_wp2_with fail
    go_ret
    exact ⟨rfl, Below.refl _ _⟩
  · go_enter Try.func11, Try.ntmps11
    go_wp2_with fail
    refine (drawSealCodes_any w A cap bs h hc).mono ?_
    rintro _ w1 ⟨A1, cap1, es, A2, cap2, ws, sheet, st, rfl, hr1, hc1, hz, hl, hr2, hc2, hz2, hl2, hm2, hsh, hst, hb1⟩
    have HR := Lib.hid hr1; have HZ := Lib.hid hz; have HS := Lib.hid hr2; have HZ2 := Lib.hid hz2; have HB := Lib.hid hb1; clear hr1 hz hr2 hz2 hb1 h
    go_wp2_with fail
    refine (seal_any _ A1 A2 cap1 cap2 es ws sheet st HR.out hc1 HZ.out HS.out hc2 (by omega) HZ2.out (by omega)).mono ?_
    rintro _ w2 ⟨rfl, hb2⟩
    replace HB := Lib.hid (HB.out.trans (hb2.mono HB.out.size))
    replace HR := Lib.hid ((HR.out.below hb2).mono hb2.size)
    replace HS := Lib.hid ((HS.out.below hb2).mono hb2.size)
    clear hb2
    go_wp2_with fail
    refine (sSeal_any _ _ _ A1 A2 cap1 cap2 es ws sheet st HR.out hc1 (by omega) HS.out hc2 (by omega) (by omega)).mono ?_
    rintro _ w3 ⟨rfl, hb3⟩
    replace HB := Lib.hid (HB.out.trans (hb3.mono HB.out.size))
    replace HR := Lib.hid ((HR.out.below hb3).mono hb3.size)
    replace HS := Lib.hid ((HS.out.below hb3).mono hb3.size)
    clear hb3
    obtain ⟨se, hse⟩ : ∃ se, se = sealW es ws sheet st := ⟨_, rfl⟩
    rw [← hse]
    have HSE := Lib.hid hse; clear hse
    go_wp2_with fail
    refine (encode_any _ A1 A2 cap1 cap2 es ws HR.out hc1 HZ.out HS.out hc2 (by omega) HZ2.out).mono ?_
    rintro _ w4 ⟨rfl, hb4⟩
    replace HB := Lib.hid (HB.out.trans (hb4.mono HB.out.size))
    clear hb4
    cases he : encW es ws with
    | none =>
      obtain rfl : se = none := HSE.out.trans (seal_no1 he)
      clear HSE he
      simp only [strO, Option.isSome_none]
      have hz0 : (mk []).size = 0 := rfl
      go_wp2_with fail
      cases hp : sheetPart (tl sheet) st 0 with
      | none =>
        refine (sheetPart_none _ _ _ _ (by omega) (by simpa [size_mk] using hp)).mono ?_
        rintro _ _ ⟨rfl, rfl⟩
        clear hp
        go_wp2_with fail
        refine (addWords_some (mk []) (mk []) [] _ (by decide)).mono ?_
        rintro _ w5 ⟨rfl, hb5⟩
        replace HB := Lib.hid (HB.out.trans (hb5.mono HB.out.size))
        clear hb5
        go_wp2_with fail
        go_ret
        exact ⟨rfl, HB.out⟩
      | some p =>
        refine (sheetPart_some _ _ _ p _ (by simpa [size_mk] using hp)).mono ?_
        rintro _ _ ⟨rfl, rfl⟩
        have hp0 : p = [] := List.length_eq_zero_iff.1 (by have := (part_wv' hp).2; omega)
        subst hp0
        clear hp
        go_wp2_with fail
        refine (addWords_some (mk []) (mk []) [] _ (by decide)).mono ?_
        rintro _ w5 ⟨rfl, hb5⟩
        replace HB := Lib.hid (HB.out.trans (hb5.mono HB.out.size))
        clear hb5
        go_wp2_with fail
        go_ret
        exact ⟨rfl, HB.out⟩
    | some c =>
      have hcz := enc_size he
      simp only [strO, Option.isSome_some]
      cases hp : sheetPart (tl sheet) st c.size with
      | none =>
        obtain rfl : se = none := HSE.out.trans (seal_no2 he hp)
        have HP := Lib.hid hp; clear HSE hp
        go_wp2_with fail
        refine (sheetPart_none _ _ _ _ (by omega) HP.out).mono ?_
        rintro _ _ ⟨rfl, rfl⟩
        go_wp2_with fail
        cases hw : combineW 1 (tl c) (tl (mk [])) with
        | none =>
          refine (addWords_none c (mk []) _ hw).mono ?_
          rintro _ w5 ⟨rfl, hb5⟩
          replace HB := Lib.hid (HB.out.trans (hb5.mono HB.out.size))
          clear hb5
          clear hw he
          go_wp2_with fail
          go_ret
          exact ⟨rfl, HB.out⟩
        | some q =>
          refine (addWords_some c (mk []) q _ hw).mono ?_
          rintro _ w5 ⟨rfl, hb5⟩
          replace HB := Lib.hid (HB.out.trans (hb5.mono HB.out.size))
          clear hb5
          clear hw he
          go_wp2_with fail
          go_ret
          exact ⟨rfl, HB.out⟩
      | some p =>
        obtain ⟨q, hq, hq2⟩ := seal_yes he hp
        obtain rfl : se = some (mk q) := HSE.out.trans hq2
        have HP := Lib.hid hp; have HQ := Lib.hid hq; clear HSE he hp hq hq2
        simp only [strO, Option.isSome_some]
        go_wp2_with fail
        refine (sheetPart_some _ _ _ p _ HP.out).mono ?_
        rintro _ _ ⟨rfl, rfl⟩
        go_wp2_with fail
        refine (addWords_some c (mk p) q _ HQ.out).mono ?_
        rintro _ w5 ⟨rfl, hb5⟩
        replace HB := Lib.hid (HB.out.trans (hb5.mono HB.out.size))
        clear hb5
        go_wp2_with fail
        go_ret
        exact ⟨rfl, HB.out⟩

end Go.Proofs.Ytfeonbiokilmdaa
