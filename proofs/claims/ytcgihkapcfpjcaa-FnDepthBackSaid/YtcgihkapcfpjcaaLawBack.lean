/-
  The walk of the law FnDepthBack: it returns true whatever the bytes are; nothing that was there is changed. No conditions.
-/
import Derived.Test.YtcgihkapcfpjcaaRead
import Derived.Test.YtcgihkapcfpjcaaDrawP
import Derived.Test.YtcgihkapcfpjcaaPlainB
namespace Go.Proofs.Ytcgihkapcfpjcaa
open Go.RowKit Pl
set_option linter.unusedVariables false

set_option maxHeartbeats 2000000 in
theorem fnDepthBack_walk (w : World) (A : Option Addr) (cap : Nat) (bs : List UInt8) (h : Rd w w.heap.size A (bytesV bs)) (hc : bs.length ≤ cap) :
    Calls Try.prog 7 #[.slice A bs.length cap] w fun e w' => e = .returned (.bool true) ∧ Below w.heap.size w w' := by
  by_cases hlen : 1048576 < bs.length
  · go_enter Try.func7, Try.ntmps7
    go_wp2_with fail
    go_ret
    exact ⟨rfl, Below.refl _ _⟩
  · have hlen' : decide ((1048576 : Int) < (bs.length : Int)) = false := by simp; omega
    go_enter Try.func7, Try.ntmps7
    go_wp2_with fail
    refine (drawReadDepth_any w A cap bs h hc).mono ?_
    rintro e w1 ⟨v, p, x, rfl, hv, hp, hx, hb⟩
    have HB := Lib.hid hb; clear hb h
    cases hm : minusW (tl v) (tl p) with
    | none =>
      have HM := Lib.hid hm; clear hm
      go_wp2_with fail
      refine (readDepth_none1 _ _ _ _ HM.out).mono ?_
      rintro e w2 ⟨rfl, hb2⟩
      have HB2 := Lib.hid (HB.out.trans (hb2.mono HB.out.size)); clear hb2
      go_wp2_with fail
      refine (sReadDepth_none1 _ _ _ _ HM.out).mono ?_
      rintro e w3 ⟨rfl, hb3⟩
      go_wp2_with fail
      go_ret
      exact ⟨rfl, HB2.out.trans (hb3.mono HB2.out.size)⟩
    | some k =>
      cases hm2 : minusW (tl x) k with
      | none =>
        have HM := Lib.hid hm; clear hm
        have HM2 := Lib.hid hm2; clear hm2
        go_wp2_with fail
        refine (readDepth_none2 _ _ _ k _ HM.out HM2.out).mono ?_
        rintro e w2 ⟨rfl, hb2⟩
        have HB2 := Lib.hid (HB.out.trans (hb2.mono HB.out.size)); clear hb2
        go_wp2_with fail
        refine (sReadDepth_none2 _ _ _ k _ HM.out HM2.out).mono ?_
        rintro e w3 ⟨rfl, hb3⟩
        go_wp2_with fail
        go_ret
        exact ⟨rfl, HB2.out.trans (hb3.mono HB2.out.size)⟩
      | some q =>
        have K1 := Lib.hid (minusW_back hm)
        have K2 := Lib.hid (minusW_back hm2)
        have HM := Lib.hid hm; clear hm
        have HM2 := Lib.hid hm2; clear hm2
        have hsb := str_beq p
        go_wp2_with fail
        refine (readDepth_some _ _ _ k q _ HM.out HM2.out).mono ?_
        rintro e w2 ⟨rfl, hb2⟩
        have HB2 := Lib.hid (HB.out.trans (hb2.mono HB.out.size)); clear hb2
        go_wp2_with fail
        refine (sReadDepth_some _ _ _ k q _ HM.out HM2.out).mono ?_
        rintro e w3 ⟨rfl, hb3⟩
        have HB3 := Lib.hid (HB2.out.trans (hb3.mono HB2.out.size)); clear hb3
        go_wp2_with fail
        refine (readDepth_some x (mk q) v k (tl p) _ K2.out K1.out).mono ?_
        rintro e w4 ⟨rfl, hb4⟩
        have HB4 := Lib.hid (HB3.out.trans (hb4.mono HB3.out.size)); clear hb4
        go_wp2_with fail
        refine (readDepth_some v p v k (tl p) _ HM.out K1.out).mono ?_
        rintro e w5 ⟨rfl, hb5⟩
        have HB5 := Lib.hid (HB4.out.trans (hb5.mono HB4.out.size)); clear hb5
        go_wp2_with fail
        refine (keyFrom_some v p k _ HM.out).mono ?_
        rintro e w6 ⟨rfl, hb6⟩
        have HB6 := Lib.hid (HB5.out.trans (hb6.mono HB5.out.size)); clear hb6
        go_wp2_with fail
        refine (keyFrom_some x (mk q) k _ K2.out).mono ?_
        rintro e w7 ⟨rfl, hb7⟩
        have HB7 := Lib.hid (HB6.out.trans (hb7.mono HB6.out.size)); clear hb7
        go_wp2_with fail
        go_ret
        exact ⟨rfl, HB7.out⟩

end Go.Proofs.Ytcgihkapcfpjcaa
