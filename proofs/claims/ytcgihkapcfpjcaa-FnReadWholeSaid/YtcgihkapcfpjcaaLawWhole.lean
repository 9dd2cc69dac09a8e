/-
  The walk of the law FnReadWhole: it returns true whatever the bytes are; nothing that was there is changed. No conditions.
-/
import Derived.Test.YtcgihkapcfpjcaaRead
import Derived.Test.YtcgihkapcfpjcaaDrawP
import Derived.Test.YtcgihkapcfpjcaaPartly
import Derived.Test.YtcgihkapcfpjcaaMix
namespace Go.Proofs.Ytcgihkapcfpjcaa
open Go.RowKit Pl
set_option linter.unusedVariables false

set_option maxHeartbeats 2000000 in
theorem fnReadWhole_walk (w : World) (A : Option Addr) (cap : Nat) (bs : List UInt8) (h : Rd w w.heap.size A (bytesV bs)) (hc : bs.length ≤ cap)
    (A2 : Option Addr) (cap2 : Nat) (cs : List UInt8) (h2 : Rd w w.heap.size A2 (bytesV cs)) (hc2 : cs.length ≤ cap2) :
    Calls Try.prog 4 #[.slice A bs.length cap, .slice A2 cs.length cap2] w fun e w' => e = .returned (.bool true) ∧ Below w.heap.size w w' := by
  by_cases hlen : 1048576 < bs.length
  · have hlen' : decide ((1048576 : Int) < (bs.length : Int)) = true := by simp; omega
    go_enter Try.func4, Try.ntmps4
    go_wp2_with fail
    go_ret
    exact ⟨rfl, Below.refl _ _⟩
  · have hlen' : decide ((1048576 : Int) < (bs.length : Int)) = false := by simp; omega
    by_cases hlen2 : 1048576 < cs.length
    · have hlen2' : decide ((1048576 : Int) < (cs.length : Int)) = true := by simp; omega
      go_enter Try.func4, Try.ntmps4
      go_wp2_with fail
      go_ret
      exact ⟨rfl, Below.refl _ _⟩
    · have hlen2' : decide ((1048576 : Int) < (cs.length : Int)) = false := by simp; omega
      have H2 := Lib.hid h2; clear h2
      go_enter Try.func4, Try.ntmps4
      go_wp2_with fail
      refine (drawAddWords_any w A cap bs h hc).mono ?_
      rintro e w1 ⟨v, p, rfl, hv, hp, hb⟩
      have HB := Lib.hid hb; clear hb h
      cases hm : combineW 1 (tl v) (tl p) with
      | none =>
        have HM := Lib.hid hm; clear hm
        go_wp2_with fail
        refine (addWords_none _ _ _ HM.out).mono ?_
        rintro e w2 ⟨rfl, hb2⟩
        have HB2 := Lib.hid (HB.out.trans (hb2.mono HB.out.size)); clear hb2
        go_wp2_with fail
        refine (sAddWords_none _ _ _ HM.out).mono ?_
        rintro e w3 ⟨rfl, hb3⟩
        go_wp2_with fail
        go_ret
        exact ⟨rfl, HB2.out.trans (hb3.mono HB2.out.size)⟩
      | some r =>
        have K1 := Lib.hid (read_whole hm)
        have K2 := Lib.hid (key_whole hm)
        have K3 := Lib.hid (read_partly cs hm)
        have HM := Lib.hid hm; clear hm
        have hsb := str_beq p
        have hsb2 := str_beq v
        go_wp2_with fail
        refine (addWords_some _ _ r _ HM.out).mono ?_
        rintro e w2 ⟨rfl, hb2⟩
        have HB2 := Lib.hid (HB.out.trans (hb2.mono HB.out.size)); clear hb2
        go_wp2_with fail
        refine (sAddWords_some _ _ r _ HM.out).mono ?_
        rintro e w3 ⟨rfl, hb3⟩
        have HB3 := Lib.hid (HB2.out.trans (hb3.mono HB2.out.size)); clear hb3
        go_wp2_with fail
        refine (readWith_some (mk r) p (tl v) _ K1.out).mono ?_
        rintro e w4 ⟨rfl, hb4⟩
        have HB4 := Lib.hid (HB3.out.trans (hb4.mono HB3.out.size)); clear hb4
        go_wp2_with fail
        refine (keyFrom_some (mk r) v (tl p) _ K2.out).mono ?_
        rintro e w5 ⟨rfl, hb5⟩
        have HB5 := Lib.hid (HB4.out.trans (hb5.mono HB4.out.size)); clear hb5
        go_wp2_with fail
        refine (rcPartly_any w5 p A2 cap2 cs ((H2.out.below HB5.out).mono HB5.out.size) hc2 (by omega) hp).mono ?_
        rintro e w6 ⟨rfl, rfl⟩
        go_wp2_with fail
        refine (readWith_some (mk r) (mk (partly (tl p) cs)) (partly (tl v) cs) _ K3.out).mono ?_
        rintro e w6 ⟨rfl, hb6⟩
        have HB6 := Lib.hid (HB5.out.trans (hb6.mono HB5.out.size)); clear hb6
        go_wp2_with fail
        refine (rcPartly_any w6 v A2 cap2 cs ((H2.out.below HB6.out).mono HB6.out.size) hc2 (by omega) hv).mono ?_
        rintro e w7 ⟨rfl, rfl⟩
        go_wp2_with fail
        go_ret
        exact ⟨rfl, HB6.out⟩

end Go.Proofs.Ytcgihkapcfpjcaa
