/-
  The walk of the law FnDepthTrue: it returns true whatever the bytes are; nothing that was there is changed. No conditions.
-/
import Derived.Test.YtcgihkapcfpjcaaRev
import Derived.Test.YtcgihkapcfpjcaaFits
import Derived.Test.YtcgihkapcfpjcaaDrawP
import Derived.Test.YtcgihkapcfpjcaaPartly
import Derived.Test.YtcgihkapcfpjcaaRead
import Derived.Test.YtcgihkapcfpjcaaMix
import Derived.Test.YtcgihkapcfpjcaaPlainD
namespace Go.Proofs.Ytcgihkapcfpjcaa
open Go.RowKit Pl
set_option linter.unusedVariables false

theorem wv_shiftL {n : Nat} {l : List UInt8} (h : wv l = true) : wv (shiftL n l) = true := by
  have hl := wv_length h
  rw [wv_all (by simpa [shiftL] using hl), List.all_eq_true]
  intro c hc
  simp only [shiftL, List.mem_map] at hc
  obtain ⟨x, _, rfl⟩ := hc
  exact isL_letter (by omega)
theorem fit_partly {v : List UInt8} (cs : List UInt8) (h : wv v = true) : fitW (partly v cs) v = true := by
  unfold fitW
  have h1 : fitL (partly v cs) v = true := fitL_good fun i h1 h2 => by
    rw [partly_get v cs i h2]
    split <;> simp [fitC]
  simp [pv_partly cs h, h, length_partly, h1]

set_option maxHeartbeats 4000000 in
set_option maxRecDepth 100000 in
theorem fnDepthTrue_walk (w : World) (A : Option Addr) (cap : Nat) (bs : List UInt8) (h : Rd w w.heap.size A (bytesV bs)) (hc : bs.length ≤ cap)
    (A2 : Option Addr) (cap2 : Nat) (cs : List UInt8) (h2 : Rd w w.heap.size A2 (bytesV cs)) (hc2 : cs.length ≤ cap2) :
    Calls Try.prog 9 #[.slice A bs.length cap, .slice A2 cs.length cap2] w fun e w' => e = .returned (.bool true) ∧ Below w.heap.size w w' := by
  by_cases hlen : 1048576 < bs.length
  · have hlen' : decide ((1048576 : Int) < (bs.length : Int)) = true := by simp; omega
    go_enter Try.func9, Try.ntmps9
    go_wp2_with fail
    go_ret
    exact ⟨rfl, Below.refl _ _⟩
  · have hlen' : decide ((1048576 : Int) < (bs.length : Int)) = false := by simp; omega
    by_cases hlen2 : 1048576 < cs.length
    · have hlen2' : decide ((1048576 : Int) < (cs.length : Int)) = true := by simp; omega
      go_enter Try.func9, Try.ntmps9
      go_wp2_with fail
      go_ret
      exact ⟨rfl, Below.refl _ _⟩
    · have hlen2' : decide ((1048576 : Int) < (cs.length : Int)) = false := by simp; omega
      have H2 := Lib.hid h2; clear h2
      go_enter Try.func9, Try.ntmps9
      go_wp2_with fail
      refine (drawAddWords_any w A cap bs h hc).mono ?_
      rintro e w1 ⟨v, p, rfl, hv, hp, hb⟩
      have HB := Lib.hid hb; clear hb h
      cases hm : combineW 1 (tl v) (tl p) with
      | none =>
        have HM := Lib.hid hm; clear hm
        go_wp2_with fail
        refine (addWords_none _ _ _ HM.out).mono ?_
        rintro e w2 ⟨rfl, hb2⟩
        have HB2 := Lib.hid (HB.out.trans (hb2.mono HB.out.size)); clear hb2
        go_wp2_with fail
        refine (sAddWords_none _ _ _ HM.out).mono ?_
        rintro e w3 ⟨rfl, hb3⟩
        go_wp2_with fail
        go_ret
        exact ⟨rfl, HB2.out.trans (hb3.mono HB2.out.size)⟩
      | some r =>
        obtain ⟨v1, v2, v3, hr0⟩ := combineW_some_iff hm
        clear hr0
        have hsw := wv_shiftL (n := cs.length % 10) v1
        have hrw := wv_reverse hsw
        obtain ⟨x, hx⟩ : ∃ x, x = (shiftL (cs.length % 10) (tl v)).reverse := ⟨_, rfl⟩
        have hxl : x.length = (tl p).length := by rw [hx]; simp [shiftL]; exact v3
        have hxw : wv x = true := by rw [hx]; exact hrw
        obtain ⟨y, hy⟩ : ∃ y, combineW 1 x (tl p) = some y := ⟨_, combineW_ok ⟨hxw, v2, hxl⟩⟩
        have hxs : x.length ≤ 200 := wv_length hxw
        have K1 := Lib.hid (show minusW r (partly (tl v) cs) = some (partly (tl p) cs) from by
          have hcomm : combineW 1 (tl p) (tl v) = some r := by
            rw [← hm]; unfold combineW
            have e : combine 1 (tl p) (tl v) = combine 1 (tl v) (tl p) := by
              unfold combine
              rw [List.zipWith_comm]
              congr 1; funext a b; congr 2; omega
            rw [e]
            by_cases hcnd : wv (tl v) = true ∧ wv (tl p) = true ∧ (tl v).length = (tl p).length
            · rw [if_pos hcnd, if_pos ⟨hcnd.2.1, hcnd.1, hcnd.2.2.symm⟩]
            · exact absurd ⟨v1, v2, v3⟩ hcnd
          exact read_partly cs hcomm)
        have K2 := Lib.hid (read_partly cs hy)
        have K3 := Lib.hid (fit_partly cs hxw)
        have HM := Lib.hid hm; clear hm
        have HY := Lib.hid hy; clear hy
        have HX := Lib.hid hx; clear hx
        have HSW := Lib.hid hsw; clear hsw
        have V1 := Lib.hid v1
        clear v1 v2 v3 hrw hxl hxw
        go_wp2_with fail
        refine (addWords_some _ _ r _ HM.out).mono ?_
        rintro e w2 ⟨rfl, hb2⟩
        have HB2 := Lib.hid (HB.out.trans (hb2.mono HB.out.size)); clear hb2
        go_wp2_with fail
        refine (sAddWords_some _ _ r _ HM.out).mono ?_
        rintro e w3 ⟨rfl, hb3⟩
        have HB3 := Lib.hid (HB2.out.trans (hb3.mono HB2.out.size)); clear hb3
        go_wp2_with fail
        rw [show ((cs.length : Int) % 10) = ((cs.length % 10 : Nat) : Int) by omega]
        refine (shiftWord_some v (cs.length % 10) _ V1.out (by omega)).mono ?_
        rintro e w4 ⟨rfl, hb4⟩
        have HB4 := Lib.hid (HB3.out.trans (hb4.mono HB3.out.size)); clear hb4
        go_wp2_with fail
        refine (reverseWord_some (mk (shiftL (cs.length % 10) (tl v))) _ HSW.out).mono ?_
        rintro e w5 ⟨rfl, hb5⟩
        have HB5 := Lib.hid (HB4.out.trans (hb5.mono HB4.out.size)); clear hb5
        rw [tl_mk, ← HX.out]
        go_wp2_with fail
        refine (addWords_some (mk x) p y _ HY.out).mono ?_
        rintro e w6 ⟨rfl, hb6⟩
        have HB6 := Lib.hid (HB5.out.trans (hb6.mono HB5.out.size)); clear hb6
        go_wp2_with fail
        refine (rcPartly_any w6 v A2 cap2 cs ((H2.out.below HB6.out).mono HB6.out.size) hc2 (by omega) hv).mono ?_
        rintro e w7 ⟨rfl, rfl⟩
        go_wp2_with fail
        refine (readDepth_some (mk r) (mk (partly (tl v) cs)) (mk y) (partly (tl p) cs) (partly x cs) _ K1.out K2.out).mono ?_
        rintro e w7 ⟨rfl, hb7⟩
        have HB7 := Lib.hid (HB6.out.trans (hb7.mono HB6.out.size)); clear hb7
        go_wp2_with fail
        refine (rcPartly_any w7 (mk x) A2 cap2 cs ((H2.out.below HB7.out).mono HB7.out.size) hc2 (by omega) (by rw [size_mk]; omega)).mono ?_
        rintro e w8 ⟨rfl, rfl⟩
        rw [tl_mk]
        go_wp2_with fail
        refine (fits_is (mk (partly x cs)) (mk x) true _ K3.out).mono ?_
        rintro e w8 ⟨rfl, hb8⟩
        have HB8 := Lib.hid (HB7.out.trans (hb8.mono HB7.out.size)); clear hb8
        go_wp2_with fail
        go_ret
        exact ⟨rfl, HB8.out⟩

end Go.Proofs.Ytcgihkapcfpjcaa
