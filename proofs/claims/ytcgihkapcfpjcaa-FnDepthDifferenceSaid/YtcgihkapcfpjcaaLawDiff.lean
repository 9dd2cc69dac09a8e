/-
  The walk of the law FnDepthDifference: it returns true whatever the bytes are; nothing that was there is changed. No conditions.
-/
import Derived.Test.YtcgihkapcfpjcaaRev
import Derived.Test.YtcgihkapcfpjcaaRead
import Derived.Test.YtcgihkapcfpjcaaDrawP
import Derived.Test.YtcgihkapcfpjcaaKnown
import Derived.Test.YtcgihkapcfpjcaaPlainD
import Derived.Deep.RegionHeld3
namespace Go.Proofs.Ytcgihkapcfpjcaa
open Go.RowKit Pl
set_option linter.unusedVariables false

theorem shiftWord_one (s : ByteArray) (c : UInt8) (m : Int) (n : Nat) (w : World) (hs : s = mk [c]) (hm : m = (n : Int)) (hc : isL c = true) (hn : n < 10) :
    Calls Try.prog 38 #[.string s, .int .i64 m] w fun e w' => e = .returned (.string (mk [letter ((dg c + n) % 10)])) ∧ Below w.heap.size w w' := by
  subst hs; subst hm
  have h : wv (tl (mk [c])) = true := by rw [tl_mk, wv_all (by simp)]; simp [hc]
  exact shiftWord_some (mk [c]) n w h hn
theorem diff_letter {x v p : UInt8} (hx : isL x = true) (hv : isL v = true) (hp : isL p = true) :
    letter ((dg p + dg (letter ((dg x + 9 * dg v) % 10))) % 10) = minusC x (minusC v p) := by
  have h1 := dg_lt hx
  have h2 := dg_lt hv
  have h3 := dg_lt hp
  rw [minusC_let v (isL_ne hp), minusC_let x (letter_ne (by omega)), dg_letter (by omega), dg_letter (by omega)]
  congr 1; omega

theorem diff_each {v p x : ByteArray} {d k q : List UInt8} (hd : d = combine 9 (tl x) (tl v)) (b1 : wv (tl x) = true) (a1 : wv (tl v) = true) (a2 : pv (tl p) = true) (hvx : (tl x).length = (tl v).length)
    (a3 : (tl v).length = (tl p).length) (a4 : k = minusL (tl v) (tl p)) (b4 : q = minusL (tl x) k) (hdl : d.length = p.size) (hqp : q.length = p.size) :
    ∀ i (h1 : i < p.size), p[i].toNat ≠ 45 → ∃ (h2 : i < (mk d).size) (h3 : i < (mk q).size), isL p[i] = true ∧ isL (mk d)[i] = true ∧ letter ((dg p[i] + dg (mk d)[i]) % 10) = (mk q)[i] := by
  intro i h1 hg
  have i1 : i < (tl x).length := by rw [hvx, a3, length_tl]; exact h1
  have i2 : i < (tl v).length := by rw [a3, length_tl]; exact h1
  have i3 : i < (tl p).length := h1
  have hpL : isL (tl p)[i] = true := isL_of_isP (pv_mem a2 (List.getElem_mem _)) hg
  have hxL : isL (tl x)[i] = true := wv_mem b1 (List.getElem_mem _)
  have hvL : isL (tl v)[i] = true := wv_mem a1 (List.getElem_mem _)
  have hd' : i < d.length := by rw [hdl]; exact h1
  have hq' : i < q.length := by rw [hqp]; exact h1
  have e1 : d[i] = letter ((dg (tl x)[i] + 9 * dg (tl v)[i]) % 10) := by
    subst hd; simp only [combine, List.getElem_zipWith]
  have e2 : q[i] = minusC (tl x)[i] (minusC (tl v)[i] (tl p)[i]) := by
    subst b4; subst a4; simp only [minusL, List.getElem_zipWith]
  refine ⟨hd', hq', hpL, ?_, ?_⟩
  · show isL d[i] = true
    rw [e1]; exact isL_letter (by omega)
  · show letter ((dg (tl p)[i] + dg d[i]) % 10) = q[i]
    rw [e1, e2]
    exact diff_letter hxL hvL hpL

set_option maxHeartbeats 8000000 in
set_option maxRecDepth 100000 in
theorem fnDepthDifference_walk (w : World) (A : Option Addr) (cap : Nat) (bs : List UInt8) (h : Rd w w.heap.size A (bytesV bs)) (hc : bs.length ≤ cap) :
    Calls Try.prog 14 #[.slice A bs.length cap] w fun e w' => e = .returned (.bool true) ∧ Below w.heap.size w w' := by
  by_cases hlen : 1048576 < bs.length
  · go_enter Try.func14, Try.ntmps14
    go_wp2_with fail
    go_ret
    exact ⟨rfl, Below.refl _ _⟩
  · have hlen' : decide ((1048576 : Int) < (bs.length : Int)) = false := by simp; omega
    go_enter Try.func14, Try.ntmps14
    go_wp2_with fail
    refine (drawReadDepth_any w A cap bs h hc).mono ?_
    rintro e w1 ⟨v, p, x, rfl, hv, hp, hx, hb⟩
    have HB := Lib.hid hb; clear hb h
    cases hm : minusW (tl v) (tl p) with
    | none =>
      have HM := Lib.hid hm; clear hm
      go_wp2_with fail
      refine (readDepth_none1 _ _ _ _ HM.out).mono ?_
      rintro e w2 ⟨rfl, hb2⟩
      have HB2 := Lib.hid (HB.out.trans (hb2.mono HB.out.size)); clear hb2
      go_wp2_with fail
      refine (sReadDepth_none1 _ _ _ _ HM.out).mono ?_
      rintro e w3 ⟨rfl, hb3⟩
      go_wp2_with fail
      go_ret
      exact ⟨rfl, HB2.out.trans (hb3.mono HB2.out.size)⟩
    | some k =>
      cases hm2 : minusW (tl x) k with
      | none =>
        have HM := Lib.hid hm; clear hm
        have HM2 := Lib.hid hm2; clear hm2
        go_wp2_with fail
        refine (readDepth_none2 _ _ _ k _ HM.out HM2.out).mono ?_
        rintro e w2 ⟨rfl, hb2⟩
        have HB2 := Lib.hid (HB.out.trans (hb2.mono HB.out.size)); clear hb2
        go_wp2_with fail
        refine (sReadDepth_none2 _ _ _ k _ HM.out HM2.out).mono ?_
        rintro e w3 ⟨rfl, hb3⟩
        go_wp2_with fail
        go_ret
        exact ⟨rfl, HB2.out.trans (hb3.mono HB2.out.size)⟩
      | some q =>
        obtain ⟨a1, a2, a3, a4⟩ := minusW_some_iff hm
        obtain ⟨b1, b2, b3, b4⟩ := minusW_some_iff hm2
        have hkl := (minusW_len hm).1
        have hql := (minusW_len hm2).1
        have hvx : (tl x).length = (tl v).length := by rw [b3, hkl, a3]
        obtain ⟨d, hd⟩ : ∃ d, d = combine 9 (tl x) (tl v) := ⟨_, rfl⟩
        have hcd : combineW 9 (tl x) (tl v) = some d := by rw [hd]; exact combineW_ok ⟨b1, a1, hvx⟩
        have hkc : (kcount q == kcount (tl p)) = true := by rw [beq_iff_eq, kcount_minus hm2, kcount_minus hm]
        have hpl := pv_length a2
        have hzp : p.size ≤ 200 := hpl
        have hdl : d.length = p.size := by rw [hd, length_combine _ _ _ hvx, hvx, a3, length_tl]
        have hqp : q.length = p.size := by rw [hql, hkl, length_tl]
        have each := diff_each (p := p) hd b1 a1 a2 hvx a3 a4 b4 hdl hqp
        have EACH := Lib.hid each
        have HCD := Lib.hid hcd
        have HM := Lib.hid hm
        have HM2 := Lib.hid hm2
        have hzd1 : (mk d).size ≤ p.size := by rw [size_mk, hdl]; omega
        have hzd2 : p.size ≤ (mk d).size := by rw [size_mk, hdl]; omega
        have hzq1 : (mk q).size ≤ p.size := by rw [size_mk, hqp]; omega
        have hzq2 : p.size ≤ (mk q).size := by rw [size_mk, hqp]; omega
        clear each hcd hm hm2 a1 a2 a3 a4 b1 b2 b3 b4 hkl hql hvx hd hpl hdl hqp
        go_wp2_with fail
        refine (readDepth_some _ _ _ k q _ HM.out HM2.out).mono ?_
        rintro e w2 ⟨rfl, hb2⟩
        have HB2 := Lib.hid (HB.out.trans (hb2.mono HB.out.size)); clear hb2
        go_wp2_with fail
        refine (sReadDepth_some _ _ _ k q _ HM.out HM2.out).mono ?_
        rintro e w3 ⟨rfl, hb3⟩
        have HB3 := Lib.hid (HB2.out.trans (hb3.mono HB2.out.size)); clear hb3
        go_wp2_with fail
        refine (subWords_some x v d _ HCD.out).mono ?_
        rintro e w4 ⟨rfl, hb4⟩
        have HB4 := Lib.hid (HB3.out.trans (hb4.mono HB3.out.size)); clear hb4
        go_wp2_with fail
        go_loopw [12] (fun i wr => ∃ k : Nat, k ≤ p.size ∧ i = .int .i64 k ∧ Below w.heap.size w wr) (fun i _ => p.size - (intOf i).toNat)
        case atStart => exact ⟨0, Nat.zero_le _, rfl, HB4.out⟩
        case round =>
          obtain ⟨j, hk, rfl, hbl⟩ := hrel
          have HBL := Lib.hid hbl; clear hbl
          by_cases hlt : j < p.size
          · have hi1 : (j : Int) < (p.size : Int) := by omega
            have hi2 : (j : Int) < ((mk d).size : Int) := by omega
            have hi3 : (j : Int) < ((mk q).size : Int) := by omega
            by_cases hg : p[j].toNat = 45
            · have hgb : (((p[j].toNat : Nat) : Int) != 45) = false := by simp; omega
              clear hg
              go_wp2_with fail
              go_quiet (fail)
              go_wp2_with fail
              go_roundw
              case rel => exact ⟨j + 1, by omega, by go_num, below_drewN' HBL.out _⟩
              case measure => simp [intOf]; omega
            · obtain ⟨i2, i3, hpL, hdL, hqq⟩ := EACH.out j hlt hg
              have hgb : (((p[j].toNat : Nat) : Int) != 45) = true := by rw [bne_iff_ne]; omega
              have hdb := isL_bounds hdL
              have hxp := slice_one p j hlt
              have hxq := slice_one (mk q) j i3
              have hcmp : (!((mk [letter ((dg p[j] + dg (mk d)[j]) % 10)]).toList == ((mk q).extract j (j + 1)).toList)) = false := by rw [hxq, hqq]; simp
              have HXP := Lib.hid hxp; clear hxp
              have HPL := Lib.hid hpL; clear hpL
              have HDL := Lib.hid hdL; clear hdL
              have hk0 : (0 : Int) ≤ (j : Int) + 1 := by omega
              have hk1 : (j : Int) + 1 ≤ (p.size : Int) := by omega
              have hk2 : (j : Int) ≤ (j : Int) + 1 := by omega
              have hk3 : (j : Int) + 1 ≤ ((mk q).size : Int) := by omega
              have hdd : IntKind.i64.wrap (IntKind.i64.wrap (((mk d)[j].toNat : Nat) : Int) - 97) = ((dg (mk d)[j] : Nat) : Int) := by
                have hb255 := (mk d)[j].toNat_lt
                rw [IntWalk.i64_in (((mk d)[j].toNat : Nat) : Int) (by omega), IntWalk.i64_in ((((mk d)[j].toNat : Nat) : Int) - 97) (by omega)]; unfold dg; omega
              have HDD := Lib.hid hdd; clear hdd hxq hqq hg
              go_wp2_with fail
              have hkw : IntKind.i64.wrap ((j : Int) + 1) = (j : Int) + 1 := IntWalk.i64_in _ (by omega)
              have hkn : ((j : Int) + 1).toNat = j + 1 := by omega
              go_region_held3 (fun wr => Below w.heap.size w wr) (first | assumption | exact below_drewN' HBL.out 1 | exact Below.trans (by assumption) (Below.mono (by assumption) (Below.size (by assumption)))) ((go_at_call 38; refine (shiftWord_one _ p[j] _ (dg (mk d)[j]) _ HXP.out HDD.out HPL.out (dg_lt HDL.out)).mono ?_; rintro e w7 ⟨rfl, hb7⟩))
              clear hkw hkn
              go_wp2_with fail
              go_roundw
              case rel => exact ⟨j + 1, by omega, by go_num, by assumption⟩
              case measure => simp [intOf]; omega
          · go_wp2_with fail
            refine (knownCount_any (mk q) _).mono ?_
            rintro e w' ⟨rfl, rfl⟩
            rw [tl_mk]
            go_wp2_with fail
            refine (knownCount_any p _).mono ?_
            rintro e w' ⟨rfl, rfl⟩
            go_wp2_with fail
            go_ret
            exact ⟨rfl, HBL.out⟩

end Go.Proofs.Ytcgihkapcfpjcaa
