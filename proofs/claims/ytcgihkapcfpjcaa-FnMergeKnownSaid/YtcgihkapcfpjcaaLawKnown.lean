/-
  The walks of the laws FnKeyRead and FnMergeKnown: they return true whatever the bytes are; nothing that was there is changed. No conditions.
-/
import Derived.Test.YtcgihkapcfpjcaaLawMerge
import Derived.Test.YtcgihkapcfpjcaaKnown
import Derived.Test.YtcgihkapcfpjcaaPlainC
namespace Go.Proofs.Ytcgihkapcfpjcaa
open Go.RowKit Pl
set_option linter.unusedVariables false

set_option maxHeartbeats 4000000 in
set_option maxRecDepth 100000 in
theorem fnKeyRead_walk (w : World) (A : Option Addr) (cap : Nat) (bs : List UInt8) (h : Rd w w.heap.size A (bytesV bs)) (hc : bs.length ≤ cap) :
    Calls Try.prog 13 #[.slice A bs.length cap] w fun e w' => e = .returned (.bool true) ∧ Below w.heap.size w w' := by
  by_cases hlen : 1048576 < bs.length
  · go_enter Try.func13, Try.ntmps13
    go_wp2_with fail
    go_ret
    exact ⟨rfl, Below.refl _ _⟩
  · have hlen' : decide ((1048576 : Int) < (bs.length : Int)) = false := by simp; omega
    go_enter Try.func13, Try.ntmps13
    go_wp2_with fail
    refine (drawKeyFrom_any w A cap bs h hc).mono ?_
    rintro e w1 ⟨v, p, rfl, hv, hp, hb⟩
    have HB := Lib.hid hb; clear hb h
    cases hm : minusW (tl v) (tl p) with
    | none =>
      have HX := Lib.hid (minusW_none_iff hm)
      have HM := Lib.hid hm; clear hm
      go_wp2_with fail
      refine (keyFrom_none _ _ _ HM.out).mono ?_
      rintro e w2 ⟨rfl, hb2⟩
      have HB2 := Lib.hid (HB.out.trans (hb2.mono HB.out.size)); clear hb2
      go_wp2_with fail
      refine (sKeyFrom_none _ _ _ HM.out).mono ?_
      rintro e w3 ⟨rfl, hb3⟩
      have HB3 := Lib.hid (HB2.out.trans (hb3.mono HB2.out.size)); clear hb3
      go_wp2_with fail
      by_cases v1 : wv (tl v) = true
      · refine (wordValid_is _ true _ v1).mono ?_
        rintro e w' ⟨rfl, rfl⟩
        by_cases v2 : pv (tl p) = true
        · have hne : (((v.size : Nat) : Int) == ((p.size : Nat) : Int)) = false := by
            rw [beq_eq_false_iff_ne]; intro hh; exact HX.out ⟨v1, v2, by rw [length_tl, length_tl]; omega⟩
          clear v1
          go_wp2_with fail
          refine (partialValid_is _ true _ v2).mono ?_
          rintro e w' ⟨rfl, rfl⟩
          clear v2
          go_wp2_with fail
          go_ret
          exact ⟨rfl, HB3.out⟩
        · clear v1
          go_wp2_with fail
          refine (partialValid_is _ false _ (by simpa using v2)).mono ?_
          rintro e w' ⟨rfl, rfl⟩
          clear v2
          go_wp2_with fail
          go_ret
          exact ⟨rfl, HB3.out⟩
      · refine (wordValid_is _ false _ (by simpa using v1)).mono ?_
        rintro e w' ⟨rfl, rfl⟩
        clear v1
        go_wp2_with fail
        go_ret
        exact ⟨rfl, HB3.out⟩
    | some r =>
      obtain ⟨v1, v2, v3, hr0⟩ := minusW_some_iff hm
      clear hr0
      have hne : (((v.size : Nat) : Int) == ((p.size : Nat) : Int)) = true := by
        rw [beq_iff_eq]; rw [length_tl, length_tl] at v3; omega
      have K1 := Lib.hid (minusW_back hm)
      have hkc : (kcount r == kcount (tl p)) = true := by rw [beq_iff_eq]; exact kcount_minus hm
      have V1 := Lib.hid v1; clear v1
      have V2 := Lib.hid v2; clear v2 v3
      have HM := Lib.hid hm; clear hm
      have hsb := str_beq p
      go_wp2_with fail
      refine (keyFrom_some _ _ r _ HM.out).mono ?_
      rintro e w2 ⟨rfl, hb2⟩
      have HB2 := Lib.hid (HB.out.trans (hb2.mono HB.out.size)); clear hb2
      go_wp2_with fail
      refine (sKeyFrom_some _ _ r _ HM.out).mono ?_
      rintro e w3 ⟨rfl, hb3⟩
      have HB3 := Lib.hid (HB2.out.trans (hb3.mono HB2.out.size)); clear hb3
      go_wp2_with fail
      refine (wordValid_is _ true _ V1.out).mono ?_
      rintro e w' ⟨rfl, rfl⟩
      go_wp2_with fail
      refine (partialValid_is _ true _ V2.out).mono ?_
      rintro e w' ⟨rfl, rfl⟩
      go_wp2_with fail
      refine (readWith_some v (mk r) (tl p) _ K1.out).mono ?_
      rintro e w4 ⟨rfl, hb4⟩
      have HB4 := Lib.hid (HB3.out.trans (hb4.mono HB3.out.size)); clear hb4
      go_wp2_with fail
      refine (keyFrom_some v (mk (tl p)) r _ HM.out).mono ?_
      rintro e w5 ⟨rfl, hb5⟩
      have HB5 := Lib.hid (HB4.out.trans (hb5.mono HB4.out.size)); clear hb5
      go_wp2_with fail
      refine (knownCount_any (mk r) _).mono ?_
      rintro e w' ⟨rfl, rfl⟩
      go_wp2_with fail
      refine (knownCount_any p _).mono ?_
      rintro e w' ⟨rfl, rfl⟩
      rw [tl_mk]
      go_wp2_with fail
      go_ret
      exact ⟨rfl, HB5.out⟩

set_option maxHeartbeats 4000000 in
set_option maxRecDepth 100000 in
theorem fnMergeKnown_walk (w : World) (A : Option Addr) (cap : Nat) (bs : List UInt8) (h : Rd w w.heap.size A (bytesV bs)) (hc : bs.length ≤ cap) :
    Calls Try.prog 11 #[.slice A bs.length cap] w fun e w' => e = .returned (.bool true) ∧ Below w.heap.size w w' := by
  by_cases hlen : 1048576 < bs.length
  · go_enter Try.func11, Try.ntmps11
    go_wp2_with fail
    go_ret
    exact ⟨rfl, Below.refl _ _⟩
  · have hlen' : decide ((1048576 : Int) < (bs.length : Int)) = false := by simp; omega
    go_enter Try.func11, Try.ntmps11
    go_wp2_with fail
    refine (drawMergePartials_any w A cap bs h hc).mono ?_
    rintro e w1 ⟨p, q, rfl, hp, hq, hb⟩
    have HB := Lib.hid hb; clear hb h
    cases hm : mergeW (tl p) (tl q) with
    | none =>
      have HM := Lib.hid hm; clear hm
      go_wp2_with fail
      refine (merge_no _ _ _ HM.out).mono ?_
      rintro e w2 ⟨rfl, hb2⟩
      have HB2 := Lib.hid (HB.out.trans (hb2.mono HB.out.size)); clear hb2
      go_wp2_with fail
      refine (sMerge_no _ _ _ HM.out).mono ?_
      rintro e w3 ⟨rfl, hb3⟩
      go_wp2_with fail
      go_ret
      exact ⟨rfl, HB2.out.trans (hb3.mono HB2.out.size)⟩
    | some r =>
      have hval : pv (tl p) = true ∧ pv (tl q) = true ∧ (tl p).length = (tl q).length := by
        unfold mergeW at hm
        split at hm
        · assumption
        · cases hm
      obtain ⟨v1, v2, v3⟩ := hval
      have hml : mergeL (tl p) (tl q) = some r := by unfold mergeW at hm; rwa [if_pos ⟨v1, v2, v3⟩] at hm
      have hl := pv_length v1
      have hpr := pv_mergeL v1 v2 v3 hml
      have hkn := kn_merge _ _ _ v3 hml
      have hk1 := kn_le (tl p)
      have hk2 := kn_le (tl q)
      have hk3 := kn_le r
      have e1 : kcount (tl p) = (kn (tl p) : Int) := by unfold kcount; rw [if_pos v1]
      have e2 : kcount (tl q) = (kn (tl q) : Int) := by unfold kcount; rw [if_pos v2]
      have e3 : kcount r = (kn r : Int) := by unfold kcount; rw [if_pos hpr.1]
      have hzr : (mk r).size = p.size := by rw [size_mk]; exact hpr.2
      have v3' : p.size = q.size := v3
      rw [length_tl] at hl hk1 hk2
      have hzb : (((mk r).size : Int) == (p.size : Int)) = true := by rw [beq_iff_eq]; omega
      have hle1 : (mk r).size ≤ p.size := by omega
      have hle2 : p.size ≤ (mk r).size := by omega
      have hle3 : p.size ≤ q.size := by omega
      have hrl := hpr.2
      rw [hrl, length_tl] at hk3
      obtain ⟨a1, ha1⟩ : ∃ a1 : Nat, a1 = kn (tl p) := ⟨_, rfl⟩
      obtain ⟨a2, ha2⟩ : ∃ a2 : Nat, a2 = kn (tl q) := ⟨_, rfl⟩
      obtain ⟨a3, ha3⟩ : ∃ a3 : Nat, a3 = kn r := ⟨_, rfl⟩
      rw [← ha1] at e1 hkn hk1
      rw [← ha2] at e2 hkn hk2
      rw [← ha3] at e3 hkn hk3
      obtain ⟨hkn1, hkn2⟩ := hkn
      have E1 := Lib.hid e1
      have E2 := Lib.hid e2
      have E3 := Lib.hid e3
      have MA := Lib.hid (fun i h1 h2 h3 => merge_at v3 hml i h1 h2 h3)
      have HRL := Lib.hid hrl
      have HM := Lib.hid hm
      clear hm hml v1 v2 v3 v3' hpr e1 e2 e3 hzr hrl ha1 ha2 ha3
      go_wp2_with fail
      refine (merge_some _ _ r _ HM.out).mono ?_
      rintro e w2 ⟨rfl, hb2⟩
      have HB2 := Lib.hid (HB.out.trans (hb2.mono HB.out.size)); clear hb2
      go_wp2_with fail
      refine (sMerge_some _ _ r _ HM.out).mono ?_
      rintro e w3 ⟨rfl, hb3⟩
      have HB3 := Lib.hid (HB2.out.trans (hb3.mono HB2.out.size)); clear hb3
      go_wp2_with fail
      go_loopw [9] (fun i wr => ∃ k : Nat, k ≤ p.size ∧ i = .int .i64 k ∧ Below w.heap.size w wr) (fun i _ => p.size - (intOf i).toNat)
      case atStart => exact ⟨0, Nat.zero_le _, rfl, HB3.out⟩
      case round =>
        obtain ⟨k, hk, rfl, hbl⟩ := hrel
        have HBL := Lib.hid hbl; clear hbl
        by_cases hlt : k < p.size
        · have hltr : k < (mk r).size := by omega
          have hltq : k < q.size := by omega
          have hi1 : (k : Int) < (p.size : Int) := by omega
          have hi2 : (k : Int) < ((mk r).size : Int) := by omega
          have hi3 : (k : Int) < (q.size : Int) := by omega
          have hmc : mergeC p[k] q[k] = some (mk r)[k] := MA.out k hlt hltq (by rw [HRL.out]; exact hlt)
          obtain ⟨c, hcc⟩ : ∃ c, c = (mk r)[k] := ⟨_, rfl⟩
          rw [← hcc] at hmc
          by_cases hgp : p[k].toNat = 45
          · have hcq : c = q[k] := by unfold mergeC at hmc; rw [if_pos hgp] at hmc; injection hmc with hmc; exact hmc.symm
            have b1 : (((p[k].toNat : Nat) : Int) != 45) = false := by simp; omega
            have b2 : (((p[k].toNat : Nat) : Int) == 45) = true := by simp; omega
            have b3 : ((((mk r)[k].toNat : Nat) : Int) != ((q[k].toNat : Nat) : Int)) = false := by rw [← hcc, hcq]; simp
            by_cases hgq : q[k].toNat = 45
            · have c1 : (((q[k].toNat : Nat) : Int) != 45) = false := by simp; omega
              have c2 : (((q[k].toNat : Nat) : Int) == 45) = true := by simp; omega
              have c3 : ((((mk r)[k].toNat : Nat) : Int) != 45) = false := by rw [← hcc, hcq]; simp; omega
              clear hgp hgq hcq hcc hmc
              go_wp2_with fail
              go_quiet (fail)
              go_wp2_with fail
              go_roundw
              case rel => exact ⟨k + 1, by omega, by go_num, below_drewN' HBL.out _⟩
              case measure => simp [intOf]; omega
            · have c1 : (((q[k].toNat : Nat) : Int) != 45) = true := by rw [bne_iff_ne]; omega
              have c2 : (((q[k].toNat : Nat) : Int) == 45) = false := by simp; omega
              clear hgp hgq hcq hcc hmc
              go_wp2_with fail
              go_quiet (fail)
              go_wp2_with fail
              go_roundw
              case rel => exact ⟨k + 1, by omega, by go_num, below_drewN' HBL.out _⟩
              case measure => simp [intOf]; omega
          · have hcp : c = p[k] ∧ (q[k].toNat = 45 ∨ c = q[k]) := by
              unfold mergeC at hmc
              rw [if_neg hgp] at hmc
              split at hmc
              · cases hmc
              · rename_i hn
                injection hmc with hmc
                refine ⟨hmc.symm, ?_⟩
                by_cases h45 : q[k].toNat = 45
                · exact .inl h45
                · right
                  rw [← hmc]
                  exact (Classical.byContradiction fun hh => hn ⟨h45, hh⟩).symm
            have b1 : (((p[k].toNat : Nat) : Int) != 45) = true := by rw [bne_iff_ne]; omega
            have b2 : (((p[k].toNat : Nat) : Int) == 45) = false := by simp; omega
            have b3 : ((((mk r)[k].toNat : Nat) : Int) != ((p[k].toNat : Nat) : Int)) = false := by rw [← hcc, hcp.1]; simp
            by_cases hgq : q[k].toNat = 45
            · have c1 : (((q[k].toNat : Nat) : Int) != 45) = false := by simp; omega
              have c2 : (((q[k].toNat : Nat) : Int) == 45) = true := by simp; omega
              clear hgp hgq hcp hcc hmc
              go_wp2_with fail
              go_quiet (fail)
              go_wp2_with fail
              go_roundw
              case rel => exact ⟨k + 1, by omega, by go_num, below_drewN' HBL.out _⟩
              case measure => simp [intOf]; omega
            · have c1 : (((q[k].toNat : Nat) : Int) != 45) = true := by rw [bne_iff_ne]; omega
              have c2 : (((q[k].toNat : Nat) : Int) == 45) = false := by simp; omega
              have c3 : ((((mk r)[k].toNat : Nat) : Int) != ((q[k].toNat : Nat) : Int)) = false := by
                rcases hcp.2 with hh | hh
                · exact absurd hh hgq
                · rw [← hcc, hh]; simp
              clear hgp hgq hcp hcc hmc
              go_wp2_with fail
              go_quiet (fail)
              go_wp2_with fail
              go_roundw
              case rel => exact ⟨k + 1, by omega, by go_num, below_drewN' HBL.out _⟩
              case measure => simp [intOf]; omega
        · go_wp2_with fail
          refine (knownCount_any (mk r) _).mono ?_
          rintro e w' ⟨rfl, rfl⟩
          rw [tl_mk, E3.out]
          go_wp2_with fail
          refine (knownCount_any p _).mono ?_
          rintro e w' ⟨rfl, rfl⟩
          rw [E1.out]
          go_wp2_with fail
          refine (knownCount_any (mk r) _).mono ?_
          rintro e w' ⟨rfl, rfl⟩
          rw [tl_mk, E3.out]
          go_wp2_with fail
          refine (knownCount_any p _).mono ?_
          rintro e w' ⟨rfl, rfl⟩
          rw [E1.out]
          go_wp2_with fail
          refine (knownCount_any q _).mono ?_
          rintro e w' ⟨rfl, rfl⟩
          rw [E2.out]
          go_wp2_with fail
          go_ret
          refine ⟨?_, HBL.out⟩
          first | rfl | (simp; omega)

end Go.Proofs.Ytcgihkapcfpjcaa
