/-
  The walk of the law FnPartialKnown: it returns true whatever the bytes are; nothing that was there is changed. No conditions.
-/
import Derived.Test.YtcgihkapcfpjcaaRev
import Derived.Test.YtcgihkapcfpjcaaDrawP
import Derived.Test.YtcgihkapcfpjcaaKnown
import Derived.Test.YtcgihkapcfpjcaaPlainD
namespace Go.Proofs.Ytcgihkapcfpjcaa
open Go.RowKit Pl
set_option linter.unusedVariables false

set_option maxHeartbeats 4000000 in
set_option maxRecDepth 100000 in
theorem fnPartialKnown_walk (w : World) (A : Option Addr) (cap : Nat) (bs : List UInt8) (h : Rd w w.heap.size A (bytesV bs)) (hc : bs.length ≤ cap) :
    Calls Try.prog 10 #[.slice A bs.length cap] w fun e w' => e = .returned (.bool true) ∧ Below w.heap.size w w' := by
  by_cases hlen : 1048576 < bs.length
  · go_enter Try.func10, Try.ntmps10
    go_wp2_with fail
    go_ret
    exact ⟨rfl, Below.refl _ _⟩
  · have hlen' : decide ((1048576 : Int) < (bs.length : Int)) = false := by simp; omega
    go_enter Try.func10, Try.ntmps10
    go_wp2_with fail
    refine (drawKnownCount_any w A cap bs h hc).mono ?_
    rintro e w1 ⟨p, rfl, hp, hb⟩
    have HB := Lib.hid hb; clear hb h
    by_cases hv : pv (tl p) = true
    · have hl := pv_length hv
      rw [length_tl] at hl
      have e1 : kcount (tl p) = (kn (tl p) : Int) := by unfold kcount; rw [if_pos hv]
      have hkl := kn_le (tl p)
      rw [length_tl] at hkl
      have hwk := wv_known hv
      rw [length_tl] at hwk
      have HW := Lib.hid hwk; clear hwk
      have E1 := Lib.hid e1; clear e1
      have HV := Lib.hid hv; clear hv
      obtain ⟨a, ha⟩ : ∃ a : Nat, a = kn (tl p) := ⟨_, rfl⟩
      have HA := Lib.hid ha
      rw [← ha] at hkl
      clear ha
      have hab : ((a : Int) != (a : Int)) = false := by simp
      go_wp2_with fail
      refine (knownCount_any p _).mono ?_
      rintro e w' ⟨rfl, rfl⟩
      rw [E1.out, ← HA.out]
      go_wp2_with fail
      refine (sKnownCount_any p _).mono ?_
      rintro e w' ⟨rfl, rfl⟩
      rw [E1.out, ← HA.out]
      go_wp2_with fail
      refine (partialValid_is _ true _ HV.out).mono ?_
      rintro e w' ⟨rfl, rfl⟩
      go_wp2_with fail
      go_loopw [4, 5] (fun n i wr => ∃ k : Nat, k ≤ p.size ∧ i = .int .i64 k ∧ n = .int .i64 ((a : Int) - (kn ((tl p).take k) : Int)) ∧ Below w.heap.size w wr) (fun _ i _ => p.size - (intOf i).toNat)
      case atStart => exact ⟨0, Nat.zero_le _, rfl, by simp [kn], HB.out⟩
      case round =>
        obtain ⟨k, hk, rfl, rfl, hbl⟩ := hrel
        have HBL := Lib.hid hbl; clear hbl
        have hal := kn_le ((tl p).take k)
        have hat : ((tl p).take k).length ≤ k := List.length_take_le _ _
        by_cases hlt : k < p.size
        · have hi1 : (k : Int) < (p.size : Int) := by omega
          have hsn : kn ((tl p).take (k + 1)) = kn ((tl p).take k) + if p[k].toNat = 45 then 0 else 1 := by rw [take_succ_tl p k hlt, kn_snoc]
          have HSN := Lib.hid hsn; clear hsn
          by_cases hg : p[k].toNat = 45
          · have hgb : (((p[k].toNat : Nat) : Int) != 45) = false := by simp; omega
            have HG := Lib.hid hg; clear hg
            go_wp2_with fail
            go_roundw
            case rel => exact ⟨k + 1, by omega, by go_num, by rw [HSN.out, if_pos HG.out]; rfl, HBL.out⟩
            case measure => simp [intOf]; omega
          · have hgb : (((p[k].toNat : Nat) : Int) != 45) = true := by rw [bne_iff_ne]; omega
            have HG := Lib.hid hg; clear hg
            go_wp2_with fail
            go_roundw
            case rel => exact ⟨k + 1, by omega, by go_num, by rw [HSN.out, if_neg HG.out]; go_num, HBL.out⟩
            case measure => simp [intOf]; omega
        · have et : (a : Int) - (kn ((tl p).take k) : Int) = 0 := by
            rw [List.take_of_length_le (by rw [length_tl]; omega), HA.out]; omega
          rw [et]
          clear et hal hat
          go_wp2_with fail
          by_cases hwv : wv (tl p) = true
          · have hpr := Lib.hid (show pv (tl p).reverse = true from pv_of_wv (wv_reverse hwv))
            have hkb : ((a : Int) == (p.size : Int)) = true := by
              have := HW.out; rw [hwv, ← HA.out] at this
              have := of_decide_eq_true this.symm
              rw [beq_iff_eq]; omega
            have HWV := Lib.hid hwv; clear hwv
            refine (reverseWord_some p _ HWV.out).mono ?_
            rintro e w2 ⟨rfl, hb2⟩
            have HB2 := Lib.hid (HBL.out.trans (hb2.mono HBL.out.size)); clear hb2
            go_wp2_with fail
            refine (partialValid_is (mk (tl p).reverse) true _ hpr.out).mono ?_
            rintro e w' ⟨rfl, rfl⟩
            go_wp2_with fail
            refine (wordValid_is p true _ HWV.out).mono ?_
            rintro e w' ⟨rfl, rfl⟩
            go_wp2_with fail
            refine (knownCount_any p _).mono ?_
            rintro e w' ⟨rfl, rfl⟩
            rw [E1.out, ← HA.out]
            go_wp2_with fail
            go_ret
            exact ⟨rfl, HB2.out⟩
          · have hwf : wv (tl p) = false := by simpa using hwv
            have hkb : ((a : Int) == (p.size : Int)) = false := by
              have := HW.out; rw [hwf, ← HA.out] at this
              have := of_decide_eq_false this.symm
              rw [beq_eq_false_iff_ne]; omega
            have HWV := Lib.hid hwf; clear hwv hwf
            refine (reverseWord_none p _ HWV.out).mono ?_
            rintro e w2 ⟨rfl, hb2⟩
            have HB2 := Lib.hid (HBL.out.trans (hb2.mono HBL.out.size)); clear hb2
            go_wp2_with fail
            refine (partialValid_is (mk []) true _ rfl).mono ?_
            rintro e w' ⟨rfl, rfl⟩
            go_wp2_with fail
            refine (wordValid_is p false _ HWV.out).mono ?_
            rintro e w' ⟨rfl, rfl⟩
            go_wp2_with fail
            refine (knownCount_any p _).mono ?_
            rintro e w' ⟨rfl, rfl⟩
            rw [E1.out, ← HA.out]
            go_wp2_with fail
            go_ret
            exact ⟨rfl, HB2.out⟩
    · have e1 : kcount (tl p) = -1 := by unfold kcount; rw [if_neg hv]
      have E1 := Lib.hid e1; clear e1
      have HV := Lib.hid (show pv (tl p) = false by simpa using hv); clear hv
      go_wp2_with fail
      refine (knownCount_any p _).mono ?_
      rintro e w' ⟨rfl, rfl⟩
      rw [E1.out]
      go_wp2_with fail
      refine (sKnownCount_any p _).mono ?_
      rintro e w' ⟨rfl, rfl⟩
      rw [E1.out]
      go_wp2_with fail
      refine (partialValid_is _ false _ HV.out).mono ?_
      rintro e w' ⟨rfl, rfl⟩
      go_wp2_with fail
      refine (sKnownCount_any p _).mono ?_
      rintro e w' ⟨rfl, rfl⟩
      rw [E1.out]
      go_wp2_with fail
      refine (partialValid_is _ false _ HV.out).mono ?_
      rintro e w' ⟨rfl, rfl⟩
      go_wp2_with fail
      go_ret
      exact ⟨rfl, HB.out⟩

end Go.Proofs.Ytcgihkapcfpjcaa
