/-
  The walks of the laws FnReadKey and FnDepthBack: they return true whatever the bytes are; nothing that was there is changed. No conditions.
-/
import Derived.Test.YtcgihkapcfpjcaaRead
import Derived.Test.YtcgihkapcfpjcaaDrawP
import Derived.Test.YtcgihkapcfpjcaaPlainB
import Derived.Deep.QuietTactic
import Derived.BigQuiet
namespace Go.Proofs.Ytcgihkapcfpjcaa
open Go.RowKit Pl
set_option linter.unusedVariables false

set_option maxHeartbeats 2000000 in
theorem fnReadKey_walk (w : World) (A : Option Addr) (cap : Nat) (bs : List UInt8) (h : Rd w w.heap.size A (bytesV bs)) (hc : bs.length ≤ cap) :
    Calls Try.prog 6 #[.slice A bs.length cap] w fun e w' => e = .returned (.bool true) ∧ Below w.heap.size w w' := by
  by_cases hlen : 1048576 < bs.length
  · go_enter Try.func6, Try.ntmps6
    go_wp2_with fail
    go_ret
    exact ⟨rfl, Below.refl _ _⟩
  · have hlen' : decide ((1048576 : Int) < (bs.length : Int)) = false := by simp; omega
    go_enter Try.func6, Try.ntmps6
    go_wp2_with fail
    refine (drawReadWith_any w A cap bs h hc).mono ?_
    rintro e w1 ⟨v, p, rfl, hv, hp, hb⟩
    have HB := Lib.hid hb; clear hb h
    cases hm : minusW (tl v) (tl p) with
    | none =>
      have HM := Lib.hid hm; clear hm
      go_wp2_with fail
      refine (readWith_none _ _ _ HM.out).mono ?_
      rintro e w2 ⟨rfl, hb2⟩
      have HB2 := Lib.hid (HB.out.trans (hb2.mono HB.out.size)); clear hb2
      go_wp2_with fail
      refine (sReadWith_none _ _ _ HM.out).mono ?_
      rintro e w3 ⟨rfl, hb3⟩
      go_wp2_with fail
      go_ret
      exact ⟨rfl, HB2.out.trans (hb3.mono HB2.out.size)⟩
    | some r =>
      have HM := Lib.hid hm
      have hback := Lib.hid (minusW_back hm)
      have hln := minusW_len hm
      have HG := Lib.hid (fun i h1 h2 => minusW_gap hm i h1 h2)
      clear hm
      obtain ⟨hl1, hl2, hl3⟩ := hln
      have hzr : (mk r).size = p.size := by rw [size_mk]; exact hl1
      have hzp : p.size ≤ 200 := hl3
      have hle : (mk r).size ≤ p.size := by omega
      have hle' : p.size ≤ (mk r).size := by omega
      have HZR := Lib.hid hzr
      have HL1 := Lib.hid hl1
      clear hl1 hl2 hl3 hzr
      have hsb := str_beq p
      go_wp2_with fail
      refine (readWith_some _ _ r _ HM.out).mono ?_
      rintro e w2 ⟨rfl, hb2⟩
      have HB2 := Lib.hid (HB.out.trans (hb2.mono HB.out.size)); clear hb2
      go_wp2_with fail
      refine (sReadWith_some _ _ r _ HM.out).mono ?_
      rintro e w3 ⟨rfl, hb3⟩
      have HB3 := Lib.hid (HB2.out.trans (hb3.mono HB2.out.size)); clear hb3
      go_wp2_with fail
      refine (keyFrom_some v (mk r) (tl p) _ hback.out).mono ?_
      rintro e w4 ⟨rfl, hb4⟩
      have HB4 := Lib.hid (HB3.out.trans (hb4.mono HB3.out.size)); clear hb4
      go_wp2_with fail
      go_loopw [11] (fun i wr => ∃ k : Nat, k ≤ p.size ∧ i = .int .i64 k ∧ Below w.heap.size w wr) (fun i _ => p.size - (intOf i).toNat)
      case atStart => exact ⟨0, Nat.zero_le _, rfl, HB4.out⟩
      case round =>
        obtain ⟨k, hk, rfl, hbl⟩ := hrel
        have HBL := Lib.hid hbl; clear hbl
        by_cases hlt : k < p.size
        · have hltr : k < (mk r).size := by omega
          have hi1 : (k : Int) < (p.size : Int) := by omega
          have hi2 : (k : Int) < ((mk r).size : Int) := by omega
          have hgap : ((mk r)[k].toNat = 45) ↔ (p[k].toNat = 45) := HG.out k (by rw [HL1.out]; exact hlt) hlt
          by_cases hg : p[k].toNat = 45
          · have b1 : (((p[k].toNat : Nat) : Int) == 45) = true := by simp; omega
            have b2 : ((((mk r)[k].toNat : Nat) : Int) == 45) = true := by have := hgap.2 hg; simp; omega
            clear hgap hg
            go_wp2_with fail
            go_quiet (fail)
            go_wp2_with fail
            go_roundw
            case rel => exact ⟨k + 1, by omega, by go_num, below_drewN' HBL.out _⟩
            case measure => simp [intOf]; omega
          · have b1 : (((p[k].toNat : Nat) : Int) == 45) = false := by simp; omega
            have b2 : ((((mk r)[k].toNat : Nat) : Int) == 45) = false := by have := fun e => hg (hgap.1 e); simp; omega
            clear hgap hg
            go_wp2_with fail
            go_quiet (fail)
            go_wp2_with fail
            go_roundw
            case rel => exact ⟨k + 1, by omega, by go_num, below_drewN' HBL.out _⟩
            case measure => simp [intOf]; omega
        · go_wp2_with fail
          go_ret
          exact ⟨rfl, HBL.out⟩

end Go.Proofs.Ytcgihkapcfpjcaa
