/-
  The walk of the law FnSealDepth: it returns true whatever the bytes are; nothing that was there is changed. No conditions.
-/
import Derived.Test.YtfeonbiokilmdaaDrawE
import Derived.Test.YtfeonbiokilmdaaPlainL
import Derived.Test.YtfeonbiokilmdaaMark
import Derived.Test.YtfeonbiokilmdaaCutRd
namespace Go.Proofs.Ytfeonbiokilmdaa
open Go.RowKit Pl
set_option linter.unusedVariables false

theorem encode_is' (w : World) (A A' : Option Addr) (cap cap' : Nat) (es : List (ByteArray × ByteArray)) (ws : List ByteArray) (n : Nat) (hn : n = ws.length) (h : Rd w w.heap.size A (entV es)) (hc : es.length ≤ cap) (hz : ∀ e ∈ es, e.1.size ≤ maxLen ∧ e.2.size ≤ maxLen)
    (h' : Rd w w.heap.size A' (strV ws)) (hc' : ws.length ≤ cap') (hm' : ws.length ≤ 1048576) (hz' : ∀ s ∈ ws, s.size ≤ maxLen) :
    Calls Try.prog 35 #[.slice A es.length cap, .slice A' n cap'] w fun e w' => e = .returned (.tuple #[.string (strO (encW es ws)), .bool (encW es ws).isSome]) ∧ Below w.heap.size w w' := by
  subst hn; exact encode_any w A A' cap cap' es ws h hc hz h' hc' hm' hz'
theorem seal_is (w : World) (A A' : Option Addr) (cap cap' : Nat) (es : List (ByteArray × ByteArray)) (ws : List ByteArray) (n : Nat) (hn : n = ws.length) (sheet : ByteArray) (st : Int) (h : Rd w w.heap.size A (entV es)) (hc : es.length ≤ cap) (hz : ∀ e ∈ es, e.1.size ≤ maxLen ∧ e.2.size ≤ maxLen)
    (h' : Rd w w.heap.size A' (strV ws)) (hc' : ws.length ≤ cap') (hm' : ws.length ≤ 1048576) (hz' : ∀ s ∈ ws, s.size ≤ maxLen) (hst : -9223372036854775808 ≤ st ∧ st ≤ 9223372036854775807) :
    Calls Try.prog 45 #[.slice A es.length cap, .slice A' n cap', .string sheet, .int .i64 st] w fun e w' => e = .returned (.tuple #[.string (strO (sealW es ws sheet st)), .bool (sealW es ws sheet st).isSome]) ∧ Below w.heap.size w w' := by
  subst hn; exact seal_any w A A' cap cap' es ws sheet st h hc hz h' hc' hm' hz' hst

set_option maxHeartbeats 8000000 in
set_option maxRecDepth 100000 in
theorem fnSealDepth_walk (w : World) (A : Option Addr) (cap : Nat) (bs : List UInt8) (h : Rd w w.heap.size A (bytesV bs)) (hc : bs.length ≤ cap) :
    Calls Try.prog 12 #[.slice A bs.length cap] w fun e w' => e = .returned (.bool true) ∧ Below w.heap.size w w' := by
  by_cases hlen : 1048576 < bs.length
  · go_enter Try.func12, Try.ntmps12
    go_wp2_with fail
    go_ret
    exact ⟨rfl, Below.refl _ _⟩
  · go_enter Try.func12, Try.ntmps12
    go_wp2_with fail
    obtain ⟨iS, hi, hz0, hz1, hz2⟩ := info_parts Try.infoS
    have HI := Lib.hid hi; have HZ0 := Lib.hid hz0; have HZ1 := Lib.hid hz1; have HZ2' := Lib.hid hz2
    clear hi hz0 hz1 hz2
    refine (drawSealCodes_any w A cap bs h hc).mono ?_
    rintro _ w1 ⟨A1, cap1, es, A2, cap2, ws, sheet, st, rfl, hr1, hc1, hz, hl, hr2, hc2, hz2, hl2, hm2, hsh, hst, hb1⟩
    have HR := Lib.hid hr1; have HZ := Lib.hid hz; have HS := Lib.hid hr2; have HZ2 := Lib.hid hz2; have HB := Lib.hid hb1; clear hr1 hz hr2 hz2 hb1 h
    go_wp2_with fail
    refine (seal_any _ A1 A2 cap1 cap2 es ws sheet st HR.out hc1 HZ.out HS.out hc2 (by omega) HZ2.out (by omega)).mono ?_
    rintro _ w2 ⟨rfl, hb2⟩
    replace HB := Lib.hid (HB.out.trans (hb2.mono HB.out.size))
    replace HR := Lib.hid ((HR.out.below hb2).mono hb2.size)
    replace HS := Lib.hid ((HS.out.below hb2).mono hb2.size)
    clear hb2
    go_wp2_with fail
    refine (sSeal_any _ _ _ A1 A2 cap1 cap2 es ws sheet st HR.out hc1 (by omega) HS.out hc2 (by omega) (by omega)).mono ?_
    rintro _ w3 ⟨rfl, hb3⟩
    replace HB := Lib.hid (HB.out.trans (hb3.mono HB.out.size))
    replace HR := Lib.hid ((HR.out.below hb3).mono hb3.size)
    replace HS := Lib.hid ((HS.out.below hb3).mono hb3.size)
    clear hb3
    cases he : sealW es ws sheet st with
    | none =>
      simp only [strO, Option.isSome_none]
      clear he
      go_wp2_with fail
      go_ret
      exact ⟨rfl, HB.out⟩
    | some r =>
      simp only [strO, Option.isSome_some]
      obtain ⟨x, y, o, d, hx, hy, hso, hd1, hd2, zr, zo, zx, zy⟩ := seal_depth he
      have HX := Lib.hid hx; have HY := Lib.hid hy; have HSO := Lib.hid hso; have HD1 := Lib.hid hd1; have HD2 := Lib.hid hd2; clear hx hy hso hd1 hd2 he
      go_wp2_with fail
      obtain ⟨C, hC⟩ : ∃ C, C = w3.heap.size := ⟨_, rfl⟩
      rw [← hC]
      have h0 : (w3.alloc (.cells #[] 9)).ownsRow C 9 1 (.slice (some ⟨C, 0, none⟩) 0 0) 0 (strV (ws.reverse.take 0)) := by
        rw [hC]; exact World.ownsRow_made w3 #[] 0 (Nat.le_refl _) (by decide) rfl
      have hB0 : Below w3.heap.size w3 (w3.alloc (.cells #[] 9)) := (Below.refl _ _).alloc (Nat.le_refl _) _
      have HC := Lib.hid hC; have H0 := Lib.hid h0; have HB0 := Lib.hid hB0; clear hC h0 hB0
      go_loopw [11, 12] (fun v i wr => ∃ (k : Nat), k ≤ ws.length ∧ i = .int .i64 ((ws.length : Int) - 1 - k) ∧ wr.ownsRow C 9 1 v k (strV (ws.reverse.take k)) ∧ Below w3.heap.size w3 wr) (fun _ i _ => (intOf i + 1).toNat)
      case atStart => exact ⟨0, Nat.zero_le _, by simp, H0.out, HB0.out⟩
      case round =>
        obtain ⟨k, hk, rfl, hown, hbl⟩ := hrel
        have HOW := Lib.hid hown; have HBL := Lib.hid hbl; clear hown hbl H0 HB0
        obtain ⟨A5, cap5, rfl⟩ := slot_slice HOW.out
        by_cases hlt : k < ws.length
        · obtain ⟨m, hm⟩ : ∃ m, m = ws.length - 1 - k := ⟨_, rfl⟩
          have hmi : (ws.length : Int) - 1 - k = (m : Int) := by omega
          have hml : m < ws.length := by omega
          have hrev : (ws.reverse)[k]'(by rw [List.length_reverse]; exact hlt) = ws[m] := by rw [List.getElem_reverse]; simp only [hm]
          have hsn := strV_snoc (l := ws.reverse) (k := k) (by rw [List.length_reverse]; exact hlt)
          rw [hrev] at hsn
          obtain ⟨b, off, rfl, hb, c0⟩ := (HS.out.below HBL.out).str hml
          have hbC : C ≤ wr.heap.size := HC.out ▸ HBL.out.size
          rw [hmi]
          have HSN := Lib.hid hsn; have HMI := Lib.hid hmi; clear hsn hrev hm hmi
          generalize ws[m] = s at c0 HSN
          go_wp2_with (at_builtin; refine wpList_append_own _ rfl _ _ 40 rfl C 9 iS (.string ByteArray.empty) 1 16 Try.undS HI.out HZ0.out HZ1.out HZ2'.out rfl (by decide) _ k _ rfl (HOW.out.alloc _) ⟨wr.heap.size, 0, none⟩ 1 1 [.string s] rfl rfl (one_new wr (.string s) 9) one_cell (by unfold maxLen; omega) (by omega) (by rw [heapsize_alloc]; omega) ?_)
          intro v' w6 ho' hg' _
          rw [HSN.out] at ho'
          have hb6 : Below w3.heap.size w3 w6 := (HBL.out.alloc HBL.out.size _).grown hg' (Nat.le_trans HBL.out.size (by simp)) fun k' e => HC.out ▸ (HOW.out.lt k' e).1
          obtain ⟨A6, cap6, e6⟩ := slot_slice ho'
          subst e6
          have HO6 := Lib.hid ho'; have HB6 := Lib.hid hb6; clear ho' hg' hb6 HOW HBL
          go_wp2_with fail
          go_roundw
          case rel => exact ⟨k + 1, by omega, by have := HMI.out; congr 1; omega, HO6.out, HB6.out⟩
          case measure => simp [intOf]
        · have hkl : k = ws.length := by omega
          subst hkl
          have how := HOW.out
          have hrl : ws.reverse.length = ws.length := List.length_reverse
          rw [List.take_of_length_le (by rw [hrl]; exact Nat.le_refl _)] at how
          have HRV := Lib.hid how; clear how HOW
          have HZ3 := Lib.hid (show ∀ s ∈ ws.reverse, s.size ≤ maxLen from fun s hs => HZ2.out s (List.mem_reverse.1 hs))
          replace HR := Lib.hid ((HR.out.below HBL.out).mono HBL.out.size)
          replace HS := Lib.hid ((HS.out.below HBL.out).mono HBL.out.size)
          replace HB := Lib.hid (HB.out.trans (HBL.out.mono HB.out.size))
          clear HBL
          have hneg : (ws.length : Int) - 1 - (ws.length : Int) = -1 := by omega
          rw [hneg]
          go_wp2_with fail
          refine (seal_is _ A1 A5 cap1 cap5 es ws.reverse ws.length hrl.symm sheet st HR.out hc1 HZ.out (own_rd HRV.out) (by rw [hrl]; exact own_le HRV.out) (by omega) HZ3.out (by omega)).mono ?_
          rintro _ w7 ⟨rfl, hb7⟩
          replace HB := Lib.hid (HB.out.trans (hb7.mono HB.out.size))
          replace HR := Lib.hid ((HR.out.below hb7).mono hb7.size)
          replace HS := Lib.hid ((HS.out.below hb7).mono hb7.size)
          replace HRV := Lib.hid (ownsRow_below HRV.out hb7)
          clear hb7
          rw [HSO.out]
          simp only [strO, Option.isSome_some]
          go_wp2_with fail
          refine (subWords_some r o d _ HD1.out).mono ?_
          rintro _ w8 ⟨rfl, hb8⟩
          replace HB := Lib.hid (HB.out.trans (hb8.mono HB.out.size))
          replace HR := Lib.hid ((HR.out.below hb8).mono hb8.size)
          replace HS := Lib.hid ((HS.out.below hb8).mono hb8.size)
          replace HRV := Lib.hid (ownsRow_below HRV.out hb8)
          clear hb8
          go_wp2_with fail
          refine (encode_any _ A1 A2 cap1 cap2 es ws HR.out hc1 HZ.out HS.out hc2 (by omega) HZ2.out).mono ?_
          rintro _ w9 ⟨rfl, hb9⟩
          replace HB := Lib.hid (HB.out.trans (hb9.mono HB.out.size))
          replace HR := Lib.hid ((HR.out.below hb9).mono hb9.size)
          replace HRV := Lib.hid (ownsRow_below HRV.out hb9)
          clear hb9
          rw [HX.out]
          simp only [strO, Option.isSome_some]
          go_wp2_with fail
          refine (encode_is' _ A1 A5 cap1 cap5 es ws.reverse ws.length hrl.symm HR.out hc1 HZ.out (own_rd HRV.out) (by rw [hrl]; exact own_le HRV.out) (by omega) HZ3.out).mono ?_
          rintro _ w10 ⟨rfl, hb10⟩
          replace HB := Lib.hid (HB.out.trans (hb10.mono HB.out.size))
          clear hb10
          rw [HY.out]
          simp only [strO, Option.isSome_some]
          go_wp2_with fail
          refine (subWords_some x y d _ HD2.out).mono ?_
          rintro _ w11 ⟨rfl, hb11⟩
          replace HB := Lib.hid (HB.out.trans (hb11.mono HB.out.size))
          clear hb11
          go_wp2_with fail
          go_ret
          exact ⟨rfl, HB.out⟩

end Go.Proofs.Ytfeonbiokilmdaa
