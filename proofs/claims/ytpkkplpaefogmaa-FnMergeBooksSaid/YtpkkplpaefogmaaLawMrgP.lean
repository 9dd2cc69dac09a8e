/-
  The walk of the law FnMergeBooks: it returns true whatever the bytes are; nothing that was there is changed. No conditions.
-/
import Derived.Test.YtpkkplpaefogmaaMergeB
import Derived.Test.YtpkkplpaefogmaaDrawH
import Derived.Test.YtpkkplpaefogmaaBooks
import Derived.Test.YtpkkplpaefogmaaMark
namespace Go.Proofs.Ytpkkplpaefogmaa
open Go.RowKit Pl
set_option linter.unusedVariables false

open Classical in
theorem merge_parts (a b : List Ent) : a.length ≤ (mergeL a b).length ∧ (∀ i (hi : i < a.length) (h2 : i < (mergeL a b).length), (mergeL a b)[i] = a[i]) ∧ (∀ i (h1 : a.length ≤ i) (h2 : i < (mergeL a b).length), (mergeL a b)[i] ∉ a ∧ (mergeL a b)[i] ∈ b) := by
  refine ⟨by unfold mergeL; rw [List.length_append]; omega, fun i hi h2 => ?_, fun i h1 h2 => ?_⟩
  · unfold mergeL at h2 ⊢; exact List.getElem_append_left hi
  · have hm : (mergeL a b)[i] ∈ b.filter fun e => !decide (e ∈ a) := by
      unfold mergeL at h2 ⊢
      rw [List.getElem_append_right h1]
      exact List.getElem_mem _
    rw [List.mem_filter] at hm
    exact ⟨by simpa using hm.2, hm.1⟩

set_option maxHeartbeats 8000000 in
set_option maxRecDepth 100000 in
theorem fnMergeBooks_walk (w : World) (A : Option Addr) (cap : Nat) (bs : List UInt8) (h : Rd w w.heap.size A (bytesV bs)) (hc : bs.length ≤ cap) :
    Calls Try.prog 5 #[.slice A bs.length cap] w fun e w' => e = .returned (.bool true) ∧ Below w.heap.size w w' := by
  by_cases hlen : 1048576 < bs.length
  · go_enter Try.func5, Try.ntmps5
    go_wp2_with fail
    go_ret
    exact ⟨rfl, Below.refl _ _⟩
  · go_enter Try.func5, Try.ntmps5
    go_wp2_with fail
    refine (drawMergeBooks_any w A cap bs h hc).mono ?_
    rintro _ w1 ⟨A1, cap1, es, A2, cap2, fs, rfl, hr1, hc1, hz1, hl1, hm1, hA1, hr2, hc2, hz2, hl2, hm2, hA2, hb1⟩
    have HR := Lib.hid hr1; have HZ := Lib.hid hz1; have HA := Lib.hid hA1; have HS := Lib.hid hr2; have HZ2 := Lib.hid hz2; have HB := Lib.hid hb1; clear hr1 hz1 hA1 hr2 hz2 hA2 hb1 h
    go_wp2_with fail
    refine (merge_any _ A1 A2 cap1 cap2 es fs HR.out hc1 HA.out HZ.out HS.out hc2 HZ2.out).mono ?_
    rintro _ w2 ⟨v2, rfl, ho2, hb2⟩
    replace HB := Lib.hid (HB.out.trans (hb2.mono HB.out.size))
    replace HR := Lib.hid ((HR.out.below hb2).mono hb2.size)
    replace HS := Lib.hid ((HS.out.below hb2).mono hb2.size)
    clear hb2
    obtain ⟨A3, cap3, rfl⟩ := slot_slice ho2
    have HO := Lib.hid ho2; clear ho2
    go_wp2_with fail
    refine (sMerge_any _ A1 A2 cap1 cap2 es fs HR.out hc1 HA.out (by omega) HS.out hc2 (by omega)).mono ?_
    rintro _ w3 ⟨v3, rfl, ho3, hb3⟩
    replace HB := Lib.hid (HB.out.trans (hb3.mono HB.out.size))
    replace HR := Lib.hid ((HR.out.below hb3).mono hb3.size)
    replace HS := Lib.hid ((HS.out.below hb3).mono hb3.size)
    replace HO := Lib.hid (ownsRow_below HO.out hb3)
    clear hb3
    obtain ⟨A4, cap4, rfl⟩ := slot_slice ho3
    have HP := Lib.hid ho3; clear ho3
    cases hv : mergeW es fs with
    | none =>
      rw [hv] at HO HP
      simp only [Option.isSome_none, Option.getD_none] at HO HP ⊢
      clear hv
      go_wp2_with fail
      refine (rcBooks_same _ A3 A4 cap3 cap4 [] (own_rd HO.out) (own_rd HP.out) (by simp) (own_le HO.out) (own_le HP.out)).mono ?_
      rintro _ w4 ⟨rfl, hb4⟩
      replace HB := Lib.hid (HB.out.trans (hb4.mono HB.out.size))
      replace HR := Lib.hid ((HR.out.below hb4).mono hb4.size)
      replace HO := Lib.hid (ownsRow_below HO.out hb4)
      replace HP := Lib.hid (ownsRow_below HP.out hb4)
      clear hb4
      go_wp2_with fail
      refine (rcBooks_same _ A3 A4 cap3 cap4 [] (own_rd HO.out) (own_rd HP.out) (by simp) (own_le HO.out) (own_le HP.out)).mono ?_
      rintro _ w5 ⟨rfl, hb5⟩
      replace HB := Lib.hid (HB.out.trans (hb5.mono HB.out.size))
      clear hb5
      go_wp2_with fail
      go_ret
      exact ⟨rfl, HB.out⟩
    | some l =>
      obtain ⟨hs1, hl⟩ := mergeW_some hv
      rw [hv] at HO HP
      simp only [Option.isSome_some, Option.getD_some] at HO HP ⊢
      obtain ⟨p1, p2, p3⟩ := merge_parts es fs
      have hlv := hs1.2.2
      have hmem : ∀ e, e ∈ fs → e ∈ mergeL es fs := fun e he => mem_mergeL.2 (.inr he)
      have hlz := sizes_merge HZ.out HZ2.out
      rw [← hl] at p1 p2 p3 hlv hmem hlz
      have hl20 : l.length ≤ 20 := hlv.1
      have P2 := Lib.hid p2; have P3 := Lib.hid p3; have HLV := Lib.hid hlv; have HMEM := Lib.hid hmem; have HLZ := Lib.hid hlz; clear p2 p3 hlv hmem hlz hs1 hl hv
      go_wp2_with fail
      refine (rcBooks_same _ A3 A4 cap3 cap4 l (own_rd HO.out) (own_rd HP.out) (by omega) (own_le HO.out) (own_le HP.out)).mono ?_
      rintro _ w4 ⟨rfl, hb4⟩
      replace HB := Lib.hid (HB.out.trans (hb4.mono HB.out.size))
      replace HR := Lib.hid ((HR.out.below hb4).mono hb4.size)
      replace HS := Lib.hid ((HS.out.below hb4).mono hb4.size)
      replace HO := Lib.hid (ownsRow_below HO.out hb4)
      clear hb4
      clear HP
      have hcl := own_le HO.out
      go_wp2_with fail
      go_loopw [9] (fun i wr => ∃ k : Nat, k ≤ es.length ∧ i = .int .i64 k ∧ Below w4.heap.size w4 wr) (fun i _ => es.length - (intOf i).toNat)
      case atStart => exact ⟨0, Nat.zero_le _, rfl, Below.refl _ _⟩
      case round =>
        obtain ⟨k, hk, rfl, hbr⟩ := hrel
        have HBR := Lib.hid hbr; clear hbr
        by_cases hlt : k < es.length
        · obtain ⟨b1, o1, rfl, _, x0, x1⟩ := ((own_rd HO.out).below HBR.out).ent (show k < l.length by omega)
          obtain ⟨b2, o2, rfl, _, y0, y1⟩ := (HR.out.below HBR.out).ent hlt
          rw [P2.out k hlt (by omega)] at x0 x1
          generalize es[k] = e at x0 x1 y0 y1
          go_wp2_with fail
          go_quiet (fail)
          clear x0 x1 y0 y1
          go_wp2_with fail
          go_roundw
          case rel => exact ⟨k + 1, by omega, by go_num, below_drewN' HBR.out _⟩
          case measure => simp [intOf]; omega
        · have HR5 := Lib.hid ((HR.out.below HBR.out).mono HBR.out.size)
          have HS5 := Lib.hid ((HS.out.below HBR.out).mono HBR.out.size)
          have HO5 := Lib.hid (ownsRow_below HO.out HBR.out)
          have HB5 := Lib.hid (HB.out.trans (HBR.out.mono HB.out.size))
          clear HR HS HO HB HBR
          obtain ⟨w5, hw5⟩ : ∃ w5, w5 = wr := ⟨_, rfl⟩
          rw [← hw5] at HR5 HS5 HO5 HB5 ⊢
          clear hw5
          go_wp2_with fail
          go_loopw [10] (fun i wr => ∃ k : Nat, k ≤ fs.length ∧ i = .int .i64 k ∧ Below w5.heap.size w5 wr) (fun i _ => fs.length - (intOf i).toNat)
          case atStart => exact ⟨0, Nat.zero_le _, rfl, Below.refl _ _⟩
          case round =>
            obtain ⟨m, hm, rfl, hbr⟩ := hrel
            have HBR := Lib.hid hbr; clear hbr
            by_cases hlt2 : m < fs.length
            · obtain ⟨b2, o2, rfl, _, y0, y1⟩ := (HS5.out.below HBR.out).ent hlt2
              have hme := HMEM.out _ (List.getElem_mem hlt2)
              generalize fs[m] = e at y0 y1 hme
              have HME := Lib.hid hme; clear hme
              go_wp2_with fail
              refine (rcHolds_is _ A3 cap3 l e true (by simp [HME.out]) (((own_rd HO5.out).below HBR.out).mono HBR.out.size) hcl (by omega)).mono ?_
              rintro _ w7 ⟨rfl, hb7⟩
              have HB7 := Lib.hid (HBR.out.trans (hb7.mono HBR.out.size)); clear hb7 y0 y1
              go_wp2_with fail
              go_roundw
              case rel => exact ⟨m + 1, by omega, by go_num, HB7.out⟩
              case measure => simp [intOf]; omega
            · have HR6 := Lib.hid ((HR5.out.below HBR.out).mono HBR.out.size)
              have HS6 := Lib.hid ((HS5.out.below HBR.out).mono HBR.out.size)
              have HO6 := Lib.hid (ownsRow_below HO5.out HBR.out)
              have HB6 := Lib.hid (HB5.out.trans (HBR.out.mono HB5.out.size))
              clear HR5 HS5 HO5 HB5 HBR
              obtain ⟨w6, hw6⟩ : ∃ w6, w6 = wr := ⟨_, rfl⟩
              rw [← hw6] at HR6 HS6 HO6 HB6 ⊢
              clear hw6
              go_wp2_with fail
              go_loopw [11] (fun i wr => ∃ k : Nat, es.length ≤ k ∧ k ≤ l.length ∧ i = .int .i64 k ∧ Below w6.heap.size w6 wr) (fun i _ => l.length - (intOf i).toNat)
              case atStart => exact ⟨es.length, Nat.le_refl _, by omega, rfl, Below.refl _ _⟩
              case round =>
                obtain ⟨q, hq0, hq, rfl, hbr⟩ := hrel
                have HBR := Lib.hid hbr; clear hbr
                by_cases hlt3 : q < l.length
                · obtain ⟨b2, o2, rfl, _, y0, y1⟩ := ((own_rd HO6.out).below HBR.out).ent hlt3
                  obtain ⟨hn1, hn2⟩ := P3.out q hq0 hlt3
                  generalize l[q] = e at y0 y1 hn1 hn2
                  have HN1 := Lib.hid hn1; have HN2 := Lib.hid hn2; clear hn1 hn2
                  go_wp2_with fail
                  refine (rcHolds_is _ A1 cap1 es e false (by simp [HN1.out]) ((HR6.out.below HBR.out).mono HBR.out.size) hc1 (by omega)).mono ?_
                  rintro _ w7 ⟨rfl, hb7⟩
                  have HB7 := Lib.hid (HBR.out.trans (hb7.mono HBR.out.size))
                  replace y0 := (hb7.cell (World.block_lt_of_cell? _ _ y0)).trans y0
                  replace y1 := (hb7.cell (World.block_lt_of_cell? _ _ y1)).trans y1
                  clear hb7
                  go_wp2_with fail
                  refine (rcHolds_is _ A2 cap2 fs e true (by simp [HN2.out]) ((HS6.out.below HB7.out).mono HB7.out.size) hc2 (by omega)).mono ?_
                  rintro _ w8 ⟨rfl, hb8⟩
                  have HB8 := Lib.hid (HB7.out.trans (hb8.mono HB7.out.size))
                  clear hb8 y0 y1
                  go_wp2_with fail
                  go_roundw
                  case rel => exact ⟨q + 1, by omega, by omega, by go_num, HB8.out⟩
                  case measure => simp [intOf]; omega
                · have hge : decide ((es.length : Int) ≤ (l.length : Int)) = true := by simp; omega
                  go_wp2_with fail
                  refine (bookValid_is _ A3 cap3 l (((own_rd HO6.out).below HBR.out).mono HBR.out.size) hcl HLZ.out true (bkT HLV.out)).mono ?_
                  rintro _ w9 ⟨rfl, hb9⟩
                  have HB9 := Lib.hid (HBR.out.trans (hb9.mono HBR.out.size)); clear hb9
                  go_wp2_with fail
                  go_ret
                  exact ⟨by simp, HB6.out.trans (HB9.out.mono HB6.out.size)⟩

end Go.Proofs.Ytpkkplpaefogmaa
