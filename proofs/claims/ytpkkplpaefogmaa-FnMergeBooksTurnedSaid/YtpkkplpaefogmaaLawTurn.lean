/-
  The walk of the law FnMergeBooksTurned: it returns true whatever the bytes are; nothing that was there is changed. No conditions.
-/
import Derived.Test.YtpkkplpaefogmaaMergeB
import Derived.Test.YtpkkplpaefogmaaSortS
import Derived.Test.YtpkkplpaefogmaaDrawH
import Derived.Test.YtpkkplpaefogmaaBooks
import Derived.Test.YtpkkplpaefogmaaMark
namespace Go.Proofs.Ytpkkplpaefogmaa
open Go.RowKit Pl
set_option linter.unusedVariables false

/-- merged in one order or the other one, and sorted -/
theorem turned_sorted (a b : List Ent) : (mergeW a b).isSome = (mergeW b a).isSome ∧ sortW ((mergeW a b).getD []) = sortW ((mergeW b a).getD []) := by
  obtain ⟨h1, h2⟩ := merge_turned a b
  refine ⟨h1, ?_⟩
  cases hl : mergeW a b with
  | none =>
    cases hm : mergeW b a with
    | none => rfl
    | some m => rw [hl, hm] at h1; cases h1
  | some l =>
    cases hm : mergeW b a with
    | none => rw [hl, hm] at h1; cases h1
    | some m =>
      have hp := h2 l m hl hm
      have hv : bookV l := by obtain ⟨h3, rfl⟩ := mergeW_some hl; exact h3.2.2
      simp only [Option.getD_some]
      rw [sortW_ok hv, sortW_ok ((bookV_perm hp).1 hv), sortE_congr hv.2 hp]
theorem merge_le (a b : List Ent) : ((mergeW a b).getD []).length ≤ 20 := by
  cases h : mergeW a b with
  | none => simp
  | some l => obtain ⟨h1, rfl⟩ := mergeW_some h; exact h1.2.2.1
theorem merge_sizes (a b : List Ent) (hz : ∀ e ∈ a, e.1.size ≤ maxLen ∧ e.2.size ≤ maxLen) (hz' : ∀ e ∈ b, e.1.size ≤ maxLen ∧ e.2.size ≤ maxLen) : ∀ e ∈ (mergeW a b).getD [], e.1.size ≤ maxLen ∧ e.2.size ≤ maxLen := by
  cases h : mergeW a b with
  | none => simp
  | some l => obtain ⟨h1, rfl⟩ := mergeW_some h; exact sizes_merge hz hz'
theorem sort_le (es : List Ent) : ((sortW es).getD []).length ≤ 20 := by
  by_cases h : bookV es
  · rw [sortW_ok h, Option.getD_some, length_sortE]; exact h.1
  · rw [sortW_no h]; simp

set_option maxHeartbeats 8000000 in
set_option maxRecDepth 100000 in
theorem fnMergeBooksTurned_walk (w : World) (A : Option Addr) (cap : Nat) (bs : List UInt8) (h : Rd w w.heap.size A (bytesV bs)) (hc : bs.length ≤ cap) :
    Calls Try.prog 10 #[.slice A bs.length cap] w fun e w' => e = .returned (.bool true) ∧ Below w.heap.size w w' := by
  by_cases hlen : 1048576 < bs.length
  · go_enter Try.func10, Try.ntmps10
    go_wp2_with fail
    go_ret
    exact ⟨rfl, Below.refl _ _⟩
  · go_enter Try.func10, Try.ntmps10
    go_wp2_with fail
    refine (drawMergeBooks_any w A cap bs h hc).mono ?_
    rintro _ w1 ⟨A1, cap1, es, A2, cap2, fs, rfl, hr1, hc1, hz1, hl1, hm1, hA1, hr2, hc2, hz2, hl2, hm2, hA2, hb1⟩
    have HR := Lib.hid hr1; have HZ := Lib.hid hz1; have HA := Lib.hid hA1; have HS := Lib.hid hr2; have HZ2 := Lib.hid hz2; have HA2 := Lib.hid hA2; have HB := Lib.hid hb1; clear hr1 hz1 hA1 hr2 hz2 hA2 hb1 h
    obtain ⟨hts, htw⟩ := turned_sorted es fs
    have hle1 := merge_le es fs
    have hle2 := merge_le fs es
    have hzl := merge_sizes es fs HZ.out HZ2.out
    have hzm := merge_sizes fs es HZ2.out HZ.out
    obtain ⟨l, hl⟩ : ∃ l, l = (mergeW es fs).getD [] := ⟨_, rfl⟩
    obtain ⟨m, hm⟩ : ∃ m, m = (mergeW fs es).getD [] := ⟨_, rfl⟩
    obtain ⟨b, hb⟩ : ∃ b, b = (mergeW es fs).isSome := ⟨_, rfl⟩
    rw [← hl, ← hm] at htw
    rw [← hb] at hts
    rw [← hl] at hle1 hzl
    rw [← hm] at hle2 hzm
    have hsl := sort_le l
    obtain ⟨x, hx⟩ : ∃ x, x = (sortW l).getD [] := ⟨_, rfl⟩
    rw [← hx] at hsl
    have HL := Lib.hid hl; have HM := Lib.hid hm; have HBB := Lib.hid hb; have HTS := Lib.hid hts; have HTW := Lib.hid htw; have HZL := Lib.hid hzl; have HZM := Lib.hid hzm; have HX := Lib.hid hx; clear hl hm hb hts htw hzl hzm hx
    have hbb : (b != b) = false := by simp
    have hbe : (b == b) = true := by simp
    go_wp2_with fail
    refine (merge_any _ A1 A2 cap1 cap2 es fs HR.out hc1 HA.out HZ.out HS.out hc2 HZ2.out).mono ?_
    rintro _ w2 ⟨v2, rfl, ho2, hb2⟩
    rw [← HL.out] at ho2
    rw [← HBB.out]
    replace HB := Lib.hid (HB.out.trans (hb2.mono HB.out.size))
    replace HR := Lib.hid ((HR.out.below hb2).mono hb2.size)
    replace HS := Lib.hid ((HS.out.below hb2).mono hb2.size)
    clear hb2
    obtain ⟨A3, cap3, rfl⟩ := slot_slice ho2
    have HO := Lib.hid ho2; clear ho2
    go_wp2_with fail
    refine (sMerge_any _ A1 A2 cap1 cap2 es fs HR.out hc1 HA.out (by omega) HS.out hc2 (by omega)).mono ?_
    rintro _ w3 ⟨v3, rfl, ho3, hb3⟩
    rw [← HL.out] at ho3
    rw [← HBB.out]
    replace HB := Lib.hid (HB.out.trans (hb3.mono HB.out.size))
    replace HR := Lib.hid ((HR.out.below hb3).mono hb3.size)
    replace HS := Lib.hid ((HS.out.below hb3).mono hb3.size)
    replace HO := Lib.hid (ownsRow_below HO.out hb3)
    clear hb3
    obtain ⟨A4, cap4, rfl⟩ := slot_slice ho3
    have HP := Lib.hid ho3; clear ho3
    go_wp2_with fail
    refine (rcBooks_same _ A3 A4 cap3 cap4 l (own_rd HO.out) (own_rd HP.out) (by omega) (own_le HO.out) (own_le HP.out)).mono ?_
    rintro _ w4 ⟨rfl, hb4⟩
    replace HB := Lib.hid (HB.out.trans (hb4.mono HB.out.size))
    replace HR := Lib.hid ((HR.out.below hb4).mono hb4.size)
    replace HS := Lib.hid ((HS.out.below hb4).mono hb4.size)
    replace HO := Lib.hid (ownsRow_below HO.out hb4)
    clear hb4
    clear HP
    go_wp2_with fail
    refine (merge_any _ A2 A1 cap2 cap1 fs es HS.out hc2 HA2.out HZ2.out HR.out hc1 HZ.out).mono ?_
    rintro _ w5 ⟨v5, rfl, ho5, hb5⟩
    rw [← HM.out] at ho5
    rw [← HTS.out]
    replace HB := Lib.hid (HB.out.trans (hb5.mono HB.out.size))
    replace HR := Lib.hid ((HR.out.below hb5).mono hb5.size)
    replace HS := Lib.hid ((HS.out.below hb5).mono hb5.size)
    replace HO := Lib.hid (ownsRow_below HO.out hb5)
    clear hb5
    obtain ⟨A5, cap5, rfl⟩ := slot_slice ho5
    have HP := Lib.hid ho5; clear ho5
    go_wp2_with fail
    refine (sort_any _ A3 cap3 l (own_rd HO.out) (own_le HO.out) (own_none HO.out) HZL.out).mono ?_
    rintro _ w6 ⟨v6, rfl, ho6, hb6⟩
    rw [← HX.out] at ho6
    replace HB := Lib.hid (HB.out.trans (hb6.mono HB.out.size))
    replace HR := Lib.hid ((HR.out.below hb6).mono hb6.size)
    replace HS := Lib.hid ((HS.out.below hb6).mono hb6.size)
    replace HP := Lib.hid (ownsRow_below HP.out hb6)
    clear hb6
    obtain ⟨A6, cap6, rfl⟩ := slot_slice ho6
    clear HO
    have HO := Lib.hid ho6; clear ho6
    generalize (sortW l).isSome = c1
    go_wp2_with fail
    refine (sort_any _ A5 cap5 m (own_rd HP.out) (own_le HP.out) (own_none HP.out) HZM.out).mono ?_
    rintro _ w7 ⟨v7, rfl, ho7, hb7⟩
    rw [← HTW.out, ← HX.out] at ho7
    replace HB := Lib.hid (HB.out.trans (hb7.mono HB.out.size))
    replace HR := Lib.hid ((HR.out.below hb7).mono hb7.size)
    replace HS := Lib.hid ((HS.out.below hb7).mono hb7.size)
    replace HO := Lib.hid (ownsRow_below HO.out hb7)
    clear hb7
    obtain ⟨A7, cap7, rfl⟩ := slot_slice ho7
    clear HP
    have HP := Lib.hid ho7; clear ho7
    generalize (sortW m).isSome = c2
    go_wp2_with fail
    refine (merge_any _ A1 A1 cap1 cap1 es es HR.out hc1 HA.out HZ.out HR.out hc1 HZ.out).mono ?_
    rintro _ w8 ⟨v8, rfl, ho8, hb8⟩
    replace HB := Lib.hid (HB.out.trans (hb8.mono HB.out.size))
    replace HR := Lib.hid ((HR.out.below hb8).mono hb8.size)
    replace HO := Lib.hid (ownsRow_below HO.out hb8)
    replace HP := Lib.hid (ownsRow_below HP.out hb8)
    clear hb8
    obtain ⟨A8, cap8, rfl⟩ := slot_slice ho8
    have HQ := Lib.hid ho8; clear ho8
    by_cases hv : bookV es
    · rw [merge_own hv] at HQ ⊢
      simp only [Option.isSome_some, Option.getD_some] at HQ ⊢
      have HV := Lib.hid hv; clear hv
      go_wp2_with fail
      refine (rcBooks_same _ A6 A7 cap6 cap7 x (own_rd HO.out) (own_rd HP.out) (by omega) (own_le HO.out) (own_le HP.out)).mono ?_
      rintro _ w9 ⟨rfl, hb9⟩
      replace HB := Lib.hid (HB.out.trans (hb9.mono HB.out.size))
      replace HR := Lib.hid ((HR.out.below hb9).mono hb9.size)
      replace HQ := Lib.hid (ownsRow_below HQ.out hb9)
      clear hb9
      clear HO HP
      go_wp2_with fail
      refine (bookValid_is _ A1 cap1 es HR.out hc1 HZ.out true (bkT HV.out)).mono ?_
      rintro _ w10 ⟨rfl, hb10⟩
      replace HB := Lib.hid (HB.out.trans (hb10.mono HB.out.size))
      replace HR := Lib.hid ((HR.out.below hb10).mono hb10.size)
      replace HQ := Lib.hid (ownsRow_below HQ.out hb10)
      clear hb10
      go_wp2_with fail
      refine (rcBooks_same _ A8 A1 cap8 cap1 es (own_rd HQ.out) HR.out (by omega) (own_le HQ.out) hc1).mono ?_
      rintro _ w11 ⟨rfl, hb11⟩
      replace HB := Lib.hid (HB.out.trans (hb11.mono HB.out.size))
      clear hb11
      go_wp2_with fail
      go_ret
      exact ⟨rfl, HB.out⟩
    · rw [merge_own_no hv] at HQ ⊢
      simp only [Option.isSome_none, Option.getD_none] at HQ ⊢
      have HV := Lib.hid hv; clear hv
      go_wp2_with fail
      refine (rcBooks_same _ A6 A7 cap6 cap7 x (own_rd HO.out) (own_rd HP.out) (by omega) (own_le HO.out) (own_le HP.out)).mono ?_
      rintro _ w9 ⟨rfl, hb9⟩
      replace HB := Lib.hid (HB.out.trans (hb9.mono HB.out.size))
      replace HR := Lib.hid ((HR.out.below hb9).mono hb9.size)
      clear hb9
      clear HO HP
      go_wp2_with fail
      refine (bookValid_is _ A1 cap1 es HR.out hc1 HZ.out false (bkF HV.out)).mono ?_
      rintro _ w10 ⟨rfl, hb10⟩
      replace HB := Lib.hid (HB.out.trans (hb10.mono HB.out.size))
      clear hb10
      go_wp2_with fail
      go_ret
      exact ⟨rfl, HB.out⟩

end Go.Proofs.Ytpkkplpaefogmaa
