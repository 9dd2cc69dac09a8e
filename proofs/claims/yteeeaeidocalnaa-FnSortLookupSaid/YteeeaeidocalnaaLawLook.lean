/-
  The walk of the law FnSortLookup: it returns true whatever the bytes are; nothing that was there is changed. No conditions.
-/
import Derived.Test.YteeeaeidocalnaaSortS
import Derived.Test.YteeeaeidocalnaaDrawE
import Derived.Test.YteeeaeidocalnaaEnc
import Derived.Test.YteeeaeidocalnaaPlainO
import Derived.Test.YteeeaeidocalnaaMark
import Derived.Test.YteeeaeidocalnaaBooks
namespace Go.Proofs.Yteeeaeidocalnaa
open Go.RowKit Pl
set_option linter.unusedVariables false

theorem oneP_sort {es : List Ent} (hv : bookV es) : oneP (sortE es) ↔ oneP es := by
  unfold oneP
  rw [bookV_perm (sortE_perm es), sortE_sortE hv.2]
open Classical in
theorem one_bool2 (es : List (ByteArray × ByteArray)) : ∃ b : Bool, oneP es ↔ b = true := ⟨decide (oneP es), by simp⟩

set_option maxHeartbeats 8000000 in
set_option maxRecDepth 100000 in
theorem fnSortLookup_walk (w : World) (A : Option Addr) (cap : Nat) (bs : List UInt8) (h : Rd w w.heap.size A (bytesV bs)) (hc : bs.length ≤ cap) :
    Calls Try.prog 4 #[.slice A bs.length cap] w fun e w' => e = .returned (.bool true) ∧ Below w.heap.size w w' := by
  by_cases hlen : 1048576 < bs.length
  · go_enter Try.func4, Try.ntmps4
    go_wp2_with fail
    go_ret
    exact ⟨rfl, Below.refl _ _⟩
  · go_enter Try.func4, Try.ntmps4
    go_wp2_with fail
    refine (drawEncodeWords_any w A cap bs h hc).mono ?_
    rintro _ w1 ⟨A1, cap1, es, A2, cap2, ws, rfl, hr1, hc1, hz, hl, hr2, hc2, hz2, hl2, hm2, hA1, hb1⟩
    have HR := Lib.hid hr1; have HZ := Lib.hid hz; have HS := Lib.hid hr2; have HZ2 := Lib.hid hz2; have HA := Lib.hid hA1; have HB := Lib.hid hb1; clear hr1 hz hr2 hz2 hA1 hb1 h
    obtain ⟨o, ho⟩ : ∃ o, o = encW es ws := ⟨_, rfl⟩
    have HO1 := Lib.hid ho; clear ho
    go_wp2_with fail
    refine (encode_any _ A1 A2 cap1 cap2 es ws HR.out hc1 HZ.out HS.out hc2 (by omega) HZ2.out).mono ?_
    rintro _ w2 ⟨rfl, hb2⟩
    replace HB := Lib.hid (HB.out.trans (hb2.mono HB.out.size))
    replace HR := Lib.hid ((HR.out.below hb2).mono hb2.size)
    replace HS := Lib.hid ((HS.out.below hb2).mono hb2.size)
    clear hb2
    rw [← HO1.out]
    obtain ⟨r, hr⟩ : ∃ r, r = strO o := ⟨_, rfl⟩
    obtain ⟨d, hd⟩ : ∃ d, d = o.isSome := ⟨_, rfl⟩
    rw [← hr, ← hd]
    have HRR := Lib.hid hr; have HD := Lib.hid hd; clear hr hd
    go_wp2_with fail
    refine (sEncode_any _ _ _ A1 A2 cap1 cap2 es ws HR.out hc1 (by omega) HS.out hc2 (by omega)).mono ?_
    rintro _ _ ⟨rfl, rfl⟩
    rw [← HO1.out, ← HRR.out, ← HD.out]
    have hxe : (r.toList == r.toList) = true := by simp
    have hxn : (r.toList != r.toList) = false := by simp
    have hde : (d == d) = true := by simp
    have hdn : (d != d) = false := by simp
    by_cases hv : bookV es
    · have HV := Lib.hid hv; clear hv
      go_wp2_with fail
      refine (bookValid_is _ A1 cap1 es HR.out hc1 HZ.out true (bkT HV.out)).mono ?_
      rintro _ w3 ⟨rfl, hb3⟩
      replace HB := Lib.hid (HB.out.trans (hb3.mono HB.out.size))
      replace HR := Lib.hid ((HR.out.below hb3).mono hb3.size)
      replace HS := Lib.hid ((HS.out.below hb3).mono hb3.size)
      clear hb3
      go_wp2_with fail
      refine (sort_any _ A1 cap1 es HR.out hc1 HA.out HZ.out).mono ?_
      rintro _ w4 ⟨v4, rfl, ho4, hb4⟩
      rw [sortW_ok HV.out] at ho4 ⊢
      simp only [Option.isSome_some, Option.getD_some] at ho4 ⊢
      replace HB := Lib.hid (HB.out.trans (hb4.mono HB.out.size))
      replace HR := Lib.hid ((HR.out.below hb4).mono hb4.size)
      replace HS := Lib.hid ((HS.out.below hb4).mono hb4.size)
      clear hb4
      have HFZ := Lib.hid (show ∀ e ∈ sortE es, e.1.size ≤ maxLen ∧ e.2.size ≤ maxLen from fun e he => HZ.out e (mem_sortE.1 he))
      have HEN := Lib.hid (encW_perm (sortE_perm es) ws)
      obtain ⟨b, hb⟩ := one_bool2 es
      have HBB := Lib.hid hb
      have HB2 := Lib.hid ((oneP_sort HV.out).trans hb)
      have hbb : (b == b) = true := by simp
      have hfl := length_sortE es
      clear hb
      generalize sortE es = fs at ho4 HFZ HEN HB2 hfl ⊢
      obtain ⟨A4, cap4, rfl⟩ := slot_slice ho4
      have HO := Lib.hid ho4; clear ho4
      have hfl' : fs.length ≤ 100 := by omega
      have HFL := Lib.hid hfl; clear hfl
      go_wp2_with fail
      refine (encode_any _ A4 A2 cap4 cap2 fs ws (own_rd HO.out) (own_le HO.out) HFZ.out HS.out hc2 (by omega) HZ2.out).mono ?_
      rintro _ w5 ⟨rfl, hb5⟩
      replace HB := Lib.hid (HB.out.trans (hb5.mono HB.out.size))
      replace HR := Lib.hid ((HR.out.below hb5).mono hb5.size)
      replace HS := Lib.hid ((HS.out.below hb5).mono hb5.size)
      replace HO := Lib.hid (ownsRow_below HO.out hb5)
      clear hb5
      rw [HEN.out, ← HO1.out, ← HRR.out, ← HD.out]
      go_wp2_with fail
      refine (onePart_any _ A4 cap4 fs b HB2.out (own_rd HO.out) (own_le HO.out) (own_none' HO.out) HFZ.out).mono ?_
      rintro _ w6 ⟨rfl, hb6⟩
      replace HB := Lib.hid (HB.out.trans (hb6.mono HB.out.size))
      replace HR := Lib.hid ((HR.out.below hb6).mono hb6.size)
      replace HS := Lib.hid ((HS.out.below hb6).mono hb6.size)
      replace HO := Lib.hid (ownsRow_below HO.out hb6)
      clear hb6
      go_wp2_with fail
      refine (onePart_any _ A1 cap1 es b HBB.out HR.out hc1 HA.out HZ.out).mono ?_
      rintro _ w7 ⟨rfl, hb7⟩
      replace HB := Lib.hid (HB.out.trans (hb7.mono HB.out.size))
      replace HR := Lib.hid ((HR.out.below hb7).mono hb7.size)
      replace HS := Lib.hid ((HS.out.below hb7).mono hb7.size)
      replace HO := Lib.hid (ownsRow_below HO.out hb7)
      clear hb7
      go_wp2_with fail
      go_ret
      exact ⟨rfl, HB.out⟩
    · have HV := Lib.hid hv; clear hv
      go_wp2_with fail
      refine (bookValid_is _ A1 cap1 es HR.out hc1 HZ.out false (bkF HV.out)).mono ?_
      rintro _ w3 ⟨rfl, hb3⟩
      replace HB := Lib.hid (HB.out.trans (hb3.mono HB.out.size))
      replace HR := Lib.hid ((HR.out.below hb3).mono hb3.size)
      replace HS := Lib.hid ((HS.out.below hb3).mono hb3.size)
      clear hb3
      go_wp2_with fail
      go_ret
      exact ⟨rfl, HB.out⟩

end Go.Proofs.Yteeeaeidocalnaa
