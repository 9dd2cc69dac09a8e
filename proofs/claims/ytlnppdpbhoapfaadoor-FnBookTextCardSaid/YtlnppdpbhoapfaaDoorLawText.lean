/-
  The walk of the law FnBookText: it returns true whatever the bytes are; nothing that was there is changed. Condition: the library's own bound is some integer.
-/
import Derived.Test.YtlnppdpbhoapfaaDoorParse
import Derived.Test.YtlnppdpbhoapfaaDoorDrawN
import Derived.Test.YtlnppdpbhoapfaaDoorBooks
import Derived.Test.YtlnppdpbhoapfaaDoorMark
namespace Go.Proofs.YtlnppdpbhoapfaaDoor
open Go.RowKit Pl
set_option linter.unusedVariables false

theorem fmtB_any_size {es : List Ent} (hv : bookV es) : 1 ≤ (fmtB es).size ∧ (fmtB es).size ≤ 260 := by
  have hl := hv.1
  by_cases h0 : es.length = 0
  · rw [fmtB_none hv h0]; exact ⟨by decide, by decide⟩
  · rw [fmtB_some hv h0, size_mk]
    have h1 := fmtL_ne (es := es) (by omega)
    have h2 := fmtL_le (book_small hv) es.length (Nat.le_refl _)
    rw [List.take_of_length_le (Nat.le_refl _)] at h2
    have h3 := List.length_pos_iff.2 h1
    omega

set_option maxHeartbeats 8000000 in
set_option maxRecDepth 100000 in
theorem fnBookText_walk (w : World) (hml : ML w) (A : Option Addr) (cap : Nat) (bs : List UInt8) (h : Rd w w.heap.size A (bytesV bs)) (hc : bs.length ≤ cap)
    (A' : Option Addr) (cap' : Nat) (bs2 : List UInt8) (h' : Rd w w.heap.size A' (bytesV bs2)) (hc' : bs2.length ≤ cap') :
    Calls Tryd.prog 4 #[.slice A bs.length cap, .slice A' bs2.length cap'] w fun e w' => e = .returned (.bool true) ∧ Below w.heap.size w w' := by
  have HML := Lib.hid hml; clear hml
  have HR2 := Lib.hid h'; clear h'
  by_cases hlen : 1048576 < bs.length
  · go_enter Tryd.func4, Tryd.ntmps4
    go_wp2_with fail
    go_ret
    exact ⟨rfl, Below.refl _ _⟩
  by_cases hlen2 : 1048576 < bs2.length
  · go_enter Tryd.func4, Tryd.ntmps4
    go_wp2_with fail
    go_ret
    exact ⟨rfl, Below.refl _ _⟩
  go_enter Tryd.func4, Tryd.ntmps4
  go_wp2_with fail
  refine (drawFormatBook_any w A cap bs h hc).mono ?_
  rintro _ w1 ⟨A1, cap1, es, rfl, hr1, hc1, hz, hl, hm1, hA1, hb1⟩
  have HR := Lib.hid hr1; have HZ := Lib.hid hz; have HB := Lib.hid hb1; clear hr1 hz hA1 hb1 h
  obtain ⟨s, hs⟩ : ∃ s, s = fmtB es := ⟨_, rfl⟩
  have HS := Lib.hid hs; clear hs
  go_wp2_with fail
  refine (format_any _ A1 cap1 es HR.out hc1 HZ.out).mono ?_
  rintro _ w2 ⟨rfl, hb2⟩
  replace HB := Lib.hid (HB.out.trans (hb2.mono HB.out.size))
  replace HR := Lib.hid ((HR.out.below hb2).mono hb2.size)
  clear hb2
  rw [← HS.out]
  have hsf := sFormat_any w2 w2.heap.size A1 cap1 es HR.out hc1 (by omega)
  rw [← HS.out] at hsf
  have HSF := Lib.hid hsf; clear hsf
  have hss : (s.toList == s.toList) = true := by simp
  by_cases hv : bookV es
  · have hsz : 1 ≤ s.size ∧ s.size ≤ 260 := by rw [HS.out]; exact fmtB_any_size hv
    obtain ⟨hs1, hs2⟩ := hsz
    have hse : s.toList.isEmpty = false := by rw [List.isEmpty_eq_false_iff, toList_tl]; intro e; exact absurd (show s.size = 0 by rw [← length_tl, e]; rfl) (by omega)
    have hpw : parseW s = some es := by rw [HS.out]; exact parseW_fmt hv
    have HV := Lib.hid hv; have HPW := Lib.hid hpw; clear hv hpw
    go_wp2_with fail
    refine HSF.out.mono ?_
    rintro _ w3 ⟨rfl, q3, rfl⟩
    have HR3 := Lib.hid (show Rd (w2.drewN q3) (w2.drewN q3).heap.size A1 (entV es) from HR.out)
    have HB3 := Lib.hid (below_drewN' HB.out q3)
    go_wp2_with fail
    refine (bookValid_is _ A1 cap1 es HR3.out hc1 HZ.out true (bkT HV.out)).mono ?_
    rintro _ w4 ⟨rfl, hb4⟩
    replace HR3 := Lib.hid ((HR3.out.below hb4).mono hb4.size)
    replace HB3 := Lib.hid (HB3.out.trans (hb4.mono HB3.out.size))
    clear hb4 HR HB HSF
    go_wp2_with fail
    refine (parse_any _ s (HML.out.below HB3.out (Nat.le_refl _)) (by omega)).mono ?_
    rintro _ w5 ⟨v5, rfl, ho5, hb5⟩
    rw [HPW.out] at ho5 ⊢
    simp only [Option.isSome_some, Option.getD_some] at ho5 ⊢
    replace HR3 := Lib.hid ((HR3.out.below hb5).mono hb5.size)
    replace HB3 := Lib.hid (HB3.out.trans (hb5.mono HB3.out.size))
    obtain ⟨A5, cap5, rfl⟩ := slot_slice ho5
    have HO5 := Lib.hid ho5; clear ho5 hb5
    go_wp2_with fail
    refine (rcBooks_same _ A5 A1 cap5 cap1 es (own_rd HO5.out) HR3.out (by omega) (own_le HO5.out) hc1).mono ?_
    rintro _ w6 ⟨rfl, hb6⟩
    replace HB3 := Lib.hid (HB3.out.trans (hb6.mono HB3.out.size))
    clear hb6 HO5 HR3
    go_wp2_with fail
    refine (drawParseBook_any _ A' cap' bs2 ((HR2.out.below HB3.out).mono HB3.out.size) hc').mono ?_
    rintro _ w7 ⟨t, rfl, ht, hb7⟩
    replace HB3 := Lib.hid (HB3.out.trans (hb7.mono HB3.out.size))
    clear hb7
    obtain ⟨r, hr⟩ : ∃ r, r = parseW t := ⟨_, rfl⟩
    have HRR := Lib.hid hr; clear hr
    have hrl : (r.getD []).length ≤ 20 := by
      cases h : r with
      | none => simp
      | some l => exact (parseW_some (HRR.out.symm.trans h)).1.1
    go_wp2_with fail
    refine (parse_any _ t (HML.out.below HB3.out (Nat.le_refl _)) (by omega)).mono ?_
    rintro _ w8 ⟨v8, rfl, ho8, hb8⟩
    rw [← HRR.out] at ho8 ⊢
    replace HB3 := Lib.hid (HB3.out.trans (hb8.mono HB3.out.size))
    obtain ⟨A8, cap8, rfl⟩ := slot_slice ho8
    have HO8 := Lib.hid ho8; clear ho8 hb8
    go_wp2_with fail
    refine (sParse_any _ t (by omega)).mono ?_
    rintro _ w9 ⟨v9, rfl, ho9, hb9⟩
    rw [← HRR.out] at ho9 ⊢
    replace HB3 := Lib.hid (HB3.out.trans (hb9.mono HB3.out.size))
    replace HO8 := Lib.hid (ownsRow_below HO8.out hb9)
    obtain ⟨A9, cap9, rfl⟩ := slot_slice ho9
    have HO9 := Lib.hid ho9; clear ho9 hb9
    cases hrc : r with
    | none =>
      subst hrc
      simp only [Option.isSome_none, Option.getD_none] at HO8 HO9 ⊢
      go_wp2_with fail
      refine (rcBooks_same _ A8 A9 cap8 cap9 [] (own_rd HO8.out) (own_rd HO9.out) (by simp) (own_le HO8.out) (own_le HO9.out)).mono ?_
      rintro _ w10 ⟨rfl, hb10⟩
      replace HB3 := Lib.hid (HB3.out.trans (hb10.mono HB3.out.size))
      clear hb10
      go_wp2_with fail
      go_ret
      exact ⟨rfl, HB3.out⟩
    | some l =>
      subst hrc
      have hps := parseW_some HRR.out.symm
      have hlz : ∀ e ∈ l, e.1.size ≤ maxLen ∧ e.2.size ≤ maxLen := fun e he => by
        have := book_small hps.1 e he
        unfold maxLen; omega
      have HPS := Lib.hid hps; have HLZ := Lib.hid hlz; clear hps hlz
      simp only [Option.isSome_some, Option.getD_some] at HO8 HO9 hrl ⊢
      have htt : (t.toList == t.toList) = true := by simp
      go_wp2_with fail
      refine (rcBooks_same _ A8 A9 cap8 cap9 l (own_rd HO8.out) (own_rd HO9.out) (by omega) (own_le HO8.out) (own_le HO9.out)).mono ?_
      rintro _ w10 ⟨rfl, hb10⟩
      replace HB3 := Lib.hid (HB3.out.trans (hb10.mono HB3.out.size))
      replace HO8 := Lib.hid (ownsRow_below HO8.out hb10)
      clear hb10 HO9
      go_wp2_with fail
      refine (format_any _ A8 cap8 l (own_rd HO8.out) (own_le HO8.out) HLZ.out).mono ?_
      rintro _ w11 ⟨rfl, hb11⟩
      rw [HPS.out.2]
      replace HB3 := Lib.hid (HB3.out.trans (hb11.mono HB3.out.size))
      clear hb11 HO8
      go_wp2_with fail
      go_ret
      exact ⟨rfl, HB3.out⟩
  · have hse : s = mk [] := by rw [HS.out]; exact fmtB_no hv
    have hq : (mk []).toList.isEmpty = true := by rw [toList_tl]; rfl
    have HV := Lib.hid hv; clear hv
    subst hse
    go_wp2_with fail
    refine HSF.out.mono ?_
    rintro _ w3 ⟨rfl, q3, rfl⟩
    have HR3 := Lib.hid (show Rd (w2.drewN q3) (w2.drewN q3).heap.size A1 (entV es) from HR.out)
    have HB3 := Lib.hid (below_drewN' HB.out q3)
    go_wp2_with fail
    refine (bookValid_is _ A1 cap1 es HR3.out hc1 HZ.out false (bkF HV.out)).mono ?_
    rintro _ w4 ⟨rfl, hb4⟩
    replace HB3 := Lib.hid (HB3.out.trans (hb4.mono HB3.out.size))
    clear hb4 HR HB HSF HR3
    go_wp2_with fail
    refine (drawParseBook_any _ A' cap' bs2 ((HR2.out.below HB3.out).mono HB3.out.size) hc').mono ?_
    rintro _ w7 ⟨t, rfl, ht, hb7⟩
    replace HB3 := Lib.hid (HB3.out.trans (hb7.mono HB3.out.size))
    clear hb7
    obtain ⟨r, hr⟩ : ∃ r, r = parseW t := ⟨_, rfl⟩
    have HRR := Lib.hid hr; clear hr
    have hrl : (r.getD []).length ≤ 20 := by
      cases h : r with
      | none => simp
      | some l => exact (parseW_some (HRR.out.symm.trans h)).1.1
    go_wp2_with fail
    refine (parse_any _ t (HML.out.below HB3.out (Nat.le_refl _)) (by omega)).mono ?_
    rintro _ w8 ⟨v8, rfl, ho8, hb8⟩
    rw [← HRR.out] at ho8 ⊢
    replace HB3 := Lib.hid (HB3.out.trans (hb8.mono HB3.out.size))
    obtain ⟨A8, cap8, rfl⟩ := slot_slice ho8
    have HO8 := Lib.hid ho8; clear ho8 hb8
    go_wp2_with fail
    refine (sParse_any _ t (by omega)).mono ?_
    rintro _ w9 ⟨v9, rfl, ho9, hb9⟩
    rw [← HRR.out] at ho9 ⊢
    replace HB3 := Lib.hid (HB3.out.trans (hb9.mono HB3.out.size))
    replace HO8 := Lib.hid (ownsRow_below HO8.out hb9)
    obtain ⟨A9, cap9, rfl⟩ := slot_slice ho9
    have HO9 := Lib.hid ho9; clear ho9 hb9
    cases hrc : r with
    | none =>
      subst hrc
      simp only [Option.isSome_none, Option.getD_none] at HO8 HO9 ⊢
      go_wp2_with fail
      refine (rcBooks_same _ A8 A9 cap8 cap9 [] (own_rd HO8.out) (own_rd HO9.out) (by simp) (own_le HO8.out) (own_le HO9.out)).mono ?_
      rintro _ w10 ⟨rfl, hb10⟩
      replace HB3 := Lib.hid (HB3.out.trans (hb10.mono HB3.out.size))
      clear hb10
      go_wp2_with fail
      go_ret
      exact ⟨rfl, HB3.out⟩
    | some l =>
      subst hrc
      have hps := parseW_some HRR.out.symm
      have hlz : ∀ e ∈ l, e.1.size ≤ maxLen ∧ e.2.size ≤ maxLen := fun e he => by
        have := book_small hps.1 e he
        unfold maxLen; omega
      have HPS := Lib.hid hps; have HLZ := Lib.hid hlz; clear hps hlz
      simp only [Option.isSome_some, Option.getD_some] at HO8 HO9 hrl ⊢
      have htt : (t.toList == t.toList) = true := by simp
      go_wp2_with fail
      refine (rcBooks_same _ A8 A9 cap8 cap9 l (own_rd HO8.out) (own_rd HO9.out) (by omega) (own_le HO8.out) (own_le HO9.out)).mono ?_
      rintro _ w10 ⟨rfl, hb10⟩
      replace HB3 := Lib.hid (HB3.out.trans (hb10.mono HB3.out.size))
      replace HO8 := Lib.hid (ownsRow_below HO8.out hb10)
      clear hb10 HO9
      go_wp2_with fail
      refine (format_any _ A8 cap8 l (own_rd HO8.out) (own_le HO8.out) HLZ.out).mono ?_
      rintro _ w11 ⟨rfl, hb11⟩
      rw [HPS.out.2]
      replace HB3 := Lib.hid (HB3.out.trans (hb11.mono HB3.out.size))
      clear hb11 HO8
      go_wp2_with fail
      go_ret
      exact ⟨rfl, HB3.out⟩

end Go.Proofs.YtlnppdpbhoapfaaDoor
