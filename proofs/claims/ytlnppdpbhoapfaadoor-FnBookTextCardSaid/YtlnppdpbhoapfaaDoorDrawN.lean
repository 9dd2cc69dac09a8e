/-
  Contracts of DrawParseBook and DrawFormatBook. No conditions but those that each theorem names.
-/
import Derived.Test.YtlnppdpbhoapfaaDoorDrawV
import Derived.Test.YtlnppdpbhoapfaaDoorDrawG
import Derived.Test.YtlnppdpbhoapfaaDoorFmt
import Derived.Test.YtlnppdpbhoapfaaDoorMark
import Derived.Deep.RegionHeld3
namespace Go.Proofs.YtlnppdpbhoapfaaDoor
open Go.RowKit Pl
set_option linter.unusedVariables false

set_option maxHeartbeats 4000000 in
set_option maxRecDepth 100000 in
theorem drawFormatBook_any (w : World) (A : Option Addr) (cap : Nat) (bs : List UInt8) (h : Rd w w.heap.size A (bytesV bs)) (hc : bs.length ≤ cap) :
    Calls Tryd.prog 10 #[.slice A bs.length cap] w (BookOnly w) := by
  go_enter Tryd.func10, Tryd.ntmps10
  go_wp2_with fail
  refine (drawBookValid_any w A cap bs h hc).mono ?_
  rintro _ w1 ⟨A1, cap1, es, rfl, hr⟩
  have HR := Lib.hid hr; clear hr
  go_wp2_with fail
  go_ret
  exact ⟨_, _, _, rfl, HR.out⟩

theorem fmtB_size {es : List Ent} (hv : bookV es) (hl : es.length ≤ 8) : 1 ≤ (fmtB es).size ∧ (fmtB es).size ≤ 104 := by
  by_cases h0 : es.length = 0
  · rw [fmtB_none hv h0]; exact ⟨by decide, by decide⟩
  · rw [fmtB_some hv h0, size_mk]
    have h1 := fmtL_ne (es := es) (by omega)
    have h2 := fmtL_le (book_small hv) es.length (Nat.le_refl _)
    rw [List.take_of_length_le (Nat.le_refl _)] at h2
    have h3 := List.length_pos_iff.2 h1
    omega

theorem six_small {t : ByteArray} (h : t ∈ [mk [], mk [97], mk [32], mk [61], mk [45], mk [107]]) : t.size ≤ 1 := by
  simp at h
  rcases h with rfl | rfl | rfl | rfl | rfl | rfl <;> simp [size_mk]
/-- a short string was drawn -/
def ShortDrawn (w : World) (e : Ending) (w' : World) : Prop := ∃ t : ByteArray, e = .returned (.string t) ∧ t.size ≤ 1000 ∧ Below w.heap.size w w'

set_option maxHeartbeats 4000000 in
set_option maxRecDepth 100000 in
theorem drawParseBook_any (w : World) (A : Option Addr) (cap : Nat) (bs : List UInt8) (h : Rd w w.heap.size A (bytesV bs)) (hc : bs.length ≤ cap) :
    Calls Tryd.prog 15 #[.slice A bs.length cap] w (ShortDrawn w) := by
  go_enter Tryd.func15, Tryd.ntmps15
  go_wp2_with fail
  refine (l21Open_any w A cap bs h hc).mono ?_
  rintro e w1 ⟨rfl, hr1, hb1, hs1⟩
  have HB1 := Lib.hid hb1; clear hb1 h
  obtain ⟨R, hR⟩ : ∃ R, R = w.heap.size := ⟨_, rfl⟩
  rw [← hR] at hr1 HB1 ⊢
  have HRE := Lib.hid hR; clear hR hs1
  go_wp2_with fail
  refine (l19Some_valid w1 R 0 hr1 (by omega)).mono ?_
  rintro e w2 ⟨v, es, rfl, hbk, hl, hr2, hb2, hbv⟩
  have HB2 := Lib.hid (HB1.out.trans hb2)
  have HR2 := Lib.hid hr2; have HBV := Lib.hid hbv
  obtain ⟨A2, cap2, rfl, hcap, hcm, hrd⟩ := hbk.rd
  have HRD := Lib.hid hrd; clear hb2 hr1 hr2 hbk hbv hrd
  obtain ⟨s, hs⟩ : ∃ s, s = fmtB es := ⟨_, rfl⟩
  have hsz : 1 ≤ s.size ∧ s.size ≤ 104 := by rw [hs]; exact fmtB_size HBV.out hl
  obtain ⟨hs1, hs2⟩ := hsz
  have hfm := sFormat_any w2 w2.heap.size A2 cap2 es HRD.out hcap (by omega)
  rw [← hs] at hfm
  have HFM := Lib.hid hfm; clear hfm hs
  have fin : ∀ (t : ByteArray) (w' : World), t.size ≤ 1000 → Below R w w' → ShortDrawn w (.returned (.string t)) w' := fun t w' h1 h2 => ⟨t, rfl, h1, by rw [← HRE.out]; exact h2⟩
  have FIN := Lib.hid fin; clear fin
  go_wp2_with fail
  refine HFM.out.mono ?_
  rintro _ w3 ⟨rfl, q3, hw3⟩
  have HB3 := Lib.hid (hw3 ▸ below_drewN' HB2.out q3)
  have HR3 := Lib.hid (hw3 ▸ HR2.out.drewN q3)
  clear hw3 HB2 HR2 HRD HFM
  go_wp2_with fail
  refine (pick_pos _ R _ _ HR3.out (by omega) (by omega) (by omega)).mono ?_
  rintro e w4 ⟨y, rfl, hy, hr4, ho4⟩
  have HB4 := Lib.hid (HB3.out.trans (below_of_only ho4 (Nat.le_of_lt HR3.out.lt) (Nat.le_refl _)))
  have HR4 := Lib.hid hr4
  clear hr4 ho4 HB3 HR3
  by_cases hy0 : y = 0
  · subst hy0
    go_wp2_with fail
    go_ret
    exact FIN.out _ _ (by omega) HB4.out
  · have hyb : ((y : Int) == 0) = false := by rw [beq_eq_false_iff_ne]; omega
    clear hy0
    go_wp2_with fail
    refine (pick_pos _ R _ _ HR4.out (by omega) (by omega) (by omega)).mono ?_
    rintro e w5 ⟨k, rfl, hk, hr5, ho5⟩
    have HB5 := Lib.hid (HB4.out.trans (below_of_only ho5 (Nat.le_of_lt HR4.out.lt) (Nat.le_refl _)))
    have HR5 := Lib.hid hr5
    clear hr5 ho5 HB4 HR4
    have hks : k < s.size := by omega
    have p0 : (0 : Int) ≤ (k : Int) := by omega
    have p1 : (k : Int) ≤ (s.size : Int) := by omega
    have hx1 : (s.extract 0 k).size ≤ 1000 := by simp [ByteArray.size_extract]; omega
    have hra := of_any ((w5.alloc (.cells #[.string (mk []), .string (mk [97]), .string (mk [32]), .string (mk [61]), .string (mk [45]), .string (mk [107])] 9)).drew) R _ w5.heap.size 6 [mk [], mk [97], mk [32], mk [61], mk [45], mk [107]] (HR5.out.alloc _) (by omega) (by simp) (by simp) (heap_alloc_new w5 _)
    have HRA := Lib.hid hra; clear hra
    have mixed : Tryd.prog.follows .mixedOrders = true := by kernel_rfl
    go_wp2_with fail
    go_region_with (first | (go_at_call 30; refine HRA.out.mono ?_; rintro _ w6 ⟨t, ht, rfl, hr6, ho6⟩; have htz := six_small ht) | (go_at_call 29; refine (pick_pos _ R _ _ hr6 (by omega) (by omega) (by omega)).mono ?_; rintro _ w7 ⟨x, rfl, hx, hr7, ho7⟩; have r0 : (0 : Int) ≤ (k : Int) + (x : Int) := (by omega); have r1 : (k : Int) + (x : Int) ≤ (s.size : Int) := (by omega); have r2 : ((k : Int) + (x : Int)).toNat = k + x := (by omega); have r3 : IntKind.i64.wrap ((k : Int) + (x : Int)) = (k : Int) + (x : Int) := IntWalk.i64_in _ (by omega); have hx2 : (s.extract (k + x) s.size).size ≤ 1000 := (by simp [ByteArray.size_extract]; omega)) | fail)
    all_goals
      have HB7 : Hid (Below R w w7) := Lib.hid ((HB5.out.alloc (by rw [HRE.out]; exact HB5.out.size) _).trans ((below_of_only (only_trans (only_of_drew ho6) ho7) (by have := HR5.out.lt; simp; omega) (Nat.le_refl _))))
      clear r3 r2 ho6 ho7 hr6 hr7
      go_wp2_with fail
      go_ret
      refine FIN.out _ _ ?_ HB7.out
      simp only [ByteArray.size_append, ByteArray.size_extract]
      omega

end Go.Proofs.YtlnppdpbhoapfaaDoor
