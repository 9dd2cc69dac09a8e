/-
  The walk of the law FnPlaceWord: it returns true whatever the bytes are; nothing that was there is changed. No conditions.
-/
import Derived.Test.YtcgihkapcfpjcaaPlace
import Derived.Test.YtcgihkapcfpjcaaKnown
import Derived.Test.YtcgihkapcfpjcaaPlainD
namespace Go.Proofs.Ytcgihkapcfpjcaa
open Go.RowKit Pl
set_option linter.unusedVariables false

def PlaceDrawn (w : World) (e : Ending) (w' : World) : Prop :=
  ∃ (s : ByteArray) (a n : Int), e = .returned (.tuple #[.string s, .int .i64 a, .int .i64 n]) ∧ s.size ≤ 1000 ∧ (-9223372036854775808 ≤ a ∧ a ≤ 9223372036854775807) ∧ (-9223372036854775808 ≤ n ∧ n ≤ 9223372036854775807) ∧ Below w.heap.size w w'

set_option maxHeartbeats 2000000 in
theorem drawPlaceWord_any (w : World) (A : Option Addr) (cap : Nat) (bs : List UInt8) (h : Rd w w.heap.size A (bytesV bs)) (hc : bs.length ≤ cap) :
    Calls Try.prog 52 #[.slice A bs.length cap] w (PlaceDrawn w) := by
  go_enter Try.func52, Try.ntmps52
  go_wp2_with fail
  refine (l21Open_any w A cap bs h hc).mono ?_
  rintro e w1 ⟨rfl, hr1, hb1, _⟩
  go_wp2_with fail
  refine (l1Word_any w1 w.heap.size 0 6 hr1 (by omega) (by omega)).mono ?_
  rintro e w2 ⟨l, rfl, hl, hall, hr2, ho2⟩
  clear hall
  have hzl : (mk l).size ≤ 6 := by rw [size_mk]; exact hl
  go_wp2_with fail
  refine (pick_pos w2 w.heap.size _ _ hr2 (by omega) (by omega) (by omega)).mono ?_
  rintro e w3 ⟨x, rfl, hx, hr3, ho3⟩
  go_wp2_with fail
  refine (pick_pos w3 w.heap.size _ _ hr3 (by omega) (by omega) (by omega)).mono ?_
  rintro e w4 ⟨y, rfl, hy, hr4, ho4⟩
  go_wp2_with fail
  refine (pick_pos w4 w.heap.size _ _ hr4 (by omega) (by omega) (by omega)).mono ?_
  rintro e w6 ⟨z, rfl, hz, hr6, ho6⟩
  have HB := Lib.hid (show Below w.heap.size w w6 from hb1.trans (below_of_only (only_trans ho2 (only_trans ho3 (only_trans ho4 ho6))) hb1.size (Nat.le_refl _)))
  clear ho2 ho3 ho4 ho6 hb1 hr1 hr2 hr3 hr4 h
  by_cases h0 : z = 0
  · subst h0
    go_wp2_with fail
    refine (l1Bad_any w6 w.heap.size _ (mk l) hr6 (by omega) (by omega)).mono ?_
    rintro e w7 ⟨s, rfl, hs, hr7, ho7⟩
    go_wp2_with fail
    go_ret3
    exact ⟨s, y, _, rfl, by omega, by omega, by omega, HB.out.trans (below_of_only ho7 HB.out.size (Nat.le_refl _))⟩
  · have hb0 : ((z : Int) == 0) = false := by simp; omega
    by_cases h1 : z = 1
    · subst h1
      clear hb0 h0
      go_wp2_with fail
      refine (num_any _ w.heap.size _ w6.heap.size 4 [-1, 7, 9223372036854775807, -9223372036854775808] (hr6.alloc _) (by omega) (by simp) (by simp) (heap_alloc_new _ _)).mono ?_
      rintro e w7 ⟨m, hm, rfl, hr7, ho7⟩
      have hm' : -9223372036854775808 ≤ m ∧ m ≤ 9223372036854775807 := by simp at hm; omega
      clear hm
      go_wp2_with fail
      go_ret3
      exact ⟨mk l, m, _, rfl, by omega, hm', by omega, HB.out.trans (below_of_only (only_trans (World.grownBy_alloc _ _ _) ho7) HB.out.size (Nat.le_refl _))⟩
    · have hb1 : ((z : Int) == 1) = false := by simp; omega
      by_cases h2 : z = 2
      · subst h2
        clear hb0 h0 hb1 h1
        go_wp2_with fail
        refine (num_any _ w.heap.size _ w6.heap.size 5 [-1, 200, 201, 9223372036854775807, -9223372036854775808] (hr6.alloc _) (by omega) (by simp) (by simp) (heap_alloc_new _ _)).mono ?_
        rintro e w7 ⟨m, hm, rfl, hr7, ho7⟩
        have hm' : -9223372036854775808 ≤ m ∧ m ≤ 9223372036854775807 := by simp at hm; omega
        clear hm
        go_wp2_with fail
        go_ret3
        exact ⟨mk l, y, m, rfl, by omega, by omega, hm', HB.out.trans (below_of_only (only_trans (World.grownBy_alloc _ _ _) ho7) HB.out.size (Nat.le_refl _))⟩
      · have hb2 : ((z : Int) == 2) = false := by simp; omega
        go_wp2_with fail
        go_ret3
        exact ⟨mk l, y, _, rfl, by omega, by omega, by omega, HB.out⟩

theorem kn_append (a b : List UInt8) : kn (a ++ b) = kn a + kn b := by simp [kn, List.filter_append]
theorem kn_gaps (n : Nat) : kn (List.replicate n 45) = 0 := by
  unfold kn; rw [List.filter_eq_nil_iff.2 (by intro c hc; rw [List.eq_of_mem_replicate hc]; decide)]; rfl
theorem kn_word {l : List UInt8} (h : wv l = true) : kn l = l.length := by
  have hp : pv l = true := pv_of_wv h
  have := wv_known hp
  rw [h] at this
  exact of_decide_eq_true this.symm
theorem pv_placed {l : List UInt8} (a b : Nat) (h : wv l = true) (hl : a + l.length + b ≤ 200) : pv (List.replicate a 45 ++ l ++ List.replicate b 45) = true := by
  rw [pv_all (by simp; omega), List.all_append, List.all_append, Bool.and_eq_true, Bool.and_eq_true]
  refine ⟨⟨?_, ?_⟩, ?_⟩
  · rw [List.all_eq_true]; intro c hc; rw [List.eq_of_mem_replicate hc]; rfl
  · rw [List.all_eq_true]; exact fun c hc => isP_of_isL (wv_mem h hc)
  · rw [List.all_eq_true]; intro c hc; rw [List.eq_of_mem_replicate hc]; rfl

set_option maxHeartbeats 4000000 in
set_option maxRecDepth 100000 in
theorem fnPlaceWord_walk (w : World) (A : Option Addr) (cap : Nat) (bs : List UInt8) (h : Rd w w.heap.size A (bytesV bs)) (hc : bs.length ≤ cap) :
    Calls Try.prog 16 #[.slice A bs.length cap] w fun e w' => e = .returned (.bool true) ∧ Below w.heap.size w w' := by
  by_cases hlen : 1048576 < bs.length
  · go_enter Try.func16, Try.ntmps16
    go_wp2_with fail
    go_ret
    exact ⟨rfl, Below.refl _ _⟩
  · have hlen' : decide ((1048576 : Int) < (bs.length : Int)) = false := by simp; omega
    go_enter Try.func16, Try.ntmps16
    go_wp2_with fail
    refine (drawPlaceWord_any w A cap bs h hc).mono ?_
    rintro e w1 ⟨s, a, n, rfl, hs, ha, hn, hb⟩
    have HB := Lib.hid hb; clear hb h
    cases hm : placeW (tl s) a n with
    | none =>
      have HX := Lib.hid (placeW_none_iff hm)
      have HM := Lib.hid hm; clear hm
      go_wp2_with fail
      refine (place_none _ _ _ _ ha hn HM.out).mono ?_
      rintro e w2 ⟨rfl, hb2⟩
      have HB2 := Lib.hid (HB.out.trans (hb2.mono HB.out.size)); clear hb2
      go_wp2_with fail
      refine (sPlace_none _ _ _ _ ha hn HM.out).mono ?_
      rintro e w3 ⟨rfl, hb3⟩
      have HB3 := Lib.hid (HB2.out.trans (hb3.mono HB2.out.size)); clear hb3
      go_wp2_with fail
      by_cases h1 : wv (tl s) = true
      · refine (wordValid_is _ true _ h1).mono ?_
        rintro e w' ⟨rfl, rfl⟩
        have hl := wv_length h1
        rw [length_tl] at hl
        have hx : n < 0 ∨ (0 ≤ n ∧ 200 < n) ∨ (0 ≤ n ∧ n ≤ 200 ∧ a < 0) ∨ (0 ≤ n ∧ n ≤ 200 ∧ 0 ≤ a ∧ n < a) ∨ (0 ≤ n ∧ n ≤ 200 ∧ 0 ≤ a ∧ a ≤ n ∧ n < a + (s.size : Int)) := by
          have := HX.out
          simp only [h1, true_and, length_tl] at this; omega
        clear h1
        rcases hx with h2 | ⟨h2, h3⟩ | ⟨h2, h3, h4⟩ | ⟨h2, h3, h4, h5⟩ | ⟨h2, h3, h4, h5, h6⟩
        all_goals
          go_wp2_with fail
          go_ret
          refine ⟨?_, HB3.out⟩
          first | rfl | (simp; omega)
      · refine (wordValid_is _ false _ (by simpa using h1)).mono ?_
        rintro e w' ⟨rfl, rfl⟩
        clear h1
        go_wp2_with fail
        go_ret
        exact ⟨rfl, HB3.out⟩
    | some r =>
      obtain ⟨h1, h2, h3, h4, h5, h6⟩ := placeW_some_iff hm
      rw [length_tl] at h5 h6
      have hl := wv_length h1
      rw [length_tl] at hl
      have hrl : r.length = n.toNat := by rw [h6]; simp [length_tl]; omega
      have hpv : pv r = true := by rw [h6]; exact pv_placed _ _ h1 (by rw [length_tl]; omega)
      have hkc : kcount r = (s.size : Int) := by
        unfold kcount; rw [if_pos hpv, h6, kn_append, kn_append, kn_gaps, kn_gaps, kn_word h1, length_tl]; simp
      have hsub : ((mk r).extract a.toNat (a + (s.size : Int)).toNat) = s := by
        rw [extract_mk', tl_mk, h6, List.append_assoc, List.drop_append_of_le_length (by simp), List.drop_of_length_le (by simp), List.nil_append,
          List.take_append_of_le_length (by rw [length_tl]; omega), List.take_of_length_le (by rw [length_tl]; omega), mk_tl]
      have hsb : (((mk r).extract a.toNat (a + (s.size : Int)).toNat).toList == s.toList) = true := by rw [hsub]; simp
      have hz : ((mk r).size : Int) = n := by rw [size_mk, hrl]; omega
      have hzb : (((mk r).size : Int) == n) = true := by rw [beq_iff_eq]; exact hz
      have hle : a + (s.size : Int) ≤ ((mk r).size : Int) := by omega
      have hle0 : a ≤ a + (s.size : Int) := by omega
      have HKC := Lib.hid hkc
      have V1 := Lib.hid h1
      have HM := Lib.hid hm
      clear hm h1 h6 hrl hpv hkc hsub hz
      go_wp2_with fail
      refine (place_some _ _ _ r _ HM.out).mono ?_
      rintro e w2 ⟨rfl, hb2⟩
      have HB2 := Lib.hid (HB.out.trans (hb2.mono HB.out.size)); clear hb2
      go_wp2_with fail
      refine (sPlace_some _ _ _ r _ HM.out).mono ?_
      rintro e w3 ⟨rfl, hb3⟩
      have HB3 := Lib.hid (HB2.out.trans (hb3.mono HB2.out.size)); clear hb3
      go_wp2_with fail
      refine (wordValid_is _ true _ V1.out).mono ?_
      rintro e w' ⟨rfl, rfl⟩
      go_wp2_with fail
      refine (knownCount_any (mk r) _).mono ?_
      rintro e w' ⟨rfl, rfl⟩
      rw [tl_mk, HKC.out]
      go_wp2_with fail
      go_ret
      refine ⟨?_, HB3.out⟩
      first | rfl | (simp; omega)

end Go.Proofs.Ytcgihkapcfpjcaa
