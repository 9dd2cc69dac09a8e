/-
  The draws of the arguments of the functions on gapped words. No conditions.
-/
import Derived.Test.YtcgihkapcfpjcaaDrawW
import Derived.Deep.RegionWith
namespace Go.Proofs.Ytcgihkapcfpjcaa
open Go.RowKit Pl
set_option linter.unusedVariables false

/-- one drawn string -/
def One (w : World) (e : Ending) (w' : World) : Prop := ∃ s : ByteArray, e = .returned (.string s) ∧ s.size ≤ 1000 ∧ Below w.heap.size w w'
/-- three drawn strings -/
def Three (w : World) (e : Ending) (w' : World) : Prop := ∃ s t u : ByteArray, e = .returned (.tuple #[.string s, .string t, .string u]) ∧ s.size ≤ 1000 ∧ t.size ≤ 1000 ∧ u.size ≤ 1000 ∧ Below w.heap.size w w'

set_option maxHeartbeats 2000000 in
theorem drawPartialValid_any (w : World) (A : Option Addr) (cap : Nat) (bs : List UInt8) (h : Rd w w.heap.size A (bytesV bs)) (hc : bs.length ≤ cap) :
    Calls Try.prog 75 #[.slice A bs.length cap] w (One w) := by
  go_enter Try.func75, Try.ntmps75
  go_wp2_with fail
  refine (l21Open_any w A cap bs h hc).mono ?_
  rintro e w1 ⟨rfl, hr1, hb1, _⟩
  go_wp2_with fail
  refine (l1Word_any w1 w.heap.size 0 16 hr1 (by omega) (by omega)).mono ?_
  rintro e w2 ⟨l, rfl, hl, _, hr2, ho2⟩
  go_wp2_with fail
  refine (l18Partial_any w2 w.heap.size _ (mk l) hr2 (by omega) (by rw [size_mk]; omega)).mono ?_
  rintro e w3 ⟨l3, rfl, hl3, hr3, ho3⟩
  rw [size_mk] at hl3 hr3
  have hl3' : l3.length ≤ 16 := by omega
  clear hl3
  go_wp2_with fail
  refine (l18Bad_any w3 w.heap.size _ (mk l3) hr3 (by omega) (by rw [size_mk]; omega)).mono ?_
  rintro e w4 ⟨s, rfl, hs, hr4, ho4⟩
  rw [size_mk] at hs
  go_wp2_with fail
  go_ret
  exact ⟨s, rfl, by omega, hb1.trans (below_of_only (only_trans ho2 (only_trans ho3 ho4)) hb1.size (Nat.le_refl _))⟩
theorem drawKnownCount_any (w : World) (A : Option Addr) (cap : Nat) (bs : List UInt8) (h : Rd w w.heap.size A (bytesV bs)) (hc : bs.length ≤ cap) :
    Calls Try.prog 40 #[.slice A bs.length cap] w (One w) := by
  go_enter Try.func40, Try.ntmps40
  go_wp2_with fail
  refine (drawPartialValid_any w A cap bs h hc).mono ?_
  rintro e w1 ⟨s, rfl, hs, hb⟩
  go_wp2_with fail
  go_ret
  exact ⟨s, rfl, hs, hb⟩

set_option maxHeartbeats 2000000 in
theorem drawKeyFrom_any (w : World) (A : Option Addr) (cap : Nat) (bs : List UInt8) (h : Rd w w.heap.size A (bytesV bs)) (hc : bs.length ≤ cap) :
    Calls Try.prog 45 #[.slice A bs.length cap] w (Two w) := by
  go_enter Try.func45, Try.ntmps45
  go_wp2_with fail
  refine (l21Open_any w A cap bs h hc).mono ?_
  rintro e w1 ⟨rfl, hr1, hb1, _⟩
  go_wp2_with fail
  refine (l1Word_any w1 w.heap.size 0 12 hr1 (by omega) (by omega)).mono ?_
  rintro e w2 ⟨l, rfl, hl, _, hr2, ho2⟩
  go_wp2_with fail
  refine (l1Bad_any w2 w.heap.size _ (mk l) hr2 (by omega) (by rw [size_mk]; omega)).mono ?_
  rintro e w3 ⟨s, rfl, hs, hr3, ho3⟩
  rw [size_mk] at hs
  go_wp2_with fail
  refine (l1Some_any w3 w.heap.size _ l.length hr3 (by omega) (by omega)).mono ?_
  rintro e w4 ⟨l4, rfl, hl4, _, hr4, ho4⟩
  have hl4' : l4.length ≤ 12 := by omega
  clear hl4
  go_wp2_with fail
  refine (l18Partial_any w4 w.heap.size _ (mk l4) hr4 (by omega) (by rw [size_mk]; omega)).mono ?_
  rintro e w5 ⟨l5, rfl, hl5, hr5, ho5⟩
  rw [size_mk] at hl5 hr5
  have hl5' : l5.length ≤ 12 := by omega
  clear hl5
  go_wp2_with fail
  refine (l18Bad_any w5 w.heap.size _ (mk l5) hr5 (by omega) (by rw [size_mk]; omega)).mono ?_
  rintro e w6 ⟨t, rfl, ht, hr6, ho6⟩
  rw [size_mk] at ht
  go_wp2_with fail
  go_ret2
  exact ⟨s, t, rfl, by omega, by omega, hb1.trans (below_of_only (only_trans ho2 (only_trans ho3 (only_trans ho4 (only_trans ho5 ho6)))) hb1.size (Nat.le_refl _))⟩
theorem drawReadWith_any (w : World) (A : Option Addr) (cap : Nat) (bs : List UInt8) (h : Rd w w.heap.size A (bytesV bs)) (hc : bs.length ≤ cap) :
    Calls Try.prog 30 #[.slice A bs.length cap] w (Two w) := by
  go_enter Try.func30, Try.ntmps30
  go_wp2_with fail
  refine (drawKeyFrom_any w A cap bs h hc).mono ?_
  rintro e w1 ⟨s, t, rfl, hs, ht, hb⟩
  go_wp2_with fail
  go_ret2
  exact ⟨s, t, rfl, hs, ht, hb⟩

set_option maxHeartbeats 2000000 in
theorem drawReadDepth_any (w : World) (A : Option Addr) (cap : Nat) (bs : List UInt8) (h : Rd w w.heap.size A (bytesV bs)) (hc : bs.length ≤ cap) :
    Calls Try.prog 32 #[.slice A bs.length cap] w (Three w) := by
  go_enter Try.func32, Try.ntmps32
  go_wp2_with fail
  refine (l21Open_any w A cap bs h hc).mono ?_
  rintro e w1 ⟨rfl, hr1, hb1, _⟩
  go_wp2_with fail
  refine (l1Word_any w1 w.heap.size 0 12 hr1 (by omega) (by omega)).mono ?_
  rintro e w2 ⟨l, rfl, hl, _, hr2, ho2⟩
  go_wp2_with fail
  refine (l1Some_any w2 w.heap.size _ l.length hr2 (by omega) (by omega)).mono ?_
  rintro e w3 ⟨l3, rfl, hl3, _, hr3, ho3⟩
  have hl3' : l3.length ≤ 12 := by omega
  clear hl3
  go_wp2_with fail
  refine (l18Partial_any w3 w.heap.size _ (mk l3) hr3 (by omega) (by rw [size_mk]; omega)).mono ?_
  rintro e w4 ⟨l4, rfl, hl4, hr4, ho4⟩
  rw [size_mk] at hl4 hr4
  have hl4' : l4.length ≤ 12 := by omega
  clear hl4
  go_wp2_with fail
  refine (l1Some_any w4 w.heap.size _ l.length hr4 (by omega) (by omega)).mono ?_
  rintro e w5 ⟨l5, rfl, hl5, _, hr5, ho5⟩
  have hl5' : l5.length ≤ 12 := by omega
  clear hl5
  go_wp2_with fail
  refine (l1Bad_any w5 w.heap.size _ (mk l) hr5 (by omega) (by rw [size_mk]; omega)).mono ?_
  rintro e w6 ⟨s, rfl, hs, hr6, ho6⟩
  rw [size_mk] at hs
  go_wp2_with fail
  refine (l18Bad_any w6 w.heap.size _ (mk l4) hr6 (by omega) (by rw [size_mk]; omega)).mono ?_
  rintro e w7 ⟨t, rfl, ht, hr7, ho7⟩
  rw [size_mk] at ht
  go_wp2_with fail
  refine (l1Bad_any w7 w.heap.size _ (mk l5) hr7 (by omega) (by rw [size_mk]; omega)).mono ?_
  rintro e w8 ⟨u, rfl, hu, hr8, ho8⟩
  rw [size_mk] at hu
  go_wp2_with fail
  go_ret3
  exact ⟨s, t, u, rfl, by omega, by omega, by omega, hb1.trans (below_of_only (only_trans ho2 (only_trans ho3 (only_trans ho4 (only_trans ho5 (only_trans ho6 (only_trans ho7 ho8)))))) hb1.size (Nat.le_refl _))⟩

set_option maxHeartbeats 2000000 in
theorem drawMergePartials_any (w : World) (A : Option Addr) (cap : Nat) (bs : List UInt8) (h : Rd w w.heap.size A (bytesV bs)) (hc : bs.length ≤ cap) :
    Calls Try.prog 25 #[.slice A bs.length cap] w (Two w) := by
  go_enter Try.func25, Try.ntmps25
  go_wp2_with fail
  refine (l21Open_any w A cap bs h hc).mono ?_
  rintro e w1 ⟨rfl, hr1, hb1, _⟩
  go_wp2_with fail
  refine (l1Word_any w1 w.heap.size 0 10 hr1 (by omega) (by omega)).mono ?_
  rintro e w2 ⟨l, rfl, hl, _, hr2, ho2⟩
  go_wp2_with fail
  refine (l18Partial_any w2 w.heap.size _ (mk l) hr2 (by omega) (by rw [size_mk]; omega)).mono ?_
  rintro e w3 ⟨l3, rfl, hl3, hr3, ho3⟩
  rw [size_mk] at hl3 hr3
  have hl3' : l3.length ≤ 10 := by omega
  clear hl3
  go_wp2_with fail
  refine (l18Partial_any w3 w.heap.size _ (mk l) hr3 (by omega) (by rw [size_mk]; omega)).mono ?_
  rintro e w4 ⟨l4, rfl, hl4, hr4, ho4⟩
  rw [size_mk] at hl4 hr4
  have hl4' : l4.length ≤ 10 := by omega
  have HL4 := Lib.hid hl4; clear hl4
  have hzl : (mk l).size ≤ 10 := by rw [size_mk]; exact hl
  have hzl4 : (mk l4).size ≤ 10 := by rw [size_mk]; exact hl4'
  go_wp2_with fail
  refine (pick_pos w4 w.heap.size _ _ hr4 (by omega) (by omega) (by omega)).mono ?_
  rintro e w5 ⟨k, rfl, hk, hr5, ho5⟩
  go_wp2_with fail
  refine (pick_pos w5 w.heap.size _ _ hr5 (by omega) (by omega) (by omega)).mono ?_
  rintro e w6 ⟨x, rfl, hx, hr6, ho6⟩
  have HB := Lib.hid (show Below w.heap.size w w6 from hb1.trans (below_of_only (only_trans ho2 (only_trans ho3 (only_trans ho4 (only_trans ho5 ho6)))) hb1.size (Nat.le_refl _)))
  clear ho2 ho3 ho4 ho5 ho6 hb1 hr1 hr2 hr3 hr4 hr5 h
  by_cases h0 : x = 0 ∧ k < l.length
  · obtain ⟨rfl, hkl⟩ := h0
    have hkz : (k : Int) < ((mk l).size : Int) := by rw [size_mk]; omega
    have hkz4 : (k : Int) < ((mk l4).size : Int) := by rw [size_mk, HL4.out]; omega
    have hx1 : ((mk l4).extract 0 k).size ≤ 1000 := by simp [ByteArray.size_extract]; omega
    have hx2 : ((mk l4).extract (k + 1) (mk l4).size).size ≤ 1000 := by simp [ByteArray.size_extract]; omega
    have hk0 : (0 : Int) ≤ (k : Int) + 1 := by omega
    have hk1 : (k : Int) + 1 ≤ ((mk l4).size : Int) := by omega
    have hk2 : (k : Int) ≤ ((mk l4).size : Int) := by omega
    go_wp2_with fail
    have hkw : IntKind.i64.wrap ((k : Int) + 1) = (k : Int) + 1 := IntWalk.i64_in _ (by omega)
    have hkn : ((k : Int) + 1).toNat = k + 1 := by omega
    go_region_with ((go_at_call 63; refine (l1Some_any _ w.heap.size _ 1 (show Rdr w6.drew _ _ from hr6) (by omega) (by omega)).mono ?_; rintro e w7 ⟨l7, rfl, hl7, _, hr7, ho7⟩; have hz7 : (mk l7).size ≤ 1 := by rw [size_mk]; omega))
    all_goals
      clear hkw hkn
      obtain ⟨q, hq⟩ : ∃ q, q = (mk l4).extract 0 k ++ mk l7 ++ (mk l4).extract (k + 1) (mk l4).size := ⟨_, rfl⟩
      have hzq : q.size ≤ 100 := by rw [hq]; simp [ByteArray.size_append, ByteArray.size_extract]; omega
      rw [← hq]
      clear hq
      have ho7' : w6.grownBy w7 (some w.heap.size) := only_of_drew ho7
      clear ho7
      go_wp2_with fail
      refine (l18Bad_any w7 w.heap.size _ (mk l3) hr7 (by omega) (by rw [size_mk]; omega)).mono ?_
      rintro e w8 ⟨s, rfl, hs, hr8, ho8⟩
      rw [size_mk] at hs
      go_wp2_with fail
      refine (l18Bad_any w8 w.heap.size _ q hr8 (by omega) (by omega)).mono ?_
      rintro e w9 ⟨t, rfl, ht, hr9, ho9⟩
      go_wp2_with fail
      go_ret2
      exact ⟨s, t, rfl, by omega, by omega, HB.out.trans (below_of_only (only_trans ho7' (only_trans ho8 ho9)) HB.out.size (Nat.le_refl _))⟩
  · by_cases h1 : x = 0
    · subst h1
      have hkz : ¬ ((k : Int) < ((mk l).size : Int)) := by
        rw [size_mk]; intro hh; exact h0 ⟨rfl, by omega⟩
      have hkd : decide ((k : Int) < ((mk l).size : Int)) = false := by simpa using hkz
      go_wp2_with fail
      refine (l18Bad_any w6 w.heap.size _ (mk l3) hr6 (by omega) (by rw [size_mk]; omega)).mono ?_
      rintro e w8 ⟨s, rfl, hs, hr8, ho8⟩
      rw [size_mk] at hs
      go_wp2_with fail
      refine (l18Bad_any w8 w.heap.size _ (mk l4) hr8 (by omega) (by omega)).mono ?_
      rintro e w9 ⟨t, rfl, ht, hr9, ho9⟩
      go_wp2_with fail
      go_ret2
      exact ⟨s, t, rfl, by omega, by omega, HB.out.trans (below_of_only (only_trans ho8 ho9) HB.out.size (Nat.le_refl _))⟩
    · have hb0 : ((x : Int) == 0) = false := by simp; omega
      go_wp2_with fail
      refine (l18Bad_any w6 w.heap.size _ (mk l3) hr6 (by omega) (by rw [size_mk]; omega)).mono ?_
      rintro e w8 ⟨s, rfl, hs, hr8, ho8⟩
      rw [size_mk] at hs
      go_wp2_with fail
      refine (l18Bad_any w8 w.heap.size _ (mk l4) hr8 (by omega) (by omega)).mono ?_
      rintro e w9 ⟨t, rfl, ht, hr9, ho9⟩
      go_wp2_with fail
      go_ret2
      exact ⟨s, t, rfl, by omega, by omega, HB.out.trans (below_of_only (only_trans ho8 ho9) HB.out.size (Nat.le_refl _))⟩

set_option maxHeartbeats 2000000 in
theorem drawPartialFits_any (w : World) (A : Option Addr) (cap : Nat) (bs : List UInt8) (h : Rd w w.heap.size A (bytesV bs)) (hc : bs.length ≤ cap) :
    Calls Try.prog 42 #[.slice A bs.length cap] w (Two w) := by
  go_enter Try.func42, Try.ntmps42
  go_wp2_with fail
  refine (l21Open_any w A cap bs h hc).mono ?_
  rintro e w1 ⟨rfl, hr1, hb1, _⟩
  go_wp2_with fail
  refine (l1Word_any w1 w.heap.size 0 10 hr1 (by omega) (by omega)).mono ?_
  rintro e w2 ⟨l, rfl, hl, _, hr2, ho2⟩
  go_wp2_with fail
  refine (l18Partial_any w2 w.heap.size _ (mk l) hr2 (by omega) (by rw [size_mk]; omega)).mono ?_
  rintro e w3 ⟨l3, rfl, hl3, hr3, ho3⟩
  rw [size_mk] at hl3 hr3
  have hl3' : l3.length ≤ 10 := by omega
  clear hl3
  have hzl : (mk l).size ≤ 10 := by rw [size_mk]; exact hl
  go_wp2_with fail
  refine (pick_pos w3 w.heap.size _ _ hr3 (by omega) (by omega) (by omega)).mono ?_
  rintro e w4 ⟨k, rfl, hk, hr4, ho4⟩
  go_wp2_with fail
  refine (pick_pos w4 w.heap.size _ _ hr4 (by omega) (by omega) (by omega)).mono ?_
  rintro e w6 ⟨x, rfl, hx, hr6, ho6⟩
  have HB := Lib.hid (show Below w.heap.size w w6 from hb1.trans (below_of_only (only_trans ho2 (only_trans ho3 (only_trans ho4 ho6))) hb1.size (Nat.le_refl _)))
  clear ho2 ho3 ho4 ho6 hb1 hr1 hr2 hr3 hr4 h
  by_cases h0 : x = 0 ∧ k < l.length
  · obtain ⟨rfl, hkl⟩ := h0
    have hkz : (k : Int) < ((mk l).size : Int) := by rw [size_mk]; omega
    have hx1 : ((mk l).extract 0 k).size ≤ 1000 := by simp [ByteArray.size_extract]; omega
    have hx2 : ((mk l).extract (k + 1) (mk l).size).size ≤ 1000 := by simp [ByteArray.size_extract]; omega
    have hk0 : (0 : Int) ≤ (k : Int) + 1 := by omega
    have hk1 : (k : Int) + 1 ≤ ((mk l).size : Int) := by omega
    have hk2 : (k : Int) ≤ ((mk l).size : Int) := by omega
    go_wp2_with fail
    have hkw : IntKind.i64.wrap ((k : Int) + 1) = (k : Int) + 1 := IntWalk.i64_in _ (by omega)
    have hkn : ((k : Int) + 1).toNat = k + 1 := by omega
    go_region_with ((go_at_call 63; refine (l1Some_any _ w.heap.size _ 1 (show Rdr w6.drew _ _ from hr6) (by omega) (by omega)).mono ?_; rintro e w7 ⟨l7, rfl, hl7, _, hr7, ho7⟩; have hz7 : (mk l7).size ≤ 1 := by rw [size_mk]; omega))
    all_goals
      clear hkw hkn
      obtain ⟨q, hq⟩ : ∃ q, q = (mk l).extract 0 k ++ mk l7 ++ (mk l).extract (k + 1) (mk l).size := ⟨_, rfl⟩
      have hzq : q.size ≤ 100 := by rw [hq]; simp [ByteArray.size_append, ByteArray.size_extract]; omega
      rw [← hq]
      clear hq
      have ho7' : w6.grownBy w7 (some w.heap.size) := only_of_drew ho7
      clear ho7
      go_wp2_with fail
      refine (l18Bad_any w7 w.heap.size _ (mk l3) hr7 (by omega) (by rw [size_mk]; omega)).mono ?_
      rintro e w8 ⟨s, rfl, hs, hr8, ho8⟩
      rw [size_mk] at hs
      go_wp2_with fail
      refine (l1Bad_any w8 w.heap.size _ q hr8 (by omega) (by omega)).mono ?_
      rintro e w9 ⟨t, rfl, ht, hr9, ho9⟩
      go_wp2_with fail
      go_ret2
      exact ⟨s, t, rfl, by omega, by omega, HB.out.trans (below_of_only (only_trans ho7' (only_trans ho8 ho9)) HB.out.size (Nat.le_refl _))⟩
  · by_cases h1 : x = 0
    · subst h1
      have hkz : ¬ ((k : Int) < ((mk l).size : Int)) := by
        rw [size_mk]; intro hh; exact h0 ⟨rfl, by omega⟩
      have hkd : decide ((k : Int) < ((mk l).size : Int)) = false := by simpa using hkz
      go_wp2_with fail
      refine (l18Bad_any w6 w.heap.size _ (mk l3) hr6 (by omega) (by rw [size_mk]; omega)).mono ?_
      rintro e w8 ⟨s, rfl, hs, hr8, ho8⟩
      rw [size_mk] at hs
      go_wp2_with fail
      refine (l1Bad_any w8 w.heap.size _ (mk l) hr8 (by omega) (by omega)).mono ?_
      rintro e w9 ⟨t, rfl, ht, hr9, ho9⟩
      go_wp2_with fail
      go_ret2
      exact ⟨s, t, rfl, by omega, by omega, HB.out.trans (below_of_only (only_trans ho8 ho9) HB.out.size (Nat.le_refl _))⟩
    · have hb0 : ((x : Int) == 0) = false := by simp; omega
      go_wp2_with fail
      refine (l18Bad_any w6 w.heap.size _ (mk l3) hr6 (by omega) (by rw [size_mk]; omega)).mono ?_
      rintro e w8 ⟨s, rfl, hs, hr8, ho8⟩
      rw [size_mk] at hs
      go_wp2_with fail
      refine (l1Bad_any w8 w.heap.size _ (mk l) hr8 (by omega) (by omega)).mono ?_
      rintro e w9 ⟨t, rfl, ht, hr9, ho9⟩
      go_wp2_with fail
      go_ret2
      exact ⟨s, t, rfl, by omega, by omega, HB.out.trans (below_of_only (only_trans ho8 ho9) HB.out.size (Nat.le_refl _))⟩

set_option maxHeartbeats 2000000 in
theorem drawDragCrib_any (w : World) (A : Option Addr) (cap : Nat) (bs : List UInt8) (h : Rd w w.heap.size A (bytesV bs)) (hc : bs.length ≤ cap) :
    Calls Try.prog 48 #[.slice A bs.length cap] w (Three w) := by
  go_enter Try.func48, Try.ntmps48
  go_wp2_with fail
  refine (l21Open_any w A cap bs h hc).mono ?_
  rintro e w1 ⟨rfl, hr1, hb1, _⟩
  go_wp2_with fail
  refine (l1Word_any w1 w.heap.size 0 12 hr1 (by omega) (by omega)).mono ?_
  rintro e w2 ⟨l, rfl, hl, _, hr2, ho2⟩
  go_wp2_with fail
  refine (l1Word_any w2 w.heap.size _ 5 hr2 (by omega) (by omega)).mono ?_
  rintro e w3 ⟨l3, rfl, hl3, _, hr3, ho3⟩
  go_wp2_with fail
  refine (l1Some_any w3 w.heap.size _ l.length hr3 (by omega) (by omega)).mono ?_
  rintro e w4 ⟨l4, rfl, hl4, _, hr4, ho4⟩
  have hl4' : l4.length ≤ 12 := by omega
  clear hl4
  go_wp2_with fail
  refine (pick_pos w4 w.heap.size _ _ hr4 (by omega) (by omega) (by omega)).mono ?_
  rintro e w5 ⟨x, rfl, hx, hr5, ho5⟩
  have HB := Lib.hid (show Below w.heap.size w w5 from hb1.trans (below_of_only (only_trans ho2 (only_trans ho3 (only_trans ho4 ho5))) hb1.size (Nat.le_refl _)))
  clear ho2 ho3 ho4 ho5 hb1 hr1 hr2 hr3 hr4 h
  by_cases h0 : x = 0
  · subst h0
    go_wp2_with fail
    refine (l1Bad_any w5 w.heap.size _ (mk l3) hr5 (by omega) (by rw [size_mk]; omega)).mono ?_
    rintro e w6 ⟨q, rfl, hq, hr6, ho6⟩
    rw [size_mk] at hq
    go_wp2_with fail
    refine (l1Bad_any w6 w.heap.size _ (mk l) hr6 (by omega) (by rw [size_mk]; omega)).mono ?_
    rintro e w7 ⟨s, rfl, hs, hr7, ho7⟩
    rw [size_mk] at hs
    go_wp2_with fail
    refine (l1Bad_any w7 w.heap.size _ (mk l4) hr7 (by omega) (by rw [size_mk]; omega)).mono ?_
    rintro e w8 ⟨t, rfl, ht, hr8, ho8⟩
    rw [size_mk] at ht
    go_wp2_with fail
    go_ret3
    exact ⟨s, q, t, rfl, by omega, by omega, by omega, HB.out.trans (below_of_only (only_trans ho6 (only_trans ho7 ho8)) HB.out.size (Nat.le_refl _))⟩
  · have hb0 : ((x : Int) == 0) = false := by simp; omega
    go_wp2_with fail
    refine (l1Bad_any w5 w.heap.size _ (mk l) hr5 (by omega) (by rw [size_mk]; omega)).mono ?_
    rintro e w7 ⟨s, rfl, hs, hr7, ho7⟩
    rw [size_mk] at hs
    go_wp2_with fail
    refine (l1Bad_any w7 w.heap.size _ (mk l4) hr7 (by omega) (by rw [size_mk]; omega)).mono ?_
    rintro e w8 ⟨t, rfl, ht, hr8, ho8⟩
    rw [size_mk] at ht
    go_wp2_with fail
    go_ret3
    exact ⟨s, mk l3, t, rfl, by omega, by rw [size_mk]; omega, by omega, HB.out.trans (below_of_only (only_trans ho7 ho8) HB.out.size (Nat.le_refl _))⟩

end Go.Proofs.Ytcgihkapcfpjcaa
