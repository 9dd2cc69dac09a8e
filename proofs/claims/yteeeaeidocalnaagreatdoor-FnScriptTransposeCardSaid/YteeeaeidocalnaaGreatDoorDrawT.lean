/-
  Contract of DrawTranspose: whatever the bytes are, two strings that are not long. No conditions but those that each theorem names.
-/
import Derived.Test.YteeeaeidocalnaaGreatDoorDraw
namespace Go.Proofs.YteeeaeidocalnaaGreatDoor
open Go.RowKit Pl
set_option linter.unusedVariables false

theorem l1Some_at (w : World) (R N n : Nat) (m : Int) (hm : m = (n : Int)) (h : Rdr w R N) (hN : N + n ≤ 1000000000) (hn : n ≤ 1000000) :
    Calls Tryz.prog 46 #[.pointer (some ⟨R, 0, none⟩), .int .i64 m] w fun e w' => ∃ l : List UInt8, e = .returned (.string (mk l)) ∧ l.length = n ∧ l.all isL = true ∧ Rdr w' R (N + n) ∧ w.grownBy w' (some R) := by
  subst hm; exact l1Some_any w R N n h hN hn
theorem l17Some_any (w : World) (R N : Nat) (h : Rdr w R N) (hN : N ≤ 100000) :
    Calls Tryz.prog 19 #[.pointer (some ⟨R, 0, none⟩)] w fun e w' => ∃ t : ByteArray, e = .returned (.string t) ∧ t.size ≤ 100 ∧ Rdr w' R (N + 20) ∧ w.grownBy w' (some R) := by
  go_enter Tryz.func19, Tryz.ntmps19
  go_wp2_with fail
  refine (pick_pos _ R N _ h (by omega) (by omega) (by omega)).mono ?_
  rintro e w1 ⟨x, rfl, hx, hr1, ho1⟩
  have HO := Lib.hid ho1; clear ho1
  by_cases h0 : x = 0
  · subst h0
    go_wp2_with fail
    refine (of_any _ R (N + 1) w1.heap.size 3 [mk [], mk [107], mk [97, 98, 99, 100, 101, 102, 103, 104, 105, 106, 97, 98, 99]] (hr1.alloc _) (by omega) (by simp) (by simp) (heap_alloc_new _ _)).mono ?_
    rintro e w2 ⟨t, ht, rfl, hr2, ho2⟩
    have hz : t.size ≤ 100 := by
      simp at ht; rcases ht with rfl | rfl | rfl <;> simp [size_mk]
    have HO2 := Lib.hid ho2; clear ho2 ht
    go_wp2_with fail
    go_ret
    exact ⟨_, rfl, hz, hr2.mono (by omega), only_trans HO.out (only_trans (World.grownBy_alloc _ _ _) HO2.out)⟩
  · have hb0 : ((x : Int) == 0) = false := by simp; omega
    by_cases h1 : x = 1
    · subst h1
      clear hb0 h0
      go_wp2_with fail
      refine (l1Some_at _ R _ 12 _ rfl hr1 (by omega) (by omega)).mono ?_
      rintro e w3 ⟨l3, rfl, hl3, _, hr3, ho3⟩
      have HO3 := Lib.hid (only_trans HO.out ho3); clear ho3
      have hz : (mk l3).size ≤ 100 := by rw [size_mk]; omega
      generalize mk l3 = t at hz ⊢
      go_wp2_with fail
      go_ret
      exact ⟨_, rfl, hz, hr3.mono (by omega), HO3.out⟩
    · have hb1 : ((x : Int) == 1) = false := by simp; omega
      go_wp2_with fail
      refine (pick_pos _ R _ _ hr1 (by omega) (by omega) (by omega)).mono ?_
      rintro e w2 ⟨y, rfl, hy, hr2, ho2⟩
      have HO2 := Lib.hid (only_trans HO.out ho2); clear ho2
      go_wp2_with fail
      refine (l1Some_at _ R _ (1 + y) _ (by omega) hr2 (by omega) (by omega)).mono ?_
      rintro e w3 ⟨l3, rfl, hl3, _, hr3, ho3⟩
      have HO3 := Lib.hid (only_trans HO2.out ho3); clear ho3
      have hz : (mk l3).size ≤ 100 := by rw [size_mk]; omega
      generalize mk l3 = t at hz ⊢
      go_wp2_with fail
      go_ret
      exact ⟨_, rfl, hz, hr3.mono (by omega), HO3.out⟩

theorem drawTranspose_any (w : World) (A : Option Addr) (cap : Nat) (bs : List UInt8) (h : Rd w w.heap.size A (bytesV bs)) (hc : bs.length ≤ cap) :
    Calls Tryz.prog 5 #[.slice A bs.length cap] w fun e w' => ∃ s k : ByteArray, e = .returned (.tuple #[.string s, .string k]) ∧ s.size ≤ 1000 ∧ k.size ≤ 1000 ∧ Below w.heap.size w w' := by
  go_enter Tryz.func5, Tryz.ntmps5
  go_wp2_with fail
  refine (l21Open_any w A cap bs h hc).mono ?_
  rintro e w1 ⟨rfl, hr1, hb1, hs1⟩
  have HB1 := Lib.hid hb1; have HS1 := Lib.hid hs1; clear hb1 h hs1
  go_wp2_with fail
  refine (l1Word_any _ _ _ 24 hr1 (by omega) (by omega)).mono ?_
  rintro e w2 ⟨l2, rfl, hl2, _, hr2, ho2⟩
  have HO2 := Lib.hid ho2; clear ho2
  have hz : (mk l2).size ≤ 100 := by rw [size_mk]; omega
  generalize mk l2 = t2 at hz ⊢
  go_wp2_with fail
  refine (l1Bad_any _ _ _ t2 hr2 (by omega) (by omega)).mono ?_
  rintro e w3 ⟨t3, rfl, hz3, hr3, ho3⟩
  have HO3 := Lib.hid (only_trans HO2.out ho3); clear ho3
  go_wp2_with fail
  refine (l17Some_any _ _ _ hr3 (by omega)).mono ?_
  rintro e w4 ⟨t4, rfl, hz4, hr4, ho4⟩
  have HO4 := Lib.hid (only_trans HO3.out ho4); clear ho4
  go_wp2_with fail
  go_ret2
  exact ⟨t3, t4, rfl, by omega, by omega, HB1.out.trans (below_of_only HO4.out HB1.out.size (Nat.le_refl _))⟩

end Go.Proofs.YteeeaeidocalnaaGreatDoor
