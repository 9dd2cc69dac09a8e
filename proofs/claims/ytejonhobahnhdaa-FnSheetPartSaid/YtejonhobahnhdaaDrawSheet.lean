/-
  The draw of the arguments of SheetPart: some sheet, start and number. No conditions.
-/
import Derived.Test.YtejonhobahnhdaaDraw
namespace Go.Proofs.Ytejonhobahnhdaa
open Go.RowKit Pl
set_option linter.unusedVariables false

def SheetDrawn (w : World) (e : Ending) (w' : World) : Prop :=
  ∃ (s : ByteArray) (st n : Int), e = .returned (.tuple #[.string s, .int .i64 st, .int .i64 n]) ∧ s.size ≤ 1000 ∧ (-9223372036854775808 ≤ st ∧ st ≤ 9223372036854775807) ∧ (-9223372036854775808 ≤ n ∧ n ≤ 9223372036854775807) ∧ Below w.heap.size w w'

set_option maxHeartbeats 2000000 in
theorem drawSheetPart_any (w : World) (A : Option Addr) (cap : Nat) (bs : List UInt8) (h : Rd w w.heap.size A (bytesV bs)) (hc : bs.length ≤ cap) :
    Calls Try.prog 34 #[.slice A bs.length cap] w (SheetDrawn w) := by
  go_enter Try.func34, Try.ntmps34
  go_wp2_with fail
  refine (l21Open_any w A cap bs h hc).mono ?_
  rintro e w1 ⟨rfl, hr1, hb1, _⟩
  go_wp2_with fail
  refine (l1Word_any w1 w.heap.size 0 24 hr1 (by omega) (by omega)).mono ?_
  rintro e w2 ⟨l, rfl, hl, hall, hr2, ho2⟩
  clear hall
  go_wp2_with fail
  refine (l1Bad_any w2 w.heap.size _ (mk l) hr2 (by omega) (by rw [size_mk]; omega)).mono ?_
  rintro e w3 ⟨s, rfl, hs, hr3, ho3⟩
  rw [size_mk] at hs
  go_wp2_with fail
  refine (pick_pos w3 w.heap.size _ _ hr3 (by omega) (by omega) (by omega)).mono ?_
  rintro e w4 ⟨x, rfl, hx, hr4, ho4⟩
  go_wp2_with fail
  refine (pick_pos w4 w.heap.size _ _ hr4 (by omega) (by omega) (by omega)).mono ?_
  rintro e w5 ⟨y, rfl, hy, hr5, ho5⟩
  go_wp2_with fail
  refine (pick_pos w5 w.heap.size _ _ hr5 (by omega) (by omega) (by omega)).mono ?_
  rintro e w6 ⟨z, rfl, hz, hr6, ho6⟩
  have HB := Lib.hid (show Below w.heap.size w w6 from hb1.trans (below_of_only (only_trans ho2 (only_trans ho3 (only_trans ho4 (only_trans ho5 ho6)))) hb1.size (Nat.le_refl _)))
  clear ho2 ho3 ho4 ho5 ho6 hb1 hr1 hr2 hr3 hr4 hr5 h
  by_cases h0 : z = 0
  · subst h0
    go_wp2_with fail
    refine (num_any _ w.heap.size _ w6.heap.size 4 [-1, 201, 9223372036854775807, -9223372036854775808] (hr6.alloc _) (by omega) (by simp) (by simp) (heap_alloc_new _ _)).mono ?_
    rintro e w7 ⟨m, hm, rfl, hr7, ho7⟩
    have hm' : -9223372036854775808 ≤ m ∧ m ≤ 9223372036854775807 := by simp at hm; omega
    clear hm
    go_wp2_with fail
    go_ret3
    exact ⟨s, m, y, rfl, by omega, hm', by omega, HB.out.trans (below_of_only (only_trans (World.grownBy_alloc _ _ _) ho7) HB.out.size (Nat.le_refl _))⟩
  · have hb0 : ((z : Int) == 0) = false := by simp; omega
    by_cases h1 : z = 1
    · subst h1
      clear hb0 h0
      go_wp2_with fail
      refine (num_any _ w.heap.size _ w6.heap.size 4 [-1, 201, 9223372036854775807, -9223372036854775808] (hr6.alloc _) (by omega) (by simp) (by simp) (heap_alloc_new _ _)).mono ?_
      rintro e w7 ⟨m, hm, rfl, hr7, ho7⟩
      have hm' : -9223372036854775808 ≤ m ∧ m ≤ 9223372036854775807 := by simp at hm; omega
      clear hm
      go_wp2_with fail
      go_ret3
      exact ⟨s, x, m, rfl, by omega, by omega, hm', HB.out.trans (below_of_only (only_trans (World.grownBy_alloc _ _ _) ho7) HB.out.size (Nat.le_refl _))⟩
    · have hb1 : ((z : Int) == 1) = false := by simp; omega
      go_wp2_with fail
      go_ret3
      exact ⟨s, x, y, rfl, by omega, by omega, by omega, HB.out⟩

end Go.Proofs.Ytejonhobahnhdaa
