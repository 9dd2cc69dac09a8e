/-
  The draws of words and gapped words: some strings of bounded lengths. No conditions but those that each theorem names.
-/
import Derived.Test.YtcgihkapcfpjcaaDraw
import Derived.Test.YtcgihkapcfpjcaaPart
namespace Go.Proofs.Ytcgihkapcfpjcaa
open Go.RowKit Pl
set_option linter.unusedVariables false

set_option maxHeartbeats 2000000 in
theorem l1Two_any (w : World) (R N : Nat) (h : Rdr w R N) (hN : N ≤ 10000) :
    Calls Try.prog 55 #[.pointer (some ⟨R, 0, none⟩)] w fun e w' => ∃ s t : ByteArray, e = .returned (.tuple #[.string s, .string t]) ∧ s.size ≤ 1000 ∧ t.size ≤ 1000 ∧ Rdr w' R (N + 60) ∧ w.grownBy w' (some R) := by
  go_enter Try.func55, Try.ntmps55
  go_wp2_with fail
  refine (l1Word_any w R N 16 h (by omega) (by omega)).mono ?_
  rintro e w1 ⟨l, rfl, hl, _, hr1, ho1⟩
  go_wp2_with fail
  refine (l1Some_any w1 R (N + 16 + 1) l.length hr1 (by omega) (by omega)).mono ?_
  rintro e w2 ⟨l2, rfl, hl2, _, hr2, ho2⟩
  have hl2' : l2.length ≤ 16 := by omega
  clear hl2
  go_wp2_with fail
  refine (pick_pos w2 R _ _ hr2 (by omega) (by omega) (by omega)).mono ?_
  rintro e w3 ⟨x, rfl, hx, hr3, ho3⟩
  have HO := Lib.hid (only_trans ho1 (only_trans ho2 ho3)); clear ho1 ho2 ho3
  by_cases h0 : x = 0
  · subst h0
    go_wp2_with fail
    refine (l1Word_any w3 R _ 9 hr3 (by omega) (by omega)).mono ?_
    rintro e w4 ⟨l3, rfl, hl3, _, hr4, ho4⟩
    go_wp2_with fail
    refine (l1Bad_any w4 R _ (mk l) hr4 (by omega) (by rw [size_mk]; omega)).mono ?_
    rintro e w5 ⟨s, rfl, hs, hr5, ho5⟩
    rw [size_mk] at hs
    go_wp2_with fail
    refine (l1Bad_any w5 R _ (mk l3) hr5 (by omega) (by rw [size_mk]; omega)).mono ?_
    rintro e w6 ⟨t, rfl, ht, hr6, ho6⟩
    rw [size_mk] at ht
    go_wp2_with fail
    go_ret2
    exact ⟨s, t, rfl, by omega, by omega, hr6.mono (by omega), only_trans HO.out (only_trans ho4 (only_trans ho5 ho6))⟩
  · have hb0 : ((x : Int) == 0) = false := by simp; omega
    go_wp2_with fail
    refine (l1Bad_any w3 R _ (mk l) hr3 (by omega) (by rw [size_mk]; omega)).mono ?_
    rintro e w5 ⟨s, rfl, hs, hr5, ho5⟩
    rw [size_mk] at hs
    go_wp2_with fail
    refine (l1Bad_any w5 R _ (mk l2) hr5 (by omega) (by rw [size_mk]; omega)).mono ?_
    rintro e w6 ⟨t, rfl, ht, hr6, ho6⟩
    rw [size_mk] at ht
    go_wp2_with fail
    go_ret2
    exact ⟨s, t, rfl, by omega, by omega, hr6.mono (by omega), only_trans HO.out (only_trans ho5 ho6)⟩

/-- two drawn strings -/
def Two (w : World) (e : Ending) (w' : World) : Prop := ∃ s t : ByteArray, e = .returned (.tuple #[.string s, .string t]) ∧ s.size ≤ 1000 ∧ t.size ≤ 1000 ∧ Below w.heap.size w w'

theorem drawAddWords_any (w : World) (A : Option Addr) (cap : Nat) (bs : List UInt8) (h : Rd w w.heap.size A (bytesV bs)) (hc : bs.length ≤ cap) :
    Calls Try.prog 19 #[.slice A bs.length cap] w (Two w) := by
  go_enter Try.func19, Try.ntmps19
  go_wp2_with fail
  refine (l21Open_any w A cap bs h hc).mono ?_
  rintro e w1 ⟨rfl, hr1, hb1, _⟩
  go_wp2_with fail
  refine (l1Two_any w1 w.heap.size 0 hr1 (by omega)).mono ?_
  rintro e w2 ⟨s, t, rfl, hs, ht, hr2, ho2⟩
  go_wp2_with fail
  go_ret2
  exact ⟨s, t, rfl, hs, ht, hb1.trans (below_of_only ho2 hb1.size (Nat.le_refl _))⟩

set_option maxHeartbeats 2000000 in
theorem l18Partial_any (w : World) (R N : Nat) (s : ByteArray) (h : Rdr w R N) (hN : N ≤ 100000) (hs : s.size ≤ 1000) :
    Calls Try.prog 61 #[.pointer (some ⟨R, 0, none⟩), .string s] w fun e w' => ∃ l : List UInt8, e = .returned (.string (mk l)) ∧ l.length = s.size ∧ Rdr w' R (N + s.size) ∧ w.grownBy w' (some R) := by
  go_enter Try.func61, Try.ntmps61
  go_wp2_with fail
  go_loopw [5, 6] (fun o i wr => ∃ (k : Nat) (l : List UInt8), k ≤ s.size ∧ i = .int .i64 k ∧ o = .string (mk l) ∧ l.length = k ∧ Rdr wr R (N + k) ∧ w.grownBy wr (some R)) (fun _ i _ => s.size - (intOf i).toNat)
  case atStart => exact ⟨0, [], Nat.zero_le _, rfl, rfl, rfl, h, only_refl _ _⟩
  case round =>
    obtain ⟨k, l, hk, rfl, rfl, hlk, hr, ho⟩ := hrel
    have HL := Lib.hid hlk; clear hlk
    have HO := Lib.hid ho; clear ho
    have hz : (mk l).size ≤ 1000 := by rw [size_mk, HL.out]; omega
    by_cases hlt : k < s.size
    · go_wp2_with fail
      refine (pick_pos _ R (N + k) _ hr (by omega) (by omega) (by omega)).mono ?_
      rintro e w1 ⟨x, rfl, hx, hr1, ho1⟩
      by_cases h0 : x = 0
      · subst h0
        go_wp2_with fail
        go_roundw
        case rel => exact ⟨k + 1, l ++ [45], by omega, by go_num, congrArg Value.string (mk_append l [45]), by simp [HL.out], hr1, only_trans HO.out ho1⟩
        case measure => simp [intOf]; omega
      · have hb0 : ((x : Int) == 0) = false := by simp; omega
        have hex := slice_one s k hlt
        have hzx : (s.extract k (k + 1)).size ≤ 1 := by rw [hex, size_mk]; simp
        have HX := Lib.hid hex; clear hex
        go_wp2_with fail
        go_roundw
        case rel => exact ⟨k + 1, l ++ [s[k]], by omega, by go_num, by rw [HX.out, mk_append], by simp [HL.out], hr1, only_trans HO.out ho1⟩
        case measure => simp [intOf]; omega
    · go_wp2_with fail
      go_ret
      have : k = s.size := by omega
      subst this
      exact ⟨l, rfl, HL.out, hr, HO.out⟩

set_option maxHeartbeats 1000000 in
theorem l18Bad_any (w : World) (R N : Nat) (s : ByteArray) (h : Rdr w R N) (hN : N ≤ 1000000) (hs : s.size ≤ 1000000) :
    Calls Try.prog 64 #[.pointer (some ⟨R, 0, none⟩), .string s] w fun e w' => ∃ t : ByteArray, e = .returned (.string t) ∧ t.size ≤ s.size + 201 ∧ Rdr w' R (N + 2) ∧ w.grownBy w' (some R) := by
  go_enter Try.func64, Try.ntmps64
  go_wp2_with fail
  refine (pick_pos _ R N _ h (by omega) (by omega) (by omega)).mono ?_
  rintro e w1 ⟨x, rfl, hx, hr1, ho1⟩
  have HO := Lib.hid ho1; clear ho1
  by_cases h0 : x = 0
  · subst h0
    go_wp2_with fail
    refine (of_any _ R (N + 1) w1.heap.size 4 [mk [107], mk [32], mk [45], mk [97]] (hr1.alloc _) (by omega) (by simp) (by simp) (heap_alloc_new _ _)).mono ?_
    rintro e w2 ⟨t, ht, rfl, hr2, ho2⟩
    have hz : t.size ≤ 1 := by
      simp at ht; rcases ht with rfl | rfl | rfl | rfl <;> simp [size_mk]
    have HO2 := Lib.hid ho2; clear ho2 ht
    go_wp2_with fail
    go_ret
    exact ⟨_, rfl, by simp [ByteArray.size_append]; omega, hr2, only_trans HO.out (only_trans (World.grownBy_alloc _ _ _) HO2.out)⟩
  · have hb0 : ((x : Int) == 0) = false := by simp; omega
    by_cases h1 : x = 1
    · subst h1
      clear hb0 h0
      go_wp2_with fail
      refine (num_any _ R (N + 1) w1.heap.size 2 [200, 201] (hr1.alloc _) (by omega) (by simp) (by simp) (heap_alloc_new _ _)).mono ?_
      rintro e w2 ⟨m, hm, rfl, hr2, ho2⟩
      obtain ⟨m', rfl, hm'⟩ : ∃ m' : Nat, m = (m' : Int) ∧ m' ≤ 201 := by
        simp at hm; rcases hm with rfl | rfl
        · exact ⟨200, rfl, by omega⟩
        · exact ⟨201, rfl, by omega⟩
      have HO2 := Lib.hid ho2; clear ho2 hm
      go_wp2_with fail
      refine (l21Many_one _ 45 m' (by omega)).mono ?_
      rintro e w3 ⟨rfl, rfl⟩
      go_wp2_with fail
      go_ret
      exact ⟨_, rfl, by rw [size_mk, List.length_replicate]; omega, hr2, only_trans HO.out (only_trans (World.grownBy_alloc _ _ _) HO2.out)⟩
    · have hb1 : ((x : Int) == 1) = false := by simp; omega
      go_wp2_with fail
      go_ret
      exact ⟨s, rfl, by omega, hr1.mono (by omega), HO.out⟩

end Go.Proofs.Ytcgihkapcfpjcaa
