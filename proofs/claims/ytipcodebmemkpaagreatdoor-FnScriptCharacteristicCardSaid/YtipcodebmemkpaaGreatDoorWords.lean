/-
  Contracts of the functions on words: what each call returns, for every string; nothing in memory is changed. No conditions but those that each theorem names.
-/
import Derived.Test.YtipcodebmemkpaaGreatDoorRows
import Derived.Test.YtipcodebmemkpaaGreatDoorPlain
import Derived.WalkKit
import Derived.WalkSpells
import Derived.WalkLawsBesides
import Derived.Lib.Hide
import Derived.IntWalk
namespace Go.Proofs.YtipcodebmemkpaaGreatDoor
open Go.RowKit Pl
set_option linter.unusedVariables false

theorem ret_bool {a b : Bool} (h : a = b) : Ending.returned (.bool a) = .returned (.bool b) := by rw [h]
theorem ret_int {k : IntKind} {a b : Int} (h : a = b) : Ending.returned (.int k a) = .returned (.int k b) := by rw [h]

theorem isLetter_any (c : UInt8) (w : World) :
    Calls Tryz.prog 123 #[.int .u8 c.toNat] w fun e w' => e = .returned (.bool (isL c)) ∧ w = w' := by
  have hc := c.toNat_lt
  by_cases h1 : 97 ≤ c.toNat <;> by_cases h2 : c.toNat < 107
  all_goals first
    | omega
    | (go_enter Tryz.func123, Tryz.ntmps123
       go_wp2
       go_ret
       exact ⟨by simp [isL, h1, h2]; try omega, rfl⟩)
theorem isLetter_is (c : UInt8) (b : Bool) (w : World) (h : isL c = b) :
    Calls Tryz.prog 123 #[.int .u8 c.toNat] w fun e w' => e = .returned (.bool b) ∧ w = w' := h ▸ isLetter_any c w

theorem l1Digit_any (s : ByteArray) (i : Nat) (w : World) (h : i < s.size) (hs : s.size ≤ 9223372036854775807) :
    Calls Tryz.prog 75 #[.string s, .int .i64 i] w fun e w' => e = .returned (.int .i64 ((s[i].toNat : Int) - 97)) ∧ w = w' := by
  have hc := s[i].toNat_lt
  go_enter Tryz.func75, Tryz.ntmps75
  go_wp2
  go_ret
  exact ⟨by simp, rfl⟩

theorem l1In_any (n lo hi : Int) (w : World) :
    Calls Tryz.prog 63 #[.int .i64 n, .int .i64 lo, .int .i64 hi] w fun e w' => e = .returned (.bool (decide (lo ≤ n) && decide (n ≤ hi))) ∧ w = w' := by
  by_cases h1 : lo ≤ n <;> by_cases h2 : n ≤ hi
  all_goals
    go_enter Tryz.func63, Tryz.ntmps63
    go_wp2
    go_ret
    exact ⟨by simp [h1, h2], rfl⟩
theorem l1In_is (n lo hi : Int) (b : Bool) (w : World) (h : (decide (lo ≤ n) && decide (n ≤ hi)) = b) :
    Calls Tryz.prog 63 #[.int .i64 n, .int .i64 lo, .int .i64 hi] w fun e w' => e = .returned (.bool b) ∧ w = w' := h ▸ l1In_any n lo hi w

theorem str_eq {a b : ByteArray} (h : a = b) : Ending.returned (.string a) = .returned (.string b) := by rw [h]
theorem sb_eq {a b : ByteArray} (h : a = b) (x : Bool) : Ending.returned (.tuple #[.string a, .bool x]) = .returned (.tuple #[.string b, .bool x]) := by rw [h]

theorem wordValid_any (s : ByteArray) (w : World) :
    Calls Tryz.prog 89 #[.string s] w fun e w' => e = .returned (.bool (wv (tl s))) ∧ w = w' := by
  by_cases hl : 200 < s.size
  · have hw : wv (tl s) = false := wv_long (by rw [length_tl]; exact hl)
    rw [hw]
    go_enter Tryz.func89, Tryz.ntmps89
    go_wp2
    go_ret
    exact ⟨rfl, rfl⟩
  · go_enter Tryz.func89, Tryz.ntmps89
    go_wp2
    go_loop [9] (fun i => ∃ k : Nat, k ≤ s.size ∧ i = .int .i64 k ∧ ((tl s).take k).all isL = true) (fun i => s.size - (intOf i).toNat)
    case atStart => exact ⟨0, Nat.zero_le _, rfl, rfl⟩
    case round =>
      obtain ⟨k, hk, rfl, hall⟩ := hrel
      have H := Lib.hid hall; clear hall
      by_cases hlt : k < s.size
      · by_cases hc : isL s[k] = true
        · have HC := Lib.hid hc; clear hc
          go_wp2_with (go_at_call 123; refine (isLetter_is _ true _ HC.out).mono ?_; rintro e w' ⟨rfl, rfl⟩)
          go_round
          case rel => exact ⟨k + 1, by omega, by go_num, by rw [take_succ_tl s k hlt, List.all_append, H.out]; simp [HC.out]⟩
          case measure => simp [intOf]; omega
        · have HC := Lib.hid (show isL s[k] = false by simpa using hc); clear hc
          go_wp2_with (go_at_call 123; refine (isLetter_is _ false _ HC.out).mono ?_; rintro e w' ⟨rfl, rfl⟩)
          go_ret
          exact ⟨ret_bool (wv_bad (c := s[k]) (by rw [getElem_tl]; exact List.getElem_mem _) HC.out).symm, rfl⟩
      · go_wp2
        go_ret
        refine ⟨ret_bool ?_, rfl⟩
        have := H.out
        rw [List.take_of_length_le (by rw [length_tl]; omega)] at this
        rw [wv_all (by rw [length_tl]; omega), this]

theorem wordValid_is (s : ByteArray) (b : Bool) (w : World) (h : wv (tl s) = b) :
    Calls Tryz.prog 89 #[.string s] w fun e w' => e = .returned (.bool b) ∧ w = w' := h ▸ wordValid_any s w

theorem sWordValid_any (s : ByteArray) (w : World) :
    Calls Tryz.prog 168 #[.string s] w fun e w' => e = .returned (.bool (wv (tl s))) ∧ w = w' := by
  by_cases hl : 200 < s.size
  · have hw : wv (tl s) = false := wv_long (by rw [length_tl]; exact hl)
    rw [hw]
    go_enter Tryz.func168, Tryz.ntmps168
    go_wp2
    go_ret
    exact ⟨rfl, rfl⟩
  · go_enter Tryz.func168, Tryz.ntmps168
    go_wp2
    go_loop [3] (fun i => ∃ k : Nat, k ≤ s.size ∧ i = .int .i64 k ∧ ((tl s).take k).all isL = true) (fun i => s.size - (intOf i).toNat)
    case atStart => exact ⟨0, Nat.zero_le _, rfl, rfl⟩
    case round =>
      obtain ⟨k, hk, rfl, hall⟩ := hrel
      have H := Lib.hid hall; clear hall
      by_cases hlt : k < s.size
      · by_cases hc : isL s[k] = true
        · have hb := isL_bounds hc
          have HC := Lib.hid hc; clear hc
          go_wp2_with (first | (go_at_call 75; refine (l1Digit_any _ _ _ hlt (by omega)).mono ?_; rintro e w' ⟨rfl, rfl⟩) | (go_at_call 63; refine (l1In_is _ _ _ true _ (by simp; omega)).mono ?_; rintro e w' ⟨rfl, rfl⟩))
          go_round
          case rel => exact ⟨k + 1, by omega, by go_num, by rw [take_succ_tl s k hlt, List.all_append, H.out]; simp [HC.out]⟩
          case measure => simp [intOf]; omega
        · have hn : ¬ (97 ≤ s[k].toNat ∧ s[k].toNat < 107) := by simpa [isL] using hc
          have HC := Lib.hid (show isL s[k] = false by simpa using hc); clear hc
          go_wp2_with (first | (go_at_call 75; refine (l1Digit_any _ _ _ hlt (by omega)).mono ?_; rintro e w' ⟨rfl, rfl⟩) | (go_at_call 63; refine (l1In_is _ _ _ false _ (by simp; omega)).mono ?_; rintro e w' ⟨rfl, rfl⟩))
          go_ret
          exact ⟨ret_bool (wv_bad (c := s[k]) (by rw [getElem_tl]; exact List.getElem_mem _) HC.out).symm, rfl⟩
      · go_wp2
        go_ret
        refine ⟨ret_bool ?_, rfl⟩
        have := H.out
        rw [List.take_of_length_le (by rw [length_tl]; omega)] at this
        rw [wv_all (by rw [length_tl]; omega), this]

theorem sWordValid_is (s : ByteArray) (b : Bool) (w : World) (h : wv (tl s) = b) :
    Calls Tryz.prog 168 #[.string s] w fun e w' => e = .returned (.bool b) ∧ w = w' := h ▸ sWordValid_any s w


end Go.Proofs.YtipcodebmemkpaaGreatDoor
