/-
  Contracts of the functions on gapped words and keys. No conditions but those that each theorem names.
-/
import Derived.Test.YtcgihkapcfpjcaaComb
import Derived.Test.YtcgihkapcfpjcaaDraw
namespace Go.Proofs.Ytcgihkapcfpjcaa
open Go.RowKit Pl
set_option linter.unusedVariables false

theorem l1Is_is (s : ByteArray) (c : UInt8) (b : Bool) (w : World) (hs : s = mk [c]) (h : isL c = b) :
    Calls Try.prog 77 #[.string s] w fun e w' => e = .returned (.bool b) ∧ w = w' := by
  have hz : s.size = 1 := by rw [hs, size_mk]; rfl
  have h0 : 0 < s.size := by omega
  have hc : (s[0]'h0) = c := by subst hs; rfl
  subst h
  have hcb := c.toNat_lt
  have hz1 : (((s.size : Nat) : Int) == 1) = true := by simp; omega
  have hzi : ((s.size : Nat) : Int) = 1 := by omega
  have hge : (1 : Nat) ≤ s.size := by omega
  clear hs
  rw [← hc]
  have hcb' := (s[0]'h0).toNat_lt
  have HZ := Lib.hid hz; clear hz hc hzi
  by_cases h1 : 97 ≤ (s[0]'h0).toNat <;> by_cases h2 : (s[0]'h0).toNat < 107
  all_goals first
    | omega
    | (go_enter Try.func77, Try.ntmps77
       go_wp2
       go_ret
       exact ⟨by simp [isL, h1, h2]; try omega, rfl⟩)

theorem partialValid_any (s : ByteArray) (w : World) :
    Calls Try.prog 28 #[.string s] w fun e w' => e = .returned (.bool (pv (tl s))) ∧ w = w' := by
  by_cases hl : 200 < s.size
  · have hw : pv (tl s) = false := pv_long (by rw [length_tl]; exact hl)
    rw [hw]
    go_enter Try.func28, Try.ntmps28
    go_wp2
    go_ret
    exact ⟨rfl, rfl⟩
  · go_enter Try.func28, Try.ntmps28
    go_wp2
    go_loop [9] (fun i => ∃ k : Nat, k ≤ s.size ∧ i = .int .i64 k ∧ ((tl s).take k).all isP = true) (fun i => s.size - (intOf i).toNat)
    case atStart => exact ⟨0, Nat.zero_le _, rfl, rfl⟩
    case round =>
      obtain ⟨k, hk, rfl, hall⟩ := hrel
      have H := Lib.hid hall; clear hall
      by_cases hlt : k < s.size
      · by_cases hg : s[k].toNat = 45
        · have hgb : (((s[k].toNat : Nat) : Int) != 45) = false := by simp; omega
          have HG := Lib.hid hg; clear hg
          go_wp2_with fail
          go_round
          case rel => exact ⟨k + 1, by omega, by go_num, by rw [take_succ_tl s k hlt, List.all_append, H.out]; simp [isP, HG.out]⟩
          case measure => simp [intOf]; omega
        · have hgb : (((s[k].toNat : Nat) : Int) != 45) = true := by rw [bne_iff_ne]; omega
          by_cases hc : isL s[k] = true
          · have HC := Lib.hid hc; clear hc
            go_wp2_with (go_at_call 65; refine (isLetter_is _ true _ HC.out).mono ?_; rintro e w' ⟨rfl, rfl⟩)
            go_round
            case rel => exact ⟨k + 1, by omega, by go_num, by rw [take_succ_tl s k hlt, List.all_append, H.out]; simp [isP, HC.out]⟩
            case measure => simp [intOf]; omega
          · have HC := Lib.hid (show isL s[k] = false by simpa using hc); clear hc
            go_wp2_with (go_at_call 65; refine (isLetter_is _ false _ HC.out).mono ?_; rintro e w' ⟨rfl, rfl⟩)
            go_ret
            exact ⟨ret_bool (pv_bad (c := s[k]) (by rw [getElem_tl]; exact List.getElem_mem _) (by simp [isP, hg, HC.out])).symm, rfl⟩
      · go_wp2
        go_ret
        refine ⟨ret_bool ?_, rfl⟩
        have := H.out
        rw [List.take_of_length_le (by rw [length_tl]; omega)] at this
        rw [pv_all (by rw [length_tl]; omega), this]
theorem partialValid_is (s : ByteArray) (b : Bool) (w : World) (h : pv (tl s) = b) :
    Calls Try.prog 28 #[.string s] w fun e w' => e = .returned (.bool b) ∧ w = w' := h ▸ partialValid_any s w

theorem slice_one (s : ByteArray) (k : Nat) (h : k < s.size) : s.extract k (k + 1) = mk [s[k]] := by
  rw [extract_mk']
  congr 1
  rw [show k + 1 - k = 1 by omega, List.drop_eq_getElem_cons (by rw [length_tl]; exact h)]
  rfl

theorem sPartialValid_any (s : ByteArray) (w : World) :
    Calls Try.prog 53 #[.string s] w fun e w' => e = .returned (.bool (pv (tl s))) ∧ w = w' := by
  by_cases hl : 200 < s.size
  · have hw : pv (tl s) = false := pv_long (by rw [length_tl]; exact hl)
    rw [hw]
    go_enter Try.func53, Try.ntmps53
    go_wp2
    go_ret
    exact ⟨rfl, rfl⟩
  · go_enter Try.func53, Try.ntmps53
    go_wp2
    go_loop [3] (fun i => ∃ k : Nat, k ≤ s.size ∧ i = .int .i64 k ∧ ((tl s).take k).all isP = true) (fun i => s.size - (intOf i).toNat)
    case atStart => exact ⟨0, Nat.zero_le _, rfl, rfl⟩
    case round =>
      obtain ⟨k, hk, rfl, hall⟩ := hrel
      have H := Lib.hid hall; clear hall
      by_cases hlt : k < s.size
      · by_cases hg : s[k].toNat = 45
        · have hgb : (((s[k].toNat : Nat) : Int) != 45) = false := by simp; omega
          have HG := Lib.hid hg; clear hg
          go_wp2_with fail
          go_round
          case rel => exact ⟨k + 1, by omega, by go_num, by rw [take_succ_tl s k hlt, List.all_append, H.out]; simp [isP, HG.out]⟩
          case measure => simp [intOf]; omega
        · have hgb : (((s[k].toNat : Nat) : Int) != 45) = true := by rw [bne_iff_ne]; omega
          by_cases hc : isL s[k] = true
          · have HC := Lib.hid hc; clear hc
            go_wp2_with fail
            refine (l1Is_is _ s[k] true _ (slice_one s k hlt) HC.out).mono ?_
            rintro e w' ⟨rfl, rfl⟩
            go_wp2_with fail
            go_round
            case rel => exact ⟨k + 1, by omega, by go_num, by rw [take_succ_tl s k hlt, List.all_append, H.out]; simp [isP, HC.out]⟩
            case measure => simp [intOf]; omega
          · have HC := Lib.hid (show isL s[k] = false by simpa using hc); clear hc
            go_wp2_with fail
            refine (l1Is_is _ s[k] false _ (slice_one s k hlt) HC.out).mono ?_
            rintro e w' ⟨rfl, rfl⟩
            go_wp2_with fail
            go_ret
            exact ⟨ret_bool (pv_bad (c := s[k]) (by rw [getElem_tl]; exact List.getElem_mem _) (by simp [isP, hg, HC.out])).symm, rfl⟩
      · go_wp2
        go_ret
        refine ⟨ret_bool ?_, rfl⟩
        have := H.out
        rw [List.take_of_length_le (by rw [length_tl]; omega)] at this
        rw [pv_all (by rw [length_tl]; omega), this]
theorem sPartialValid_is (s : ByteArray) (b : Bool) (w : World) (h : pv (tl s) = b) :
    Calls Try.prog 53 #[.string s] w fun e w' => e = .returned (.bool b) ∧ w = w' := h ▸ sPartialValid_any s w

end Go.Proofs.Ytcgihkapcfpjcaa
