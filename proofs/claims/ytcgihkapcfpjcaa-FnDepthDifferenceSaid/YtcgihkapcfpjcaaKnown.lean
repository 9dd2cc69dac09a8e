/-
  Contracts of KnownCount and PartialFits, of the program and of the reference. No conditions.
-/
import Derived.Test.YtcgihkapcfpjcaaPart
import Derived.Test.YtcgihkapcfpjcaaPlainB
import Derived.Test.YtcgihkapcfpjcaaShelf
import Derived.Deep.QuietTactic
import Derived.BigQuiet
namespace Go.Proofs.Ytcgihkapcfpjcaa
open Go.RowKit Pl
set_option linter.unusedVariables false

theorem knownCount_any (s : ByteArray) (w : World) :
    Calls Try.prog 18 #[.string s] w fun e w' => e = .returned (.int .i64 (kcount (tl s))) ∧ w = w' := by
  by_cases h : pv (tl s) = true
  · have hk := kn_count (tl s)
    have hl := pv_length h
    rw [length_tl] at hk hl
    have e : kcount (tl s) = (kn (tl s) : Int) := by unfold kcount; rw [if_pos h]
    rw [e]
    have HK := Lib.hid hk
    have hle : (tl s).count 45 ≤ s.size := by omega
    clear e hk
    have H := Lib.hid h; clear h
    go_enter Try.func18, Try.ntmps18
    go_wp2_with fail
    refine (partialValid_is _ true _ H.out).mono ?_
    rintro e w' ⟨rfl, rfl⟩
    go_wp2_with fail
    refine (Try.strings_Count_one s 45 _).mono ?_
    rintro e w' ⟨rfl, hw⟩
    subst hw
    have hcb : Lib.countByte s.data.toList 45 = (tl s).count 45 := rfl
    rw [hcb]
    clear hcb
    go_wp2_with fail
    go_ret
    exact ⟨ret_int (by have := HK.out; omega), rfl⟩
  · have e : kcount (tl s) = -1 := by unfold kcount; rw [if_neg h]
    rw [e]
    clear e
    have H := Lib.hid (show pv (tl s) = false by simpa using h); clear h
    go_enter Try.func18, Try.ntmps18
    go_wp2_with fail
    refine (partialValid_is _ false _ H.out).mono ?_
    rintro e w' ⟨rfl, rfl⟩
    go_wp2_with fail
    go_ret
    exact ⟨rfl, rfl⟩

theorem sKnownCount_any (s : ByteArray) (w : World) :
    Calls Try.prog 17 #[.string s] w fun e w' => e = .returned (.int .i64 (kcount (tl s))) ∧ w = w' := by
  by_cases h : pv (tl s) = true
  · have hl := pv_length h
    rw [length_tl] at hl
    have e : kcount (tl s) = (kn (tl s) : Int) := by unfold kcount; rw [if_pos h]
    rw [e]
    clear e
    have H := Lib.hid h; clear h
    go_enter Try.func17, Try.ntmps17
    go_wp2_with fail
    refine (sPartialValid_is _ true _ H.out).mono ?_
    rintro e w' ⟨rfl, rfl⟩
    go_wp2_with fail
    go_loop [3, 4] (fun n i => ∃ k : Nat, k ≤ s.size ∧ i = .int .i64 k ∧ n = .int .i64 (kn ((tl s).take k))) (fun _ i => s.size - (intOf i).toNat)
    case atStart => exact ⟨0, Nat.zero_le _, rfl, rfl⟩
    case round =>
      obtain ⟨k, hk, rfl, rfl⟩ := hrel
      have hkl := kn_le ((tl s).take k)
      have hkt : ((tl s).take k).length ≤ k := List.length_take_le _ _
      by_cases hlt : k < s.size
      · have hsn : kn ((tl s).take (k + 1)) = kn ((tl s).take k) + if s[k].toNat = 45 then 0 else 1 := by rw [take_succ_tl s k hlt, kn_snoc]
        have HS := Lib.hid hsn; clear hsn
        by_cases hg : s[k].toNat = 45
        · have hgb : (((s[k].toNat : Nat) : Int) != 45) = false := by simp; omega
          have HG := Lib.hid hg; clear hg
          go_wp2_with fail
          go_round
          case rel => exact ⟨k + 1, by omega, by go_num, by rw [HS.out, if_pos HG.out]; rfl⟩
          case measure => simp [intOf]; omega
        · have hgb : (((s[k].toNat : Nat) : Int) != 45) = true := by rw [bne_iff_ne]; omega
          have HG := Lib.hid hg; clear hg
          go_wp2_with fail
          go_round
          case rel => exact ⟨k + 1, by omega, by go_num, by rw [HS.out, if_neg HG.out]; go_num⟩
          case measure => simp [intOf]; omega
      · go_wp2_with fail
        go_ret
        exact ⟨ret_int (by rw [List.take_of_length_le (by rw [length_tl]; omega)]), rfl⟩
  · have e : kcount (tl s) = -1 := by unfold kcount; rw [if_neg h]
    rw [e]
    clear e
    have H := Lib.hid (show pv (tl s) = false by simpa using h); clear h
    go_enter Try.func17, Try.ntmps17
    go_wp2_with fail
    refine (sPartialValid_is _ false _ H.out).mono ?_
    rintro e w' ⟨rfl, rfl⟩
    go_wp2_with fail
    go_ret
    exact ⟨rfl, rfl⟩

theorem fnExactKnownCount_walk (w : World) (a0 : ByteArray) (w0 : a0.size ≤ maxLen) :
    Calls Try.prog 3 #[.string a0] w fun e w' => e = .returned (.bool true) ∧ Below w.heap.size w w' := by
  by_cases hs : a0.size > 1048576
  · go_enter Try.func3, Try.ntmps3
    go_wp2_with fail
    go_ret
    exact ⟨rfl, Below.refl _ _⟩
  · go_enter Try.func3, Try.ntmps3
    go_wp2_with fail
    refine (sKnownCount_any _ _).mono ?_
    rintro e w' ⟨rfl, rfl⟩
    go_wp2_with fail
    refine (knownCount_any _ _).mono ?_
    rintro e w' ⟨rfl, rfl⟩
    go_wp2_with fail
    go_ret
    exact ⟨rfl, Below.refl _ _⟩

end Go.Proofs.Ytcgihkapcfpjcaa
