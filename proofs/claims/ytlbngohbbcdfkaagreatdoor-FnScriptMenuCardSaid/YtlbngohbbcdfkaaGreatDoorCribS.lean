/-
  Contracts of cribs and of the menus that they make, of the reference, and of MenuOf of the program where there is none. Conditions: what each theorem names.
-/
import Derived.Test.YtlbngohbbcdfkaaGreatDoorCrib
namespace Go.Proofs.YtlbngohbbcdfkaaGreatDoor
open Go.RowKit Pl
set_option linter.unusedVariables false

set_option maxHeartbeats 4000000 in
theorem sCribFits_any (c k : ByteArray) (t : Int) (w : World) (h0 : -9223372036854775808 ≤ t ∧ t ≤ 9223372036854775807) :
    Calls Tryz.prog 23 #[.string c, .string k, .int .i64 t] w fun e w' => e = .returned (.bool (cribF (tl c) (tl k) t)) ∧ Below w.heap.size w w' := by
  by_cases hc : wv (tl c) = true
  · have hcz := wv_length hc
    rw [length_tl] at hcz
    by_cases hk : wv (tl k) = true
    · have hkz := wv_length hk
      rw [length_tl] at hkz
      by_cases hn : tl k = []
      · have e : cribF (tl c) (tl k) t = false := by unfold cribF; rw [hn]; simp
        rw [e]
        have hq : k.toList.isEmpty = true := by rw [toList_tl, hn]; rfl
        have HC := Lib.hid hc; have HK := Lib.hid hk; clear hc hk hn e
        go_enter Tryz.func23, Tryz.ntmps23
        go_wp2_with fail
        refine (sWordValid_is _ true _ HC.out).mono ?_
        rintro _ _ ⟨rfl, rfl⟩
        go_wp2_with fail
        refine (sWordValid_is _ true _ HK.out).mono ?_
        rintro _ _ ⟨rfl, rfl⟩
        go_wp2_with fail
        go_ret
        exact ⟨rfl, Below.refl _ _⟩
      · have hq : k.toList.isEmpty = false := by rw [List.isEmpty_eq_false_iff, toList_tl]; exact hn
        by_cases ht : 0 ≤ t ∧ t + k.size ≤ c.size
        · obtain ⟨ht0, htl⟩ := ht
          obtain ⟨T, rfl⟩ := Int.eq_ofNat_of_zero_le ht0
          have e : cribF (tl c) (tl k) (T : Int) = crAll (tl c) (tl k) T k.size := by
            unfold cribF
            rw [hc, hk, List.isEmpty_eq_false_iff.2 hn, length_tl, length_tl]
            simp [htl]
          rw [e]
          have htn : ¬ (c.size : Int) - (k.size : Int) < (T : Int) := by omega
          have HC := Lib.hid hc; have HK := Lib.hid hk; clear hc hk hn e
          go_enter Tryz.func23, Tryz.ntmps23
          go_wp2_with fail
          refine (sWordValid_is _ true _ HC.out).mono ?_
          rintro _ _ ⟨rfl, rfl⟩
          go_wp2_with fail
          refine (sWordValid_is _ true _ HK.out).mono ?_
          rintro _ _ ⟨rfl, rfl⟩
          go_wp2_with fail
          refine (l1In_is _ _ _ true _ (by simp; omega)).mono ?_
          rintro _ _ ⟨rfl, rfl⟩
          go_wp2_with fail
          go_loopw [7] (fun i wr => ∃ n : Nat, n ≤ k.size ∧ i = .int .i64 n ∧ Hid (crAll (tl c) (tl k) T n = true) ∧ Below w.heap.size w wr) (fun i _ => k.size - (intOf i).toNat)
          case atStart => exact ⟨0, Nat.zero_le _, rfl, Lib.hid rfl, Below.refl _ _⟩
          case round =>
            obtain ⟨n, hnk, rfl, HA, hbl⟩ := hrel
            have HBL := Lib.hid hbl; clear hbl
            by_cases hlt : n < k.size
            · have hct : T + n < c.size := by omega
              have e1 : (tl k)[n]? = some k[n] := by rw [getElem_tl]; exact List.getElem?_eq_getElem _
              have e2 : (tl c)[T + n]? = some c[T + n] := by rw [getElem_tl]; exact List.getElem?_eq_getElem _
              have hb1 := k[n].toNat_lt
              have hb2 := c[T + n].toNat_lt
              have ha1 : ((T : Int) + (n : Int)).toNat = T + n := by omega
              have ha2 : IntKind.i64.wrap ((T : Int) + (n : Int)) = (T : Int) + (n : Int) := by rw [IntKind.wrap_i64]; omega
              have ha3 : (0 : Int) ≤ (T : Int) + (n : Int) := by omega
              have ha4 : (T : Int) + (n : Int) < (c.size : Int) := by omega
              by_cases heq : k[n] = c[T + n]
              · have hbad := crAll_bad (c := tl c) (k := tl k) (t := T) (i := n) k.size (by rw [e1, e2, heq]; simp) hlt
                have hbq : ((k[n].toNat : Int) == (c[T + n].toNat : Int)) = true := by rw [heq]; simp
                have HBAD := Lib.hid hbad; clear hbad e1 e2 heq
                go_wp2_with fail
                go_quiet (fail)
                clear hbq
                go_wp2_with fail
                go_ret
                exact ⟨by rw [HBAD.out]; rfl, below_drewN' HBL.out _⟩
              · have hgo := crAll_succ (tl c) (tl k) T n
                rw [HA.out, e1, e2] at hgo
                have hbq : ((k[n].toNat : Int) == (c[T + n].toNat : Int)) = false := by
                  rw [beq_eq_false_iff_ne]; intro e; exact heq (UInt8.toNat_inj.1 (by omega))
                have hg2 : crAll (tl c) (tl k) T (n + 1) = true := by rw [hgo]; simp [heq]
                have HG := Lib.hid hg2; clear hg2 hgo e1 e2 heq
                go_wp2_with fail
                go_quiet (fail)
                clear hbq
                go_wp2_with fail
                go_roundw
                case rel => exact ⟨n + 1, by omega, by go_num, HG, below_drewN' HBL.out _⟩
                case measure => simp [intOf]; omega
            · have hall : crAll (tl c) (tl k) T k.size = true := by
                have := HA.out
                rw [show n = k.size by omega] at this; exact this
              have HALL := Lib.hid hall; clear hall
              go_wp2_with fail
              go_ret
              exact ⟨by rw [HALL.out]; rfl, HBL.out⟩
        · have e : cribF (tl c) (tl k) t = false := by
            rw [Bool.eq_false_iff]; intro h
            obtain ⟨_, _, _, h3, h4, _⟩ := cribF_iff.1 h
            rw [length_tl, length_tl] at h4
            exact ht ⟨h3, h4⟩
          rw [e]
          have HC := Lib.hid hc; have HK := Lib.hid hk; clear hc hk hn e
          by_cases ht0 : t < 0
          · clear ht
            go_enter Tryz.func23, Tryz.ntmps23
            go_wp2_with fail
            refine (sWordValid_is _ true _ HC.out).mono ?_
            rintro _ _ ⟨rfl, rfl⟩
            go_wp2_with fail
            refine (sWordValid_is _ true _ HK.out).mono ?_
            rintro _ _ ⟨rfl, rfl⟩
            go_wp2_with fail
            refine (l1In_is _ _ _ false _ (by simp; omega)).mono ?_
            rintro _ _ ⟨rfl, rfl⟩
            go_wp2_with fail
            go_ret
            exact ⟨rfl, Below.refl _ _⟩
          · have htn : (c.size : Int) - (k.size : Int) < t := by omega
            clear ht
            go_enter Tryz.func23, Tryz.ntmps23
            go_wp2_with fail
            refine (sWordValid_is _ true _ HC.out).mono ?_
            rintro _ _ ⟨rfl, rfl⟩
            go_wp2_with fail
            refine (sWordValid_is _ true _ HK.out).mono ?_
            rintro _ _ ⟨rfl, rfl⟩
            go_wp2_with fail
            refine (l1In_is _ _ _ false _ (by simp; omega)).mono ?_
            rintro _ _ ⟨rfl, rfl⟩
            go_wp2_with fail
            go_ret
            exact ⟨rfl, Below.refl _ _⟩
    · have hk' := Bool.eq_false_iff.2 hk
      have e : cribF (tl c) (tl k) t = false := by unfold cribF; rw [hk']; simp
      rw [e]
      have HC := Lib.hid hc; have HK := Lib.hid hk'; clear hc hk hk' e
      go_enter Tryz.func23, Tryz.ntmps23
      go_wp2_with fail
      refine (sWordValid_is _ true _ HC.out).mono ?_
      rintro _ _ ⟨rfl, rfl⟩
      go_wp2_with fail
      refine (sWordValid_is _ false _ HK.out).mono ?_
      rintro _ _ ⟨rfl, rfl⟩
      go_wp2_with fail
      go_ret
      exact ⟨rfl, Below.refl _ _⟩
  · have hc' := Bool.eq_false_iff.2 hc
    have e : cribF (tl c) (tl k) t = false := by unfold cribF; rw [hc']; simp
    rw [e]
    have HC := Lib.hid hc'; clear hc hc' e
    go_enter Tryz.func23, Tryz.ntmps23
    go_wp2_with fail
    refine (sWordValid_is _ false _ HC.out).mono ?_
    rintro _ _ ⟨rfl, rfl⟩
    go_wp2_with fail
    go_ret
    exact ⟨rfl, Below.refl _ _⟩


theorem menuOf_none (c k : ByteArray) (t : Int) (w : World) (h0 : -9223372036854775808 ≤ t ∧ t ≤ 9223372036854775807) (h : cribF (tl c) (tl k) t = false ∨ 12 < k.size ∨ 60 < t + k.size) :
    Calls Tryz.prog 7 #[.string c, .string k, .int .i64 t] w fun e w' => e = .returned (.tuple #[.slice none 0 0, .bool false]) ∧ Below w.heap.size w w' := by
  have hcf := fun w' => cribFits_any c k t w' h0
  cases hf : cribF (tl c) (tl k) t with
  | false =>
    rw [hf] at hcf
    have HCF := Lib.hid hcf; clear hcf hf h
    go_enter Tryz.func7, Tryz.ntmps7
    go_wp2_with fail
    refine (HCF.out _).mono ?_
    rintro _ w1 ⟨rfl, hb1⟩
    go_wp2_with fail
    go_ret2
    exact ⟨rfl, hb1⟩
  | true =>
    rw [hf] at hcf h
    obtain ⟨hc, hk, _, ht0, htl, _⟩ := cribF_iff.1 hf
    have hcz := wv_length hc
    rw [length_tl] at hcz htl
    rw [length_tl] at htl
    have HCF := Lib.hid hcf; clear hcf hf hc hk
    by_cases h1 : 12 < k.size
    · clear h
      go_enter Tryz.func7, Tryz.ntmps7
      go_wp2_with fail
      refine (HCF.out _).mono ?_
      rintro _ w1 ⟨rfl, hb1⟩
      go_wp2_with fail
      go_ret2
      exact ⟨rfl, hb1⟩
    · have h2 : 60 < t + k.size := by rcases h with h | h | h <;> first | cases h | omega
      clear h
      go_enter Tryz.func7, Tryz.ntmps7
      go_wp2_with fail
      refine (HCF.out _).mono ?_
      rintro _ w1 ⟨rfl, hb1⟩
      go_wp2_with fail
      go_ret2
      exact ⟨rfl, hb1⟩

end Go.Proofs.YtlbngohbbcdfkaaGreatDoor
