/-
  Contracts of PartialFits, of the program and of the reference. No conditions.
-/
import Derived.Test.YtcgihkapcfpjcaaPart
import Derived.Test.YtcgihkapcfpjcaaPlainB
import Derived.Deep.QuietTactic
import Derived.BigQuiet
namespace Go.Proofs.Ytcgihkapcfpjcaa
open Go.RowKit Pl
set_option linter.unusedVariables false

set_option maxHeartbeats 2000000 in
theorem fits_is (p x : ByteArray) (b : Bool) (w : World) (h : fitW (tl p) (tl x) = b) :
    Calls Try.prog 39 #[.string p, .string x] w fun e w' => e = .returned (.bool b) ∧ Below w.heap.size w w' := by
  unfold fitW at h
  by_cases h1 : pv (tl p) = true
  · by_cases h2 : wv (tl x) = true
    · by_cases h3 : p.size = x.size
      · have hd : decide (pv (tl p) = true ∧ wv (tl x) = true ∧ (tl p).length = (tl x).length) = true := by
          simp only [decide_eq_true_eq]; exact ⟨h1, h2, h3⟩
        rw [hd, Bool.true_and] at h
        have hl := pv_length h1
        rw [length_tl] at hl
        have hb : (((p.size : Nat) : Int) != ((x.size : Nat) : Int)) = false := by simp; omega
        have hle : p.size ≤ x.size := by omega
        have H1 := Lib.hid h1; clear h1
        have H2 := Lib.hid h2; clear h2 h3 hd
        have HF := Lib.hid h; clear h
        go_enter Try.func39, Try.ntmps39
        go_wp2_with fail
        refine (partialValid_is _ true _ H1.out).mono ?_
        rintro e w' ⟨rfl, rfl⟩
        go_wp2_with fail
        refine (wordValid_is _ true _ H2.out).mono ?_
        rintro e w' ⟨rfl, rfl⟩
        go_wp2_with fail
        go_loopw [23] (fun i wr => ∃ k : Nat, k ≤ p.size ∧ i = .int .i64 k ∧ Below w.heap.size w wr ∧ ∀ j (h1 : j < (tl p).length) (h2 : j < (tl x).length), j < k → fitC (tl p)[j] (tl x)[j] = true) (fun i _ => p.size - (intOf i).toNat)
        case atStart => exact ⟨0, Nat.zero_le _, rfl, Below.refl _ _, fun _ _ _ h => by omega⟩
        case round =>
          obtain ⟨k, hk, rfl, hbl, hall⟩ := hrel
          have HALL := Lib.hid hall; clear hall
          have HBL := Lib.hid hbl; clear hbl
          by_cases hlt : k < p.size
          · have hkx : k < x.size := by omega
            have hi1 : (k : Int) < (p.size : Int) := by omega
            have hi2 : (k : Int) < (x.size : Int) := by omega
            have step : fitC p[k] x[k] = true → ∀ j (h1 : j < (tl p).length) (h2 : j < (tl x).length), j < k + 1 → fitC (tl p)[j] (tl x)[j] = true := fun hf j h1 h2 hj => by
              by_cases e : j = k
              · subst e; exact hf
              · exact HALL.out j h1 h2 (by omega)
            have STEP := Lib.hid step; clear step
            by_cases hg : p[k].toNat = 45
            · have hgb : (((p[k].toNat : Nat) : Int) != 45) = false := by simp; omega
              have HC := Lib.hid (STEP.out (by simp [fitC, hg])); clear hg
              go_wp2_with fail
              go_quiet (fail)
              go_wp2_with fail
              go_roundw
              case rel => exact ⟨k + 1, by omega, by go_num, below_drewN' HBL.out _, HC.out⟩
              case measure => simp [intOf]; omega
            · have hgb : (((p[k].toNat : Nat) : Int) != 45) = true := by rw [bne_iff_ne]; omega
              by_cases he : p[k] = x[k]
              · have heb : (((p[k].toNat : Nat) : Int) != ((x[k].toNat : Nat) : Int)) = false := by rw [he]; simp
                have HC := Lib.hid (STEP.out (by simp [fitC, he])); clear hg he
                go_wp2_with fail
                go_quiet (fail)
                go_wp2_with fail
                go_roundw
                case rel => exact ⟨k + 1, by omega, by go_num, below_drewN' HBL.out _, HC.out⟩
                case measure => simp [intOf]; omega
              · have heb : (((p[k].toNat : Nat) : Int) != ((x[k].toNat : Nat) : Int)) = true := by
                  rw [bne_iff_ne]; intro hh; exact he (UInt8.toNat_inj.1 (by omega))
                have hbad : b = false := by
                  rw [← HF.out]
                  exact fitL_bad (i := k) (by rw [length_tl]; exact hlt) (by rw [length_tl]; exact hkx) (by
                    show fitC p[k] x[k] = false
                    simp [fitC, hg, he])
                subst hbad
                clear hg he
                go_wp2_with fail
                go_quiet (fail)
                go_wp2_with fail
                go_ret
                exact ⟨rfl, below_drewN' HBL.out _⟩
          · have hgood : b = true := by
              rw [← HF.out]
              exact fitL_good fun i h1 h2 => HALL.out i h1 h2 (by rw [length_tl] at h1; omega)
            subst hgood
            go_wp2_with fail
            go_ret
            exact ⟨rfl, HBL.out⟩
      · have hd : decide (pv (tl p) = true ∧ wv (tl x) = true ∧ (tl p).length = (tl x).length) = false := by
          simp only [decide_eq_false_iff_not]; exact fun hh => h3 hh.2.2
        rw [hd, Bool.false_and] at h
        subst h
        have hb : (((p.size : Nat) : Int) != ((x.size : Nat) : Int)) = true := by rw [bne_iff_ne]; omega
        have H1 := Lib.hid h1; clear h1
        have H2 := Lib.hid h2; clear h2 h3 hd
        go_enter Try.func39, Try.ntmps39
        go_wp2_with fail
        refine (partialValid_is _ true _ H1.out).mono ?_
        rintro e w' ⟨rfl, rfl⟩
        go_wp2_with fail
        refine (wordValid_is _ true _ H2.out).mono ?_
        rintro e w' ⟨rfl, rfl⟩
        go_wp2_with fail
        go_ret
        exact ⟨rfl, Below.refl _ _⟩
    · have hd : decide (pv (tl p) = true ∧ wv (tl x) = true ∧ (tl p).length = (tl x).length) = false := by
        simp only [decide_eq_false_iff_not]; exact fun hh => h2 hh.2.1
      rw [hd, Bool.false_and] at h
      subst h
      have H1 := Lib.hid h1; clear h1
      have H2 := Lib.hid (show wv (tl x) = false by simpa using h2); clear h2 hd
      go_enter Try.func39, Try.ntmps39
      go_wp2_with fail
      refine (partialValid_is _ true _ H1.out).mono ?_
      rintro e w' ⟨rfl, rfl⟩
      go_wp2_with fail
      refine (wordValid_is _ false _ H2.out).mono ?_
      rintro e w' ⟨rfl, rfl⟩
      go_wp2_with fail
      go_ret
      exact ⟨rfl, Below.refl _ _⟩
  · have hd : decide (pv (tl p) = true ∧ wv (tl x) = true ∧ (tl p).length = (tl x).length) = false := by
      simp only [decide_eq_false_iff_not]; exact fun hh => h1 hh.1
    rw [hd, Bool.false_and] at h
    subst h
    have H1 := Lib.hid (show pv (tl p) = false by simpa using h1); clear h1 hd
    go_enter Try.func39, Try.ntmps39
    go_wp2_with fail
    refine (partialValid_is _ false _ H1.out).mono ?_
    rintro e w' ⟨rfl, rfl⟩
    go_wp2_with fail
    go_ret
    exact ⟨rfl, Below.refl _ _⟩

set_option maxHeartbeats 2000000 in
theorem sFits_is (p x : ByteArray) (b : Bool) (w : World) (h : fitW (tl p) (tl x) = b) :
    Calls Try.prog 43 #[.string p, .string x] w fun e w' => e = .returned (.bool b) ∧ Below w.heap.size w w' := by
  unfold fitW at h
  by_cases h1 : pv (tl p) = true
  · by_cases h2 : wv (tl x) = true
    · by_cases h3 : p.size = x.size
      · have hd : decide (pv (tl p) = true ∧ wv (tl x) = true ∧ (tl p).length = (tl x).length) = true := by
          simp only [decide_eq_true_eq]; exact ⟨h1, h2, h3⟩
        rw [hd, Bool.true_and] at h
        have hl := pv_length h1
        rw [length_tl] at hl
        have hb : (((p.size : Nat) : Int) != ((x.size : Nat) : Int)) = false := by simp; omega
        have hle : p.size ≤ x.size := by omega
        have H1 := Lib.hid h1; clear h1
        have H2 := Lib.hid h2; clear h2 h3 hd
        have HF := Lib.hid h; clear h
        go_enter Try.func43, Try.ntmps43
        go_wp2_with fail
        refine (sPartialValid_is _ true _ H1.out).mono ?_
        rintro e w' ⟨rfl, rfl⟩
        go_wp2_with fail
        refine (sWordValid_is _ true _ H2.out).mono ?_
        rintro e w' ⟨rfl, rfl⟩
        go_wp2_with fail
        go_loopw [5] (fun i wr => ∃ k : Nat, k ≤ p.size ∧ i = .int .i64 k ∧ Below w.heap.size w wr ∧ ∀ j (h1 : j < (tl p).length) (h2 : j < (tl x).length), j < k → fitC (tl p)[j] (tl x)[j] = true) (fun i _ => p.size - (intOf i).toNat)
        case atStart => exact ⟨0, Nat.zero_le _, rfl, Below.refl _ _, fun _ _ _ h => by omega⟩
        case round =>
          obtain ⟨k, hk, rfl, hbl, hall⟩ := hrel
          have HALL := Lib.hid hall; clear hall
          have HBL := Lib.hid hbl; clear hbl
          by_cases hlt : k < p.size
          · have hkx : k < x.size := by omega
            have hi1 : (k : Int) < (p.size : Int) := by omega
            have hi2 : (k : Int) < (x.size : Int) := by omega
            have step : fitC p[k] x[k] = true → ∀ j (h1 : j < (tl p).length) (h2 : j < (tl x).length), j < k + 1 → fitC (tl p)[j] (tl x)[j] = true := fun hf j h1 h2 hj => by
              by_cases e : j = k
              · subst e; exact hf
              · exact HALL.out j h1 h2 (by omega)
            have STEP := Lib.hid step; clear step
            by_cases hg : p[k].toNat = 45
            · have hgb : (((p[k].toNat : Nat) : Int) != 45) = false := by simp; omega
              have HC := Lib.hid (STEP.out (by simp [fitC, hg])); clear hg
              go_wp2_with fail
              go_quiet (fail)
              go_wp2_with fail
              go_roundw
              case rel => exact ⟨k + 1, by omega, by go_num, below_drewN' HBL.out _, HC.out⟩
              case measure => simp [intOf]; omega
            · have hgb : (((p[k].toNat : Nat) : Int) != 45) = true := by rw [bne_iff_ne]; omega
              by_cases he : p[k] = x[k]
              · have heb : (((p[k].toNat : Nat) : Int) != ((x[k].toNat : Nat) : Int)) = false := by rw [he]; simp
                have HC := Lib.hid (STEP.out (by simp [fitC, he])); clear hg he
                go_wp2_with fail
                go_quiet (fail)
                go_wp2_with fail
                go_roundw
                case rel => exact ⟨k + 1, by omega, by go_num, below_drewN' HBL.out _, HC.out⟩
                case measure => simp [intOf]; omega
              · have heb : (((p[k].toNat : Nat) : Int) != ((x[k].toNat : Nat) : Int)) = true := by
                  rw [bne_iff_ne]; intro hh; exact he (UInt8.toNat_inj.1 (by omega))
                have hbad : b = false := by
                  rw [← HF.out]
                  exact fitL_bad (i := k) (by rw [length_tl]; exact hlt) (by rw [length_tl]; exact hkx) (by
                    show fitC p[k] x[k] = false
                    simp [fitC, hg, he])
                subst hbad
                clear hg he
                go_wp2_with fail
                go_quiet (fail)
                go_wp2_with fail
                go_ret
                exact ⟨rfl, below_drewN' HBL.out _⟩
          · have hgood : b = true := by
              rw [← HF.out]
              exact fitL_good fun i h1 h2 => HALL.out i h1 h2 (by rw [length_tl] at h1; omega)
            subst hgood
            go_wp2_with fail
            go_ret
            exact ⟨rfl, HBL.out⟩
      · have hd : decide (pv (tl p) = true ∧ wv (tl x) = true ∧ (tl p).length = (tl x).length) = false := by
          simp only [decide_eq_false_iff_not]; exact fun hh => h3 hh.2.2
        rw [hd, Bool.false_and] at h
        subst h
        have hb : (((p.size : Nat) : Int) != ((x.size : Nat) : Int)) = true := by rw [bne_iff_ne]; omega
        have H1 := Lib.hid h1; clear h1
        have H2 := Lib.hid h2; clear h2 h3 hd
        go_enter Try.func43, Try.ntmps43
        go_wp2_with fail
        refine (sPartialValid_is _ true _ H1.out).mono ?_
        rintro e w' ⟨rfl, rfl⟩
        go_wp2_with fail
        refine (sWordValid_is _ true _ H2.out).mono ?_
        rintro e w' ⟨rfl, rfl⟩
        go_wp2_with fail
        go_ret
        exact ⟨rfl, Below.refl _ _⟩
    · have hd : decide (pv (tl p) = true ∧ wv (tl x) = true ∧ (tl p).length = (tl x).length) = false := by
        simp only [decide_eq_false_iff_not]; exact fun hh => h2 hh.2.1
      rw [hd, Bool.false_and] at h
      subst h
      have H1 := Lib.hid h1; clear h1
      have H2 := Lib.hid (show wv (tl x) = false by simpa using h2); clear h2 hd
      go_enter Try.func43, Try.ntmps43
      go_wp2_with fail
      refine (sPartialValid_is _ true _ H1.out).mono ?_
      rintro e w' ⟨rfl, rfl⟩
      go_wp2_with fail
      refine (sWordValid_is _ false _ H2.out).mono ?_
      rintro e w' ⟨rfl, rfl⟩
      go_wp2_with fail
      go_ret
      exact ⟨rfl, Below.refl _ _⟩
  · have hd : decide (pv (tl p) = true ∧ wv (tl x) = true ∧ (tl p).length = (tl x).length) = false := by
      simp only [decide_eq_false_iff_not]; exact fun hh => h1 hh.1
    rw [hd, Bool.false_and] at h
    subst h
    have H1 := Lib.hid (show pv (tl p) = false by simpa using h1); clear h1 hd
    go_enter Try.func43, Try.ntmps43
    go_wp2_with fail
    refine (sPartialValid_is _ false _ H1.out).mono ?_
    rintro e w' ⟨rfl, rfl⟩
    go_wp2_with fail
    go_ret
    exact ⟨rfl, Below.refl _ _⟩

end Go.Proofs.Ytcgihkapcfpjcaa
