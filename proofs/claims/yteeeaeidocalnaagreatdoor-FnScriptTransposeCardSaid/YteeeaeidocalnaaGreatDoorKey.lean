/-
  Contracts of keys: periodValid, keyValid, RepeatKey, PeriodEncipher, PeriodDecipher; and of the reference's tests of keys. Conditions: what each theorem names.
-/
import Derived.Test.YteeeaeidocalnaaGreatDoorPlainX
import Derived.Test.YteeeaeidocalnaaGreatDoorComb
import Derived.Test.YteeeaeidocalnaaGreatDoorShelf
namespace Go.Proofs.YteeeaeidocalnaaGreatDoor
open Go.RowKit Pl
set_option linter.unusedVariables false

theorem periodValid_is (n : Nat) (b : Bool) (w : World) (h : (decide (1 ≤ n) && decide (n ≤ 12)) = b) :
    Calls Tryz.prog 48 #[.int .i64 n] w fun e w' => e = .returned (.bool b) ∧ w = w' := by
  subst h
  by_cases h1 : 1 ≤ n <;> by_cases h2 : n ≤ 12
  all_goals first
    | omega
    | (go_enter Tryz.func48, Tryz.ntmps48
       go_wp2
       go_ret
       exact ⟨by simp [h1, h2]; try omega, rfl⟩)
theorem keyV_eq (k : List UInt8) : keyV k = ((decide (1 ≤ k.length) && decide (k.length ≤ 12)) && wv k) := by
  unfold keyV
  rw [Bool.and_comm _ (wv k), ← Bool.and_assoc]
theorem keyValid_is (s : ByteArray) (b : Bool) (w : World) (h : keyV (tl s) = b) :
    Calls Tryz.prog 21 #[.string s] w fun e w' => e = .returned (.bool b) ∧ w = w' := by
  rw [keyV_eq, length_tl] at h
  by_cases hp : (decide (1 ≤ s.size) && decide (s.size ≤ 12)) = true
  · rw [hp, Bool.true_and] at h
    have HP := Lib.hid hp; have HW := Lib.hid h; clear hp h
    go_enter Tryz.func21, Tryz.ntmps21
    go_wp2_with fail
    refine (periodValid_is _ true _ HP.out).mono ?_
    rintro _ _ ⟨rfl, rfl⟩
    go_wp2_with fail
    refine (wordValid_is _ b _ HW.out).mono ?_
    rintro _ _ ⟨rfl, rfl⟩
    go_wp2_with fail
    go_ret
    exact ⟨rfl, rfl⟩
  · have hp' := Bool.eq_false_iff.2 hp
    rw [hp', Bool.false_and] at h
    subst h
    have HP := Lib.hid hp'; clear hp hp'
    go_enter Tryz.func21, Tryz.ntmps21
    go_wp2_with fail
    refine (periodValid_is _ false _ HP.out).mono ?_
    rintro _ _ ⟨rfl, rfl⟩
    go_wp2_with fail
    go_ret
    exact ⟨rfl, rfl⟩

theorem l14Period_is (n : Nat) (b : Bool) (w : World) (h : (decide (1 ≤ n) && decide (n ≤ 12)) = b) :
    Calls Tryz.prog 53 #[.int .i64 n] w fun e w' => e = .returned (.bool b) ∧ w = w' := by
  go_enter Tryz.func53, Tryz.ntmps53
  go_wp2_with fail
  refine (l1In_is _ _ _ b _ (by rw [← h, decide_eq_decide.2 (show (1 : Int) ≤ (n : Int) ↔ 1 ≤ n by omega), decide_eq_decide.2 (show (n : Int) ≤ 12 ↔ n ≤ 12 by omega)])).mono ?_
  rintro _ _ ⟨rfl, rfl⟩
  go_wp2_with fail
  go_ret
  exact ⟨rfl, rfl⟩
theorem l17Key_is (s : ByteArray) (b : Bool) (w : World) (h : keyV (tl s) = b) :
    Calls Tryz.prog 25 #[.string s] w fun e w' => e = .returned (.bool b) ∧ w = w' := by
  rw [keyV_eq, Bool.and_comm, length_tl] at h
  by_cases hp : wv (tl s) = true
  · rw [hp, Bool.true_and] at h
    have HP := Lib.hid hp; have HW := Lib.hid h; clear hp h
    go_enter Tryz.func25, Tryz.ntmps25
    go_wp2_with fail
    refine (sWordValid_is _ true _ HP.out).mono ?_
    rintro _ _ ⟨rfl, rfl⟩
    go_wp2_with fail
    refine (l14Period_is _ b _ HW.out).mono ?_
    rintro _ _ ⟨rfl, rfl⟩
    go_wp2_with fail
    go_ret
    exact ⟨rfl, rfl⟩
  · have hp' := Bool.eq_false_iff.2 hp
    rw [hp', Bool.false_and] at h
    subst h
    have HP := Lib.hid hp'; clear hp hp'
    go_enter Tryz.func25, Tryz.ntmps25
    go_wp2_with fail
    refine (sWordValid_is _ false _ HP.out).mono ?_
    rintro _ _ ⟨rfl, rfl⟩
    go_wp2_with fail
    go_ret
    exact ⟨rfl, rfl⟩

theorem repeat_succ (k : List UInt8) (c : Nat) : Lib.repeatL k (c + 1) = k ++ Lib.repeatL k c := rfl
theorem repeat_get (k : List UInt8) : ∀ (c i : Nat), i < c * k.length → (Lib.repeatL k c)[i]? = k[i % k.length]?
  | 0, i, h => by omega
  | c + 1, i, h => by
    rw [repeat_succ]
    by_cases hi : i < k.length
    · rw [List.getElem?_append_left hi, Nat.mod_eq_of_lt hi]
    · rw [List.getElem?_append_right (by omega), repeat_get k c (i - k.length) (by rw [Nat.add_mul] at h; omega)]
      congr 1
      rw [Nat.mod_eq_sub_mod (by omega : i ≥ k.length)]
theorem repeat_length (k : List UInt8) (c : Nat) : (Lib.repeatL k c).length = c * k.length := by
  induction c with
  | zero => simp [Lib.repeatL]
  | succ c ih => rw [repeat_succ, List.length_append, ih, Nat.add_mul, Nat.one_mul, Nat.add_comm]
theorem repeat_take (k : List UInt8) (c n : Nat) (h : n ≤ c * k.length) : (Lib.repeatL k c).take n = repP k n := by
  apply List.ext_getElem?
  intro i
  by_cases hi : i < n
  · rw [List.getElem?_take_of_lt hi, repeat_get k c i (by omega)]
    have hk : 0 < k.length := Nat.pos_of_ne_zero fun e => by rw [e] at h; omega
    have hlt : i % k.length < k.length := Nat.mod_lt _ hk
    simp [repP, hi, hlt]
  · rw [List.getElem?_eq_none (by rw [List.length_take]; omega), List.getElem?_eq_none (by rw [length_repP]; omega)]

set_option maxHeartbeats 2000000 in
set_option maxRecDepth 100000 in
theorem repeatKey_some (k : ByteArray) (n : Nat) (w : World) (h : keyV (tl k) = true) (hn : n ≤ 200) :
    Calls Tryz.prog 28 #[.string k, .int .i64 n] w fun e w' => e = .returned (.tuple #[.string (mk (repP (tl k) n)), .bool true]) ∧ Below w.heap.size w w' := by
  obtain ⟨hw, h1, h2⟩ := keyV_iff.1 h
  rw [length_tl] at h1 h2
  have hq : n ≤ (n / k.size + 1) * (tl k).length := by
    rw [length_tl, Nat.add_mul, Nat.one_mul]
    have := Nat.div_add_mod n k.size
    have := Nat.mod_lt n (show k.size > 0 by omega)
    rw [Nat.mul_comm]; omega
  have hx := repeat_take (tl k) (n / k.size + 1) n hq
  have hL := repeat_length (tl k) (n / k.size + 1)
  have hdl : n / k.size ≤ 200 := Nat.le_trans (Nat.div_le_self _ _) hn
  obtain ⟨D, hD⟩ : ∃ D, D = n / k.size := ⟨_, rfl⟩
  rw [← hD] at hx hL hq hdl
  have hrp := fun w' => Tryz.strings_Repeat k (D + 1) w' (by omega) (Nat.le_trans (Nat.mul_le_mul h2 (show D + 1 ≤ 201 by omega)) (by decide))
  obtain ⟨R, hR⟩ : ∃ R : ByteArray, R = ByteArray.mk (Lib.repeatL k.data.toList (D + 1)).toArray := ⟨_, rfl⟩
  rw [← hR] at hrp
  have hRt : tl R = Lib.repeatL (tl k) (D + 1) := by rw [hR]; simp [tl]
  have hRz : R.size = (D + 1) * k.size := by rw [← length_tl, hRt, hL, length_tl]
  have hRn : n ≤ R.size := by rw [hRz]; rw [length_tl] at hq; exact hq
  have hext : R.extract 0 n = mk (repP (tl k) n) := by rw [extract_mk', hRt, List.drop_zero, Nat.sub_zero, hx]
  have hdv : (n : Int) / (k.size : Int) = ((D : Nat) : Int) := by rw [hD]; exact (Int.natCast_ediv n k.size).symm
  have hdt : Int.tdiv (n : Int) (k.size : Int) = ((D : Nat) : Int) := by rw [Int.tdiv_eq_ediv_of_nonneg (by omega)]; exact hdv
  have hrz : R.size ≤ 3000 := by rw [hRz]; exact Nat.le_trans (Nat.mul_le_mul (show D + 1 ≤ 201 by omega) h2) (by decide)
  have hj1 : (0 : Int) ≤ (n : Int) / (k.size : Int) := by rw [hdv]; omega
  have hj2 : (n : Int) / (k.size : Int) ≤ 200 := by rw [hdv]; omega
  have HDV := Lib.hid hdv; have HD := Lib.hid hD; clear hdv hD hdt
  have HRP := Lib.hid hrp; have HK := Lib.hid h; have HX := Lib.hid hext
  clear hrp h hext hRt hRz hx hq hL hR hw
  go_enter Tryz.func28, Tryz.ntmps28
  go_wp2_with fail
  refine (keyValid_is _ true _ HK.out).mono ?_
  rintro _ _ ⟨rfl, rfl⟩
  go_wp2_with fail
  rw [HDV.out, show (D : Int) + 1 = ((D + 1 : Nat) : Int) by omega]
  refine (HRP.out w).mono ?_
  rintro _ w1 ⟨rfl, hb⟩
  have HB := Lib.hid hb; clear hb hj1 hj2
  have hx2 := HX.out
  go_wp2_with fail
  go_ret2
  exact ⟨rfl, HB.out⟩

theorem repP_length_tl (k : ByteArray) (n : Nat) : (mk (repP (tl k) n)).size = n := by rw [size_mk, length_repP]
theorem periodEncipher_some (v k : ByteArray) (w : World) (hk : keyV (tl k) = true) (hv : wv (tl v) = true) :
    Calls Tryz.prog 8 #[.string v, .string k] w fun e w' => e = .returned (.tuple #[.string (mk (combine 1 (tl v) (repP (tl k) v.size))), .bool true]) ∧ Below w.heap.size w w' := by
  have hz := wv_length hv
  rw [length_tl] at hz
  have hcw : combineW 1 (tl v) (tl (mk (repP (tl k) v.size))) = some (combine 1 (tl v) (repP (tl k) v.size)) := by
    rw [tl_mk]
    exact if_pos ⟨hv, repP_wv hk hz, by rw [length_tl, length_repP]⟩
  have HK := Lib.hid hk; have HC := Lib.hid hcw; clear hk hv hcw
  go_enter Tryz.func8, Tryz.ntmps8
  go_wp2_with fail
  refine (repeatKey_some k v.size _ HK.out hz).mono ?_
  rintro _ w1 ⟨rfl, hb1⟩
  have HB1 := Lib.hid hb1; clear hb1
  generalize mk (repP (tl k) v.size) = s at HC ⊢
  go_wp2_with fail
  refine (addWords_some v s _ _ HC.out).mono ?_
  rintro _ w2 ⟨rfl, hb2⟩
  have HB2 := Lib.hid (HB1.out.trans (hb2.mono HB1.out.size)); clear hb2
  go_wp2_with fail
  go_ret2
  exact ⟨rfl, HB2.out⟩
theorem periodDecipher_some (v k : ByteArray) (w : World) (hk : keyV (tl k) = true) (hv : wv (tl v) = true) :
    Calls Tryz.prog 104 #[.string v, .string k] w fun e w' => e = .returned (.tuple #[.string (mk (combine 9 (tl v) (repP (tl k) v.size))), .bool true]) ∧ Below w.heap.size w w' := by
  have hz := wv_length hv
  rw [length_tl] at hz
  have hcw : combineW 9 (tl v) (tl (mk (repP (tl k) v.size))) = some (combine 9 (tl v) (repP (tl k) v.size)) := by
    rw [tl_mk]
    exact if_pos ⟨hv, repP_wv hk hz, by rw [length_tl, length_repP]⟩
  have HK := Lib.hid hk; have HC := Lib.hid hcw; clear hk hv hcw
  go_enter Tryz.func104, Tryz.ntmps104
  go_wp2_with fail
  refine (repeatKey_some k v.size _ HK.out hz).mono ?_
  rintro _ w1 ⟨rfl, hb1⟩
  have HB1 := Lib.hid hb1; clear hb1
  generalize mk (repP (tl k) v.size) = s at HC ⊢
  go_wp2_with fail
  refine (subWords_some v s _ _ HC.out).mono ?_
  rintro _ w2 ⟨rfl, hb2⟩
  have HB2 := Lib.hid (HB1.out.trans (hb2.mono HB1.out.size)); clear hb2
  go_wp2_with fail
  go_ret2
  exact ⟨rfl, HB2.out⟩

end Go.Proofs.YteeeaeidocalnaaGreatDoor
