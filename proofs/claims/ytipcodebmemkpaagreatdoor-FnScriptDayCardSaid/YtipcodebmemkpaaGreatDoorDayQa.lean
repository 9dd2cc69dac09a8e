/-
  Sizes and parts of the numbers of days: contracts of both sides. Conditions: what each theorem names.
-/
import Derived.Test.YtipcodebmemkpaaGreatDoorDayPl
import Derived.Test.YtipcodebmemkpaaGreatDoorWords
import Derived.Deep.QuietTactic
import Derived.BigQuiet
import Derived.Test.YtipcodebmemkpaaGreatDoorCrib
import Derived.Test.YtipcodebmemkpaaGreatDoorDrawMa
import Derived.Deep.RegionLaw
import Derived.Deep.RegionHeld3
import Derived.Test.YtipcodebmemkpaaGreatDoorMachP
import Derived.Test.YtipcodebmemkpaaGreatDoorInts
import Derived.Test.YtipcodebmemkpaaGreatDoorTextA
import Derived.Test.YtipcodebmemkpaaGreatDoorComb
namespace Go.Proofs.YtipcodebmemkpaaGreatDoor
open Go.RowKit Pl
set_option linter.unusedVariables false

theorem fct_le0 : ∀ n : Fin 11, 1 ≤ fct n.val ∧ fct n.val ≤ 3628800 := by decide +kernel
theorem fct_le {n : Nat} (h : n ≤ 10) : 1 ≤ fct n ∧ fct n ≤ 3628800 := fct_le0 ⟨n, by omega⟩

set_option maxHeartbeats 1000000 in
theorem factorial_is (w : World) (n : Nat) (m : Int) (hm : m = (n : Int)) (hn : n ≤ 10) :
    Calls Tryz.prog 64 #[.int .i64 m] w fun e w' => e = .returned (.int .i64 ((fct n : Nat) : Int)) ∧ w = w' := by
  subst hm
  go_enter Tryz.func64, Tryz.ntmps64
  go_wp2
  go_loop [3, 4] (fun s i => ∃ k : Nat, i = .int .i64 ((k : Int) + 2) ∧ s = .int .i64 ((fct (k + 1) : Nat) : Int) ∧ k ≤ n ∧ (k + 1 ≤ n ∨ k = 0)) (fun _ i => n + 2 - (intOf i).toNat)
  case atStart => exact ⟨0, rfl, rfl, by omega, .inr rfl⟩
  case round =>
    obtain ⟨k, rfl, rfl, hk, hk2⟩ := hrel
    by_cases hlt : k + 2 ≤ n
    · have v0 : ((k : Int) + 2) ≤ (n : Int) := by omega
      have hf := (fct_le (show k + 1 ≤ 10 by omega)).2
      have hnx : fct (k + 1 + 1) = (k + 1 + 1) * fct (k + 1) := rfl
      obtain ⟨X, hX⟩ : ∃ X, fct (k + 1) * (k + 2) = X := ⟨_, rfl⟩
      have hb : X ≤ 43545600 := by rw [← hX]; exact Nat.mul_le_mul hf (show k + 2 ≤ 12 by omega)
      have hnx2 : fct (k + 1 + 1) = X := by rw [hnx, ← hX, Nat.mul_comm]
      have hXi : ((fct (k + 1) : Nat) : Int) * ((k : Int) + 2) = (X : Int) := by rw [← hX, Int.natCast_mul]; rfl
      have hw1 : IntKind.i64.wrap (((fct (k + 1) : Nat) : Int) * ((k : Int) + 2)) = ((fct (k + 1 + 1) : Nat) : Int) := by
        rw [hXi, hnx2, IntKind.wrap_i64]; omega
      have hw2 : wrap64 (((fct (k + 1) : Nat) : Int) * ((k : Int) + 2)) = ((fct (k + 1 + 1) : Nat) : Int) := by
        rw [hXi, hnx2]; unfold wrap64; omega
      have HW2 := Lib.hid hw2
      have HNX := Lib.hid hnx
      clear hnx hb hX hnx2 hXi hw2 HNX
      generalize fct (k + 1) = F at hw1 HW2 hf ⊢
      generalize hG : fct (k + 1 + 1) = G at hw1 HW2
      have HG := Lib.hid hG
      clear hG
      go_wp2
      go_round
      case rel => exact ⟨k + 1, by go_num, by rw [HG.out], by omega, .inl (by omega)⟩
      case measure => simp [intOf]; omega
    · have v0 : ¬ ((k : Int) + 2) ≤ (n : Int) := by omega
      have he : fct (k + 1) = fct n := by
        rcases hk2 with h | h
        · rw [show n = k + 1 by omega]
        · subst h
          rcases (show n = 0 ∨ n = 1 by omega) with rfl | rfl <;> rfl
      rw [he]
      clear he
      go_wp2
      go_ret
      exact ⟨rfl, rfl⟩

theorem bo_step0 : ∀ L : Fin 11, ∀ k : Fin 5, 2 * k.val + 2 ≤ L.val → bo L.val k.val * ((L.val - 2 * k.val) * (L.val - 2 * k.val - 1) / 2) ≤ 1000000 := by decide +kernel

set_option maxHeartbeats 1000000 in
theorem boardsOf_is (w : World) (L P : Nat) (l p : Int) (hl : l = (L : Int)) (hp : p = (P : Int)) (hL : L ≤ 10) (hP : P ≤ 5) :
    Calls Tryz.prog 68 #[.int .i64 l, .int .i64 p] w fun e w' => e = .returned (.int .i64 ((cnt L P : Nat) : Int)) ∧ w = w' := by
  subst hl hp
  by_cases hlt : L < 2 * P
  · have v0 : (2 : Int) * (P : Int) > (L : Int) := by omega
    have hc : cnt L P = 0 := by unfold cnt; rw [if_pos hlt]
    rw [hc]
    clear hc
    go_enter Tryz.func68, Tryz.ntmps68
    go_wp2
    go_ret
    exact ⟨rfl, rfl⟩
  · have v0 : ¬ (2 : Int) * (P : Int) > (L : Int) := by omega
    have hc : cnt L P = bo L P := by unfold cnt; rw [if_neg hlt]
    rw [hc]
    clear hc
    go_enter Tryz.func68, Tryz.ntmps68
    go_wp2
    go_loop [5, 17] (fun s i => ∃ k : Nat, i = .int .i64 (k : Int) ∧ s = .int .i64 ((bo L k : Nat) : Int) ∧ k ≤ P) (fun _ i => P - (intOf i).toNat)
    case atStart => exact ⟨0, rfl, rfl, by omega⟩
    case round =>
      obtain ⟨k, rfl, rfl, hk⟩ := hrel
      by_cases hkp : k < P
      · have h1 := bo_step0 ⟨L, by omega⟩ ⟨k, by omega⟩ (by show 2 * k + 2 ≤ L; omega)
        simp only at h1
        have hnx : bo L (k + 1) = bo L k * ((L - 2 * k) * (L - 2 * k - 1) / 2) / (k + 1) := rfl
        obtain ⟨D, hD⟩ : ∃ D, L = D + 2 * k := ⟨L - 2 * k, by omega⟩
        have hd10 : D ≤ 10 := by omega
        have hd2 : 2 ≤ D := by omega
        rw [show L - 2 * k = D by omega] at h1 hnx
        obtain ⟨E, hE⟩ : ∃ E, D * (D - 1) = E := ⟨_, rfl⟩
        have hE100 : E ≤ 100 := by rw [← hE]; exact Nat.mul_le_mul hd10 (show D - 1 ≤ 10 by omega)
        rw [hE] at h1 hnx
        have hDi : (D : Int) * ((D : Int) - 1) = (E : Int) := by
          rw [← hE, Int.natCast_mul, Int.natCast_sub (by omega)]; rfl
        obtain ⟨X, hX⟩ : ∃ X, bo L k * (E / 2) = X := ⟨_, rfl⟩
        rw [hX] at h1 hnx
        have w1 : IntKind.i64.wrap ((L : Int) - 2 * (k : Int)) = (D : Int) := by rw [IntKind.wrap_i64]; omega
        have w2 : IntKind.i64.wrap ((D : Int) * ((D : Int) - 1)) = (E : Int) := by rw [hDi, IntKind.wrap_i64]; omega
        have w3 : ((E : Int)).tdiv 2 = ((E / 2 : Nat) : Int) := by rw [Int.tdiv_eq_ediv_of_nonneg (by omega)]; omega
        have w4 : IntKind.i64.wrap (((bo L k : Nat) : Int) * ((E / 2 : Nat) : Int)) = (X : Int) := by
          rw [← Int.natCast_mul, hX, IntKind.wrap_i64]; omega
        have w5 : ((X : Int)).tdiv ((k : Int) + 1) = ((bo L (k + 1) : Nat) : Int) := by rw [Int.tdiv_eq_ediv_of_nonneg (by omega), hnx, Int.natCast_ediv]; rfl
        have v1 : (k : Int) < (P : Int) := by omega
        have v2 : ((k : Int) + 1 == 0) = false := by rw [beq_eq_false_iff_ne]; omega
        have hw6 : IntKind.i64.wrap ((bo L (k + 1) : Nat) : Int) = ((bo L (k + 1) : Nat) : Int) := by
          have : bo L (k + 1) ≤ X := by rw [hnx]; exact Nat.div_le_self _ _
          rw [IntKind.wrap_i64]; omega
        have HW := Lib.hid hw6
        have hw7 : wrap64 ((wrap64 (((bo L k : Nat) : Int) * ((E : Int) / 2))).tdiv ((k : Int) + 1)) = ((bo L (k + 1) : Nat) : Int) := by
          have e1 : wrap64 (((bo L k : Nat) : Int) * ((E : Int) / 2)) = (X : Int) := by
            rw [show ((E : Int) / 2) = ((E / 2 : Nat) : Int) by omega, ← Int.natCast_mul, hX]; unfold wrap64; omega
          have h9 : bo L (k + 1) ≤ X := by rw [hnx]; exact Nat.div_le_self _ _
          rw [e1, w5]
          clear hnx w4 w5 e1 hw6 HW hX hE w1 w2 w3 hDi
          generalize bo L (k + 1) = G at h9
          unfold wrap64; omega
        have HW7 := Lib.hid hw7
        clear hnx hE hX hDi h1 hw6 hw7 v0
        generalize bo L k = B at w4 HW7 ⊢
        generalize hG : bo L (k + 1) = G at w5 HW7
        have HG := Lib.hid hG
        clear hG
        go_wp2
        go_round
        case rel => exact ⟨k + 1, by go_num, by rw [HG.out]; first | rfl | (rw [HW7.out]), by omega⟩
        case measure => simp [intOf]; omega
      · obtain rfl : k = P := by omega
        go_wp2
        go_ret
        exact ⟨rfl, rfl⟩

theorem boardCount_is (w : World) (P : Nat) (p : Int) (hp : p = (P : Int)) (hP : P ≤ 5) :
    Calls Tryz.prog 65 #[.int .i64 p] w fun e w' => e = .returned (.int .i64 ((cnt 10 P : Nat) : Int)) ∧ w = w' := by
  subst hp
  go_enter Tryz.func65, Tryz.ntmps65
  go_wp2_with fail
  refine (boardsOf_is _ 10 P _ _ rfl rfl (by omega) hP).mono ?_
  rintro _ _ ⟨rfl, rfl⟩
  go_wp2_with fail
  go_ret
  exact ⟨rfl, rfl⟩

set_option maxHeartbeats 1000000 in
theorem sFactorial_is (w : World) (n : Nat) (m : Int) (hm : m = (n : Int)) (hn : n ≤ 10) :
    Calls Tryz.prog 113 #[.int .i64 m] w fun e w' => e = .returned (.int .i64 ((fct n : Nat) : Int)) ∧ w = w' := by
  subst hm
  go_enter Tryz.func113, Tryz.ntmps113
  go_wp2
  go_loop [3, 4] (fun s i => ∃ k : Nat, i = .int .i64 ((k : Int) + 2) ∧ s = .int .i64 ((fct (k + 1) : Nat) : Int) ∧ k ≤ n ∧ (k + 1 ≤ n ∨ k = 0)) (fun _ i => n + 2 - (intOf i).toNat)
  case atStart => exact ⟨0, rfl, rfl, by omega, .inr rfl⟩
  case round =>
    obtain ⟨k, rfl, rfl, hk, hk2⟩ := hrel
    by_cases hlt : k + 2 ≤ n
    · have v0 : ((k : Int) + 2) ≤ (n : Int) := by omega
      have hf := (fct_le (show k + 1 ≤ 10 by omega)).2
      have hnx : fct (k + 1 + 1) = (k + 1 + 1) * fct (k + 1) := rfl
      obtain ⟨X, hX⟩ : ∃ X, fct (k + 1) * (k + 2) = X := ⟨_, rfl⟩
      have hb : X ≤ 43545600 := by rw [← hX]; exact Nat.mul_le_mul hf (show k + 2 ≤ 12 by omega)
      have hnx2 : fct (k + 1 + 1) = X := by rw [hnx, ← hX, Nat.mul_comm]
      have hXi : ((fct (k + 1) : Nat) : Int) * ((k : Int) + 2) = (X : Int) := by rw [← hX, Int.natCast_mul]; rfl
      have hw1 : IntKind.i64.wrap (((fct (k + 1) : Nat) : Int) * ((k : Int) + 2)) = ((fct (k + 1 + 1) : Nat) : Int) := by
        rw [hXi, hnx2, IntKind.wrap_i64]; omega
      have hw2 : wrap64 (((fct (k + 1) : Nat) : Int) * ((k : Int) + 2)) = ((fct (k + 1 + 1) : Nat) : Int) := by
        rw [hXi, hnx2]; unfold wrap64; omega
      have HW2 := Lib.hid hw2
      have HNX := Lib.hid hnx
      clear hnx hb hX hnx2 hXi hw2 HNX
      generalize fct (k + 1) = F at hw1 HW2 hf ⊢
      generalize hG : fct (k + 1 + 1) = G at hw1 HW2
      have HG := Lib.hid hG
      clear hG
      go_wp2
      go_round
      case rel => exact ⟨k + 1, by go_num, by rw [HG.out], by omega, .inl (by omega)⟩
      case measure => simp [intOf]; omega
    · have v0 : ¬ ((k : Int) + 2) ≤ (n : Int) := by omega
      have he : fct (k + 1) = fct n := by
        rcases hk2 with h | h
        · rw [show n = k + 1 by omega]
        · subst h
          rcases (show n = 0 ∨ n = 1 by omega) with rfl | rfl <;> rfl
      rw [he]
      clear he
      go_wp2
      go_ret
      exact ⟨rfl, rfl⟩


theorem fct_div0 : ∀ L : Fin 11, ∀ P : Fin 6, 2 * P.val ≤ L.val → fct L.val / fct (L.val - 2 * P.val) ≤ 3628800 ∧ fct L.val / fct (L.val - 2 * P.val) / fct P.val ≤ 3628800 := by decide +kernel

set_option maxHeartbeats 1000000 in
set_option maxRecDepth 100000 in
theorem sCount_is (w : World) (L P : Nat) (l p : Int) (hl : l = (L : Int)) (hp : p = (P : Int)) (hL : L ≤ 10) (hP : P ≤ 5) :
    Calls Tryz.prog 73 #[.int .i64 l, .int .i64 p] w fun e w' => e = .returned (.int .i64 ((cnt L P : Nat) : Int)) ∧ Below w.heap.size w w' := by
  subst hl hp
  by_cases hlt : L < 2 * P
  · have v0 : (2 : Int) * (P : Int) > (L : Int) := by omega
    have hc : cnt L P = 0 := by unfold cnt; rw [if_pos hlt]
    rw [hc]
    clear hc
    go_enter Tryz.func73, Tryz.ntmps73
    go_wp2
    go_ret
    exact ⟨rfl, Below.refl _ _⟩
  · have v0 : ¬ (2 : Int) * (P : Int) > (L : Int) := by omega
    have hc := cnt_spec hL hP (by omega)
    have f1 := fun w' (m : Int) (h0 : 0 ≤ m) (h1 : m ≤ 10) => (sFactorial_is w' m.toNat m (by omega) (by omega)).mono fun _ _ ⟨a, b⟩ => (⟨a, b.symm⟩ : _ ∧ _ = w')
    have hd := fct_div0 ⟨L, by omega⟩ ⟨P, by omega⟩ (by show 2 * P ≤ L; omega)
    simp only at hd
    have p1 := (fct_le (show L - 2 * P ≤ 10 by omega))
    have p2 := (fct_le (show P ≤ 10 by omega))
    have p3 := (fct_le hL)
    obtain ⟨D, hD⟩ : ∃ D, L - 2 * P = D := ⟨_, rfl⟩
    rw [hD] at hc hd p1
    obtain ⟨X, hX⟩ : ∃ X, fct L / fct D = X := ⟨_, rfl⟩
    rw [hX] at hc hd
    obtain ⟨Y, hY⟩ : ∃ Y, X / fct P = Y := ⟨_, rfl⟩
    rw [hY] at hc hd
    have w1 : IntKind.i64.wrap ((L : Int) - 2 * (P : Int)) = (D : Int) := by rw [IntKind.wrap_i64]; omega
    have w2 : wrap64 ((L : Int) - 2 * (P : Int)) = (D : Int) := by unfold wrap64; omega
    have e1 : ((fct L : Nat) : Int).tdiv ((fct D : Nat) : Int) = (X : Int) := by rw [Int.tdiv_eq_ediv_of_nonneg (by omega), ← hX, Int.natCast_ediv]
    have e2 : ((X : Nat) : Int).tdiv ((fct P : Nat) : Int) = (Y : Int) := by rw [Int.tdiv_eq_ediv_of_nonneg (by omega), ← hY, Int.natCast_ediv]
    have e3 : (((fct D : Nat) : Int) == 0) = false := by rw [beq_eq_false_iff_ne]; omega
    have e4 : (((fct P : Nat) : Int) == 0) = false := by rw [beq_eq_false_iff_ne]; omega
    have hD10 : D ≤ 10 := by omega
    have eL : ((L : Int)).toNat = L := by omega
    have eP : ((P : Int)).toNat = P := by omega
    have eD : ((D : Int)).toNat = D := by omega
    clear hX hY hD
    generalize fct = F at f1 p1 p2 p3 e1 e2 e3 e4
    have HF1 := Lib.hid f1; have HC := Lib.hid hc
    clear f1 hc
    generalize cnt L P = C at HC ⊢
    go_enter Tryz.func73, Tryz.ntmps73
    go_wp2_with fail
    go_quiet (first | (go_at_call 113; exact Calls.quiet_of_same (HF1.out _ _ (by omega) (by omega))) | fail)
    have hfin : ((Y : Nat) : Int) / 2 ^ P = ((C : Nat) : Int) := by rw [← HC.out, Int.natCast_ediv, Int.natCast_pow]; rfl
    have HF := Lib.hid hfin
    clear hfin
    go_wp2_with fail
    go_ret
    exact ⟨by rw [← HF.out]; rfl, below_drewN' (Below.refl _ _) _⟩

theorem sBoardCount_is (w : World) (P : Nat) (p : Int) (hp : p = (P : Int)) (hP : P ≤ 5) :
    Calls Tryz.prog 34 #[.int .i64 p] w fun e w' => e = .returned (.int .i64 ((cnt 10 P : Nat) : Int)) ∧ Below w.heap.size w w' := by
  subst hp
  go_enter Tryz.func34, Tryz.ntmps34
  go_wp2_with fail
  refine (l1In_is _ 0 5 true _ (by simp; omega)).mono ?_
  rintro _ _ ⟨rfl, rfl⟩
  go_wp2_with fail
  refine (sCount_is _ 10 P _ _ rfl rfl (by omega) hP).mono ?_
  rintro _ w1 ⟨rfl, hb⟩
  go_wp2_with fail
  go_ret
  exact ⟨rfl, hb⟩

set_option maxHeartbeats 1000000 in
theorem sSize_is (w : World) (n : Nat) (m : Int) (hm : m = (n : Int)) (hn : n ≤ 3) :
    Calls Tryz.prog 31 #[.int .i64 m] w fun e w' => e = .returned (.int .i64 ((10 ^ n : Nat) : Int)) ∧ w = w' := by
  subst hm
  go_enter Tryz.func31, Tryz.ntmps31
  go_wp2
  go_loop [0, 3] (fun i s => ∃ k t : Nat, i = .int .i64 (k : Int) ∧ k + t = n ∧ s = .int .i64 ((10 ^ t : Nat) : Int)) (fun i _ => (intOf i).toNat)
  case atStart => exact ⟨n, 0, rfl, rfl, rfl⟩
  case round =>
    obtain ⟨k, t, rfl, hk, rfl⟩ := hrel
    by_cases hlt : 0 < k
    · have v0 : (k : Int) > 0 := by omega
      have hp3 : 10 ^ t ≤ 100 := Nat.le_trans (Nat.pow_le_pow_right (by omega) (show t ≤ 2 by omega)) (by decide)
      have hnx : 10 ^ (t + 1) = 10 ^ t * 10 := Nat.pow_succ ..
      have HNX := Lib.hid hnx
      clear hnx
      generalize 10 ^ t = X at hp3 HNX ⊢
      go_wp2
      go_round
      case rel => exact ⟨k - 1, t + 1, by go_num, by omega, by rw [HNX.out]; go_num⟩
      case measure => simp [intOf]; omega
    · obtain rfl : k = 0 := by omega
      obtain rfl : t = n := by omega
      go_wp2
      go_ret
      exact ⟨rfl, rfl⟩

/-- the first cells of a row of the call's own -/
theorem own_cut {w : World} {base g n cap : Nat} {e : TypeId} {xs : List Value} (h : w.ownsRow base e 1 (.slice (some ⟨g, 0, none⟩) n cap) n xs) {k : Nat} (hk : k ≤ n) : w.ownsRow base e 1 (.slice (some ⟨g, 0, none⟩) k cap) k (xs.take k) := by
  obtain ⟨h1, h2⟩ := h
  rcases h2 with ⟨h2, _⟩ | ⟨g', cap', cur, hv, hb, hg, hn, hc, hs, ht⟩
  · cases h2
  · injection hv with e1 e2 e3
    injection e1 with e1
    injection e1 with e1
    subst e1; subst e3
    refine ⟨by rw [List.length_take, h1]; omega, .inr ⟨_, _, cur, rfl, hb, hg, by omega, hc, hs, ?_⟩⟩
    rw [← ht, List.take_take]; congr 1; omega

theorem natV_one (l : List Nat) : ∀ u ∈ natV l, u.oneCell' = true := by
  intro u hu
  obtain ⟨n, _, rfl⟩ := List.mem_map.1 hu
  rfl
/-- append within the capacity, at an operation -/
theorem wp_append_fits {P : Program} {w : World} {o : Oper} {a : Act} {K : Act → World → Prop} {Q : Exit → Act → World → Prop} (s x : Operand) (t : TypeId)
    (hop : o.op = Op.call { callee := Callee.builtin Builtin.append, args := #[s, x], argTypes := #[t, t] })
    (base : Nat) (e : TypeId) (i : TypeInfo) (size : Nat) (h1 : P.underlying t = some (.slice e)) (h2 : P.info? e = some i) (h4 : i.size = size)
    (g k cap : Nat) (xs : List Value) (hs : a.eval s = .slice (some ⟨g, 0, none⟩) k cap) (hown : w.ownsRow base e size (.slice (some ⟨g, 0, none⟩) k cap) k xs) (ad : Addr) (m c : Nat) (news : List Value) (hx : a.eval x = .slice (some ad) m c) (hn : news.length = m * size)
    (hc : ∀ j u, news[j]? = some u → w.cell? (ad.add j) = some u) (h1c : ∀ u ∈ news, u.oneCell' = true) (b1 : k + m ≤ cap)
    (hK : ∀ w', w'.ownsRow base e size (.slice (some ⟨g, 0, none⟩) (k + m) cap) (k + m) (xs ++ news) → w.grownBy w' (some g) → K (a.put o.dst (.slice (some ⟨g, 0, none⟩) (k + m) cap)) w') : o.wp P a w K Q := by
  obtain ⟨w', hrun, r1, r2⟩ := run_append_fits (P := P) w base t o.type e i size h1 h2 h4 g k cap xs hown ad m c news hn hc h1c b1
  unfold Oper.wp
  simp [execOp, hop, resolve, invoke, builtin, hs, hx, hrun, Result.andThen]
  exact hK w' r1 r2

def slLen : Value → Nat
  | .slice _ n _ => n
  | _ => 0
theorem ordG_step {rest : List Nat} {m : Nat} (a : Nat) (h : rest.length = m + 1) : ordG rest.length rest a = nth rest (a / fct m) :: ordG m (rest.eraseIdx (a / fct m)) (a % fct m) := by
  rw [h]
  show nth rest (a / fct (rest.length - 1)) :: ordG m (rest.eraseIdx (a / fct (rest.length - 1))) (a % fct (rest.length - 1)) = _
  rw [h, Nat.add_sub_cancel]
def OrdMade (l : List Nat) (w : World) (e : Ending) (w' : World) : Prop := ∃ A cap, e = .returned (.slice A l.length cap) ∧ w'.ownsRow w.heap.size 3 1 (.slice A l.length cap) l.length (natV l) ∧ Below w.heap.size w w'

set_option maxHeartbeats 4000000 in
set_option maxRecDepth 100000 in
theorem orderAt_is (w : World) (n a : Nat) (n' a' : Int) (hn' : n' = (n : Int)) (ha' : a' = (a : Int)) (h1 : 1 ≤ n) (h3 : n ≤ 3) (ha : a < fct n) :
    Calls Tryz.prog 30 #[.int .i64 n', .int .i64 a'] w (OrdMade (ordP n a) w) := by
  subst hn' ha'
  obtain ⟨iI, hi, hz0, hz1, hz2⟩ := info_parts Tryz.infoI
  have HI := Lib.hid hi; have HZ0 := Lib.hid hz0; have HZ1 := Lib.hid hz1; have HZ2 := Lib.hid hz2
  clear hi hz0 hz1 hz2
  have hfac := fun (w' : World) (m : Nat) (x : Int) (hx : x = (m : Int)) (hm : m ≤ 10) => factorial_is w' m x hx hm
  have HFC := Lib.hid hfac
  have HA := Lib.hid ha
  obtain ⟨L, hL⟩ : ∃ L, L = ordP n a := ⟨_, rfl⟩
  rw [← hL]
  have HL := Lib.hid hL
  clear hfac ha hL
  go_enter Tryz.func30, Tryz.ntmps30
  go_wp2_with fail
  go_loopw [5, 11] (fun r i wr => ∃ k : Nat, i = .int .i64 (k : Int) ∧ k ≤ n ∧ Hid (wr.ownsRow w.heap.size 3 1 r k (natV (List.range k))) ∧ Hid (Below w.heap.size w wr)) (fun _ i _ => n - (intOf i).toNat)
  case atStart => exact ⟨0, rfl, Nat.zero_le _, Lib.hid (by simpa [natV] using World.ownsRow_nil w w.heap.size 3 1), Lib.hid (Below.refl _ _)⟩
  case round =>
    obtain ⟨k, rfl, hk, HO, HBL⟩ := hrel
    obtain ⟨A5, c5, e5⟩ := slot_slice HO.out
    subst e5
    by_cases hlt : k < n
    · have v0 : (k : Int) < (n : Int) := by omega
      have hbw := HBL.out.size
      go_wp2_with (at_builtin; refine wpList_append_own _ rfl _ _ 54 rfl w.heap.size 3 iI (.int .i64 0) 1 8 Tryz.undI HI.out HZ0.out HZ1.out HZ2.out rfl (by decide) _ k _ rfl (HO.out.alloc _) ⟨wr.heap.size, 0, none⟩ 1 1 [.int .i64 (k : Int)] rfl rfl (one_new wr _ _) nat_cell (by unfold maxLen; omega) (by omega) (by simp; omega) ?_)
      intro v' w6 ho' hg' _
      rw [natV_snoc, ← List.range_succ] at ho'
      have hb6 := (HBL.out.alloc HBL.out.size _).grown hg' (Nat.le_trans HBL.out.size (by simp)) fun k' e => (HO.out.lt k' e).1
      have HO6 := Lib.hid ho'; have HB6 := Lib.hid hb6; clear ho' hg' hb6
      go_wp2_with fail
      go_roundw
      case rel => exact ⟨k + 1, by go_num, by omega, HO6, HB6⟩
      case measure => simp [intOf]; omega
    · obtain rfl : k = n := by omega
      have v0 : ¬ (k : Int) < (k : Int) := by omega
      obtain ⟨g5, c5', e5⟩ := own_some HO.out (by omega)
      injection e5 with e5 _ e6
      subst e5; subst e6
      go_wp2_with fail
      go_loopw [1, 5, 6] (fun av r o wr => ∃ (rest out : List Nat) (at_ g cap : Nat), av = .int .i64 (at_ : Int) ∧ r = .slice (some ⟨g, 0, none⟩) rest.length cap ∧ Hid (wr.ownsRow w.heap.size 3 1 (.slice (some ⟨g, 0, none⟩) rest.length cap) rest.length (natV rest)) ∧ Hid (wr.ownsRow w.heap.size 3 1 o out.length (natV out)) ∧ Hid (o.ownBlock ≠ some g) ∧ Hid (out ++ ordG rest.length rest at_ = L) ∧ Hid (at_ < fct rest.length) ∧ rest.length ≤ 3 ∧ out.length + rest.length = k ∧ Hid (Below w.heap.size w wr)) (fun _ r _ _ => slLen r)
      case atStart =>
        refine ⟨List.range k, [], a, g5, c5, rfl, by simp, by simpa using HO, Lib.hid (by simpa [natV] using World.ownsRow_nil wr w.heap.size 3 1), Lib.hid (by simp [Value.ownBlock]), Lib.hid (by rw [HL.out, List.nil_append, List.length_range]; rfl), Lib.hid (by rw [List.length_range]; exact HA.out), by simp; omega, by simp, HBL⟩
      case round =>
        obtain ⟨rest, out, at_, g, cap, rfl, rfl, HR, HOU, HNE, HE, HAT, hr3, hrk, HB⟩ := hrel
        clear HO HBL
        obtain ⟨Ao, co, eo⟩ := slot_slice HOU.out
        subst eo
        have hAT := HAT.out
        by_cases hpos : 0 < rest.length
        · obtain ⟨m, hm⟩ : ∃ m, rest.length = m + 1 := ⟨rest.length - 1, by omega⟩
          have hm2 : m ≤ 2 := by omega
          have hst := ordG_step at_ hm
          have hfm := fct_le (show m ≤ 10 by omega)
          have hfs : fct (m + 1) = (m + 1) * fct m := rfl
          have hft : at_ % fct m < fct m := Nat.mod_lt _ (by omega)
          have HFM := Lib.hid (fun (w' : World) (x : Int) (hx : x = (m : Int)) => HFC.out w' m x hx (by omega))
          rw [hm, hfs] at hAT
          have hqm : at_ / fct m < m + 1 := Nat.div_lt_of_lt_mul (by rw [Nat.mul_comm]; exact hAT)
          have e1 : ((at_ : Nat) : Int) / ((fct m : Nat) : Int) = ((at_ / fct m : Nat) : Int) := by rw [Int.natCast_ediv]
          have e2 : ((at_ : Nat) : Int) % ((fct m : Nat) : Int) = ((at_ % fct m : Nat) : Int) := by rw [Int.natCast_emod]
          have hFT := Lib.hid (show at_ % fct m < fct m from hft)
          obtain ⟨F, hF⟩ : ∃ F, fct m = F := ⟨_, rfl⟩
          obtain ⟨q, hq⟩ : ∃ q, at_ / fct m = q := ⟨_, rfl⟩
          obtain ⟨t, ht⟩ : ∃ t, at_ % fct m = t := ⟨_, rfl⟩
          obtain ⟨y, hy⟩ : ∃ y, nth rest q = y := ⟨_, rfl⟩
          have hql : q < rest.length := by omega
          have hE := HE.out
          rw [hst, hq, ht, hy] at hE
          rw [hq] at e1 hqm
          rw [ht] at e2
          have hTF := Lib.hid (show t < fct m by rw [← ht]; exact hft)
          have c0 : wr.cell? ⟨g, q, none⟩ = some (.int .i64 (y : Int)) := by
            rw [HR.out.cellAt q (by omega)]; simp [natV, hql, ← hy, nth_eq hql]
          have e0 : (((fct m : Nat) : Int) == 0) = false := by rw [beq_eq_false_iff_ne]; omega
          have hcap : rest.length ≤ cap := own_le3 HR.out
          have HE2 := Lib.hid hE
          have w1 : wrap64 ((rest.length : Int) - 1) = (m : Int) := by rw [hm]; unfold wrap64; omega
          have hbw := HB.out.size
          have hgb := HR.out.lt g rfl
          clear hE hst hfs hAT hft ht hq HE
          rw [hF] at e0 e1 e2 hfm
          have HF := Lib.hid hF
          clear hF
          go_wp2_with fail
          refine (HFM.out _ _ (by first | rfl | omega)).mono ?_
          rintro _ _ ⟨rfl, rfl⟩
          rw [HF.out]
          go_wp2_with (at_builtin; refine wpList_append_lies _ rfl _ _ 54 rfl w.heap.size 3 iI (.int .i64 0) 1 8 Tryz.undI HI.out HZ0.out HZ1.out HZ2.out rfl (by decide) _ out.length _ rfl (HOU.out.alloc _) ⟨wr.heap.size, 0, none⟩ 1 1 [.int .i64 (y : Int)] rfl rfl (one_new wr _ _) nat_cell (by omega) (by unfold maxLen; omega) (by omega) (by simp; omega) (wr.heap.size + 1) (by simp) ?_)
          intro gn capn w6 ho6 hg6 hat6 hlt6
          rw [natV_snoc, show out.length + 1 = (out ++ [y]).length by simp] at ho6
          have hr6 := (HR.out.alloc (.cells #[.int .i64 (y : Int)] 3)).kept hg6 (.inr (fun e => HNE.out e.symm))
          have hb6 := (HB.out.alloc HB.out.size _).grown hg6 (Nat.le_trans HB.out.size (by simp)) fun k' e => (HOU.out.lt k' e).1
          have hne6 : gn ≠ g := by
            rcases hat6 with h | h
            · intro e; subst e; exact HNE.out h
            · intro e; omega
          have HO6 := Lib.hid ho6; have HR6 := Lib.hid hr6; have HB6 := Lib.hid hb6
          clear ho6 hr6 hb6 hat6 hg6 hlt6 HOU HR HB HNE c0
          go_wp2_with fail
          have HQ6 := Lib.hid (show q ≤ rest.length by omega)
          have hn1 : ((natV rest).drop (q + 1)).length = (m - q) * 1 := by rw [List.length_drop, length_natV, hm]; omega
          have hn3 : ∀ u ∈ (natV rest).drop (q + 1), u.oneCell' = true := fun u hu => natV_one rest u (List.mem_of_mem_drop hu)
          have HN1 := Lib.hid hn1; have HN3 := Lib.hid hn3
          clear hn1 hn3
          have hnat : ∀ w7 : World, w7.ownsRow w.heap.size 3 1 (.slice (some ⟨g, 0, none⟩) (q + (m - q)) cap) (q + (m - q)) ((natV rest).take q ++ (natV rest).drop (q + 1)) → w7.ownsRow w.heap.size 3 1 (.slice (some ⟨g, 0, none⟩) (rest.eraseIdx q).length cap) (rest.eraseIdx q).length (natV (rest.eraseIdx q)) := fun w7 h => by
            have e1 : (rest.eraseIdx q).length = m := by rw [List.length_eraseIdx, if_pos hql]; omega
            have e2 : natV (rest.eraseIdx q) = (natV rest).take q ++ (natV rest).drop (q + 1) := by
              rw [List.eraseIdx_eq_take_drop_succ]; simp [natV, List.map_take, List.map_drop]
            rw [e1, e2]
            rw [show q + (m - q) = m by omega] at h
            exact h
          have HNAT := Lib.hid hnat
          clear hnat
          have HFM2 := Lib.hid hfm; have HE1 := Lib.hid e1; have HE2' := Lib.hid e2
          clear hfm e1 e2 e0 w1 hbw
          have hq0 : q ≤ cap := by omega
          have HQC := Lib.hid (show q + (m - q) ≤ cap by omega)
          have wq : IntKind.i64.wrap ((q : Int) + 1) = (q : Int) + 1 := by rw [IntKind.wrap_i64]; omega
          have hqt : ((q : Int) + 1).toNat = q + 1 := by omega
          have hq3 : 0 ≤ (q : Int) + 1 ∧ (q : Int) + 1 ≤ (m : Int) + 1 := by omega
          have hq1 : q ≤ m := by omega
          have hq2 : m + 1 ≤ cap := by omega
          have hn2 : ∀ ad : Addr, (cap ≠ q + 1 → ad = ⟨g, q + 1, none⟩) → ∀ j u, ((natV rest).drop (q + 1))[j]? = some u → w6.drew.cell? (ad.add j) = some u := fun ad had j u hu => by
            have hj : q + 1 + j < rest.length := by
              have := (List.getElem?_eq_some_iff.1 hu).1
              rw [List.length_drop, length_natV] at this; omega
            rw [had (by omega), add_none]
            have hc := HR6.out.cellAt (q + 1 + j) (by omega)
            rw [List.getElem?_drop] at hu
            exact hc.trans hu
          have HN2 := Lib.hid hn2
          have hqm2 := Lib.hid hqm
          clear hn2
          have HLEN := Lib.hid (show (rest.eraseIdx q).length = m by rw [List.length_eraseIdx, if_pos hql]; omega)
          have HGB := Lib.hid hgb.1
          have HRM := Lib.hid (show out.length + 1 + m = k by omega)
          have HMR := Lib.hid hm
          clear hqm hgb hcap hq2 hrk hr3 hpos hm hm2
          have fin : ∀ w7 : World, w7.ownsRow w.heap.size 3 1 (.slice (some ⟨g, 0, none⟩) (q + (m - q)) cap) (q + (m - q)) ((natV rest).take q ++ (natV rest).drop (q + 1)) → w6.drew.grownBy w7 (some g) →
              w7.ownsRow w.heap.size 3 1 (.slice (some ⟨g, 0, none⟩) (rest.eraseIdx q).length cap) (rest.eraseIdx q).length (natV (rest.eraseIdx q)) ∧ w7.ownsRow w.heap.size 3 1 (.slice (some ⟨gn, 0, none⟩) (out ++ [y]).length capn) (out ++ [y]).length (natV (out ++ [y])) ∧ Below w.heap.size w w7 := fun w7 ho hg =>
            ⟨HNAT.out w7 ho, HO6.out.drew.kept hg (.inr (fun e => by injection e with e; exact hne6 e)), (HB6.out.drew).grown hg (by have := HB6.out.size; exact this) fun k' e => by injection e with e; subst e; exact HGB.out⟩
          have FIN := Lib.hid fin
          clear fin
          by_cases hcq : cap = q + 1
          case' pos =>
            subst hcq
            have hq5 : (q : Int) ≤ (q : Int) + 1 := by omega
            go_region_held3 (fun W => True) (exact True.intro) (first | (rw [if_pos (by rfl)]; refine wp_append_fits (.tmp 41) (.tmp 45) 54 (by rfl) w.heap.size 3 iI 1 Tryz.undI HI.out HZ1.out g q (q + 1) ((natV rest).take q) (by rfl) (own_cut HR6.out.drew HQ6.out) ⟨g, 0, none⟩ (m - q) _ ((natV rest).drop (q + 1)) (by rfl) HN1.out (HN2.out _ (fun h => absurd rfl h)) HN3.out HQC.out ?_; intro w7 ho7 hg7) | fail)
          case' neg =>
            go_region_held3 (fun W => True) (exact True.intro) (first | (rw [if_pos (by rfl)]; refine wp_append_fits (.tmp 41) (.tmp 45) 54 (by rfl) w.heap.size 3 iI 1 Tryz.undI HI.out HZ1.out g q cap ((natV rest).take q) (by rfl) (own_cut HR6.out.drew HQ6.out) ⟨g, q + 1, none⟩ (m - q) (cap - (q + 1)) ((natV rest).drop (q + 1)) (by rfl) HN1.out (HN2.out _ (fun h => rfl)) HN3.out HQC.out ?_; intro w7 ho7 hg7) | fail)
          all_goals
            obtain ⟨f1, f2, f3⟩ := FIN.out w7 ho7 hg7
            have F1 := Lib.hid f1; have F2 := Lib.hid f2; have F3 := Lib.hid f3
            clear f1 f2 f3 ho7 hg7 FIN
            go_wp2_with fail
            go_roundw
            case rel => exact ⟨rest.eraseIdx q, out ++ [y], t, g, _, rfl, by rw [HLEN.out], F1, by simpa using F2, Lib.hid (by intro e; injection e with e; exact hne6 e), Lib.hid (by rw [HLEN.out]; simpa using HE2.out), Lib.hid (by rw [HLEN.out]; exact hTF.out), by rw [HLEN.out]; have := HRM.out; omega, by rw [HLEN.out]; simpa using HRM.out, F3⟩
            case measure => simp [slLen]; have := HMR.out; omega
        · have hr0 : rest = [] := List.length_eq_zero_iff.1 (by omega)
          subst hr0
          have hfin : out = L := by simpa [ordG] using HE.out
          subst hfin
          clear HE
          go_wp2_with fail
          go_ret
          exact ⟨Ao, co, rfl, HOU.out, HB.out⟩

theorem two_sbs (w : World) (a b : Array Value) (T U : TypeId) (w0 : World) (h : w0 = (w.alloc (.cells a T)).alloc (.cells b U)) : Below w.heap.size w w0 ∧ SB w0 w.heap.size a T ∧ SB w0 (w.heap.size + 1) b U := by
  subst h
  refine ⟨((Below.refl _ _).alloc (Nat.le_refl _) _).alloc (by simp) _, (SB.made w a T).below ((Below.refl _ _).alloc (Nat.le_refl _) _), ?_⟩
  have h1 := SB.made (w.alloc (.cells a T)) b U
  rw [show (w.alloc (.cells a T)).heap.size = w.heap.size + 1 by simp] at h1
  exact h1
theorem cell_set_ne {w : World} {p k : Nat} (hne : p ≠ k) (i j : Nat) (v : Value) : (w.setCell ⟨k, j, none⟩ v).cell? ⟨p, i, none⟩ = w.cell? ⟨p, i, none⟩ :=
  World.cell?_of_block (a := ⟨p, i, none⟩) (Below.heap_setCell w ⟨k, j, none⟩ v p hne)
/-- the rotors of wheels were put into an order -/
def OrdW (rs : List (ByteArray × ByteArray)) (p : ByteArray) (ol : List Nat) (w : World) (e : Ending) (w' : World) : Prop :=
  ∃ A cap, e = .returned (.tuple #[.agg #[.slice A ol.length cap, .string p], .bool true]) ∧ w'.ownsRow w.heap.size 77 2 (.slice A ol.length cap) ol.length (rotV (ordR rs ol)) ∧ Below w.heap.size w w'
theorem ordR_snoc {rs : List (ByteArray × ByteArray)} {ol : List Nat} {k : Nat} (hk : k < ol.length) (hx : ol[k] < rs.length) : ordR rs (ol.take k) ++ [rs[ol[k]]] = ordR rs (ol.take (k + 1)) := by
  unfold ordR
  rw [List.take_succ_eq_append_getElem hk, List.map_append, List.map_singleton, List.getD_eq_getElem?_getD, List.getElem?_eq_getElem hx, Option.getD_some]
theorem bel_up {N : Nat} {a W : World} (h : Below N a W) (hN : N ≤ a.heap.size) (o : Obj) : Below N a (W.alloc o) := h.alloc (Nat.le_trans hN h.size) o
theorem bel_up2 {N : Nat} {a : World} (hN : N ≤ a.heap.size) (o : Obj) : Below N a (a.alloc o).drew := ((Below.refl _ _).alloc hN o).drew

set_option maxHeartbeats 8000000 in
set_option maxRecDepth 100000 in
theorem orderWheels_is (w : World) (A : Option Addr) (cap : Nat) (rs : List (ByteArray × ByteArray)) (p : ByteArray) (Ao : Option Addr) (co : Nat) (ol : List Nat) (h : Rd w w.heap.size A (rotV rs)) (hc : rs.length ≤ cap) (hv : WheelsV rs p)
    (ho : Rd w w.heap.size Ao (natV ol)) (hco : ol.length ≤ co) (hol : ol.length = rs.length) (hnd : ol.Nodup) (hlt : ∀ x ∈ ol, x < rs.length) :
    Calls Tryz.prog 29 #[.agg #[.slice A rs.length cap, .string p], .slice Ao ol.length co] w (OrdW rs p ol w) := by
  obtain ⟨iR, hi, hz0, hz1, hz2⟩ := info_parts Tryz.infoR
  have HI := Lib.hid hi; have HZ0 := Lib.hid hz0; have HZ1 := Lib.hid hz1; have HZ2 := Lib.hid hz2
  clear hi hz0 hz1 hz2
  obtain ⟨w0, hw0⟩ : ∃ w0, w0 = (w.alloc (.cells #[.slice A rs.length cap, .string p] 25)).alloc (.cells #[.slice none 0 0, .string ⟨#[]⟩] 25) := ⟨_, rfl⟩
  obtain ⟨hb0, hs0, hq0⟩ := two_sbs w _ _ _ _ w0 hw0
  have hl3 : rs.length ≤ 3 := hv.2.1
  have hwv := fun (w' : World) (h' : Rd w' w'.heap.size A (rotV rs)) => wheelsValid_any w' A cap rs p true h' hc (by omega) (by simp [hv])
  have hrd0 := (h.below hb0).mono hb0.size
  have hro0 := (ho.below hb0).mono hb0.size
  obtain ⟨M, hM⟩ : ∃ M, M = rs.length := ⟨_, rfl⟩
  have HM := Lib.hid hM
  rw [← hM] at hw0 hs0 hwv hc hol hl3 hlt ⊢
  obtain ⟨P, hP⟩ : ∃ P, P = w.heap.size := ⟨_, rfl⟩
  rw [← hP] at hs0 hq0
  have HB0 := Lib.hid hb0; have HS0 := Lib.hid hs0; have HQ0 := Lib.hid hq0; have HWV := Lib.hid hwv; have HRD := Lib.hid hrd0; have HRO := Lib.hid hro0; have HND := Lib.hid hnd; have HLT := Lib.hid hlt; have HPE := Lib.hid hP
  have hlo : ol.length = M := hol
  have hm1 : 1 ≤ M := by rw [hM]; exact hv.1
  clear hb0 hs0 hq0 hwv hrd0 hro0 hM h ho hnd hlt hv hol
  obtain ⟨c0, c1⟩ := HS0.out.two_cells
  have hne : ((ol.length : Nat) : Int) = (M : Int) := by omega
  go_enter Tryz.func29, Tryz.ntmps29
  go_wp2_with fail
  rw [← hw0, ← hP]
  clear hw0 hP
  go_wp2_with fail
  refine (HWV.out _ HRD.out).mono ?_
  rintro _ w1 ⟨rfl, hb1⟩
  have HB1 := Lib.hid (HB0.out.trans (hb1.mono HB0.out.size)); have HR1 := Lib.hid ((HRD.out.below hb1).mono hb1.size); have HO1 := Lib.hid ((HRO.out.below hb1).mono hb1.size); have HS1 := Lib.hid (HS0.out.below hb1); have HQ1 := Lib.hid (HQ0.out.below hb1)
  clear hb1 c0 c1 HB0 HRD HRO HS0 HQ0
  obtain ⟨c0, c1⟩ := HS1.out.two_cells
  obtain ⟨w2, hw2⟩ : ∃ w2, w2 = w1.alloc (.cells #[.slice none 0 0, .string p] 25) := ⟨_, rfl⟩
  have hal : Below w1.heap.size w1 w2 := by rw [hw2]; exact (Below.refl _ _).alloc (Nat.le_refl _) _
  have hq2 : SB w2 w1.heap.size #[.slice none 0 0, .string p] 25 := by rw [hw2]; exact SB.made w1 _ _
  have hsz : w2.heap.size = w1.heap.size + 1 := by rw [hw2]; simp
  have HB2 := Lib.hid (HB1.out.trans (hal.mono HB1.out.size)); have HR2 := Lib.hid ((HR1.out.below hal).mono hal.size); have HO2 := Lib.hid ((HO1.out.below hal).mono hal.size); have HS2 := Lib.hid (HS1.out.below hal); have HZ2' := Lib.hid (HQ1.out.below hal)
  obtain ⟨Q, hQ⟩ : ∃ Q, Q = w1.heap.size := ⟨_, rfl⟩
  have hPQ : P + 1 < Q := by rw [hQ]; exact HQ1.out.lt
  have hwQ : w.heap.size ≤ Q := by rw [hQ]; exact HB1.out.size
  have HRQ := Lib.hid (show Rd w2 Q A (rotV rs) by rw [hQ]; exact HR1.out.below hal); have HOQ := Lib.hid (show Rd w2 Q Ao (natV ol) by rw [hQ]; exact HO1.out.below hal)
  rw [← hQ] at hq2 hsz
  have HQ2 := Lib.hid hq2
  clear hal hq2 HB1 HR1 HO1 HS1 HQ1 HR2 HO2
  go_wp2_with fail
  rw [← hw2, ← hQ]
  clear hw2 hQ c0 c1
  go_loopw [7, 27] (fun s i wr => ∃ (k sn : Nat) (Ak : Option Addr) (ck : Nat), k ≤ M ∧ i = .int .i64 k ∧ s = .int .i64 sn ∧ Hid (Seen sn (ol.take k)) ∧ Hid (SB wr Q #[.slice Ak k ck, .string p] 25) ∧ Hid (wr.ownsRow (Q + 1) 77 2 (.slice Ak k ck) k (rotV (ordR rs (ol.take k)))) ∧ Hid (SB wr P #[.slice A M cap, .string p] 25) ∧ Hid (SB wr (P + 1) #[.slice none 0 0, .string ⟨#[]⟩] 25) ∧ Hid (Rd wr Q A (rotV rs)) ∧ Hid (Rd wr Q Ao (natV ol)) ∧ Q + 1 ≤ wr.heap.size ∧ Hid (Below w.heap.size w wr)) (fun _ i _ => M - (intOf i).toNat)
  case atStart => exact ⟨0, 0, none, 0, Nat.zero_le _, rfl, rfl, Lib.hid (by simpa using seen_none), HQ2, Lib.hid (World.ownsRow_nil _ _ _ _), HS2, HZ2', HRQ, HOQ, by omega, HB2⟩
  case round =>
    obtain ⟨k, sn, Ak, ck, hk, rfl, rfl, HSN, HQ, HO, HP, HPZ, HR, HOL, hN1, HBL⟩ := hrel
    clear HQ2 HS2 HZ2' HRQ HOQ HB2
    by_cases hlt : k < M
    · have hko : k < ol.length := by omega
      have hv0 : (k : Int) < ((ol.length : Nat) : Int) := by omega
      obtain ⟨b1, f1, e1, hb1, c0⟩ := HOL.out.nat hko
      subst e1
      have hxM := HLT.out _ (List.getElem_mem hko)
      have hxr : ol[k] < rs.length := by rw [← HM.out]; exact hxM
      have hsnoc := ordR_snoc hko hxr
      have hnin : ol[k] ∉ ol.take k := by
        intro hm
        obtain ⟨j, hj, e⟩ := List.mem_iff_getElem.1 hm
        rw [List.length_take] at hj
        rw [List.getElem_take] at e
        exact List.pairwise_iff_getElem.1 HND.out j k (by omega) hko (by omega) e
      have hx10 : ol[k] < 10 := by omega
      have hand := HSN.out.and_out hx10 hnin
      have hor := HSN.out.or_ hx10
      have hput := HSN.out.put hx10
      rw [← List.take_succ_eq_append_getElem hko] at hput
      obtain ⟨b2, f2, e2, hb2, d0, d1⟩ := HR.out.rot hxr
      subst e2
      have hw : IntKind.i64.wrap (2 ^ ol[k]) = 2 ^ ol[k] := by
        have : ∀ n : Fin 10, IntKind.i64.wrap ((2 : Int) ^ n.val) = 2 ^ n.val := by decide
        exact this ⟨ol[k], hx10⟩
      have HPUT := Lib.hid hput
      clear hnin hput
      generalize hxx : ol[k] = x at c0 hxM hxr hx10 hand hor d0 d1 hw hsnoc
      generalize rs[x] = r at d0 d1 hsnoc
      obtain ⟨r1, r2⟩ := r
      rw [hxx] at HPUT
      simp only at d0 d1
      have HSNO := Lib.hid hsnoc; have HXX := Lib.hid hxx
      clear hsnoc hxx
      have hx0 : (0 : Int) ≤ (x : Int) := by omega
      have hx1 : (x : Int) < (M : Int) := by omega
      obtain ⟨q0, q1⟩ := HQ.out.two_cells
      obtain ⟨p0, p1⟩ := HP.out.two_cells
      have hs : ∀ W : World, Below (Q + 1) wr W → (W.cell? ⟨Q, 0, none⟩ = some (.slice Ak k ck) ∧ W.cell? ⟨P, 0, none⟩ = some (.slice (some ⟨b2, f2, none⟩) M cap) ∧ W.cell? ⟨b2, f2 + x * 2, none⟩ = some (.string r1) ∧ W.cell? ⟨b2, f2 + x * 2 + 1, none⟩ = some (.string r2)) := fun W hb =>
        ⟨(hb.cell (p := ⟨Q, 0, none⟩) (Nat.lt_succ_self Q)).trans q0, (hb.cell (p := ⟨P, 0, none⟩) (show P < Q + 1 by omega)).trans p0, (hb.cell (p := ⟨b2, f2 + x * 2, none⟩) (show b2 < Q + 1 by omega)).trans d0, (hb.cell (p := ⟨b2, f2 + x * 2 + 1, none⟩) (show b2 < Q + 1 by omega)).trans d1⟩
      have hbd : Below (Q + 1) wr wr.drew := (Below.refl _ _).drew
      have hba : ∀ o, Below (Q + 1) wr (wr.alloc o) := fun o => (Below.refl _ _).alloc hN1 o
      obtain ⟨x0, y0, u0, v0⟩ := hs _ hbd
      have x1 := fun o => (hs _ (hba o)).1
      have y1 := fun o => (hs _ (hba o)).2.1
      have u1 := fun o => (hs _ (hba o)).2.2.1
      have v1 := fun o => (hs _ (hba o)).2.2.2
      have hmx : ¬ M ≤ x := by omega
      have HN := Lib.hid (ownBlock_ne HO.out (Nat.lt_succ_self Q))
      clear hs hbd hba q1 p1
      go_wp2_with fail
      go_region_law (first | (refine step_append_lies _ (by rfl) (.tmp 53) (.tmp 59) 23 (by rfl) (Q + 1) 77 iR _ 2 32 Tryz.undR HI.out HZ0.out HZ1.out HZ2.out rfl (by decide) (.slice Ak k ck) k _ (by rfl) (HO.out.drew.alloc _) ⟨wr.heap.size, 0, none⟩ 1 1 [.string r1, .string r2] (by rfl) rfl (rot_new wr.drew _ _ _) (rot_one _ _) (by decide) (by unfold maxLen; omega) (by omega) (Nat.le_trans hN1 (by simp)) (wr.heap.size + 1) (by simp) ?_; intro g5 c5 w5 ho5 hg5 hat5 hlt5; have h8 := SB.own (SB.below HQ.out ((Below.refl _ _).drew.alloc (Nat.le_refl _) _)) hg5 HN.out; have c8 := h8.cell 0 _ rfl; have f8 := h8.frozen 0) | fail)
      all_goals
        have hb5 : Below (Q + 1) wr w5 := (((Below.refl (Q + 1) wr).alloc hN1 (.cells #[.string r1, .string r2] 77)).drew).grown hg5 (Nat.le_trans hN1 (by simp)) (fun k' e => (HO.out.lt k' e).1)
        rw [rotV_snoc _ (r1, r2), HSNO.out] at ho5
        have hq5 : SB w5 Q #[.slice Ak k ck, .string p] 25 := (hb5.block Q (Nat.lt_succ_self Q)).trans HQ.out
        have hp5 : SB w5 P #[.slice (some ⟨b2, f2, none⟩) M cap, .string p] 25 := (hb5.block P (by omega)).trans HP.out
        have hz5 : SB w5 (P + 1) #[.slice none 0 0, .string ⟨#[]⟩] 25 := (hb5.block (P + 1) (by omega)).trans HPZ.out
        have HQ6 := Lib.hid (hq5.put 0 (.slice (some ⟨g5, 0, none⟩) (k + 1) c5))
        have HP6 := Lib.hid (hp5.far (show P ≠ Q by omega) 0 (.slice (some ⟨g5, 0, none⟩) (k + 1) c5))
        have HZ6 := Lib.hid (hz5.far (show P + 1 ≠ Q by omega) 0 (.slice (some ⟨g5, 0, none⟩) (k + 1) c5))
        have HR6 := Lib.hid ((HR.out.below (hb5.mono (Nat.le_succ Q))).far (p := Q) (fun z e => by injection e with e; subst e; show b2 ≠ Q; omega) 0 (.slice (some ⟨g5, 0, none⟩) (k + 1) c5))
        have HL6 := Lib.hid ((HOL.out.below (hb5.mono (Nat.le_succ Q))).far (p := Q) (fun z e => by injection e with e; subst e; show b1 ≠ Q; omega) 0 (.slice (some ⟨g5, 0, none⟩) (k + 1) c5))
        have HO6 := Lib.hid (own_set ho5 (p := Q) (by intro e; have := (ho5.lt Q e).1; omega) 0 (.slice (some ⟨g5, 0, none⟩) (k + 1) c5))
        have HB6 := Lib.hid ((HBL.out.trans (hb5.mono (by omega))).setCell hwQ (p := ⟨Q, 0, none⟩) (.slice (some ⟨g5, 0, none⟩) (k + 1) c5))
        have hN6 : Q + 1 ≤ (w5.setCell ⟨Q, 0, none⟩ (.slice (some ⟨g5, 0, none⟩) (k + 1) c5)).heap.size := by have := hb5.size; simp [World.setCell]; omega
        obtain ⟨w6, hw6⟩ : ∃ w6, w6 = w5.setCell ⟨Q, 0, none⟩ (.slice (some ⟨g5, 0, none⟩) (k + 1) c5) := ⟨_, rfl⟩
        rw [← hw6] at HQ6 HP6 HZ6 HR6 HL6 HO6 HB6 hN6 ⊢
        clear hw6 hb5 ho5 hg5 hat5 hlt5 h8 c8 f8 hq5 hp5 hz5 x0 y0 u0 v0 x1 y1 u1 v1 hmx hand hor hw c0 q0 p0 d0 d1
        go_wp2_with fail
        go_roundw
        case rel => exact ⟨k + 1, _, _, _, by omega, by go_num, rfl, HPUT, HQ6, HO6, HP6, HZ6, HR6, HL6, hN6, HB6⟩
        case measure => simp [intOf]; omega
    · obtain rfl : k = M := by omega
      have hv0 : ¬ (k : Int) < ((ol.length : Nat) : Int) := by omega
      have ho := HO.out
      rw [List.take_of_length_le (by omega)] at ho
      rw [← hlo] at ho
      obtain ⟨⟨c0, c1⟩, _⟩ := HQ.out.twoC
      obtain ⟨⟨d0, d1⟩, g0, g1⟩ := HPZ.out.twoC
      have hna : (Value.slice Ak ol.length ck).ownBlock ≠ some (P + 1) := by intro e; have := (ho.lt (P + 1) e).1; omega
      have HPF := Lib.hid (HPZ.out.two (.slice Ak k ck) (.string p))
      have HOF := Lib.hid (own_mono3 (own_set (own_set ho hna 0 (.slice Ak k ck)) hna 1 (.string p)) (show w.heap.size ≤ Q + 1 by omega))
      have HBF := Lib.hid ((HBL.out.setCell (p := ⟨P + 1, 0, none⟩) (show w.heap.size ≤ P + 1 by have := HPE.out; omega) (.slice Ak k ck)).setCell (p := ⟨P + 1, 1, none⟩) (show w.heap.size ≤ P + 1 by have := HPE.out; omega) (.string p))
      have HLO := Lib.hid hlo
      clear ho hna
      go_wp2_with fail
      refine bodyPost_ret (results_st_tmp rfl _ _ (P + 1) _ #[.slice Ak k ck, .string p] _ _ rfl HPF.out Tryz.underlying25 ⟨_, rfl⟩ whlSize) rfl ⟨Ak, ck, by rw [HLO.out]; rfl, HOF.out, HBF.out⟩

theorem count_next {l : List Nat} {k : Nat} (hk : k < l.length) (x : Nat) : (l.take (k + 1)).count x = (l.take k).count x + if l[k] = x then 1 else 0 := by
  rw [List.take_succ_eq_append_getElem hk, List.count_append, List.count_singleton]
  simp

set_option maxHeartbeats 4000000 in
set_option maxRecDepth 100000 in
theorem sCountN_is (w : World) (A : Option Addr) (cap : Nat) (l : List Nat) (x : Nat) (x' : Int) (hx : x' = (x : Int)) (h : Rd w w.heap.size A (natV l)) (hc : l.length ≤ cap) (hl : l.length ≤ 100000) :
    Calls Tryz.prog 114 #[.slice A l.length cap, .int .i64 x'] w fun e w' => e = .returned (.int .i64 ((l.count x : Nat) : Int)) ∧ w = w' := by
  subst hx
  have HR := Lib.hid h
  have hcl : l.count x ≤ l.length := List.count_le_length
  obtain ⟨M, hM⟩ : ∃ M, M = l.length := ⟨_, rfl⟩
  have HM := Lib.hid hM
  rw [← hM] at hc hl hcl ⊢
  obtain ⟨C, hC⟩ : ∃ C, C = l.count x := ⟨_, rfl⟩
  have HC := Lib.hid hC
  rw [← hC] at hcl ⊢
  clear h hM hC
  go_enter Tryz.func114, Tryz.ntmps114
  go_wp2
  go_loop [5, 6] (fun o i => ∃ k t : Nat, i = .int .i64 (k : Int) ∧ k ≤ M ∧ o = .int .i64 (t : Int) ∧ Hid (t = (l.take k).count x) ∧ t ≤ k) (fun _ i => M - (intOf i).toNat)
  case atStart => exact ⟨0, 0, rfl, Nat.zero_le _, rfl, Lib.hid (by simp), Nat.le_refl _⟩
  case round =>
    obtain ⟨k, t, rfl, hk, rfl, HT, htk⟩ := hrel
    by_cases hlt : k < M
    · have hkl : k < l.length := by rw [← HM.out]; exact hlt
      obtain ⟨b1, f1, e1, hb1, c0⟩ := HR.out.nat hkl
      subst e1
      have hnx := count_next hkl x
      have v0 : (k : Int) < (M : Int) := by omega
      by_cases he : l[k] = x
      · rw [if_pos he, ← HT.out] at hnx
        rw [he] at c0
        have HNX := Lib.hid hnx
        clear hnx he
        go_wp2
        go_round
        case rel => exact ⟨k + 1, t + 1, by go_num, by omega, by go_num, Lib.hid HNX.out.symm, by omega⟩
        case measure => simp [intOf]; omega
      · rw [if_neg he, Nat.add_zero, ← HT.out] at hnx
        have HNX := Lib.hid hnx
        have hbe : (((l[k] : Nat) : Int) == (x : Int)) = false := by rw [beq_eq_false_iff_ne]; omega
        clear hnx he
        generalize l[k] = y at c0 hbe
        go_wp2
        go_round
        case rel => exact ⟨k + 1, t, by go_num, by omega, rfl, Lib.hid HNX.out.symm, by omega⟩
        case measure => simp [intOf]; omega
    · obtain rfl : k = M := by omega
      have v0 : ¬ (k : Int) < (k : Int) := by omega
      have hfin : t = C := by rw [HT.out, HC.out, List.take_of_length_le (by rw [← HM.out]; exact Nat.le_refl _)]
      subst hfin
      go_wp2
      go_ret
      exact ⟨rfl, rfl⟩

set_option maxHeartbeats 4000000 in
set_option maxRecDepth 100000 in
theorem sOrder_is (w : World) (A : Option Addr) (cap : Nat) (l : List Nat) (M : Nat) (m : Int) (hm : m = (M : Int)) (h : Rd w w.heap.size A (natV l)) (hc : l.length ≤ cap) (hl : l.length = M) (hM : M ≤ 3) (hnd : l.Nodup) (hlt : ∀ x ∈ l, x < M) :
    Calls Tryz.prog 76 #[.slice A l.length cap, .int .i64 m] w fun e w' => e = .returned (.bool true) ∧ w = w' := by
  subst hm
  have hcn := fun (x : Nat) (x' : Int) (hx : x' = (x : Int)) => sCountN_is w A cap l x x' hx h hc (by omega)
  have HR := Lib.hid h; have HN := Lib.hid hnd; have HLT := Lib.hid hlt; have HL := Lib.hid hl
  rw [hl] at hcn hc ⊢
  have HCN := Lib.hid hcn
  clear h hnd hlt hl hcn
  go_enter Tryz.func76, Tryz.ntmps76
  go_wp2
  go_loop [5] (fun i => ∃ k : Nat, i = .int .i64 (k : Int) ∧ k ≤ M) (fun i => M - (intOf i).toNat)
  case atStart => exact ⟨0, rfl, Nat.zero_le _⟩
  case round =>
    obtain ⟨k, rfl, hk⟩ := hrel
    by_cases hlt : k < M
    · have hkl : k < l.length := by rw [HL.out]; exact hlt
      obtain ⟨b1, f1, e1, hb1, c0⟩ := HR.out.nat hkl
      subst e1
      have hxM := HLT.out _ (List.getElem_mem hkl)
      have hcx : l.count l[k] = 1 := by rw [List.Nodup.count HN.out, if_pos (List.getElem_mem hkl)]
      have HC1 := HCN.out l[k] _ rfl
      rw [hcx] at HC1
      have HC2 := Lib.hid HC1
      clear HC1 hcx
      generalize l[k] = x at c0 hxM HC2
      have v0 : (k : Int) < (M : Int) := by omega
      go_wp2_with fail
      refine (l1In_is _ 0 _ true _ (by simp; omega)).mono ?_
      rintro _ _ ⟨rfl, rfl⟩
      go_wp2_with fail
      refine HC2.out.mono ?_
      rintro _ _ ⟨rfl, rfl⟩
      go_wp2
      go_round
      case rel => exact ⟨k + 1, by go_num, by omega⟩
      case measure => simp [intOf]; omega
    · obtain rfl : k = M := by omega
      have v0 : ¬ (k : Int) < (k : Int) := by omega
      go_wp2
      go_ret
      exact ⟨rfl, rfl⟩

/-- all orders were listed -/
def OrdsMade (n : Nat) (w : World) (e : Ending) (w' : World) : Prop :=
  ∃ B, e = .returned (.slice (some ⟨B, 0, none⟩) (fct n) (fct n)) ∧ (∀ i, i < fct n → ∃ b, w'.cell? ⟨B, i, none⟩ = some (.slice (some ⟨b, 0, none⟩) n n) ∧ Rd w' w'.heap.size (some ⟨b, 0, none⟩) (natV (ordP n i))) ∧ Below w.heap.size w w'
theorem rd_block {w : World} {b : Nat} {cs : Array Value} {t : TypeId} {xs : List Value} (h : w.heap[b]? = some (.cells cs t (0, 0))) (hx : xs = cs.toList) : Rd w w.heap.size (some ⟨b, 0, none⟩) xs := fun hn =>
  ⟨b, 0, rfl, (Array.getElem?_eq_some_iff.1 h).1, fun j hj => by
    subst hx
    rw [Nat.zero_add, cell_of_row w b j cs t (0, 0) h]
    simp at hj
    simp [hj]⟩

theorem blk_new {w : World} {o : Obj} {k : Nat} (h : k = w.heap.size) : (w.alloc o).heap[k]? = some o := by subst h; exact heap_alloc_new w o
theorem blk_old {w : World} {o p : Obj} {k : Nat} (h : w.heap[k]? = some p) : (w.alloc o).heap[k]? = some p := (heap_alloc_old w o (Array.getElem?_eq_some_iff.1 h).1).trans h
theorem sz_alloc (w : World) (o : Obj) : (w.alloc o).heap.size = w.heap.size + 1 := by simp

set_option maxHeartbeats 4000000 in
set_option maxRecDepth 100000 in
theorem sOrders_is (w : World) (n : Nat) (m : Int) (hm : m = (n : Int)) (h1 : 1 ≤ n) (h3 : n ≤ 3) :
    Calls Tryz.prog 36 #[.int .i64 m] w (OrdsMade n w) := by
  subst hm
  obtain ⟨l10, l20, l21, l30, l31, l32, l33, l34, l35⟩ := ord_lists
  rcases (show n = 1 ∨ n = 2 ∨ n = 3 by omega) with rfl | rfl | rfl
  · go_enter Tryz.func36, Tryz.ntmps36
    go_wp2
    go_ret
    refine ⟨_, rfl, fun i hi => ?_, ((Below.refl _ _).alloc (Nat.le_refl _) _).alloc (by simp) _⟩
    have hi1 : i = 0 := by have : fct 1 = 1 := rfl; omega
    subst hi1
    refine ⟨w.heap.size, ?_, rd_block (cs := #[.int .i64 0]) (t := 3) ?_ (by rw [l10]; rfl)⟩
    · exact (cell_of_row _ _ 0 _ _ _ (blk_new (by simp only [sz_alloc]))).trans rfl
    · exact blk_old (blk_new rfl)
  · go_enter Tryz.func36, Tryz.ntmps36
    go_wp2
    go_ret
    refine ⟨_, rfl, fun i hi => ?_, (((Below.refl _ _).alloc (Nat.le_refl _) _).alloc (by simp) _).alloc (by simp; omega) _⟩
    have hi1 : i = 0 ∨ i = 1 := by have : fct 2 = 2 := rfl; omega
    rcases hi1 with rfl | rfl
    · refine ⟨w.heap.size, ?_, rd_block (cs := #[.int .i64 0, .int .i64 1]) (t := 3) ?_ (by rw [l20]; rfl)⟩
      · exact (cell_of_row _ _ 0 _ _ _ (blk_new (by simp only [sz_alloc]))).trans rfl
      · exact blk_old (blk_old (blk_new rfl))
    · refine ⟨w.heap.size + 1, ?_, rd_block (cs := #[.int .i64 1, .int .i64 0]) (t := 3) ?_ (by rw [l21]; rfl)⟩
      · exact (cell_of_row _ _ 1 _ _ _ (blk_new (by simp only [sz_alloc]))).trans rfl
      · exact blk_old (blk_new (by simp only [sz_alloc]))
  · go_enter Tryz.func36, Tryz.ntmps36
    go_wp2
    go_ret
    refine ⟨_, rfl, fun i hi => ?_, (((((((Below.refl _ _).alloc (Nat.le_refl _) _).alloc (by simp) _).alloc (by simp; omega) _).alloc (by simp; omega) _).alloc (by simp; omega) _).alloc (by simp; omega) _).alloc (by simp; omega) _⟩
    have hi1 : i = 0 ∨ i = 1 ∨ i = 2 ∨ i = 3 ∨ i = 4 ∨ i = 5 := by have : fct 3 = 6 := rfl; omega
    rcases hi1 with rfl | rfl | rfl | rfl | rfl | rfl
    · refine ⟨w.heap.size, ?_, rd_block (cs := #[.int .i64 0, .int .i64 1, .int .i64 2]) (t := 3) ?_ (by rw [l30]; rfl)⟩
      · exact (cell_of_row _ _ 0 _ _ _ (blk_new (by simp only [sz_alloc]))).trans rfl
      · exact blk_old (blk_old (blk_old (blk_old (blk_old (blk_old (blk_new rfl))))))
    · refine ⟨w.heap.size + 1, ?_, rd_block (cs := #[.int .i64 0, .int .i64 2, .int .i64 1]) (t := 3) ?_ (by rw [l31]; rfl)⟩
      · exact (cell_of_row _ _ 1 _ _ _ (blk_new (by simp only [sz_alloc]))).trans rfl
      · exact blk_old (blk_old (blk_old (blk_old (blk_old (blk_new (by simp only [sz_alloc]))))))
    · refine ⟨w.heap.size + 1 + 1, ?_, rd_block (cs := #[.int .i64 1, .int .i64 0, .int .i64 2]) (t := 3) ?_ (by rw [l32]; rfl)⟩
      · exact (cell_of_row _ _ 2 _ _ _ (blk_new (by simp only [sz_alloc]))).trans rfl
      · exact blk_old (blk_old (blk_old (blk_old (blk_new (by simp only [sz_alloc])))))
    · refine ⟨w.heap.size + 1 + 1 + 1, ?_, rd_block (cs := #[.int .i64 1, .int .i64 2, .int .i64 0]) (t := 3) ?_ (by rw [l33]; rfl)⟩
      · exact (cell_of_row _ _ 3 _ _ _ (blk_new (by simp only [sz_alloc]))).trans rfl
      · exact blk_old (blk_old (blk_old (blk_new (by simp only [sz_alloc]))))
    · refine ⟨w.heap.size + 1 + 1 + 1 + 1, ?_, rd_block (cs := #[.int .i64 2, .int .i64 0, .int .i64 1]) (t := 3) ?_ (by rw [l34]; rfl)⟩
      · exact (cell_of_row _ _ 4 _ _ _ (blk_new (by simp only [sz_alloc]))).trans rfl
      · exact blk_old (blk_old (blk_new (by simp only [sz_alloc])))
    · refine ⟨w.heap.size + 1 + 1 + 1 + 1 + 1, ?_, rd_block (cs := #[.int .i64 2, .int .i64 1, .int .i64 0]) (t := 3) ?_ (by rw [l35]; rfl)⟩
      · exact (cell_of_row _ _ 5 _ _ _ (blk_new (by simp only [sz_alloc]))).trans rfl
      · exact blk_old (blk_new (by simp only [sz_alloc]))

set_option maxHeartbeats 8000000 in
set_option maxRecDepth 100000 in
theorem sOrderWheels_is (w : World) (A : Option Addr) (cap : Nat) (rs : List (ByteArray × ByteArray)) (p : ByteArray) (Ao : Option Addr) (co : Nat) (ol : List Nat) (h : Rd w w.heap.size A (rotV rs)) (hc : rs.length ≤ cap) (hv : WheelsV rs p)
    (ho : Rd w w.heap.size Ao (natV ol)) (hco : ol.length ≤ co) (hol : ol.length = rs.length) (hnd : ol.Nodup) (hlt : ∀ x ∈ ol, x < rs.length) :
    Calls Tryz.prog 35 #[.agg #[.slice A rs.length cap, .string p], .slice Ao ol.length co] w (OrdW rs p ol w) := by
  obtain ⟨iR, hi, hz0, hz1, hz2⟩ := info_parts Tryz.infoR
  have HI := Lib.hid hi; have HZ0 := Lib.hid hz0; have HZ1 := Lib.hid hz1; have HZ2 := Lib.hid hz2
  clear hi hz0 hz1 hz2
  obtain ⟨w0, hw0⟩ : ∃ w0, w0 = (w.alloc (.cells #[.slice A rs.length cap, .string p] 25)).alloc (.cells #[.slice none 0 0, .string ⟨#[]⟩] 25) := ⟨_, rfl⟩
  obtain ⟨hb0, hs0, hq0⟩ := two_sbs w _ _ _ _ w0 hw0
  have hl3 : rs.length ≤ 3 := hv.2.1
  have hwv := fun (w' : World) (h' : Rd w' w'.heap.size A (rotV rs)) => sWheelsValid_any w' A cap rs p true h' hc (by omega) (by simp [hv])
  have hord := fun (w' : World) (h' : Rd w' w'.heap.size Ao (natV ol)) => sOrder_is w' Ao co ol rs.length _ rfl h' hco hol hl3 hnd hlt
  have hrd0 := (h.below hb0).mono hb0.size
  have hro0 := (ho.below hb0).mono hb0.size
  obtain ⟨M, hM⟩ : ∃ M, M = rs.length := ⟨_, rfl⟩
  have HM := Lib.hid hM
  rw [← hM] at hw0 hs0 hwv hord hc hol hl3 hlt ⊢
  obtain ⟨P, hP⟩ : ∃ P, P = w.heap.size := ⟨_, rfl⟩
  rw [← hP] at hs0 hq0
  have HB0 := Lib.hid hb0; have HS0 := Lib.hid hs0; have HQ0 := Lib.hid hq0; have HWV := Lib.hid hwv;  have HRD := Lib.hid hrd0; have HRO := Lib.hid hro0; have HND := Lib.hid hnd; have HLT := Lib.hid hlt; have HPE := Lib.hid hP
  have hlo : ol.length = M := hol
  rw [hlo] at hord
  have HORD := Lib.hid hord
  have hm1 : 1 ≤ M := by rw [hM]; exact hv.1
  clear hb0 hs0 hq0 hwv hord hrd0 hro0 hM h ho hnd hlt hv hol
  obtain ⟨c0, c1⟩ := HS0.out.two_cells
  obtain ⟨w2, hw2⟩ : ∃ w2, w2 = w0.alloc (.cells #[.slice none 0 0, .string p] 25) := ⟨_, rfl⟩
  have hal : Below w0.heap.size w0 w2 := by rw [hw2]; exact (Below.refl _ _).alloc (Nat.le_refl _) _
  have hq2 : SB w2 w0.heap.size #[.slice none 0 0, .string p] 25 := by rw [hw2]; exact SB.made w0 _ _
  have hsz : w2.heap.size = w0.heap.size + 1 := by rw [hw2]; simp
  have HB2 := Lib.hid (HB0.out.trans (hal.mono HB0.out.size)); have HS2 := Lib.hid (HS0.out.below hal); have HZ2' := Lib.hid (HQ0.out.below hal)
  obtain ⟨Q, hQ⟩ : ∃ Q, Q = w0.heap.size := ⟨_, rfl⟩
  have hPQ : P + 1 < Q := by rw [hQ]; exact HQ0.out.lt
  have hwQ : w.heap.size ≤ Q := by rw [hQ]; exact HB0.out.size
  have HRQ := Lib.hid (show Rd w2 Q A (rotV rs) by rw [hQ]; exact HRD.out.below hal); have HOQ := Lib.hid (show Rd w2 Q Ao (natV ol) by rw [hQ]; exact HRO.out.below hal)
  have HP2 := Lib.hid (show P + 1 + 1 = Q by rw [hQ, hw0, hP]; simp)
  rw [← hQ] at hq2 hsz
  have HQ2 := Lib.hid hq2
  clear hal hq2 HB0 HRD HRO HS0 HQ0
  obtain ⟨m0, m1⟩ := HS2.out.two_cells
  have n0 := m0; have n1 := m1
  rw [hw2] at n0 n1
  go_enter Tryz.func35, Tryz.ntmps35
  go_wp2_with fail
  rw [← hw0, ← hP]
  clear hP
  go_wp2_with fail
  rw [← hw2]
  rw [HP2.out]
  clear hw0 hw2 hQ c0 c1 n0 n1
  refine (HWV.out w2 (HRQ.out.mono (by omega))).mono ?_
  rintro _ w3 ⟨rfl, hb3⟩
  have HB3 := Lib.hid (HB2.out.trans (hb3.mono HB2.out.size)); have HR3 := Lib.hid (HRQ.out.below (hb3.mono (by omega))); have HO3 := Lib.hid (HOQ.out.below (hb3.mono (by omega))); have HS3 := Lib.hid (HS2.out.below hb3); have HZ3' := Lib.hid (HZ2'.out.below hb3); have HQ3 := Lib.hid (HQ2.out.below hb3)
  have hsz3 : Q + 1 ≤ w3.heap.size := by have := hb3.size; omega
  clear hb3 HB2 HRQ HOQ HS2 HZ2' HQ2 m0 m1
  obtain ⟨m0, m1⟩ := HS3.out.two_cells
  go_wp2_with fail
  refine (HORD.out w3 (HO3.out.mono (by omega))).mono ?_
  rintro _ _ ⟨rfl, rfl⟩
  have HQ2 := HQ3; have HS2 := HS3; have HZ2' := HZ3'; have HRQ := HR3; have HOQ := HO3; have HB2 := HB3
  clear HQ3 HS3 HZ3' HR3 HO3 HB3 m0 m1
  go_wp2_with fail
  go_loopw [7] (fun i wr => ∃ (k : Nat) (Ak : Option Addr) (ck : Nat), k ≤ M ∧ i = .int .i64 k ∧ Hid (SB wr Q #[.slice Ak k ck, .string p] 25) ∧ Hid (wr.ownsRow (Q + 1) 77 2 (.slice Ak k ck) k (rotV (ordR rs (ol.take k)))) ∧ Hid (SB wr P #[.slice A M cap, .string p] 25) ∧ Hid (SB wr (P + 1) #[.slice none 0 0, .string ⟨#[]⟩] 25) ∧ Hid (Rd wr Q A (rotV rs)) ∧ Hid (Rd wr Q Ao (natV ol)) ∧ Q + 1 ≤ wr.heap.size ∧ Hid (Below w.heap.size w wr)) (fun i _ => M - (intOf i).toNat)
  case atStart => exact ⟨0, none, 0, Nat.zero_le _, rfl, HQ2, Lib.hid (World.ownsRow_nil _ _ _ _), HS2, HZ2', HRQ, HOQ, by omega, HB2⟩
  case round =>
    obtain ⟨k, Ak, ck, hk, rfl, HQ, HO, HP, HPZ, HR, HOL, hN1, HBL⟩ := hrel
    clear HQ2 HS2 HZ2' HRQ HOQ HB2
    by_cases hlt : k < M
    · have hko : k < ol.length := by omega
      have hv0 : (k : Int) < ((ol.length : Nat) : Int) := by omega
      obtain ⟨b1, f1, e1, hb1, c0⟩ := HOL.out.nat hko
      subst e1
      have hxM := HLT.out _ (List.getElem_mem hko)
      have hxr : ol[k] < rs.length := by rw [← HM.out]; exact hxM
      have hsnoc := ordR_snoc hko hxr
      have hx10 : ol[k] < 10 := by omega
      obtain ⟨b2, f2, e2, hb2, d0, d1⟩ := HR.out.rot hxr
      subst e2
      generalize hxx : ol[k] = x at c0 hxM hxr hx10 d0 d1 hsnoc
      generalize rs[x] = r at d0 d1 hsnoc
      obtain ⟨r1, r2⟩ := r
      simp only at d0 d1
      have HSNO := Lib.hid hsnoc; have HXX := Lib.hid hxx
      clear hsnoc hxx
      have hx0 : (0 : Int) ≤ (x : Int) := by omega
      have hx1 : (x : Int) < (M : Int) := by omega
      obtain ⟨q0, q1⟩ := HQ.out.two_cells
      obtain ⟨p0, p1⟩ := HP.out.two_cells
      have hs : ∀ W : World, Below (Q + 1) wr W → (W.cell? ⟨b1, f1 + k, none⟩ = some (.int .i64 (x : Int)) ∧ W.cell? ⟨Q, 0, none⟩ = some (.slice Ak k ck) ∧ W.cell? ⟨P, 0, none⟩ = some (.slice (some ⟨b2, f2, none⟩) M cap) ∧ W.cell? ⟨b2, f2 + x * 2, none⟩ = some (.string r1) ∧ W.cell? ⟨b2, f2 + x * 2 + 1, none⟩ = some (.string r2)) := fun W hb =>
        ⟨(hb.cell (p := ⟨b1, f1 + k, none⟩) (show b1 < Q + 1 by omega)).trans c0, (hb.cell (p := ⟨Q, 0, none⟩) (Nat.lt_succ_self Q)).trans q0, (hb.cell (p := ⟨P, 0, none⟩) (show P < Q + 1 by omega)).trans p0, (hb.cell (p := ⟨b2, f2 + x * 2, none⟩) (show b2 < Q + 1 by omega)).trans d0, (hb.cell (p := ⟨b2, f2 + x * 2 + 1, none⟩) (show b2 < Q + 1 by omega)).trans d1⟩
      have hbd : Below (Q + 1) wr wr.drew := (Below.refl _ _).drew
      have hba : ∀ o, Below (Q + 1) wr (wr.alloc o) := fun o => (Below.refl _ _).alloc hN1 o
      obtain ⟨t0, x0, y0, u0, v0⟩ := hs _ hbd
      have t1 := fun o => (hs _ (hba o)).1
      have x1 := fun o => (hs _ (hba o)).2.1
      have y1 := fun o => (hs _ (hba o)).2.2.1
      have u1 := fun o => (hs _ (hba o)).2.2.2.1
      have v1 := fun o => (hs _ (hba o)).2.2.2.2
      have hmx : ¬ M ≤ x := by omega
      have HN := Lib.hid (ownBlock_ne HO.out (Nat.lt_succ_self Q))
      clear hs hbd hba q1 p1
      go_wp2_with fail
      go_region_law (first | (refine step_append_lies _ (by rfl) (.tmp 30) (.tmp 39) 23 (by rfl) (Q + 1) 77 iR _ 2 32 Tryz.undR HI.out HZ0.out HZ1.out HZ2.out rfl (by decide) (.slice Ak k ck) k _ (by rfl) (HO.out.drew.alloc _) ⟨wr.heap.size, 0, none⟩ 1 1 [.string r1, .string r2] (by rfl) rfl (rot_new wr.drew _ _ _) (rot_one _ _) (by decide) (by unfold maxLen; omega) (by omega) (Nat.le_trans hN1 (by simp)) (wr.heap.size + 1) (by simp) ?_; intro g5 c5 w5 ho5 hg5 hat5 hlt5; have h8 := SB.own (SB.below HQ.out ((Below.refl _ _).drew.alloc (Nat.le_refl _) _)) hg5 HN.out; have c8 := h8.cell 0 _ rfl; have f8 := h8.frozen 0) | fail)
      all_goals
        have hb5 : Below (Q + 1) wr w5 := (((Below.refl (Q + 1) wr).alloc hN1 (.cells #[.string r1, .string r2] 77)).drew).grown hg5 (Nat.le_trans hN1 (by simp)) (fun k' e => (HO.out.lt k' e).1)
        rw [rotV_snoc _ (r1, r2), HSNO.out] at ho5
        have hq5 : SB w5 Q #[.slice Ak k ck, .string p] 25 := (hb5.block Q (Nat.lt_succ_self Q)).trans HQ.out
        have hp5 : SB w5 P #[.slice (some ⟨b2, f2, none⟩) M cap, .string p] 25 := (hb5.block P (by omega)).trans HP.out
        have hz5 : SB w5 (P + 1) #[.slice none 0 0, .string ⟨#[]⟩] 25 := (hb5.block (P + 1) (by omega)).trans HPZ.out
        have HQ6 := Lib.hid (hq5.put 0 (.slice (some ⟨g5, 0, none⟩) (k + 1) c5))
        have HP6 := Lib.hid (hp5.far (show P ≠ Q by omega) 0 (.slice (some ⟨g5, 0, none⟩) (k + 1) c5))
        have HZ6 := Lib.hid (hz5.far (show P + 1 ≠ Q by omega) 0 (.slice (some ⟨g5, 0, none⟩) (k + 1) c5))
        have HR6 := Lib.hid ((HR.out.below (hb5.mono (Nat.le_succ Q))).far (p := Q) (fun z e => by injection e with e; subst e; show b2 ≠ Q; omega) 0 (.slice (some ⟨g5, 0, none⟩) (k + 1) c5))
        have HL6 := Lib.hid ((HOL.out.below (hb5.mono (Nat.le_succ Q))).far (p := Q) (fun z e => by injection e with e; subst e; show b1 ≠ Q; omega) 0 (.slice (some ⟨g5, 0, none⟩) (k + 1) c5))
        have HO6 := Lib.hid (own_set ho5 (p := Q) (by intro e; have := (ho5.lt Q e).1; omega) 0 (.slice (some ⟨g5, 0, none⟩) (k + 1) c5))
        have HB6 := Lib.hid ((HBL.out.trans (hb5.mono (by omega))).setCell hwQ (p := ⟨Q, 0, none⟩) (.slice (some ⟨g5, 0, none⟩) (k + 1) c5))
        have hN6 : Q + 1 ≤ (w5.setCell ⟨Q, 0, none⟩ (.slice (some ⟨g5, 0, none⟩) (k + 1) c5)).heap.size := by have := hb5.size; simp [World.setCell]; omega
        obtain ⟨w6, hw6⟩ : ∃ w6, w6 = w5.setCell ⟨Q, 0, none⟩ (.slice (some ⟨g5, 0, none⟩) (k + 1) c5) := ⟨_, rfl⟩
        rw [← hw6] at HQ6 HP6 HZ6 HR6 HL6 HO6 HB6 hN6 ⊢
        clear hw6 hb5 ho5 hg5 hat5 hlt5 h8 c8 f8 hq5 hp5 hz5 t0 x0 y0 u0 v0 t1 x1 y1 u1 v1 hmx c0 q0 p0 d0 d1
        go_wp2_with fail
        go_roundw
        case rel => exact ⟨k + 1, _, _, by omega, by go_num, HQ6, HO6, HP6, HZ6, HR6, HL6, hN6, HB6⟩
        case measure => simp [intOf]; omega
    · obtain rfl : k = M := by omega
      have hv0 : ¬ (k : Int) < ((ol.length : Nat) : Int) := by omega
      have ho := HO.out
      rw [List.take_of_length_le (by omega)] at ho
      rw [← hlo] at ho
      obtain ⟨⟨c0, c1⟩, _⟩ := HQ.out.twoC
      obtain ⟨⟨d0, d1⟩, g0, g1⟩ := HPZ.out.twoC
      have hna : (Value.slice Ak ol.length ck).ownBlock ≠ some (P + 1) := by intro e; have := (ho.lt (P + 1) e).1; omega
      have HPF := Lib.hid (HPZ.out.two (.slice Ak k ck) (.string p))
      have HOF := Lib.hid (own_mono3 (own_set (own_set ho hna 0 (.slice Ak k ck)) hna 1 (.string p)) (show w.heap.size ≤ Q + 1 by omega))
      have HBF := Lib.hid ((HBL.out.setCell (p := ⟨P + 1, 0, none⟩) (show w.heap.size ≤ P + 1 by have := HPE.out; omega) (.slice Ak k ck)).setCell (p := ⟨P + 1, 1, none⟩) (show w.heap.size ≤ P + 1 by have := HPE.out; omega) (.string p))
      have HLO := Lib.hid hlo
      clear ho hna
      go_wp2_with fail
      refine bodyPost_ret (results_st_tmp rfl _ _ (P + 1) _ #[.slice Ak k ck, .string p] _ _ rfl HPF.out Tryz.underlying25 ⟨_, rfl⟩ whlSize) rfl ⟨Ak, ck, by rw [HLO.out]; rfl, HOF.out, HBF.out⟩

/-- how many days there are with n rotors and P pairs -/
def dayC (n P : Nat) : Nat := fct n * 10 ^ n * cnt 10 P * 10 ^ n
theorem pow_le3 {n : Nat} (h : n ≤ 3) : 1 ≤ 10 ^ n ∧ 10 ^ n ≤ 1000 := ⟨Nat.one_le_pow _ _ (by omega), Nat.le_trans (Nat.pow_le_pow_right (by omega) h) (by decide)⟩
theorem dayC_le {n P : Nat} (hn : n ≤ 3) (hP : P ≤ 5) : fct n ≤ 6 ∧ fct n * 10 ^ n ≤ 6000 ∧ fct n * 10 ^ n * cnt 10 P ≤ 28350000 ∧ dayC n P ≤ 28350000000 := by
  have h1 := (fct_le3 ⟨n, by omega⟩).2
  simp only at h1
  have h2 := (pow_le3 hn).2
  have h3 := cnt_le (m := 10) (P := P) (by omega) hP
  have h4 : fct n * 10 ^ n ≤ 6 * 1000 := Nat.mul_le_mul h1 h2
  have h5 : fct n * 10 ^ n * cnt 10 P ≤ 6000 * 4725 := Nat.mul_le_mul h4 h3
  have h6 : fct n * 10 ^ n * cnt 10 P * 10 ^ n ≤ 28350000 * 1000 := Nat.mul_le_mul h5 h2
  exact ⟨h1, h4, h5, h6⟩
/-- the values of a day's sizes -/
abbrev dayV (n P : Nat) : Value := .agg #[.int .i64 ((fct n : Nat) : Int), .int .i64 ((10 ^ n : Nat) : Int), .int .i64 ((cnt 10 P : Nat) : Int)]

theorem SB.tri {w : World} {p : Nat} {a b c : Value} {T : TypeId} (h : SB w p #[a, b, c] T) : (w.cell? ⟨p, 0, none⟩ = some a ∧ w.cell? ⟨p, 1, none⟩ = some b ∧ w.cell? ⟨p, 2, none⟩ = some c) ∧ w.frozen? ⟨p, 0, none⟩ = false ∧ w.frozen? ⟨p, 1, none⟩ = false ∧ w.frozen? ⟨p, 2, none⟩ = false :=
  ⟨⟨h.cell 0 a rfl, h.cell 1 b rfl, h.cell 2 c rfl⟩, h.frozen 0, h.frozen 1, h.frozen 2⟩
theorem SB.triPut {w : World} {p : Nat} {a b c : Value} {T : TypeId} (h : SB w p #[a, b, c] T) (e f g : Value) : SB (((w.setCell ⟨p, 0, none⟩ e).setCell ⟨p, 1, none⟩ f).setCell ⟨p, 2, none⟩ g) p #[e, f, g] T := ((h.put 0 e).put 1 f).put 2 g
theorem bel_tri {a w : World} {B p : Nat} (h : Below B a w) (hp : B ≤ p) (e f g : Value) : Below B a (((w.setCell ⟨p, 0, none⟩ e).setCell ⟨p, 1, none⟩ f).setCell ⟨p, 2, none⟩ g) := ((h.setCell hp _).setCell hp _).setCell hp _
theorem daySize : (Tryz.prog.info? 56).map (·.size) = some 3 := by kernel_rfl

set_option maxHeartbeats 4000000 in
set_option maxRecDepth 100000 in
theorem newDays_yes (w : World) (A : Option Addr) (cap : Nat) (rs : List (ByteArray × ByteArray)) (p : ByteArray) (P : Nat) (x : Int) (hx : x = (P : Int)) (h : Rd w w.heap.size A (rotV rs)) (hc : rs.length ≤ cap) (hv : WheelsV rs p) (hP : P ≤ 5) :
    Calls Tryz.prog 25 #[.agg #[.slice A rs.length cap, .string p], .int .i64 x] w fun e w' => e = .returned (.tuple #[dayV rs.length P, .bool true]) ∧ Below w.heap.size w w' := by
  subst hx
  obtain ⟨w0, hw0⟩ : ∃ w0, w0 = (w.alloc (.cells #[.slice A rs.length cap, .string p] 25)).alloc (.cells #[.int .i64 0, .int .i64 0, .int .i64 0] 56) := ⟨_, rfl⟩
  obtain ⟨hb0, hs0, hq0⟩ := two_sbs w _ _ _ _ w0 hw0
  have hl3 : rs.length ≤ 3 := hv.2.1
  have hwv := fun (w' : World) (h' : Rd w' w'.heap.size A (rotV rs)) => wheelsValid_any w' A cap rs p true h' hc (by omega) (by simp [hv])
  have hrd0 := (h.below hb0).mono hb0.size
  have hfa := fun (w' : World) => factorial_is w' rs.length _ rfl (by omega)
  have hbc := fun (w' : World) => boardCount_is w' P _ rfl hP
  obtain ⟨M, hM⟩ : ∃ M, M = rs.length := ⟨_, rfl⟩
  rw [← hM] at hw0 hs0 hwv hc hl3 hfa ⊢
  obtain ⟨B, hB⟩ : ∃ B, B = w.heap.size := ⟨_, rfl⟩
  rw [← hB] at hs0 hq0
  have HB0 := Lib.hid hb0; have HS0 := Lib.hid hs0; have HQ0 := Lib.hid hq0; have HWV := Lib.hid hwv; have HRD := Lib.hid hrd0; have HFA := Lib.hid hfa; have HBC := Lib.hid hbc; have HBE := Lib.hid hB
  clear hb0 hs0 hq0 hwv hrd0 hM h hv hfa hbc
  obtain ⟨c0, c1⟩ := HS0.out.two_cells
  unfold dayV
  generalize fct M = F at HFA ⊢
  generalize cnt 10 P = C at HBC ⊢
  go_enter Tryz.func25, Tryz.ntmps25
  go_wp2_with fail
  rw [← hw0, ← hB]
  clear hw0 hB
  go_wp2_with fail
  refine (HWV.out _ HRD.out).mono ?_
  rintro _ w1 ⟨rfl, hb1⟩
  have HB1 := Lib.hid (HB0.out.trans (hb1.mono HB0.out.size)); have HS1 := Lib.hid (HS0.out.below hb1); have HQ1 := Lib.hid (HQ0.out.below hb1)
  clear hb1 c0 c1 HB0 HRD HS0 HQ0
  obtain ⟨c0, c1⟩ := HS1.out.two_cells
  go_wp2_with fail
  refine (HFA.out _).mono ?_
  rintro _ _ ⟨rfl, rfl⟩
  go_wp2_with fail
  refine (HBC.out _).mono ?_
  rintro _ _ ⟨rfl, rfl⟩
  obtain ⟨w2, hw2⟩ : ∃ w2, w2 = w1.alloc (.cells #[.int .i64 (F : Int), .int .i64 1, .int .i64 (C : Int)] 56) := ⟨_, rfl⟩
  have hal : Below w1.heap.size w1 w2 := by rw [hw2]; exact (Below.refl _ _).alloc (Nat.le_refl _) _
  have hd2 : SB w2 w1.heap.size #[.int .i64 (F : Int), .int .i64 1, .int .i64 (C : Int)] 56 := by rw [hw2]; exact SB.made w1 _ _
  have HB2 := Lib.hid (HB1.out.trans (hal.mono HB1.out.size)); have HS2 := Lib.hid (HS1.out.below hal); have HQ2 := Lib.hid (HQ1.out.below hal)
  obtain ⟨D, hD⟩ : ∃ D, D = w1.heap.size := ⟨_, rfl⟩
  have hBD : B + 1 < D := by rw [hD]; exact HQ1.out.lt
  have hwD : w.heap.size ≤ D := by rw [hD]; exact HB1.out.size
  rw [← hD] at hd2
  have HD2 := Lib.hid hd2
  obtain ⟨m0, m1⟩ := HS2.out.two_cells
  rw [hw2] at m0 m1
  clear hal hd2 HB1 HS1 HQ1 c0 c1
  go_wp2_with fail
  rw [← hw2, ← hD]
  clear hw2 hD m0 m1
  go_loopw [29] (fun i wr => ∃ k : Nat, i = .int .i64 (k : Int) ∧ k ≤ M ∧ Hid (SB wr D #[.int .i64 (F : Int), .int .i64 ((10 ^ k : Nat) : Int), .int .i64 (C : Int)] 56) ∧ Hid (SB wr (B + 1) #[.int .i64 0, .int .i64 0, .int .i64 0] 56) ∧ Hid (Below w.heap.size w wr)) (fun i _ => M - (intOf i).toNat)
  case atStart => exact ⟨0, rfl, Nat.zero_le _, by simpa using HD2, HQ2, HB2⟩
  case round =>
    obtain ⟨k, rfl, hk, HD, HQ, HBL⟩ := hrel
    clear HD2 HQ2 HB2 HS2
    obtain ⟨⟨d0, d1, d2⟩, f0, f1, f2⟩ := HD.out.tri
    by_cases hlt : k < M
    · have v0 : (k : Int) < (M : Int) := by omega
      have hp3 := (pow_le3 (show k ≤ 3 by omega)).2
      have hnx : 10 ^ (k + 1) = 10 ^ k * 10 := Nat.pow_succ ..
      have hw1 : IntKind.i64.wrap (((10 ^ k : Nat) : Int) * 10) = ((10 ^ (k + 1) : Nat) : Int) := by rw [IntKind.wrap_i64, hnx]; omega
      have hw2 : wrap64 (((10 ^ k : Nat) : Int) * 10) = ((10 ^ (k + 1) : Nat) : Int) := by unfold wrap64; rw [hnx]; omega
      have HD6 := Lib.hid (HD.out.put 1 (.int .i64 ((10 ^ (k + 1) : Nat) : Int)))
      have HQ6 := Lib.hid (HQ.out.far (show B + 1 ≠ D by omega) 1 (.int .i64 ((10 ^ (k + 1) : Nat) : Int)))
      have HB6 := Lib.hid (HBL.out.setCell hwD (p := ⟨D, 1, none⟩) (.int .i64 ((10 ^ (k + 1) : Nat) : Int)))
      clear hnx
      generalize hX : 10 ^ (k + 1) = X at hw1 hw2 HD6 HQ6 HB6
      have HX := Lib.hid hX
      clear hX
      generalize 10 ^ k = Y at d1 hp3 hw1 hw2
      go_wp2_with fail
      go_roundw
      case rel => exact ⟨k + 1, by go_num, by omega, by rw [HX.out]; exact HD6, HQ6, HB6⟩
      case measure => simp [intOf]; omega
    · obtain rfl : k = M := by omega
      have v0 : ¬ (k : Int) < (k : Int) := by omega
      obtain ⟨_, g0, g1, g2⟩ := HQ.out.tri
      obtain ⟨⟨y0, y1, y2⟩, _⟩ := HQ.out.tri
      have HQF := Lib.hid (HQ.out.triPut (.int .i64 (F : Int)) (.int .i64 ((10 ^ k : Nat) : Int)) (.int .i64 (C : Int)))
      have HBF := Lib.hid (bel_tri HBL.out (show w.heap.size ≤ B + 1 by have := HBE.out; omega) (.int .i64 (F : Int)) (.int .i64 ((10 ^ k : Nat) : Int)) (.int .i64 (C : Int)))
      generalize hY : 10 ^ k = Y at d1 HQF HBF
      have HY := Lib.hid hY
      clear hY
      go_wp2_with fail
      refine bodyPost_ret (results_st_tmp rfl _ _ (B + 1) _ #[.int .i64 (F : Int), .int .i64 (Y : Int), .int .i64 (C : Int)] _ _ rfl HQF.out Tryz.underlying56 ⟨_, rfl⟩ daySize) rfl ⟨by first | rfl | (rw [HY.out]; rfl) | (rw [← HY.out]; rfl), HBF.out⟩

set_option maxHeartbeats 4000000 in
set_option maxRecDepth 100000 in
theorem newDays_no (w : World) (A : Option Addr) (cap : Nat) (rs : List (ByteArray × ByteArray)) (p : ByteArray) (x : Int) (h : Rd w w.heap.size A (rotV rs)) (hc : rs.length ≤ cap) (hl : rs.length ≤ 100) (hn : ¬ (WheelsV rs p ∧ 0 ≤ x ∧ x ≤ 5)) :
    Calls Tryz.prog 25 #[.agg #[.slice A rs.length cap, .string p], .int .i64 x] w fun e w' => e = .returned (.tuple #[.agg #[.int .i64 0, .int .i64 0, .int .i64 0], .bool false]) ∧ Below w.heap.size w w' := by
  obtain ⟨w0, hw0⟩ : ∃ w0, w0 = (w.alloc (.cells #[.slice A rs.length cap, .string p] 25)).alloc (.cells #[.int .i64 0, .int .i64 0, .int .i64 0] 56) := ⟨_, rfl⟩
  obtain ⟨hb0, hs0, hq0⟩ := two_sbs w _ _ _ _ w0 hw0
  obtain ⟨b, hb⟩ : ∃ b : Bool, b = true ↔ WheelsV rs p := ⟨@decide _ (Classical.propDecidable _), @decide_eq_true_iff _ (Classical.propDecidable _)⟩
  have hwv := fun (w' : World) (h' : Rd w' w'.heap.size A (rotV rs)) => wheelsValid_any w' A cap rs p b h' hc hl hb
  have hrd0 := (h.below hb0).mono hb0.size
  have hno : b = true → ¬ (0 ≤ x ∧ x ≤ 5) := fun e hx => hn ⟨hb.1 e, hx⟩
  obtain ⟨M, hM⟩ : ∃ M, M = rs.length := ⟨_, rfl⟩
  rw [← hM] at hw0 hs0 hwv hc ⊢
  obtain ⟨B, hB⟩ : ∃ B, B = w.heap.size := ⟨_, rfl⟩
  have hBw : w.heap.size ≤ B + 1 := by omega
  rw [← hB] at hs0 hq0
  have HB0 := Lib.hid hb0; have HS0 := Lib.hid hs0; have HQ0 := Lib.hid hq0; have HWV := Lib.hid hwv; have HRD := Lib.hid hrd0
  clear hb0 hs0 hq0 hwv hrd0 hM h hl hn hb
  obtain ⟨c0, c1⟩ := HS0.out.two_cells
  go_enter Tryz.func25, Tryz.ntmps25
  go_wp2_with fail
  rw [← hw0, ← hB]
  clear hw0 hB
  go_wp2_with fail
  refine (HWV.out _ HRD.out).mono ?_
  rintro _ w1 ⟨rfl, hb1⟩
  have HB1 := Lib.hid (HB0.out.trans (hb1.mono HB0.out.size)); have HQ1 := Lib.hid (HQ0.out.below hb1)
  clear hb1 c0 c1 HB0 HRD HS0 HQ0
  obtain ⟨⟨y0, y1, y2⟩, g0, g1, g2⟩ := HQ1.out.tri
  have HQF := Lib.hid (HQ1.out.triPut (.int .i64 0) (.int .i64 0) (.int .i64 0))
  have HBF := Lib.hid (bel_tri HB1.out hBw (.int .i64 0) (.int .i64 0) (.int .i64 0))
  cases b with
  | false =>
    go_wp2_with fail
    refine bodyPost_ret (results_st_tmp rfl _ _ (B + 1) _ #[.int .i64 0, .int .i64 0, .int .i64 0] _ _ rfl HQF.out Tryz.underlying56 ⟨_, rfl⟩ daySize) rfl ⟨rfl, HBF.out⟩
  | true =>
    have hx := hno rfl
    clear hno
    by_cases h0 : x < 0
    · go_wp2_with fail
      refine bodyPost_ret (results_st_tmp rfl _ _ (B + 1) _ #[.int .i64 0, .int .i64 0, .int .i64 0] _ _ rfl HQF.out Tryz.underlying56 ⟨_, rfl⟩ daySize) rfl ⟨rfl, HBF.out⟩
    · have h5 : x > 5 := by omega
      clear hx
      go_wp2_with fail
      refine bodyPost_ret (results_st_tmp rfl _ _ (B + 1) _ #[.int .i64 0, .int .i64 0, .int .i64 0] _ _ rfl HQF.out Tryz.underlying56 ⟨_, rfl⟩ daySize) rfl ⟨rfl, HBF.out⟩

theorem div_pow_lt {n len : Nat} (h : n < 10 ^ len) : n / 10 ^ len = 0 := Nat.div_eq_of_lt h

set_option maxHeartbeats 4000000 in
set_option maxRecDepth 100000 in
theorem valueWord_is (w : World) (n len : Nat) (a b : Int) (ha : a = (n : Int)) (hb : b = (len : Int)) (hl : len ≤ 3) (hn : n < 10 ^ len) :
    Calls Tryz.prog 27 #[.int .i64 a, .int .i64 b] w fun e w' => e = .returned (.tuple #[.string (pT (valD len n)), .bool true]) ∧ Below w.heap.size w w' := by
  subst ha hb
  obtain ⟨iB, hi, hz0, hz1, hz2⟩ := info_parts Tryz.infoB
  have HI := Lib.hid hi; have HZ0 := Lib.hid hz0; have HZ1 := Lib.hid hz1; have HZ2 := Lib.hid hz2
  clear hi hz0 hz1 hz2
  have hn3 : n < 1000 := Nat.lt_of_lt_of_le hn (Nat.le_trans (Nat.pow_le_pow_right (by omega) hl) (by decide))
  have hz := div_pow_lt hn
  have HZ := Lib.hid hz
  clear hz hn
  go_enter Tryz.func27, Tryz.ntmps27
  go_wp2_with (at_make; refine wpList_make_full _ rfl _ _ 22 rfl w.heap.size 5 iB (.int .u8 0) 1 Tryz.underlying22 HI.out HZ0.out HZ1.out .i64 .i64 _ _ len rfl rfl rfl rfl (by rw [HZ2.out]; omega) (by unfold maxLen; omega) (Nat.le_refl _) ?_; intro w2 ho2 hg2)
  rw [made_bytes] at ho2
  have hb2 : Below w.heap.size w w2 := Below.grown (Below.refl _ _) hg2 (Nat.le_refl _) (by simp)
  obtain ⟨G, hG⟩ : ∃ G, G = w.heap.size := ⟨_, rfl⟩
  rw [← hG] at ho2 ⊢
  have HO2 := Lib.hid ho2; have HB2 := Lib.hid hb2; have HG := Lib.hid hG; clear ho2 hb2 hg2 hG
  go_wp2_with fail
  go_loopw [0, 7] (fun v i wr => ∃ k j m : Nat, i = .int .i64 ((k : Int) - 1) ∧ k + j = len ∧ v = .int .i64 (m : Int) ∧ m = n / 10 ^ j ∧ Hid (wr.ownsRow G 5 1 (.slice (some ⟨G, 0, none⟩) len len) len (bytesV (List.replicate k 0 ++ (valD j n).map letter))) ∧ Hid (Below w.heap.size w wr)) (fun _ i _ => (intOf i + 1).toNat)
  case atStart => exact ⟨len, 0, n, by go_num, rfl, rfl, by simp, by simpa [valD] using HO2, HB2⟩
  case round =>
    obtain ⟨k, j, m, rfl, hk, rfl, hm, HO, HBL⟩ := hrel
    clear HO2 HB2
    have hmn : m < 1000 := by rw [hm]; exact Nat.lt_of_le_of_lt (Nat.div_le_self _ _) hn3
    by_cases hlt : 0 < k
    · have v0 : (k : Int) - 1 ≥ 0 := by omega
      have hst := (HO.out.stored (k - 1) (.int .u8 (letter (m % 10)).toNat)).1
      have hnx : (List.replicate k 0 ++ (valD j n).map letter).set (k - 1) (letter (m % 10)) = List.replicate (k - 1) 0 ++ (valD (j + 1) n).map letter := by
        rw [valD_cons, ← hm, List.map_cons, List.set_append_left _ _ (by rw [List.length_replicate]; omega)]
        have e : List.replicate k (0 : UInt8) = List.replicate (k - 1) 0 ++ [0] := by rw [← List.replicate_succ', show k - 1 + 1 = k by omega]
        rw [e, List.set_append_right _ _ (by rw [List.length_replicate]; exact Nat.le_refl _), List.length_replicate, Nat.sub_self]
        simp
      rw [bytesV_set, hnx] at hst
      have f0 := HO.out.frozenAt (k - 1)
      obtain ⟨x1, c1⟩ : ∃ x, wr.cell? ⟨G, k - 1, none⟩ = some x := ⟨_, by rw [HO.out.cellAt (k - 1) (by omega), List.getElem?_eq_getElem (by rw [length_bytesV]; simp [valD_len]; omega)]⟩
      have hnxt : m / 10 = n / 10 ^ (j + 1) := by rw [hm, Nat.div_div_eq_div_mul, Nat.pow_succ]
      have w1 : ((m : Int)).tmod 10 = ((m % 10 : Nat) : Int) := by rw [Int.tmod_eq_emod_of_nonneg (by omega)]; omega
      have w2 : ((m : Int)).tdiv 10 = ((m / 10 : Nat) : Int) := by rw [Int.tdiv_eq_ediv_of_nonneg (by omega)]; omega
      have w3 : ((k : Int) - 1).toNat = k - 1 := by omega
      have hbf := HBL.out.setCell (p := ⟨G, k - 1, none⟩) (show w.heap.size ≤ G by have := HG.out; omega) (.int .u8 (letter (m % 10)).toNat)
      have HST := Lib.hid hst; have HNT := Lib.hid hnxt; have HBF := Lib.hid hbf
      have HLT := Lib.hid (letter_any (m % 10) wr (by omega))
      clear hst hnx hnxt hm hbf
      go_wp2_with fail
      rw [show ((m : Int) % 10) = ((m % 10 : Nat) : Int) by omega]
      refine HLT.out.mono ?_
      rintro _ _ ⟨rfl, rfl⟩
      go_wp2_with fail
      go_roundw
      case rel => exact ⟨k - 1, j + 1, m / 10, by go_num, by omega, by go_num, HNT.out, HST, HBF⟩
      case measure => simp [intOf]; omega
    · obtain rfl : k = 0 := by omega
      obtain rfl : j = len := by omega
      rw [HZ.out] at hm
      subst hm
      have ho := HO.out
      rw [List.replicate_zero, List.nil_append] at ho
      have hcv := own_conv ho (by simp [valD_len]) j
      rw [show mk ((valD j n).map letter) = pT (valD j n) from rfl] at hcv
      have HCV := Lib.hid hcv
      clear ho hcv
      have hcv := HCV.out
      go_wp2_with fail
      go_ret2
      exact ⟨rfl, HBL.out⟩

set_option maxHeartbeats 4000000 in
set_option maxRecDepth 100000 in
theorem sValueWord_is (w : World) (n len : Nat) (a b : Int) (ha : a = (n : Int)) (hb : b = (len : Int)) (hl : len ≤ 3) (hn : n < 10 ^ len) :
    Calls Tryz.prog 32 #[.int .i64 a, .int .i64 b] w fun e w' => e = .returned (.tuple #[.string (pT (valD len n)), .bool true]) ∧ Below w.heap.size w w' := by
  subst ha hb
  have hn3 : n < 1000 := Nat.lt_of_lt_of_le hn (Nat.le_trans (Nat.pow_le_pow_right (by omega) hl) (by decide))
  have hz := div_pow_lt hn
  have HZ := Lib.hid hz
  clear hz hn
  go_enter Tryz.func32, Tryz.ntmps32
  go_wp2_with fail
  refine (l1In_is _ 0 9 true _ (by simp; omega)).mono ?_
  rintro _ _ ⟨rfl, rfl⟩
  go_wp2_with fail
  go_loopw [0, 6, 7] (fun v s i wr => ∃ j m : Nat, i = .int .i64 (j : Int) ∧ j ≤ len ∧ v = .int .i64 (m : Int) ∧ m = n / 10 ^ j ∧ s = .string (pT (valD j n)) ∧ Hid (Below w.heap.size w wr)) (fun _ _ i _ => len - (intOf i).toNat)
  case atStart => exact ⟨0, n, rfl, Nat.zero_le _, rfl, by simp, by first | rfl | (simp [valD, pT]; rfl), Lib.hid (Below.refl _ _)⟩
  case round =>
    obtain ⟨j, m, rfl, hj, rfl, hm, rfl, HBL⟩ := hrel
    have hmn : m < 1000 := by rw [hm]; exact Nat.lt_of_le_of_lt (Nat.div_le_self _ _) hn3
    by_cases hlt : j < len
    · have v0 : (j : Int) < (len : Int) := by omega
      have hnx : mk [letter (m % 10)] ++ pT (valD j n) = pT (valD (j + 1) n) := by
        rw [valD_cons, ← hm]; unfold pT; rw [mk_append]; rfl
      have hz1 : (mk [letter (m % 10)]).size ≤ 1 := by rw [size_mk]; simp
      have hz2 : (pT (valD j n)).size ≤ 3 := by rw [pT_size, valD_len]; omega
      have hnxt : m / 10 = n / 10 ^ (j + 1) := by rw [hm, Nat.div_div_eq_div_mul, Nat.pow_succ]
      have HLT := Lib.hid (l1Letter_is wr ((m : Int) % 10) (m % 10) (by omega) (by omega))
      have HNX := Lib.hid hnx; have HNT := Lib.hid hnxt
      clear hnx hnxt hm
      generalize hT2 : pT (valD (j + 1) n) = T2 at HNX
      have HT2 := Lib.hid hT2
      clear hT2
      generalize pT (valD j n) = T1 at hz2 HNX ⊢
      go_wp2_with fail
      refine HLT.out.mono ?_
      rintro _ w3 ⟨rfl, hb3⟩
      have HB3 := Lib.hid (HBL.out.trans (hb3.mono HBL.out.size))
      clear hb3
      generalize mk [letter (m % 10)] = C at hz1 HNX ⊢
      go_wp2_with fail
      go_roundw
      case rel => exact ⟨j + 1, m / 10, by go_num, by omega, by go_num, HNT.out, by rw [HNX.out, HT2.out], HB3⟩
      case measure => simp [intOf]; omega
    · obtain rfl : j = len := by omega
      have v0 : ¬ (j : Int) < (j : Int) := by omega
      rw [HZ.out] at hm
      subst hm
      go_wp2_with fail
      go_ret2
      exact ⟨rfl, HBL.out⟩

theorem day_muls {n P : Nat} (hn : n ≤ 3) (hP : P ≤ 5) :
    wrap64 (((fct n : Nat) : Int) * ((10 ^ n : Nat) : Int)) = ((fct n * 10 ^ n : Nat) : Int) ∧ wrap64 (((fct n * 10 ^ n : Nat) : Int) * ((cnt 10 P : Nat) : Int)) = ((fct n * 10 ^ n * cnt 10 P : Nat) : Int) ∧ wrap64 (((fct n * 10 ^ n * cnt 10 P : Nat) : Int) * ((10 ^ n : Nat) : Int)) = ((dayC n P : Nat) : Int) := by
  obtain ⟨h1, h2, h3, h4⟩ := dayC_le hn hP
  have hw : ∀ x : Nat, x ≤ 28350000000 → wrap64 ((x : Nat) : Int) = ((x : Nat) : Int) := fun x hx => by unfold wrap64; omega
  refine ⟨?_, ?_, ?_⟩
  · rw [← Int.natCast_mul]; exact hw _ (Nat.le_trans h2 (by decide))
  · rw [← Int.natCast_mul]; exact hw _ (Nat.le_trans h3 (by decide))
  · rw [← Int.natCast_mul]; exact hw _ h4

set_option maxHeartbeats 4000000 in
set_option maxRecDepth 100000 in
theorem dayCount_yes (w : World) (A : Option Addr) (cap : Nat) (rs : List (ByteArray × ByteArray)) (p : ByteArray) (P : Nat) (x : Int) (hx : x = (P : Int)) (h : Rd w w.heap.size A (rotV rs)) (hc : rs.length ≤ cap) (hv : WheelsV rs p) (hP : P ≤ 5) :
    Calls Tryz.prog 26 #[.agg #[.slice A rs.length cap, .string p], .int .i64 x] w fun e w' => e = .returned (.int .i64 ((dayC rs.length P : Nat) : Int)) ∧ Below w.heap.size w w' := by
  have hl3 : rs.length ≤ 3 := hv.2.1
  obtain ⟨m1, m2, m3⟩ := day_muls hl3 hP
  have hnd := fun (w' : World) (h' : Rd w' w'.heap.size A (rotV rs)) => newDays_yes w' A cap rs p P x hx h' hc hv hP
  obtain ⟨w0, hw0⟩ : ∃ w0, w0 = w.alloc (.cells #[.slice A rs.length cap, .string p] 25) := ⟨_, rfl⟩
  have hb0 : Below w.heap.size w w0 := by rw [hw0]; exact (Below.refl _ _).alloc (Nat.le_refl _) _
  have hs0 : SB w0 w.heap.size #[.slice A rs.length cap, .string p] 25 := by rw [hw0]; exact SB.made w _ _
  have HB0 := Lib.hid hb0; have HS0 := Lib.hid hs0; have HRD := Lib.hid ((h.below hb0).mono hb0.size); have HND := Lib.hid hnd
  clear h hb0 hs0 hnd hv hx
  unfold dayV at HND
  generalize dayC rs.length P = T at m3 ⊢
  generalize fct rs.length * 10 ^ rs.length * cnt 10 P = T2 at m2 m3
  generalize fct rs.length * 10 ^ rs.length = T1 at m1 m2
  generalize fct rs.length = F at m1 HND
  generalize 10 ^ rs.length = W at m1 m3 HND
  generalize cnt 10 P = C at m2 HND
  generalize rs.length = M at hw0 HS0 HND ⊢
  obtain ⟨c0, c1⟩ := HS0.out.two_cells
  go_enter Tryz.func26, Tryz.ntmps26
  go_wp2_with fail
  rw [← hw0]
  clear hw0
  go_wp2_with fail
  refine (HND.out _ HRD.out).mono ?_
  rintro _ w1 ⟨rfl, hb1⟩
  have HB1 := Lib.hid (HB0.out.trans (hb1.mono HB0.out.size))
  clear hb1 c0 c1
  go_wp2_with fail
  go_ret
  exact ⟨by rw [← m3, ← m2, ← m1]; rfl, HB1.out.alloc HB1.out.size _⟩

set_option maxHeartbeats 4000000 in
set_option maxRecDepth 100000 in
theorem sDayCount_yes (w : World) (A : Option Addr) (cap : Nat) (rs : List (ByteArray × ByteArray)) (p : ByteArray) (P : Nat) (x : Int) (hx : x = (P : Int)) (h : Rd w w.heap.size A (rotV rs)) (hc : rs.length ≤ cap) (hv : WheelsV rs p) (hP : P ≤ 5) :
    Calls Tryz.prog 23 #[.agg #[.slice A rs.length cap, .string p], .int .i64 x] w fun e w' => e = .returned (.int .i64 ((dayC rs.length P : Nat) : Int)) ∧ Below w.heap.size w w' := by
  subst hx
  have hl3 : rs.length ≤ 3 := hv.2.1
  obtain ⟨m1, m2, m3⟩ := day_muls hl3 hP
  have hwv := fun (w' : World) (h' : Rd w' w'.heap.size A (rotV rs)) => sWheelsValid_any w' A cap rs p true h' hc (by omega) (by simp [hv])
  have hsz := fun (w' : World) => sSize_is w' rs.length _ rfl hl3
  have hor := fun (w' : World) => sOrders_is w' rs.length _ rfl hv.1 hl3
  have hbc := fun (w' : World) => sBoardCount_is w' P _ rfl hP
  obtain ⟨w0, hw0⟩ : ∃ w0, w0 = w.alloc (.cells #[.slice A rs.length cap, .string p] 25) := ⟨_, rfl⟩
  have hb0 : Below w.heap.size w w0 := by rw [hw0]; exact (Below.refl _ _).alloc (Nat.le_refl _) _
  have hs0 : SB w0 w.heap.size #[.slice A rs.length cap, .string p] 25 := by rw [hw0]; exact SB.made w _ _
  have HB0 := Lib.hid hb0; have HS0 := Lib.hid hs0; have HRD := Lib.hid ((h.below hb0).mono hb0.size); have HWV := Lib.hid hwv; have HSZ := Lib.hid hsz; have HOR := Lib.hid hor; have HBC := Lib.hid hbc
  clear h hb0 hs0 hwv hsz hor hbc hv
  generalize dayC rs.length P = T at m3 ⊢
  generalize fct rs.length * 10 ^ rs.length * cnt 10 P = T2 at m2 m3
  generalize fct rs.length * 10 ^ rs.length = T1 at m1 m2
  unfold OrdsMade at HOR
  generalize fct rs.length = F at m1 HOR
  generalize 10 ^ rs.length = W at m1 m3 HSZ
  generalize cnt 10 P = C at m2 HBC
  generalize rs.length = M at hw0 HS0 HWV HSZ HOR ⊢
  obtain ⟨P0, hP0⟩ : ∃ P0, P0 = w.heap.size := ⟨_, rfl⟩
  rw [← hP0] at HS0
  obtain ⟨c0, c1⟩ := HS0.out.two_cells
  go_enter Tryz.func23, Tryz.ntmps23
  go_wp2_with fail
  rw [← hw0, ← hP0]
  clear hw0 hP0
  go_wp2_with fail
  refine (HWV.out _ HRD.out).mono ?_
  rintro _ w1 ⟨rfl, hb1⟩
  have HB1 := Lib.hid (HB0.out.trans (hb1.mono HB0.out.size)); have HS1 := Lib.hid (HS0.out.below hb1)
  clear hb1 c0 c1 HB0 HS0 HRD
  obtain ⟨c0, c1⟩ := HS1.out.two_cells
  go_wp2_with fail
  refine (l1In_is _ 0 5 true _ (by simp; omega)).mono ?_
  rintro _ _ ⟨rfl, rfl⟩
  go_wp2_with fail
  refine (HSZ.out _).mono ?_
  rintro _ _ ⟨rfl, rfl⟩
  go_wp2_with fail
  refine (HOR.out _).mono ?_
  rintro _ w2 ⟨Bo, rfl, _, hb2⟩
  have HB2 := Lib.hid (HB1.out.trans (hb2.mono HB1.out.size))
  clear hb2 c0 c1 HB1 HS1
  go_wp2_with fail
  refine (HBC.out _).mono ?_
  rintro _ w3 ⟨rfl, hb3⟩
  have HB3 := Lib.hid (HB2.out.trans (hb3.mono HB2.out.size))
  clear hb3
  go_wp2_with fail
  go_ret
  exact ⟨by rw [← m3, ← m2, ← m1]; rfl, HB3.out⟩

end Go.Proofs.YtipcodebmemkpaaGreatDoor
