/-
  What laws.rcNumber answers: the decimal numeral. Conditions: what the theorem names.
-/
import Derived.Test.YtipcodebmemkpaaGreatDoorMem
import Derived.Test.YtipcodebmemkpaaGreatDoorWords
import Derived.Test.YtipcodebmemkpaaGreatDoorPlainN
namespace Go.Proofs.YtipcodebmemkpaaGreatDoor
open Go.RowKit Pl
set_option linter.unusedVariables false

theorem dec_len (n : Nat) (hn : n ≤ 1000000000000) : (Go.Lib.decDigits n).length ≤ 14 := by
  have key : ∀ f u : Nat, u < 10 ^ (f + 1) → (Go.Lib.decDigits u).length ≤ f + 1 := by
    intro f
    induction f with
    | zero => intro u hu; rw [Go.Lib.decDigits, dif_pos (by simp at hu; omega)]; simp
    | succ f ih =>
      intro u hu
      rw [Go.Lib.decDigits]
      split
      · simp
      · have := ih (u / 10) (by rw [Nat.pow_succ] at hu; omega)
        rw [List.length_append]; simp; omega
  exact Nat.le_trans (key 12 n (by omega)) (by omega)
theorem dec_big {u : Nat} (h : ¬ u < 10) : Go.Lib.decDigits u = Go.Lib.decDigits (u / 10) ++ [UInt8.ofNat (48 + u % 10)] := by
  conv => lhs; rw [Go.Lib.decDigits]
  rw [dif_neg h]
theorem dec_small {u : Nat} (h : u < 10) : Go.Lib.decDigits u = [UInt8.ofNat (48 + u % 10)] := by
  rw [Go.Lib.decDigits, dif_pos h, Nat.mod_eq_of_lt h]

set_option maxHeartbeats 2000000 in
theorem rcNumber_any (w : World) (n : Nat) (hn : n ≤ 1000000000000) :
    Calls Tryz.prog 11 #[.int .i64 n] w fun e w' => e = .returned (.string (mk (Go.Lib.decDigits n))) ∧ Below w.heap.size w w' := by
  have hdl := dec_len n hn
  have HDL := Lib.hid hdl; clear hdl
  go_enter Tryz.func11, Tryz.ntmps11
  go_wp2_with fail
  go_loopw [0, 3] (fun nv ov wr => ∃ (m : Nat) (o : List UInt8), nv = .int .i64 m ∧ ov = .string (mk o) ∧ m ≤ n ∧ Hid (Go.Lib.decDigits n = Go.Lib.decDigits m ++ o) ∧ Below w.heap.size w wr) (fun nv _ _ => (intOf nv).toNat)
  case atStart => exact ⟨n, [], rfl, rfl, Nat.le_refl _, Lib.hid (by simp), Below.refl _ _⟩
  case round =>
    obtain ⟨m, o, rfl, rfl, hm, HE, hbl⟩ := hrel
    have HBL := Lib.hid hbl; clear hbl
    have hol : (mk o).size ≤ 14 := by
      have h1 := HDL.out
      rw [HE.out, List.length_append] at h1
      rw [size_mk]; omega
    have hcv := conv_one (P := Tryz.prog) 22 9 5 Tryz.underlying22 Tryz.underlying5 Tryz.underlying9 (48 + (m : Int) % 10) (by omega) (by omega) wr
    rw [show (48 + (m : Int) % 10).toNat = 48 + m % 10 by omega] at hcv
    have hz1 : (mk [UInt8.ofNat (48 + m % 10)]).size ≤ 1 := by rw [size_mk]; simp
    have hap : mk [UInt8.ofNat (48 + m % 10)] ++ mk o = mk ([UInt8.ofNat (48 + m % 10)] ++ o) := mk_append _ _
    have HAP := Lib.hid hap; clear hap
    by_cases hlt : m < 10
    · have hfin : mk (Go.Lib.decDigits n) = mk [UInt8.ofNat (48 + m % 10)] ++ mk o := by rw [HE.out, dec_small hlt, HAP.out]
      have HF := Lib.hid hfin; clear hfin
      have hb : ((m : Int) / 10 == 0) = true := by simp; omega
      have hb2 : IntKind.i64.wrap ((m : Int) / 10) = 0 := by rw [IntKind.wrap_i64]; omega
      generalize mk [UInt8.ofNat (48 + m % 10)] = c at hcv hz1 HAP HF ⊢
      go_wp2_with fail
      go_ret
      exact ⟨by rw [HF.out]; rfl, HBL.out.alloc HBL.out.size _⟩
    · have hnx : Go.Lib.decDigits n = Go.Lib.decDigits (m / 10) ++ ([UInt8.ofNat (48 + m % 10)] ++ o) := by rw [HE.out, dec_big hlt, List.append_assoc]
      have HN := Lib.hid hnx; clear hnx
      have hb : ((m : Int) / 10 == 0) = false := by rw [beq_eq_false_iff_ne]; omega
      generalize mk [UInt8.ofNat (48 + m % 10)] = c at hcv hz1 HAP ⊢
      generalize [UInt8.ofNat (48 + m % 10)] ++ o = o2 at HAP HN
      go_wp2_with fail
      go_roundw
      case rel => exact ⟨m / 10, _, by go_num, by rw [HAP.out], by omega, HN, HBL.out.alloc HBL.out.size _⟩
      case measure => simp [intOf]; omega

end Go.Proofs.YtipcodebmemkpaaGreatDoor
