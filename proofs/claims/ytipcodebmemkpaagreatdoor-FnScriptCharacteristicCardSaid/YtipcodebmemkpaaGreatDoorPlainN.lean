/-
  Plain laws of decimal numerals. No program in sight.
-/
import Derived.Test.YtipcodebmemkpaaGreatDoorPlainU
import Derived.Lib.Atoi
namespace Go.Proofs.YtipcodebmemkpaaGreatDoor
open Pl
set_option linter.unusedVariables false

theorem dec_bounds : ∀ (f u : Nat), u < 10 ^ f → ∀ c ∈ Go.Lib.decDigits u, 48 ≤ c.toNat ∧ c.toNat ≤ 57 := by
  have one : ∀ u : Nat, u < 10 → 48 ≤ (UInt8.ofNat (48 + u)).toNat ∧ (UInt8.ofNat (48 + u)).toNat ≤ 57 := fun u hu => by
    rw [UInt8.toNat_ofNat', Nat.mod_eq_of_lt (by omega)]; omega
  intro f
  induction f with
  | zero => intro u hu c hc; rw [Go.Lib.decDigits, dif_pos (by simp at hu; omega)] at hc; rw [List.mem_singleton.1 hc]; exact one u (by simp at hu; omega)
  | succ f ih =>
    intro u hu c hc
    rw [Go.Lib.decDigits] at hc
    split at hc
    · rw [List.mem_singleton.1 hc]; exact one u (by assumption)
    · rcases List.mem_append.1 hc with h | h
      · exact ih (u / 10) (by rw [Nat.pow_succ] at hu; omega) c h
      · rw [List.mem_singleton.1 h]; exact one (u % 10) (Nat.mod_lt _ (by decide))
theorem decFrom_append : ∀ (l : List UInt8) (acc n : Nat) (b : UInt8) (d : Nat), Go.Lib.decFrom acc l = some n → Go.Lib.digitVal b = some d → Go.Lib.decFrom acc (l ++ [b]) = some (n * 10 + d)
  | [], acc, n, b, d, h, hb => by
    simp only [Go.Lib.decFrom, Option.some.injEq] at h
    subst h
    simp [Go.Lib.decFrom, hb]
  | a :: r, acc, n, b, d, h, hb => by
    rw [List.cons_append]
    unfold Go.Lib.decFrom at h ⊢
    cases hd : Go.Lib.digitVal a with
    | none => rw [hd] at h; cases h
    | some x =>
      rw [hd] at h
      exact decFrom_append r _ n b d h hb
theorem decFrom_dec : ∀ (f u : Nat), u < 10 ^ f → Go.Lib.decFrom 0 (Go.Lib.decDigits u) = some u := by
  have one : ∀ u : Nat, u < 10 → Go.Lib.digitVal (UInt8.ofNat (48 + u)) = some u := fun u hu => by
    unfold Go.Lib.digitVal
    rw [UInt8.toNat_ofNat', Nat.mod_eq_of_lt (by omega), if_pos (by omega)]
    congr 1; omega
  intro f
  induction f with
  | zero => intro u hu; rw [Go.Lib.decDigits, dif_pos (by simp at hu; omega)]; have := decFrom_append [] 0 0 _ u rfl (one u (by simp at hu; omega)); rw [List.nil_append, Nat.zero_mul, Nat.zero_add] at this; exact this
  | succ f ih =>
    intro u hu
    rw [Go.Lib.decDigits]
    split
    · rename_i h; have := decFrom_append [] 0 0 _ u rfl (one u h); rw [List.nil_append, Nat.zero_mul, Nat.zero_add] at this; exact this
    · rw [decFrom_append _ _ _ _ _ (ih (u / 10) (by rw [Nat.pow_succ] at hu; omega)) (one (u % 10) (Nat.mod_lt _ (by decide)))]
      congr 1; omega
theorem dec_ne (u : Nat) : Go.Lib.decDigits u ≠ [] := by
  rw [Go.Lib.decDigits]; split <;> simp
theorem atoi_dec (u : Nat) (hu : u ≤ 1000000000000) : Go.Lib.atoi (Go.Lib.itoa u) = some (u : Int) := by
  have hb := dec_bounds 13 u (by omega)
  have hd := decFrom_dec 13 u (by omega)
  have he : Go.Lib.itoa u = Go.Lib.decDigits u := by unfold Go.Lib.itoa; rw [if_neg (by omega), Int.toNat_natCast]
  rw [he]
  have hne := dec_ne u
  cases hl : Go.Lib.decDigits u with
  | nil => exact absurd hl hne
  | cons b r =>
    rw [hl] at hb hd
    have h0 := hb b (by simp)
    have h45 : (b == 45) = false := by rw [beq_eq_false_iff_ne]; intro e; subst e; simp at h0
    have h43 : (b == 43) = false := by rw [beq_eq_false_iff_ne]; intro e; subst e; simp at h0
    show (if (b == 45) = true then (Go.Lib.decNat r).map fun (m : Nat) => -(m : Int) else if (b == 43) = true then (Go.Lib.decNat r).map fun (m : Nat) => (m : Int) else (Go.Lib.decNat (b :: r)).map fun (m : Nat) => (m : Int)) = _
    rw [if_neg (by rw [h45]; simp), if_neg (by rw [h43]; simp)]
    simp [Go.Lib.decNat, hd]

end Go.Proofs.YtipcodebmemkpaaGreatDoor
