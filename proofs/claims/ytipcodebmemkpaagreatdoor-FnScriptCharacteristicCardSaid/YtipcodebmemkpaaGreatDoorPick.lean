/-
  Contracts of the drawing functions: each returns, whatever the bytes are; only the reader's own block is written. Conditions: each theorem's own.
-/
import Derived.Test.YtipcodebmemkpaaGreatDoorMem
import Derived.Test.YtipcodebmemkpaaGreatDoorWords
import Derived.Deep.QuietTactic
import Derived.BigQuiet
namespace Go.Proofs.YtipcodebmemkpaaGreatDoor
open Go.RowKit Pl
set_option linter.unusedVariables false

def Picked (w : World) (R N : Nat) (n : Int) (e : Ending) (w' : World) : Prop :=
  ∃ x : Int, e = .returned (.int .i64 x) ∧ 0 ≤ x ∧ (1 ≤ n → x < n) ∧ (n < 1 → x = 0) ∧ Rdr w' R (N + 1) ∧ w.grownBy w' (some R)

theorem rdr_store {w : World} {R N : Nat} {A : Option Addr} {cap p : Nat} {bs : List UInt8} (hb : w.heap[R]? = some (.cells #[.slice A bs.length cap, .int .i64 p] 97 (0, 0)))
    (hp : p ≤ N) (hl : bs.length ≤ 2000) (hc : bs.length ≤ cap) (hr : Rd w R A (bytesV bs)) : Rdr (w.setCell ⟨R, 1, none⟩ (.int .i64 ((p : Int) + 1))) R (N + 1) := by
  refine ⟨A, cap, p + 1, bs, ?_, by omega, hl, hc, hr.keep fun k hk => Below.heap_setCell _ _ _ _ (by show k ≠ R; omega)⟩
  simp [World.setCell, Array.getElem?_modify, hb]

theorem xor_nonneg (a b : Int) (ha : 0 ≤ a) (hb : 0 ≤ b) (ha' : a ≤ 1000000000000) (hb' : b ≤ 1000000000000) : 0 ≤ bits .xor .i64 a b ∧ bits .xor .i64 a b < 9223372036854775808 := by
  obtain ⟨x, rfl⟩ := Int.eq_ofNat_of_zero_le ha
  obtain ⟨y, rfl⟩ := Int.eq_ofNat_of_zero_le hb
  have ex : (BitVec.ofInt 64 (x : Int)).toNat = x := by rw [BitVec.ofInt_natCast, BitVec.toNat_ofNat]; exact Nat.mod_eq_of_lt (by omega)
  have ey : (BitVec.ofInt 64 (y : Int)).toNat = y := by rw [BitVec.ofInt_natCast, BitVec.toNat_ofNat]; exact Nat.mod_eq_of_lt (by omega)
  have hx : x ^^^ y < 2 ^ 63 := Nat.xor_lt_two_pow (by omega) (by omega)
  have e : bits .xor .i64 (x : Int) (y : Int) = ((x ^^^ y : Nat) : Int) := by
    show IntKind.i64.wrap ((BitVec.ofInt 64 (x : Int) ^^^ BitVec.ofInt 64 (y : Int)).toNat : Int) = _
    rw [BitVec.toNat_xor, ex, ey, IntKind.wrap_i64]
    omega
  rw [e]
  omega

set_option maxHeartbeats 2000000 in
theorem pick_any (w : World) (R N : Nat) (n : Int) (h : Rdr w R N) (hN : N ≤ 1000000000) (hn : n ≤ 1000000000) :
    Calls Tryz.prog 22 #[.pointer (some ⟨R, 0, none⟩), .int .i64 n] w (Picked w R N n) := by
  obtain ⟨A, cap, p, bs, hb, hp, hl, hc, hr⟩ := h
  have c0 : w.cell? ⟨R, 0, none⟩ = some (.slice A bs.length cap) := cell_of_row w R 0 _ _ (0, 0) hb
  have c1 : w.cell? ⟨R, 1, none⟩ = some (.int .i64 p) := cell_of_row w R 1 _ _ (0, 0) hb
  have f1 : w.frozen? ⟨R, 1, none⟩ = false := by simp [World.frozen?, hb]
  have HS := Lib.hid (rdr_store hb hp hl hc hr)
  have HO := Lib.hid (only_setCell (only_refl w (some R)) 1 (.int .i64 ((p : Int) + 1)))
  clear hb
  by_cases h1 : n < 1
  · go_enter Tryz.func22, Tryz.ntmps22
    go_wp2
    go_ret
    exact ⟨0, rfl, by omega, by omega, by omega, HS.out, HO.out⟩
  · by_cases h2 : bs = []
    · subst h2
      have h3 : (([] : List UInt8).length : Int) = 0 := rfl
      go_enter Tryz.func22, Tryz.ntmps22
      go_wp2
      go_ret
      exact ⟨0, rfl, by omega, by omega, by omega, HS.out, HO.out⟩
    · have hpos : 0 < bs.length := List.length_pos_iff.2 h2
      have hz : ((bs.length : Int) == 0) = false := by simp; omega
      obtain ⟨b, off, rfl, hbR, hcell⟩ := hr (by intro e; apply h2; simpa [bytesV] using e)
      have hne : b ≠ R := by omega
      have hcells : ∀ j, j < bs.length → ∃ c : UInt8, (w.setCell ⟨R, 1, none⟩ (.int .i64 ((p : Int) + 1))).cell? ⟨b, off + j, none⟩ = some (.int .u8 c.toNat) := fun j hj => by
        refine ⟨bs[j], ?_⟩
        rw [World.cell?_setCell_other _ _ _ _ (by intro e; injection e with e; omega), hcell j (by rw [length_bytesV]; exact hj)]
        simp [bytesV]
      have HCL := Lib.hid hcells; clear hcells hcell hr
      by_cases h4 : p < bs.length
      · obtain ⟨c, hcp⟩ := HCL.out p h4
        have hcb := c.toNat_lt
        go_enter Tryz.func22, Tryz.ntmps22
        go_wp2
        go_ret
        have e0 := Int.emod_nonneg (c.toNat : Int) (show n ≠ 0 by omega)
        have e1 := Int.emod_lt_of_pos (c.toNat : Int) (show 0 < n by omega)
        exact ⟨_, rfl, by omega, by intro _; omega, by omega, HS.out, HO.out⟩
      · have i1 := Nat.mod_lt p hpos
        have i2 := Nat.mod_lt (p * 7 + 3) hpos
        have i3 := Nat.div_le_self p bs.length
        obtain ⟨c, hcp⟩ := HCL.out _ i1
        obtain ⟨c', hcp'⟩ := HCL.out _ i2
        have hcb := c.toNat_lt
        have hcb' := c'.toNat_lt
        have j1 : (0 : Int) ≤ (p : Int) % (bs.length : Int) := by omega
        have j2 : (p : Int) % (bs.length : Int) < (bs.length : Int) := by omega
        have j3 : (0 : Int) ≤ ((p : Int) * 7 + 3) % (bs.length : Int) := Int.emod_nonneg _ (by omega)
        have j4 : ((p : Int) * 7 + 3) % (bs.length : Int) < (bs.length : Int) := Int.emod_lt_of_pos _ (by omega)
        have j5 : (0 : Int) ≤ (p : Int) / (bs.length : Int) := Int.ediv_nonneg (by omega) (by omega)
        have j6 : (p : Int) / (bs.length : Int) ≤ (p : Int) := by omega
        go_enter Tryz.func22, Tryz.ntmps22
        go_wp2
        go_quiet (fail)
        go_wp2
        go_ret
        have hx := xor_nonneg ((c.toNat : Int) * 131 + (c'.toNat : Int) * 1117 + (p : Int) * 29 + (p : Int) / (bs.length : Int) * 53)
          (((c.toNat : Int) * 131 + (c'.toNat : Int) * 1117 + (p : Int) * 29 + (p : Int) / (bs.length : Int) * 53) / 64) (by omega) (by omega) (by omega) (by omega)
        refine ⟨_, rfl, ?_, ?_, by omega, HS.out.drewN _, only_drewN HO.out _⟩
        · rw [Int.tmod_eq_emod_of_nonneg hx.1]; exact Int.emod_nonneg _ (by omega)
        · intro _; rw [Int.tmod_eq_emod_of_nonneg hx.1]; exact Int.emod_lt_of_pos _ (by omega)

/-- pick of a number of at least 1 -/
theorem pick_pos (w : World) (R N : Nat) (n : Int) (h : Rdr w R N) (hN : N ≤ 1000000000) (h1 : 1 ≤ n) (hn : n ≤ 1000000000) :
    Calls Tryz.prog 22 #[.pointer (some ⟨R, 0, none⟩), .int .i64 n] w fun e w' => ∃ x : Nat, e = .returned (.int .i64 x) ∧ (x : Int) < n ∧ Rdr w' R (N + 1) ∧ w.grownBy w' (some R) :=
  (pick_any w R N n h hN hn).mono fun e w' ⟨x, he, h0, hx, _, hr, ho⟩ => ⟨x.toNat, by rw [he, Int.toNat_of_nonneg h0], by rw [Int.toNat_of_nonneg h0]; exact hx h1, hr, ho⟩


end Go.Proofs.YtipcodebmemkpaaGreatDoor
