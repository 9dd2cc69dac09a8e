/-
  Contracts of the drawing functions: each returns, whatever the bytes are; only the reader's own block is written. Conditions: each theorem's own.
-/
import Derived.Test.YtipcodebmemkpaaGreatDoorPick
namespace Go.Proofs.YtipcodebmemkpaaGreatDoor
open Go.RowKit Pl
set_option linter.unusedVariables false

theorem l1Letter_any (n : Int) (w : World) (hn : -1000000000000 ≤ n ∧ n ≤ 1000000000000) :
    Calls Tryz.prog 71 #[.int .i64 n] w fun e w' => e = .returned (.string (mk [letter (n % 10).toNat])) ∧ Below w.heap.size w w' := by
  have hm := Int.tmod_lt_of_pos n (show (0 : Int) < 10 by omega)
  have hm' : -10 < n.tmod 10 := by
    rcases Int.le_total 0 n with h | h
    · have := Int.tmod_nonneg 10 h; omega
    · have := Int.neg_tmod n 10 ▸ Int.tmod_lt_of_pos (-n) (show (0 : Int) < 10 by omega); omega
  have hv : (97 + n.tmod 10 % 10).toNat = 97 + (n % 10).toNat := by
    have h1 : n.tmod 10 % 10 = n % 10 := by
      have := Int.tmod_eq_emod (a := n) (b := 10); split at this <;> omega
    omega
  have HV := Lib.hid hv; clear hv
  have k0 : 0 ≤ (n.tmod 10 + 10) % 10 := Int.emod_nonneg _ (by omega)
  have k1 : (n.tmod 10 + 10) % 10 < 10 := Int.emod_lt_of_pos _ (by omega)
  have hcv := conv_one (P := Tryz.prog) 22 9 5 Tryz.underlying22 Tryz.underlying5 Tryz.underlying9 (97 + n.tmod 10 % 10) (by omega) (by omega)
  go_enter Tryz.func71, Tryz.ntmps71
  go_wp2
  go_ret
  refine ⟨?_, (Below.refl _ _).alloc (Nat.le_refl _) _⟩
  rw [HV.out]; rfl

set_option maxHeartbeats 1000000 in
theorem l1Some_any (w : World) (R N n : Nat) (h : Rdr w R N) (hN : N + n ≤ 1000000000) (hn : n ≤ 1000000) :
    Calls Tryz.prog 161 #[.pointer (some ⟨R, 0, none⟩), .int .i64 n] w fun e w' => ∃ l : List UInt8, e = .returned (.string (mk l)) ∧ l.length = n ∧ l.all isL = true ∧ Rdr w' R (N + n) ∧ w.grownBy w' (some R) := by
  go_enter Tryz.func161, Tryz.ntmps161
  go_wp2
  go_loopw [5, 6] (fun s i wr => ∃ (k : Nat) (l : List UInt8), k ≤ n ∧ i = .int .i64 k ∧ s = .string (mk l) ∧ l.length = k ∧ l.all isL = true ∧ Rdr wr R (N + k) ∧ w.grownBy wr (some R)) (fun _ i _ => n - (intOf i).toNat)
  case atStart => exact ⟨0, [], Nat.zero_le _, rfl, rfl, rfl, rfl, h, only_refl _ _⟩
  case round =>
    obtain ⟨k, l, hk, rfl, rfl, hlk, hall, hr, ho⟩ := hrel
    have HL := Lib.hid hlk; clear hlk
    have HA := Lib.hid hall; clear hall
    have HO := Lib.hid ho; clear ho
    by_cases hlt : k < n
    · go_wp2_with fail
      refine (pick_pos _ R (N + k) _ hr (by omega) (by omega) (by omega)).mono ?_
      rintro e w1 ⟨x, rfl, hx, hr1, ho1⟩
      go_wp2_with fail
      refine (l1Letter_any _ _ (by omega)).mono ?_
      rintro e w2 ⟨rfl, hb2⟩
      have hz : (mk l).size ≤ 1000000 := by rw [size_mk, HL.out]; omega
      have hz1 : (mk [letter ((x : Int) % 10).toNat]).size ≤ 1 := by rw [size_mk]; simp
      go_wp2
      go_roundw
      case rel => exact ⟨k + 1, _, by omega, by go_num, by rw [mk_append], by simp [HL.out], by simp [HA.out]; exact isL_letter (by omega), (hr1.below hb2), only_trans HO.out (only_trans ho1 (only_of_below hb2 _))⟩
      case measure => simp [intOf]; omega
    · go_wp2
      go_ret
      have : k = n := by omega
      subst this
      exact ⟨l, rfl, HL.out, HA.out, hr, HO.out⟩

theorem many_step (o m n n0 : Nat) (h : o + m * n = n0) : (n % 2 = 1 → o + m + 2 * m * (n / 2) = n0) ∧ (n % 2 = 0 → o + 2 * m * (n / 2) = n0) := by
  have e : m * n = 2 * m * (n / 2) + m * (n % 2) := by
    conv => lhs; rw [← Nat.div_add_mod n 2]
    rw [Nat.mul_add, ← Nat.mul_assoc, Nat.mul_comm m 2]
  constructor
  · intro hr; rw [hr] at e; omega
  · intro hr; rw [hr] at e; omega










































theorem rdr_ne {w : World} {R N b : Nat} {cs : Array Value} {T : TypeId} {f : Nat × Nat} (h : Rdr w R N) (hb : w.heap[b]? = some (.cells cs T f)) (hT : T ≠ 97) : b ≠ R := by
  obtain ⟨A, cap, p, bs, hR, _⟩ := h
  rintro rfl
  rw [hR] at hb
  injection hb with hb
  injection hb with _ hb
  exact hT hb.symm

set_option maxHeartbeats 1000000 in
theorem of_any (w : World) (R N b cap : Nat) (ss : List ByteArray) (h : Rdr w R N) (hN : N ≤ 1000000000) (h1 : 1 ≤ ss.length) (h2 : ss.length ≤ 1000)
    (hb : w.heap[b]? = some (.cells (ss.map Value.string).toArray 9 (0, 0))) :
    Calls Tryz.prog 172 #[.pointer (some ⟨R, 0, none⟩), .slice (some ⟨b, 0, none⟩) ss.length cap] w fun e w' => ∃ s ∈ ss, e = .returned (.string s) ∧ Rdr w' R (N + 1) ∧ w.grownBy w' (some R) := by
  have hne := rdr_ne h hb (by decide)
  have HB := Lib.hid hb; clear hb
  go_enter Tryz.func172, Tryz.ntmps172
  go_wp2_with fail
  refine (pick_pos _ R N _ h (by omega) (by omega) (by omega)).mono ?_
  rintro e w1 ⟨x, rfl, hx, hr1, ho1⟩
  have hx' : x < ss.length := by omega
  have hc : w1.cell? ⟨b, x, none⟩ = some (.string ss[x]) := by
    rw [cell_of_row w1 b x _ _ _ ((ho1.block b (Array.getElem?_eq_some_iff.1 HB.out).1 (by intro e; injection e; omega)).trans HB.out)]
    simp [hx']
  have HO := Lib.hid ho1; clear ho1
  go_wp2
  go_ret
  exact ⟨ss[x], List.getElem_mem _, rfl, hr1, HO.out⟩

set_option maxHeartbeats 1000000 in
theorem num_any (w : World) (R N b cap : Nat) (ns : List Int) (h : Rdr w R N) (hN : N ≤ 1000000000) (h1 : 1 ≤ ns.length) (h2 : ns.length ≤ 1000)
    (hb : w.heap[b]? = some (.cells (ns.map (Value.int .i64)).toArray 3 (0, 0))) :
    Calls Tryz.prog 24 #[.pointer (some ⟨R, 0, none⟩), .slice (some ⟨b, 0, none⟩) ns.length cap] w fun e w' => ∃ s ∈ ns, e = .returned (.int .i64 s) ∧ Rdr w' R (N + 1) ∧ w.grownBy w' (some R) := by
  have hne := rdr_ne h hb (by decide)
  have HB := Lib.hid hb; clear hb
  go_enter Tryz.func24, Tryz.ntmps24
  go_wp2_with fail
  refine (pick_pos _ R N _ h (by omega) (by omega) (by omega)).mono ?_
  rintro e w1 ⟨x, rfl, hx, hr1, ho1⟩
  have hx' : x < ns.length := by omega
  have hc : w1.cell? ⟨b, x, none⟩ = some (.int .i64 ns[x]) := by
    rw [cell_of_row w1 b x _ _ _ ((ho1.block b (Array.getElem?_eq_some_iff.1 HB.out).1 (by intro e; injection e; omega)).trans HB.out)]
    simp [hx']
  have HO := Lib.hid ho1; clear ho1
  go_wp2
  go_ret
  exact ⟨ns[x], List.getElem_mem _, rfl, hr1, HO.out⟩








































































theorem l21Open_any (w : World) (A : Option Addr) (cap : Nat) (bs : List UInt8) (h : Rd w w.heap.size A (bytesV bs)) (hc : bs.length ≤ cap) :
    Calls Tryz.prog 21 #[.slice A bs.length cap] w fun e w' => e = .returned (.pointer (some ⟨w.heap.size, 0, none⟩)) ∧ Rdr w' w.heap.size 0 ∧ Below w.heap.size w w' ∧ w'.heap.size = w.heap.size + 1 := by
  by_cases hl : 2000 < bs.length
  · have h2 : Rd w w.heap.size A (bytesV (bs.take 2000)) := fun hn => by
      obtain ⟨b, off, e, hb, hcell⟩ := h (by intro e; apply hn; simp [bytesV] at e ⊢; simp [e])
      refine ⟨b, off, e, hb, fun j hj => ?_⟩
      have hj' : j < 2000 ∧ j < bs.length := by simp [bytesV] at hj; omega
      rw [hcell j (by rw [length_bytesV]; omega)]
      simp [bytesV]
    obtain ⟨b, off, rfl, _, _⟩ := h (by intro e; have : bs.length = 0 := by simpa [bytesV] using congrArg List.length e
                                        omega)
    have ht : (bs.take 2000).length = 2000 := by simp; omega
    have HT := Lib.hid ht; clear ht
    have HH := Lib.hid h2; clear h2 h
    have hcc : (2000 : Int) ≤ (cap : Int) := by omega
    go_enter Tryz.func21, Tryz.ntmps21
    go_wp2_with fail
    go_ret
    refine ⟨rfl, ⟨_, cap, 0, bs.take 2000, ?_, by omega, by rw [HT.out]; omega, by rw [HT.out]; omega, HH.out.keep fun k hk => Below.heap_alloc _ _ _ hk⟩, (Below.refl _ _).alloc (Nat.le_refl _) _, by simp⟩
    rw [HT.out]
    exact heap_alloc_new _ _
  · have HH := Lib.hid h; clear h
    go_enter Tryz.func21, Tryz.ntmps21
    go_wp2_with fail
    go_ret
    refine ⟨rfl, ⟨A, cap, 0, bs, heap_alloc_new _ _, by omega, by omega, hc, HH.out.keep fun k hk => Below.heap_alloc _ _ _ hk⟩, (Below.refl _ _).alloc (Nat.le_refl _) _, by simp⟩

end Go.Proofs.YtipcodebmemkpaaGreatDoor
