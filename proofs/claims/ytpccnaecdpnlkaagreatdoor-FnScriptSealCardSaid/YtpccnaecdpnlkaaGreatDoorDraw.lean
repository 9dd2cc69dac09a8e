/-
  Contracts of the drawing functions: each returns, whatever the bytes are; only the reader's own block is written. Conditions: each theorem's own.
-/
import Derived.Test.YtpccnaecdpnlkaaGreatDoorPick
namespace Go.Proofs.YtpccnaecdpnlkaaGreatDoor
open Go.RowKit Pl
set_option linter.unusedVariables false

theorem l1Letter_any (n : Int) (w : World) (hn : -1000000000000 ≤ n ∧ n ≤ 1000000000000) :
    Calls Tryz.prog 113 #[.int .i64 n] w fun e w' => e = .returned (.string (mk [letter (n % 10).toNat])) ∧ Below w.heap.size w w' := by
  have hm := Int.tmod_lt_of_pos n (show (0 : Int) < 10 by omega)
  have hm' : -10 < n.tmod 10 := by
    rcases Int.le_total 0 n with h | h
    · have := Int.tmod_nonneg 10 h; omega
    · have := Int.neg_tmod n 10 ▸ Int.tmod_lt_of_pos (-n) (show (0 : Int) < 10 by omega); omega
  have hv : (97 + n.tmod 10 % 10).toNat = 97 + (n % 10).toNat := by
    have h1 : n.tmod 10 % 10 = n % 10 := by
      have := Int.tmod_eq_emod (a := n) (b := 10); split at this <;> omega
    omega
  have HV := Lib.hid hv; clear hv
  have k0 : 0 ≤ (n.tmod 10 + 10) % 10 := Int.emod_nonneg _ (by omega)
  have k1 : (n.tmod 10 + 10) % 10 < 10 := Int.emod_lt_of_pos _ (by omega)
  have hcv := conv_one (P := Tryz.prog) 22 9 5 Tryz.underlying22 Tryz.underlying5 Tryz.underlying9 (97 + n.tmod 10 % 10) (by omega) (by omega)
  go_enter Tryz.func113, Tryz.ntmps113
  go_wp2
  go_ret
  refine ⟨?_, (Below.refl _ _).alloc (Nat.le_refl _) _⟩
  rw [HV.out]; rfl

set_option maxHeartbeats 1000000 in
theorem l1Some_any (w : World) (R N n : Nat) (h : Rdr w R N) (hN : N + n ≤ 1000000000) (hn : n ≤ 1000000) :
    Calls Tryz.prog 104 #[.pointer (some ⟨R, 0, none⟩), .int .i64 n] w fun e w' => ∃ l : List UInt8, e = .returned (.string (mk l)) ∧ l.length = n ∧ l.all isL = true ∧ Rdr w' R (N + n) ∧ w.grownBy w' (some R) := by
  go_enter Tryz.func104, Tryz.ntmps104
  go_wp2
  go_loopw [5, 6] (fun s i wr => ∃ (k : Nat) (l : List UInt8), k ≤ n ∧ i = .int .i64 k ∧ s = .string (mk l) ∧ l.length = k ∧ l.all isL = true ∧ Rdr wr R (N + k) ∧ w.grownBy wr (some R)) (fun _ i _ => n - (intOf i).toNat)
  case atStart => exact ⟨0, [], Nat.zero_le _, rfl, rfl, rfl, rfl, h, only_refl _ _⟩
  case round =>
    obtain ⟨k, l, hk, rfl, rfl, hlk, hall, hr, ho⟩ := hrel
    have HL := Lib.hid hlk; clear hlk
    have HA := Lib.hid hall; clear hall
    have HO := Lib.hid ho; clear ho
    by_cases hlt : k < n
    · go_wp2_with fail
      refine (pick_pos _ R (N + k) _ hr (by omega) (by omega) (by omega)).mono ?_
      rintro e w1 ⟨x, rfl, hx, hr1, ho1⟩
      go_wp2_with fail
      refine (l1Letter_any _ _ (by omega)).mono ?_
      rintro e w2 ⟨rfl, hb2⟩
      have hz : (mk l).size ≤ 1000000 := by rw [size_mk, HL.out]; omega
      have hz1 : (mk [letter ((x : Int) % 10).toNat]).size ≤ 1 := by rw [size_mk]; simp
      go_wp2
      go_roundw
      case rel => exact ⟨k + 1, _, by omega, by go_num, by rw [mk_append], by simp [HL.out], by simp [HA.out]; exact isL_letter (by omega), (hr1.below hb2), only_trans HO.out (only_trans ho1 (only_of_below hb2 _))⟩
      case measure => simp [intOf]; omega
    · go_wp2
      go_ret
      have : k = n := by omega
      subst this
      exact ⟨l, rfl, HL.out, HA.out, hr, HO.out⟩

theorem many_step (o m n n0 : Nat) (h : o + m * n = n0) : (n % 2 = 1 → o + m + 2 * m * (n / 2) = n0) ∧ (n % 2 = 0 → o + 2 * m * (n / 2) = n0) := by
  have e : m * n = 2 * m * (n / 2) + m * (n % 2) := by
    conv => lhs; rw [← Nat.div_add_mod n 2]
    rw [Nat.mul_add, ← Nat.mul_assoc, Nat.mul_comm m 2]
  constructor
  · intro hr; rw [hr] at e; omega
  · intro hr; rw [hr] at e; omega

set_option maxHeartbeats 1000000 in
theorem l21Many_one (w : World) (c : UInt8) (n0 : Nat) (hn0 : n0 ≤ 1000000) :
    Calls Tryz.prog 106 #[.string (mk [c]), .int .i64 n0] w fun e w' => e = .returned (.string (mk (List.replicate n0 c))) ∧ w = w' := by
  go_enter Tryz.func106, Tryz.ntmps106
  go_wp2
  go_loop [0, 1, 5] (fun s i out => ∃ n m o : Nat, i = .int .i64 n ∧ s = .string (mk (List.replicate m c)) ∧ out = .string (mk (List.replicate o c)) ∧ o + m * n = n0 ∧ m ≤ 2 * n0 + 1 ∧ n ≤ n0 ∧ 1 ≤ m) (fun _ i _ => (intOf i).toNat)
  case atStart => exact ⟨n0, 1, 0, rfl, rfl, rfl, by omega, by omega, by omega, by omega⟩
  case round =>
    obtain ⟨n, m, o, rfl, rfl, rfl, ho, hm, hnn, hm1⟩ := hrel
    have hst := many_step o m n n0 ho
    have HO := Lib.hid ho
    have ho' : o ≤ n0 := by omega
    have hmn : 0 < n → m ≤ n0 := fun hn => by have := Nat.le_mul_of_pos_right m hn; omega
    have HS := Lib.hid hst; clear hst ho
    have hz : (mk (List.replicate m c)).size ≤ 1000000000 := by rw [size_mk, List.length_replicate]; omega
    have hz1 : (mk (List.replicate o c)).size ≤ 1000000000 := by rw [size_mk, List.length_replicate]; omega
    by_cases hlt : 0 < n
    · have hmn' := hmn hlt
      clear hmn
      by_cases hr : n % 2 = 1
      · have hb : ((n : Int) % 2 == 1) = true := by simp; omega
        have HR := Lib.hid hr; clear hr
        go_wp2
        go_round
        case rel => exact ⟨n / 2, 2 * m, o + m, by go_num, by rw [mk_append, ← List.replicate_append_replicate.symm]; congr 3; omega, by rw [mk_append, ← List.replicate_append_replicate.symm], HS.out.1 HR.out, by omega, by omega, by omega⟩
        case measure => simp [intOf]; omega
      · have hb : ((n : Int) % 2 == 1) = false := by simp; omega
        have HR := Lib.hid hr; clear hr
        go_wp2
        go_round
        case rel => exact ⟨n / 2, 2 * m, o, by go_num, by rw [mk_append, ← List.replicate_append_replicate.symm]; congr 3; omega, rfl, HS.out.2 (by have := HR.out; omega), by omega, by omega, by omega⟩
        case measure => simp [intOf]; omega
    · have hn0' : n = 0 := by omega
      subst hn0'
      clear hmn
      go_wp2
      go_ret
      have : o = n0 := by have := HO.out; omega
      subst this
      exact ⟨rfl, rfl⟩

theorem rdr_ne {w : World} {R N b : Nat} {cs : Array Value} {T : TypeId} {f : Nat × Nat} (h : Rdr w R N) (hb : w.heap[b]? = some (.cells cs T f)) (hT : T ≠ 138) : b ≠ R := by
  obtain ⟨A, cap, p, bs, hR, _⟩ := h
  rintro rfl
  rw [hR] at hb
  injection hb with hb
  injection hb with _ hb
  exact hT hb.symm

set_option maxHeartbeats 1000000 in
theorem of_any (w : World) (R N b cap : Nat) (ss : List ByteArray) (h : Rdr w R N) (hN : N ≤ 1000000000) (h1 : 1 ≤ ss.length) (h2 : ss.length ≤ 1000)
    (hb : w.heap[b]? = some (.cells (ss.map Value.string).toArray 9 (0, 0))) :
    Calls Tryz.prog 105 #[.pointer (some ⟨R, 0, none⟩), .slice (some ⟨b, 0, none⟩) ss.length cap] w fun e w' => ∃ s ∈ ss, e = .returned (.string s) ∧ Rdr w' R (N + 1) ∧ w.grownBy w' (some R) := by
  have hne := rdr_ne h hb (by decide)
  have HB := Lib.hid hb; clear hb
  go_enter Tryz.func105, Tryz.ntmps105
  go_wp2_with fail
  refine (pick_pos _ R N _ h (by omega) (by omega) (by omega)).mono ?_
  rintro e w1 ⟨x, rfl, hx, hr1, ho1⟩
  have hx' : x < ss.length := by omega
  have hc : w1.cell? ⟨b, x, none⟩ = some (.string ss[x]) := by
    rw [cell_of_row w1 b x _ _ _ ((ho1.block b (Array.getElem?_eq_some_iff.1 HB.out).1 (by intro e; injection e; omega)).trans HB.out)]
    simp [hx']
  have HO := Lib.hid ho1; clear ho1
  go_wp2
  go_ret
  exact ⟨ss[x], List.getElem_mem _, rfl, hr1, HO.out⟩

set_option maxHeartbeats 1000000 in
theorem num_any (w : World) (R N b cap : Nat) (ns : List Int) (h : Rdr w R N) (hN : N ≤ 1000000000) (h1 : 1 ≤ ns.length) (h2 : ns.length ≤ 1000)
    (hb : w.heap[b]? = some (.cells (ns.map (Value.int .i64)).toArray 3 (0, 0))) :
    Calls Tryz.prog 54 #[.pointer (some ⟨R, 0, none⟩), .slice (some ⟨b, 0, none⟩) ns.length cap] w fun e w' => ∃ s ∈ ns, e = .returned (.int .i64 s) ∧ Rdr w' R (N + 1) ∧ w.grownBy w' (some R) := by
  have hne := rdr_ne h hb (by decide)
  have HB := Lib.hid hb; clear hb
  go_enter Tryz.func54, Tryz.ntmps54
  go_wp2_with fail
  refine (pick_pos _ R N _ h (by omega) (by omega) (by omega)).mono ?_
  rintro e w1 ⟨x, rfl, hx, hr1, ho1⟩
  have hx' : x < ns.length := by omega
  have hc : w1.cell? ⟨b, x, none⟩ = some (.int .i64 ns[x]) := by
    rw [cell_of_row w1 b x _ _ _ ((ho1.block b (Array.getElem?_eq_some_iff.1 HB.out).1 (by intro e; injection e; omega)).trans HB.out)]
    simp [hx']
  have HO := Lib.hid ho1; clear ho1
  go_wp2
  go_ret
  exact ⟨ns[x], List.getElem_mem _, rfl, hr1, HO.out⟩

theorem l1Word_any (w : World) (R N n : Nat) (h : Rdr w R N) (hN : N + n ≤ 1000000) (hn : n ≤ 1000000) :
    Calls Tryz.prog 36 #[.pointer (some ⟨R, 0, none⟩), .int .i64 n] w fun e w' => ∃ l : List UInt8, e = .returned (.string (mk l)) ∧ l.length ≤ n ∧ l.all isL = true ∧ Rdr w' R (N + n + 1) ∧ w.grownBy w' (some R) := by
  go_enter Tryz.func36, Tryz.ntmps36
  go_wp2_with fail
  refine (pick_pos _ R N _ h (by omega) (by omega) (by omega)).mono ?_
  rintro e w1 ⟨x, rfl, hx, hr1, ho1⟩
  go_wp2_with fail
  refine (l1Some_any _ R (N + 1) x hr1 (by omega) (by omega)).mono ?_
  rintro e w2 ⟨l, rfl, hl, hall, hr2, ho2⟩
  have HL := Lib.hid hl; clear hl
  have HA := Lib.hid hall; clear hall
  go_wp2_with fail
  go_ret
  exact ⟨l, rfl, by have := HL.out; omega, HA.out, hr2.mono (by omega), only_trans ho1 ho2⟩

set_option maxHeartbeats 1000000 in
theorem l1Bad_any (w : World) (R N : Nat) (s : ByteArray) (h : Rdr w R N) (hN : N ≤ 1000000) (hs : s.size ≤ 1000000000) :
    Calls Tryz.prog 38 #[.pointer (some ⟨R, 0, none⟩), .string s] w fun e w' => ∃ t : ByteArray, e = .returned (.string t) ∧ t.size ≤ s.size + 201 ∧ Rdr w' R (N + 2) ∧ w.grownBy w' (some R) := by
  go_enter Tryz.func38, Tryz.ntmps38
  go_wp2_with fail
  refine (pick_pos _ R N _ h (by omega) (by omega) (by omega)).mono ?_
  rintro e w1 ⟨x, rfl, hx, hr1, ho1⟩
  have HO := Lib.hid ho1; clear ho1
  by_cases h0 : x = 0
  · subst h0
    go_wp2_with fail
    refine (of_any _ R (N + 1) w1.heap.size 4 [mk [107], mk [32], mk [65], mk [45]] (hr1.alloc _) (by omega) (by simp) (by simp) (heap_alloc_new _ _)).mono ?_
    rintro e w2 ⟨t, ht, rfl, hr2, ho2⟩
    have hz : t.size ≤ 1 := by
      simp at ht; rcases ht with rfl | rfl | rfl | rfl <;> simp [size_mk]
    have HO2 := Lib.hid ho2; clear ho2 ht
    go_wp2_with fail
    go_ret
    exact ⟨_, rfl, by simp [ByteArray.size_append]; omega, hr2, only_trans HO.out (only_trans (World.grownBy_alloc _ _ _) HO2.out)⟩
  · have hb0 : ((x : Int) == 0) = false := by simp; omega
    by_cases h1 : x = 1
    · subst h1
      clear hb0 h0
      go_wp2_with fail
      refine (of_any _ R (N + 1) w1.heap.size 2 [mk [122], mk [48]] (hr1.alloc _) (by omega) (by simp) (by simp) (heap_alloc_new _ _)).mono ?_
      rintro e w2 ⟨t, ht, rfl, hr2, ho2⟩
      have hz : t.size ≤ 1 := by
        simp at ht; rcases ht with rfl | rfl <;> simp [size_mk]
      have HO2 := Lib.hid ho2; clear ho2 ht
      go_wp2_with fail
      go_ret
      exact ⟨_, rfl, by simp [ByteArray.size_append]; omega, hr2, only_trans HO.out (only_trans (World.grownBy_alloc _ _ _) HO2.out)⟩
    · have hb1 : ((x : Int) == 1) = false := by simp; omega
      by_cases h2 : x = 2
      · subst h2
        clear hb0 h0 hb1 h1
        go_wp2_with fail
        refine (num_any _ R (N + 1) w1.heap.size 3 [200, 201, 199] (hr1.alloc _) (by omega) (by simp) (by simp) (heap_alloc_new _ _)).mono ?_
        rintro e w2 ⟨m, hm, rfl, hr2, ho2⟩
        obtain ⟨m', rfl, hm'⟩ : ∃ m' : Nat, m = (m' : Int) ∧ m' ≤ 201 := by
          simp at hm; rcases hm with rfl | rfl | rfl
          · exact ⟨200, rfl, by omega⟩
          · exact ⟨201, rfl, by omega⟩
          · exact ⟨199, rfl, by omega⟩
        have HO2 := Lib.hid ho2; clear ho2 hm
        go_wp2_with fail
        refine (l21Many_one _ 106 m' (by omega)).mono ?_
        rintro e w3 ⟨rfl, rfl⟩
        go_wp2_with fail
        go_ret
        exact ⟨_, rfl, by rw [size_mk, List.length_replicate]; omega, hr2, only_trans HO.out (only_trans (World.grownBy_alloc _ _ _) HO2.out)⟩
      · have hb2 : ((x : Int) == 2) = false := by simp; omega
        go_wp2_with fail
        go_ret
        exact ⟨s, rfl, by omega, hr1.mono (by omega), HO.out⟩

theorem l21Open_any (w : World) (A : Option Addr) (cap : Nat) (bs : List UInt8) (h : Rd w w.heap.size A (bytesV bs)) (hc : bs.length ≤ cap) :
    Calls Tryz.prog 34 #[.slice A bs.length cap] w fun e w' => e = .returned (.pointer (some ⟨w.heap.size, 0, none⟩)) ∧ Rdr w' w.heap.size 0 ∧ Below w.heap.size w w' ∧ w'.heap.size = w.heap.size + 1 := by
  by_cases hl : 2000 < bs.length
  · have h2 : Rd w w.heap.size A (bytesV (bs.take 2000)) := fun hn => by
      obtain ⟨b, off, e, hb, hcell⟩ := h (by intro e; apply hn; simp [bytesV] at e ⊢; simp [e])
      refine ⟨b, off, e, hb, fun j hj => ?_⟩
      have hj' : j < 2000 ∧ j < bs.length := by simp [bytesV] at hj; omega
      rw [hcell j (by rw [length_bytesV]; omega)]
      simp [bytesV]
    obtain ⟨b, off, rfl, _, _⟩ := h (by intro e; have : bs.length = 0 := by simpa [bytesV] using congrArg List.length e
                                        omega)
    have ht : (bs.take 2000).length = 2000 := by simp; omega
    have HT := Lib.hid ht; clear ht
    have HH := Lib.hid h2; clear h2 h
    have hcc : (2000 : Int) ≤ (cap : Int) := by omega
    go_enter Tryz.func34, Tryz.ntmps34
    go_wp2_with fail
    go_ret
    refine ⟨rfl, ⟨_, cap, 0, bs.take 2000, ?_, by omega, by rw [HT.out]; omega, by rw [HT.out]; omega, HH.out.keep fun k hk => Below.heap_alloc _ _ _ hk⟩, (Below.refl _ _).alloc (Nat.le_refl _) _, by simp⟩
    rw [HT.out]
    exact heap_alloc_new _ _
  · have HH := Lib.hid h; clear h
    go_enter Tryz.func34, Tryz.ntmps34
    go_wp2_with fail
    go_ret
    refine ⟨rfl, ⟨A, cap, 0, bs, heap_alloc_new _ _, by omega, by omega, hc, HH.out.keep fun k hk => Below.heap_alloc _ _ _ hk⟩, (Below.refl _ _).alloc (Nat.le_refl _) _, by simp⟩

end Go.Proofs.YtpccnaecdpnlkaaGreatDoor
