/-
  The number of a day's machine among its own wheels, a plain machine, the commands day and number and their script. Conditions: what each theorem names.
-/
import Derived.Test.YtipcodebmemkpaaGreatDoorDayPl
import Derived.Test.YtipcodebmemkpaaGreatDoorDayR2
import Derived.Test.YtipcodebmemkpaaGreatDoorComb
import Derived.Test.YtipcodebmemkpaaGreatDoorDayQa
import Derived.Test.YtipcodebmemkpaaGreatDoorKeyA
import Derived.OwnWalk
import Derived.Deep.AppendLies
import Derived.Deep.RegionHeld3
import Derived.Test.YtipcodebmemkpaaGreatDoorStepR
namespace Go.Proofs.YtipcodebmemkpaaGreatDoor
open Go.RowKit Pl
set_option linter.unusedVariables false

set_option maxHeartbeats 4000000 in
set_option maxRecDepth 100000 in
theorem wordValue_is (w : World) (ds : List Nat) (hd : ∀ n ∈ ds, n < 10) (h1 : 1 ≤ ds.length) (h3 : ds.length ≤ 3) :
    Calls Tryz.prog 48 #[.string (pT ds)] w fun e w' => e = .returned (.tuple #[.int .i64 ((valN ds : Nat) : Int), .bool true]) ∧ w = w' := by
  have hw : wv (tl (pT ds)) = true := pT_wv hd (by omega)
  have hwv := fun w' => wordValid_is (pT ds) true w' hw
  have hsz : (pT ds).size = ds.length := pT_size ds
  have HWV := Lib.hid hwv; have HD := Lib.hid hd
  clear hwv hw hd
  obtain ⟨s, hs⟩ : ∃ s, s = pT ds := ⟨_, rfl⟩
  rw [← hs] at HWV hsz ⊢
  have HS := Lib.hid hs
  obtain ⟨L, hL⟩ : ∃ L, L = ds.length := ⟨_, rfl⟩
  have HL := Lib.hid hL
  rw [← hL] at h1 h3 hsz
  clear hs hL
  go_enter Tryz.func48, Tryz.ntmps48
  go_wp2_with fail
  refine (HWV.out _).mono ?_
  rintro _ _ ⟨rfl, rfl⟩
  go_wp2_with fail
  go_loopw [4, 16] (fun a i wr => ∃ k : Nat, k ≤ L ∧ i = .int .i64 k ∧ a = .int .i64 ((valN (ds.take k) : Nat) : Int) ∧ w = wr) (fun a i _ => L - (intOf i).toNat)
  case atStart => exact ⟨0, Nat.zero_le _, rfl, rfl, rfl⟩
  case round =>
    obtain ⟨k, hk, rfl, rfl, rfl⟩ := hrel
    by_cases hlt : k < L
    · have hkd : k < ds.length := by have := HL.out; omega
      have hv := valN_lt HD.out k (by omega)
      have hv2 := valN_take hkd
      have hp : (10 : Nat) ^ k ≤ 1000 := Nat.le_trans (Nat.pow_le_pow_right (by omega) (show k ≤ 3 by omega)) (by decide)
      have hd10 : nth ds k < 10 := nth_lt HD.out k
      have hks : k < s.size := by omega
      have hat : s[k] = letter (nth ds k) := by
        have := HS.out
        subst this
        rw [pT_at hks hkd, nth_eq hkd]
      generalize valN (ds.take k) = V at hv hv2 ⊢
      generalize nth ds k = D at hv2 hd10 hat
      have hV : V < 1000 := by omega
      have hnum := fun w' => number_any (letter D) w' (isL_letter hd10)
      rw [dg_letter hd10] at hnum
      have HNUM := Lib.hid hnum; have HV2 := Lib.hid hv2
      clear hnum hv hp hv2 hkd
      go_wp2_with fail
      refine (HNUM.out _).mono ?_
      rintro _ _ ⟨rfl, rfl⟩
      go_wp2_with fail
      go_roundw
      case rel => exact ⟨k + 1, by omega, by go_num, by rw [HV2.out]; go_num, trivial⟩
      case measure => simp [intOf]; omega
    · have hkL : k = L := by omega
      subst hkL
      have hall : ds.take k = ds := by rw [List.take_of_length_le (by have := HL.out; omega)]
      rw [hall]
      go_wp2_with fail
      go_ret2
      exact ⟨rfl, rfl⟩

set_option maxHeartbeats 4000000 in
set_option maxRecDepth 100000 in
theorem plugCount_is (w : World) (q : List Nat) (hq : Prm q) (hi : invP q = q) :
    Calls Tryz.prog 46 #[.string (pT q)] w fun e w' => e = .returned (.int .i64 (pairsP q)) ∧ Below w.heap.size w w' := by
  have hpo := fun w' => plugsOf_yes w' q hq hi
  have hpr := fun w' => pairs_any w' q hq.toTen
  have HPO := Lib.hid hpo; have HPR := Lib.hid hpr; have HQL := Lib.hid hq.len
  clear hpo hpr hi hq
  generalize pT q = T at HPO
  obtain ⟨N, hN⟩ : ∃ N, N = pairsP q := ⟨_, rfl⟩
  rw [← hN] at HPR ⊢
  clear hN
  go_enter Tryz.func46, Tryz.ntmps46
  go_wp2_with fail
  refine (HPO.out _).mono ?_
  rintro _ w1 ⟨rfl, hb1⟩
  have HB1 := Lib.hid hb1; clear hb1 HPO
  have HG1 := Lib.hid (PB.made w1)
  have HB2 := Lib.hid (HB1.out.alloc HB1.out.size (.cells #[.int .u8 0, .int .u8 0, .int .u8 0, .int .u8 0, .int .u8 0, .int .u8 0, .int .u8 0, .int .u8 0, .int .u8 0, .int .u8 0] 101))
  have HS3 := Lib.hid (HG1.out.row q)
  have HB3 := Lib.hid (below_setRow HB2.out HB1.out.size (pC q))
  go_wp2_with (first | (refine wpList_store_row rfl 101 _ _ rfl w1.heap.size (pC q) rfl rfl _ _ HG1.out (permSize HQL.out) (by rw [pC_size, pC_size, HQL.out]; rfl) (pC_one _) ?_) | (refine wpList_load_row rfl 101 _ rfl w1.heap.size rfl _ _ _ _ HS3.out Tryz.underlying101 rfl (permSize HQL.out) ?_))
  obtain ⟨w3, hw3⟩ : ∃ w3, w3 = (w1.alloc (.cells #[.int .u8 0, .int .u8 0, .int .u8 0, .int .u8 0, .int .u8 0, .int .u8 0, .int .u8 0, .int .u8 0, .int .u8 0, .int .u8 0] 101)).setRow w1.heap.size (pC q) := ⟨_, rfl⟩
  rw [← hw3] at HS3 HB3 ⊢
  obtain ⟨B, hB⟩ : ∃ B, B = w1.heap.size := ⟨_, rfl⟩
  rw [← hB] at HS3 ⊢
  clear hw3 HG1 HB2 hB
  refine (HPR.out _).mono ?_
  rintro _ w4 ⟨rfl, hb4⟩
  have HB4 := Lib.hid (HB3.out.trans (hb4.mono HB3.out.size)); clear hb4
  go_wp2_with fail
  go_ret
  exact ⟨rfl, HB4.out⟩

theorem pairs_moved {q : List Nat} (h : q.length = 10) : pairsP q = movedN q / 2 := by
  have e : cntTo q 10 = movedN q := by
    unfold cntTo movedN
    congr 1
    refine List.filter_congr fun j hj => ?_
    have hl : j < q.length := by rw [h]; exact List.mem_range.1 hj
    rw [nth_eq hl, List.getElem?_eq_getElem hl]
    by_cases e : q[j] = j
    · simp [e]
    · simp [e]
  unfold pairsP
  rw [e]

theorem day_valid {rs : List (ByteArray × ByteArray)} {p : ByteArray} {P N : Nat} (hv : WheelsV rs p) (hP : P ≤ 5) (hN : N < dayC rs.length P) :
    (ordR rs (dayOrd rs.length P N)).length = rs.length ∧ WinV (ordR rs (dayOrd rs.length P N)) p (pT (dayRing rs.length P N)) ∧ Prm (dayPlug rs.length P N) ∧ invP (dayPlug rs.length P N) = dayPlug rs.length P N ∧ (pT (dayGrd rs.length N)).size = (pT (dayRing rs.length P N)).size ∧ wv (tl (pT (dayGrd rs.length N))) = true := by
  obtain ⟨p1, p2, p3, p4, p5, p6⟩ := day_parts hv.2.1 hN
  obtain ⟨o1, o2, o3⟩ := ordP_ok hv.2.1 p4
  have hl : (ordR rs (dayOrd rs.length P N)).length = rs.length := by rw [ordR_len]; exact o2
  obtain ⟨b1, b2⟩ := boardP_ok hP p2
  have h3 := hv.2.1
  have hr : (pT (dayRing rs.length P N)).size = rs.length := by rw [pT_size]; exact valD_len _ _
  have hg : (pT (dayGrd rs.length N)).size = rs.length := by rw [pT_size]; exact valD_len _ _
  refine ⟨hl, ⟨⟨by rw [hl]; exact hv.1, by rw [hl]; exact h3, hv.2.2.1, fun r hr => hv.2.2.2 r (ordR_mem o3 r hr)⟩, by rw [hl]; exact hr, ?_⟩, b1, b2, by rw [hr, hg], ?_⟩
  · exact pT_wv (valD_lt _ _) (by have := valD_len rs.length (dayN2 rs.length P N % 10 ^ rs.length); unfold dayRing; omega)
  · exact pT_wv (valD_lt _ _) (by have := valD_len rs.length (N % 10 ^ rs.length); unfold dayGrd; omega)

set_option maxHeartbeats 4000000 in
set_option maxRecDepth 100000 in
theorem rcWheels_same (w : World) (A1 A2 : Option Addr) (c1 c2 : Nat) (rs : List (ByteArray × ByteArray)) (p : ByteArray) (h1 : Rd w w.heap.size A1 (rotV rs)) (h2 : Rd w w.heap.size A2 (rotV rs)) (k1 : rs.length ≤ c1) (k2 : rs.length ≤ c2) (hl : rs.length ≤ 100) :
    Calls Tryz.prog 37 #[.agg #[.slice A1 rs.length c1, .string p], .agg #[.slice A2 rs.length c2, .string p]] w fun e w' => e = .returned (.bool true) ∧ Below w.heap.size w w' := by
  obtain ⟨w0, hw0⟩ : ∃ w0, w0 = (w.alloc (.cells #[.slice A1 rs.length c1, .string p] 25)).alloc (.cells #[.slice A2 rs.length c2, .string p] 25) := ⟨_, rfl⟩
  obtain ⟨hb0, hs0, hq0⟩ := two_sbs w _ _ _ _ w0 hw0
  obtain ⟨iR, hi, hz0, hz1, hz2⟩ := info_parts Tryz.infoR
  have HI := Lib.hid hi; have HZ0 := Lib.hid hz0; have HZ1 := Lib.hid hz1; have HZ2 := Lib.hid hz2
  clear hi hz0 hz1 hz2
  obtain ⟨M, hM⟩ : ∃ M, M = rs.length := ⟨_, rfl⟩
  have R1 := Lib.hid h1; have R2 := Lib.hid h2; have HB0 := Lib.hid hb0; have HM := Lib.hid hM
  rw [← hM] at hw0 hs0 hq0 k1 k2 hl ⊢
  obtain ⟨P, hP⟩ : ∃ P, P = w.heap.size := ⟨_, rfl⟩
  rw [← hP] at hs0 hq0
  have HS0 := Lib.hid hs0; have HQ0 := Lib.hid hq0
  clear h1 h2 hb0 hM hs0 hq0
  obtain ⟨d0, d1⟩ := HS0.out.two_cells
  obtain ⟨e0, e1⟩ := HQ0.out.two_cells
  go_enter Tryz.func37, Tryz.ntmps37
  go_wp2_with fail
  rw [← hw0, ← hP]
  clear hw0 hP
  go_wp2_with fail
  go_loopw [5] (fun i wr => ∃ k : Nat, k ≤ M ∧ i = .int .i64 k ∧ Hid (SB wr P #[.slice A1 M c1, .string p] 25) ∧ Hid (SB wr (P + 1) #[.slice A2 M c2, .string p] 25) ∧ Below w.heap.size w wr) (fun i _ => M - (intOf i).toNat)
  case atStart => exact ⟨0, Nat.zero_le _, rfl, HS0, HQ0, HB0.out⟩
  case round =>
    obtain ⟨k, hk, rfl, HS, HQ, hbl⟩ := hrel
    have HBL := Lib.hid hbl; clear hbl HB0 HS0 HQ0 d0 d1 e0 e1
    obtain ⟨d0, d1⟩ := HS.out.two_cells
    obtain ⟨e0, e1⟩ := HQ.out.two_cells
    by_cases hlt : k < M
    · have hkr : k < rs.length := by have := HM.out; omega
      obtain ⟨b1, o1, rfl, _, x0, x1⟩ := (R1.out.below HBL.out).rot hkr
      obtain ⟨b2, o2, rfl, _, y0, y1⟩ := (R2.out.below HBL.out).rot hkr
      generalize rs[k] = r at x0 x1 y0 y1
      obtain ⟨a, n⟩ := r
      simp only at x0 x1 y0 y1
      clear hkr
      go_wp2_with fail
      go_quiet (fail)
      go_wp2_with fail
      go_roundw
      case rel => exact ⟨k + 1, by omega, by go_num, Lib.hid (HS.out.below (below_drewN' (Below.refl _ _) _)), Lib.hid (HQ.out.below (below_drewN' (Below.refl _ _) _)), below_drewN' HBL.out _⟩
      case measure => simp [intOf]; omega
    · go_wp2_with fail
      go_ret
      exact ⟨rfl, HBL.out⟩

set_option maxHeartbeats 4000000 in
set_option maxRecDepth 100000 in
theorem rcMachines_same (w : World) (A1 A2 : Option Addr) (c1 c2 : Nat) (rs : List (ByteArray × ByteArray)) (p r s : ByteArray) (h1 : Rd w w.heap.size A1 (rotV rs)) (h2 : Rd w w.heap.size A2 (rotV rs)) (k1 : rs.length ≤ c1) (k2 : rs.length ≤ c2) (hl : rs.length ≤ 100) :
    Calls Tryz.prog 8 #[.agg #[.slice A1 rs.length c1, .string p, .string r, .string s], .agg #[.slice A2 rs.length c2, .string p, .string r, .string s]] w fun e w' => e = .returned (.bool true) ∧ Below w.heap.size w w' := by
  obtain ⟨w0, hw0⟩ : ∃ w0, w0 = (w.alloc (.cells #[.slice A1 rs.length c1, .string p, .string r, .string s] 29)).alloc (.cells #[.slice A2 rs.length c2, .string p, .string r, .string s] 29) := ⟨_, rfl⟩
  obtain ⟨hb0, hs0, hq0⟩ := two_sbs w _ _ _ _ w0 hw0
  have hrw := fun (w' : World) (hb : Below w.heap.size w w') => rcWheels_same w' A1 A2 c1 c2 rs p ((h1.below hb).mono hb.size) ((h2.below hb).mono hb.size) k1 k2 hl
  have HRW := Lib.hid hrw; have HB0 := Lib.hid hb0
  clear h1 h2 hrw hb0
  generalize rs.length = M at hw0 hs0 hq0 HRW k1 k2 hl ⊢
  obtain ⟨P, hP⟩ : ∃ P, P = w.heap.size := ⟨_, rfl⟩
  rw [← hP] at hs0 hq0
  have HS0 := Lib.hid hs0; have HQ0 := Lib.hid hq0
  clear hs0 hq0
  obtain ⟨⟨d0, d1, d2, d3⟩, _⟩ := HS0.out.all4
  obtain ⟨⟨e0, e1, e2, e3⟩, _⟩ := HQ0.out.all4
  go_enter Tryz.func8, Tryz.ntmps8
  go_wp2_with fail
  rw [← hw0, ← hP]
  clear hw0 hP
  go_wp2_with fail
  refine (HRW.out _ HB0.out).mono ?_
  rintro _ w1 ⟨rfl, hb1⟩
  have HB1 := Lib.hid (HB0.out.trans (hb1.mono HB0.out.size)); have HS1 := Lib.hid (HS0.out.below hb1); have HQ1 := Lib.hid (HQ0.out.below hb1)
  clear hb1 HS0 HQ0 HB0 d0 d1 d2 d3 e0 e1 e2 e3
  obtain ⟨⟨d0, d1, d2, d3⟩, _⟩ := HS1.out.all4
  obtain ⟨⟨e0, e1, e2, e3⟩, _⟩ := HQ1.out.all4
  go_wp2_with fail
  go_ret
  exact ⟨rfl, HB1.out⟩

set_option maxHeartbeats 4000000 in
set_option maxRecDepth 100000 in
theorem equalR_same (w : World) (A1 A2 : Option Addr) (c1 c2 : Nat) (rs : List (ByteArray × ByteArray)) (h1 : Rd w w.heap.size A1 (rotV rs)) (h2 : Rd w w.heap.size A2 (rotV rs)) (k1 : rs.length ≤ c1) (k2 : rs.length ≤ c2) (hl : rs.length ≤ 100) :
    Calls Tryz.prog 47 #[.slice A1 rs.length c1, .slice A2 rs.length c2] w fun e w' => e = .returned (.bool true) ∧ Below w.heap.size w w' := by
  obtain ⟨iR, hi, hz0, hz1, hz2⟩ := info_parts Tryz.infoR
  have HI := Lib.hid hi; have HZ0 := Lib.hid hz0; have HZ1 := Lib.hid hz1; have HZ2 := Lib.hid hz2
  clear hi hz0 hz1 hz2
  obtain ⟨M, hM⟩ : ∃ M, M = rs.length := ⟨_, rfl⟩
  have R1 := Lib.hid h1; have R2 := Lib.hid h2; have HM := Lib.hid hM
  rw [← hM] at k1 k2 hl ⊢
  clear h1 h2 hM
  go_enter Tryz.func47, Tryz.ntmps47
  go_wp2_with fail
  go_loopw [13] (fun i wr => ∃ k : Nat, k ≤ M ∧ i = .int .i64 k ∧ Below w.heap.size w wr) (fun i _ => M - (intOf i).toNat)
  case atStart => exact ⟨0, Nat.zero_le _, rfl, Below.refl _ _⟩
  case round =>
    obtain ⟨k, hk, rfl, hbl⟩ := hrel
    have HBL := Lib.hid hbl; clear hbl
    by_cases hlt : k < M
    · have hkr : k < rs.length := by have := HM.out; omega
      obtain ⟨b1, o1, rfl, _, x0, x1⟩ := (R1.out.below HBL.out).rot hkr
      obtain ⟨b2, o2, rfl, _, y0, y1⟩ := (R2.out.below HBL.out).rot hkr
      generalize rs[k] = r at x0 x1 y0 y1
      obtain ⟨a, n⟩ := r
      simp only at x0 x1 y0 y1
      clear hkr
      go_wp2_with fail
      go_quiet (fail)
      go_wp2_with fail
      go_roundw
      case rel => exact ⟨k + 1, by omega, by go_num, below_drewN' HBL.out _⟩
      case measure => simp [intOf]; omega
    · go_wp2_with fail
      go_ret
      exact ⟨rfl, HBL.out⟩

theorem keep2P {W : World} {B X : Nat} (hB : B ≠ X) {a b u v : Value} (h : W.cell? ⟨B, 0, none⟩ = some a ∧ W.cell? ⟨B, 1, none⟩ = some b) :
    ((W.setCell ⟨X, 0, none⟩ u).setCell ⟨X, 1, none⟩ v).cell? ⟨B, 0, none⟩ = some a ∧ ((W.setCell ⟨X, 0, none⟩ u).setCell ⟨X, 1, none⟩ v).cell? ⟨B, 1, none⟩ = some b := by
  simp only [cell_set_ne hB]; exact h
theorem ten_range : Ten (List.range 10) := ⟨rfl, fun n hn => List.mem_range.1 hn⟩
theorem slice_some_nil1 {P : Program} (w : World) (d : Nat) (t e : TypeId) (a : Addr) (l c : Nat) (h : P.underlying t = some (.slice e)) : (Op.equalIn (d + 1) t (.slice (some a) l c) (.slice none 0 0)).run P w = .ok false w := by
  simp [Op.equalIn, run_underlying h]
theorem slice_some_nil2 {P : Program} (w : World) (t e : TypeId) (a : Addr) (l c : Nat) (h : P.underlying t = some (.slice e)) : (Op.equal t (.slice (some a) l c) (.slice none 0 0)).run P w = .ok false w := slice_some_nil1 w 9999 t e a l c h
theorem slice_some_nil {P : Program} (w : World) (t e : TypeId) (a : Addr) (l c : Nat) (h : P.underlying t = some (.slice e)) : (binOp .eql t (.slice (some a) l c) (.slice none 0 0)).run P w = .ok (.bool false) w := by
  simp [binOp, slice_some_nil2 w t e a l c h]

set_option maxHeartbeats 4000000 in
set_option maxRecDepth 100000 in
theorem cloneR_is (w : World) (A : Option Addr) (cap : Nat) (rs : List (ByteArray × ByteArray)) (h : Rd w w.heap.size A (rotV rs)) (h1 : 1 ≤ rs.length) (hl : rs.length ≤ 100) :
    Calls Tryz.prog 79 #[.slice A rs.length cap] w fun e w' => ∃ A' c', e = .returned (.slice A' rs.length c') ∧ w'.ownsRow w.heap.size 77 2 (.slice A' rs.length c') rs.length (rotV rs) ∧ Below w.heap.size w w' := by
  obtain ⟨iR, hi, hz0, hz1, hz2⟩ := info_parts Tryz.infoR
  have HI := Lib.hid hi; have HZ0 := Lib.hid hz0; have HZ1 := Lib.hid hz1; have HZ2 := Lib.hid hz2
  clear hi hz0 hz1 hz2
  have hm0 : (w.alloc (.cells #[] 77)).ownsRow w.heap.size 77 2 (.slice (some ⟨w.heap.size, 0, none⟩) 0 0) 0 [] := World.ownsRow_made w #[] 0 (Nat.le_refl _) (by decide) rfl
  have hb0 : Below w.heap.size w (w.alloc (.cells #[] 77)) := (Below.refl _ _).alloc (Nat.le_refl _) _
  have hn : rotV rs ≠ [] := by
    intro e
    have h2 := congrArg List.length e
    rw [length_rotV, List.length_nil] at h2
    omega
  have h9 := h.below hb0
  obtain ⟨b, off, rfl, hb, hcell⟩ := h9 hn
  have hcl : ∀ j u, (rotV rs)[j]? = some u → (w.alloc (.cells #[] 77)).cell? ((⟨b, off, none⟩ : Addr).add j) = some u := by
    intro j u hj
    obtain ⟨hl, rfl⟩ := List.getElem?_eq_some_iff.1 hj
    rw [add_none]; exact hcell j hl
  have hlen : (rotV rs).length = rs.length * 2 := length_rotV rs
  have h63 : 0 + rs.length ≤ maxLen := by unfold maxLen; omega
  have hbt : (0 + rs.length) * 32 ≤ 140737488355328 := by omega
  have HM0 := Lib.hid hm0; have HB0 := Lib.hid hb0; have HCL := Lib.hid hcl; have HLEN := Lib.hid hlen; have H63 := Lib.hid h63; have HBT := Lib.hid hbt
  have H1 := Lib.hid (show 0 < rs.length from h1); have HON := Lib.hid (rotV_one rs)
  clear hm0 hb0 hcl hlen h63 hbt hcell hb hn h h9 h1 hl
  have hnil := fun (w' : World) (M : Nat) => slice_some_nil (P := Tryz.prog) w' 23 _ ⟨b, off, none⟩ M cap Tryz.undR
  generalize rotV rs = V at HCL HLEN HON ⊢
  generalize rs.length = M at HLEN H63 HBT H1 ⊢
  go_enter Tryz.func79, Tryz.ntmps79
  go_wp2_with (at_builtin; go_loud (refine wpList_append_lies _ rfl (.tmp 5) (.tmp 6) 23 rfl w.heap.size 77 iR _ 2 32 Tryz.undR HI.out HZ0.out HZ1.out HZ2.out rfl (by decide) _ 0 [] rfl HM0.out ⟨b, off, none⟩ M cap V rfl HLEN.out HCL.out HON.out H1.out H63.out HBT.out HB0.out.size _ rfl ?_))
  intro g c w1 ho1 hg1 hat1 hlt1
  have hb1 := HB0.out.grown hg1 HB0.out.size (fun k e => (HM0.out.lt k e).1)
  clear hg1 hat1 hlt1
  have HO1 := Lib.hid ho1; have HB1 := Lib.hid hb1
  clear ho1 hb1
  go_wp2_with fail
  go_ret
  exact ⟨_, _, rfl, HO1.out, HB1.out⟩

set_option maxHeartbeats 4000000 in
set_option maxRecDepth 100000 in
theorem identityPerm_is (w : World) :
    Calls Tryz.prog 41 #[] w fun e w' => e = .returned (.string (mk ((List.range 10).map letter))) ∧ Below w.heap.size w w' := by
  have hid := fun w' => identity_any w'
  have hst := fun w' => permStr_any w' (List.range 10) ten_range
  have HID := Lib.hid hid; have HST := Lib.hid hst
  clear hid hst
  generalize List.range 10 = L at HID HST ⊢
  go_enter Tryz.func41, Tryz.ntmps41
  go_wp2_with fail
  refine (HID.out _).mono ?_
  rintro _ w1 ⟨rfl, hb1⟩
  have HB1 := Lib.hid hb1; clear hb1
  go_wp2_with fail
  refine (HST.out _).mono ?_
  rintro _ w2 ⟨rfl, hb2⟩
  have HB2 := Lib.hid (HB1.out.trans (hb2.mono HB1.out.size)); clear hb2
  go_wp2_with fail
  go_ret
  exact ⟨rfl, HB2.out⟩

set_option maxHeartbeats 4000000 in
set_option maxRecDepth 100000 in
theorem cloneW_is (w : World) (A : Option Addr) (cap : Nat) (rs : List (ByteArray × ByteArray)) (p : ByteArray) (h : Rd w w.heap.size A (rotV rs)) (h1 : 1 ≤ rs.length) (hl : rs.length ≤ 100) :
    Calls Tryz.prog 39 #[.agg #[.slice A rs.length cap, .string p]] w fun e w' => ∃ A' c', e = .returned (.agg #[.slice A' rs.length c', .string p]) ∧ w'.ownsRow w.heap.size 77 2 (.slice A' rs.length c') rs.length (rotV rs) ∧ Below w.heap.size w w' := by
  obtain ⟨w0, hw0⟩ : ∃ w0, w0 = (w.alloc (.cells #[.slice A rs.length cap, .string p] 25)).alloc (.cells #[.slice none 0 0, .string ⟨#[]⟩] 25) := ⟨_, rfl⟩
  obtain ⟨hb0, hs0, hq0⟩ := two_sbs w _ _ _ _ w0 hw0
  have hcl : ∀ w' : World, Below w0.heap.size w0 w' → Calls Tryz.prog 79 #[.slice A rs.length cap] w' fun e w'' => ∃ A' c', e = .returned (.slice A' rs.length c') ∧ w''.ownsRow w0.heap.size 77 2 (.slice A' rs.length c') rs.length (rotV rs) ∧ Below w0.heap.size w0 w'' := by
    intro w' hb
    have hb2 := hb0.trans (hb.mono hb0.size)
    refine (cloneR_is w' A cap rs ((h.below hb2).mono hb2.size) h1 hl).mono ?_
    rintro e w'' ⟨A', c', rfl, ho, hb3⟩
    exact ⟨A', c', rfl, own_mono3 ho hb.size, hb.trans (hb3.mono hb.size)⟩
  have HCL := Lib.hid hcl; have HB0 := Lib.hid hb0
  have hBw : w.heap.size ≤ w.heap.size + 1 := Nat.le_succ _
  clear h h1 hl hcl hb0
  generalize rotV rs = V at HCL ⊢
  generalize rs.length = M at hw0 hs0 hq0 HCL ⊢
  obtain ⟨B, hB⟩ : ∃ B, B = w.heap.size := ⟨_, rfl⟩
  have HBW := Lib.hid (show w.heap.size ≤ B + 1 by rw [hB]; exact Nat.le_succ _)
  rw [← hB] at hs0 hq0
  have HS0 := Lib.hid hs0; have HQ0 := Lib.hid hq0
  have hs : ∀ W' : World, Below w0.heap.size w0 W' → (W'.cell? ⟨B, 0, none⟩ = some (.slice A M cap) ∧ W'.cell? ⟨B, 1, none⟩ = some (.string p)) := fun W' hb => (HS0.out.below hb).two_cells
  have HSS := Lib.hid hs
  have hbr : Below w0.heap.size w0 w0 := Below.refl _ _
  have hbd : Below w0.heap.size w0 w0.drew := (Below.refl _ _).drew
  clear hs0 hq0 hs hBw
  go_enter Tryz.func39, Tryz.ntmps39
  go_wp2_with fail
  rw [← hw0, ← hB]
  clear hw0 hB
  go_wp2_with fail
  go_region_held3 (fun W' => W'.cell? ⟨B, 0, none⟩ = some (.slice A M cap) ∧ W'.cell? ⟨B, 1, none⟩ = some (.string p)) (first | with_reducible assumption | with_reducible exact HSS.out _ (by with_reducible assumption) | with_reducible exact keep2P (Nat.ne_of_lt (Nat.lt_succ_self B)) (HSS.out _ (by with_reducible assumption)) | fail) (first | (go_at_call 79; refine (HCL.out _ (by with_reducible assumption)).mono ?_; rintro _ w7 ⟨Ao, co, rfl, hoo, b7⟩; have hq7 := HQ0.out.below b7; obtain ⟨⟨x0, x1⟩, f0, f1⟩ := hq7.twoC; have HQ7 := Lib.hid hq7; clear hq7) | fail)
  all_goals
    have hne := own_ne_type hoo HQ7.out (by decide)
    have HSF := Lib.hid (HQ7.out.two (.slice Ao M co) (.string p))
    have HOF := Lib.hid (own_mono3 (own_set (own_set hoo hne 0 (.slice Ao M co)) hne 1 (.string p)) HB0.out.size)
    have HBF := Lib.hid (((HB0.out.trans (b7.mono HB0.out.size)).setCell (p := ⟨B + 1, 0, none⟩) HBW.out (.slice Ao M co)).setCell (p := ⟨B + 1, 1, none⟩) HBW.out (.string p))
    go_wp2_with fail
    refine bodyPost_ret (results_cell_row rfl _ _ (B + 1) _ #[.slice Ao M co, .string p] _ _ rfl HSF.out Tryz.underlying25 rfl whlSize) rfl ⟨Ao, co, rfl, HOF.out, HBF.out⟩

theorem repeat_oneP (c : UInt8) (n : Nat) : Lib.repeatL [c] n = List.replicate n c := by
  induction n with
  | zero => rfl
  | succ n ih => simp [Lib.repeatL, ih, List.replicate_succ]
theorem keep4P {W : World} {B X : Nat} (hB : B ≠ X) {a b u v y z : Value} (h : W.cell? ⟨B, 0, none⟩ = some a ∧ W.cell? ⟨B, 1, none⟩ = some b) :
    ((((W.setCell ⟨X, 0, none⟩ u).setCell ⟨X, 1, none⟩ v).setCell ⟨X, 2, none⟩ y).setCell ⟨X, 3, none⟩ z).cell? ⟨B, 0, none⟩ = some a ∧ ((((W.setCell ⟨X, 0, none⟩ u).setCell ⟨X, 1, none⟩ v).setCell ⟨X, 2, none⟩ y).setCell ⟨X, 3, none⟩ z).cell? ⟨B, 1, none⟩ = some b := by
  simp only [cell_set_ne hB]; exact h
/-- the plain machine was made -/
def PlainMade (rs : List (ByteArray × ByteArray)) (p : ByteArray) (w : World) (e : Ending) (w' : World) : Prop :=
  ∃ A cap, e = .returned (.tuple #[.agg #[.slice A rs.length cap, .string p, .string (mk (List.replicate rs.length 97)), .string (mk ((List.range 10).map letter))], .bool true]) ∧ w'.ownsRow w.heap.size 77 2 (.slice A rs.length cap) rs.length (rotV rs) ∧ Below w.heap.size w w'

set_option maxHeartbeats 8000000 in
set_option maxRecDepth 100000 in
theorem plainMachine_yes (w : World) (A : Option Addr) (cap : Nat) (rs : List (ByteArray × ByteArray)) (p : ByteArray) (h : Rd w w.heap.size A (rotV rs)) (hc : rs.length ≤ cap) (hv : WheelsV rs p) :
    Calls Tryz.prog 9 #[.agg #[.slice A rs.length cap, .string p]] w (PlainMade rs p w) := by
  have hl3 : rs.length ≤ 3 := hv.2.1
  have hl1 : 1 ≤ rs.length := hv.1
  obtain ⟨w0, hw0⟩ : ∃ w0, w0 = (w.alloc (.cells #[.slice A rs.length cap, .string p] 25)).alloc (.cells #[.slice none 0 0, .string ⟨#[]⟩, .string ⟨#[]⟩, .string ⟨#[]⟩] 29) := ⟨_, rfl⟩
  obtain ⟨hb0, hs0, hq0⟩ := two_sbs w _ _ _ _ w0 hw0
  have hwv := fun (w' : World) (h' : Rd w' w'.heap.size A (rotV rs)) => wheelsValid_any w' A cap rs p true h' hc (by omega) (by simp [hv])
  have hcl : ∀ (w1 : World) (hb1 : Below w.heap.size w w1) (w' : World) (hb : Below w1.heap.size w1 w'), Calls Tryz.prog 39 #[.agg #[.slice A rs.length cap, .string p]] w' fun e w'' => ∃ A' c', e = .returned (.agg #[.slice A' rs.length c', .string p]) ∧ w''.ownsRow w1.heap.size 77 2 (.slice A' rs.length c') rs.length (rotV rs) ∧ Below w'.heap.size w' w'' := by
    intro w1 hb1 w' hb
    refine (cloneW_is w' A cap rs p ((h.below (hb1.trans (hb.mono hb1.size))).mono (hb1.trans (hb.mono hb1.size)).size) hl1 (by omega)).mono ?_
    rintro e w'' ⟨A', c', rfl, ho, hb3⟩
    exact ⟨A', c', rfl, own_mono3 ho hb.size, hb3⟩
  have hrep := fun w' => Tryz.strings_Repeat (mk [97]) rs.length w' (by omega) (by rw [size_mk]; simp; omega)
  have er : (ByteArray.mk (Lib.repeatL (mk [97]).data.toList rs.length).toArray) = mk (List.replicate rs.length 97) := by
    show mk (Lib.repeatL [97] rs.length) = _
    rw [repeat_oneP]
  rw [er] at hrep
  clear er
  have hip := fun w' => identityPerm_is w'
  have hrd := (h.below hb0).mono hb0.size
  unfold PlainMade
  generalize mk (List.replicate rs.length 97) = RI at hrep ⊢
  generalize mk ((List.range 10).map letter) = PL at hip ⊢
  have HWV := Lib.hid hwv; have HCL := Lib.hid hcl; have HREP := Lib.hid hrep; have HIP := Lib.hid hip; have HB0 := Lib.hid hb0
  have HRD := Lib.hid hrd
  clear h hc hv hwv hcl hrep hip hb0 hrd
  generalize rotV rs = V at HCL HWV HRD ⊢
  generalize rs.length = M at hw0 hs0 hq0 HCL HWV HREP hl3 hl1 ⊢
  obtain ⟨B, hB⟩ : ∃ B, B = w.heap.size := ⟨_, rfl⟩
  have HBW := Lib.hid (show w.heap.size ≤ B + 1 by rw [hB]; exact Nat.le_succ _)
  rw [← hB] at hs0 hq0
  have HS0 := Lib.hid hs0; have HQ0 := Lib.hid hq0
  clear hs0 hq0
  obtain ⟨c0, c1⟩ := HS0.out.two_cells
  go_enter Tryz.func9, Tryz.ntmps9
  go_wp2_with fail
  rw [← hw0, ← hB]
  clear hw0 hB
  go_wp2_with fail
  refine (HWV.out _ HRD.out).mono ?_
  rintro _ w1 ⟨rfl, hb1⟩
  have HB1 := Lib.hid (HB0.out.trans (hb1.mono HB0.out.size)); have HS1 := Lib.hid (HS0.out.below hb1); have HQ1 := Lib.hid (HQ0.out.below hb1)
  clear hb1 c0 c1 HB0 HS0 HQ0 HRD
  have hs : ∀ W' : World, Below w1.heap.size w1 W' → (W'.cell? ⟨B, 0, none⟩ = some (.slice A M cap) ∧ W'.cell? ⟨B, 1, none⟩ = some (.string p)) := fun W' hb => (HS1.out.below hb).two_cells
  have HSS := Lib.hid hs
  have hcc := HCL.out w1 HB1.out
  have HCC := Lib.hid hcc
  have hbr : Below w1.heap.size w1 w1 := Below.refl _ _
  have hbd : Below w1.heap.size w1 w1.drew := (Below.refl _ _).drew
  clear hs hcc HCL
  go_wp2_with fail
  go_region_held3 (fun W' => W'.cell? ⟨B, 0, none⟩ = some (.slice A M cap) ∧ W'.cell? ⟨B, 1, none⟩ = some (.string p)) (first | with_reducible assumption | with_reducible exact HSS.out _ (by with_reducible assumption) | with_reducible exact keep4P (Nat.ne_of_lt (Nat.lt_succ_self B)) (HSS.out _ (by with_reducible assumption)) | fail) (first | (go_at_call 39; refine (HCC.out _ (by with_reducible assumption)).mono ?_; rintro _ w7 ⟨Ao, co, rfl, hoo, hb7⟩; have bz := bel_on (a := w1) (by with_reducible assumption) hb7; obtain ⟨⟨x0, x1, x2, x3⟩, f0, f1, f2, f3⟩ := (HQ1.out.below bz).all4) | (go_at_call 40; refine (HREP.out _).mono ?_; rintro _ w8 ⟨rfl, hb8⟩; have bz := bel_on (a := w1) (by with_reducible assumption) hb8; (first | (have hoo := ownsRow_below hoo hb8) | skip); obtain ⟨⟨x0, x1, x2, x3⟩, f0, f1, f2, f3⟩ := (HQ1.out.below bz).all4) | (go_at_call 41; refine (HIP.out _).mono ?_; rintro _ w9 ⟨rfl, hb9⟩; have bz := bel_on (a := w1) (by with_reducible assumption) hb9; (first | (have hoo := ownsRow_below hoo hb9) | skip); obtain ⟨⟨x0, x1, x2, x3⟩, f0, f1, f2, f3⟩ := (HQ1.out.below bz).all4) | fail)
  all_goals
    have hqz := HQ1.out.below bz
    have hne := own_ne_type hoo hqz (by decide)
    have HSF := Lib.hid (hqz.four (.slice Ao M co) (.string p) (.string RI) (.string PL))
    have HOF := Lib.hid (own_mono3 (own_set (own_set (own_set (own_set hoo hne 0 (.slice Ao M co)) hne 1 (.string p)) hne 2 (.string RI)) hne 3 (.string PL)) HB1.out.size)
    have HBF := Lib.hid (((((HB1.out.trans (bz.mono HB1.out.size)).setCell (p := ⟨B + 1, 0, none⟩) HBW.out (.slice Ao M co)).setCell (p := ⟨B + 1, 1, none⟩) HBW.out (.string p)).setCell (p := ⟨B + 1, 2, none⟩) HBW.out (.string RI)).setCell (p := ⟨B + 1, 3, none⟩) HBW.out (.string PL))
    go_wp2_with fail
    refine bodyPost_ret (results_st_tmp rfl _ _ (B + 1) _ #[.slice Ao M co, .string p, .string RI, .string PL] _ _ rfl HSF.out Tryz.underlying29 ⟨_, rfl⟩ macSize) rfl ⟨Ao, co, rfl, HOF.out, HBF.out⟩

theorem bn_next {q : List Nat} {k : Nat} {s : BN} (h : bnR q k = s) : bnR q (k + 1) = bnS q k s := by rw [← h]; rfl

set_option maxHeartbeats 8000000 in
set_option maxRecDepth 100000 in
theorem boardNo_is (w : World) (q : List Nat) (hq : Prm q) (hi : invP q = q) :
    Calls Tryz.prog 49 #[.string (pT q)] w fun e w' => e = .returned (.int .i64 ((boardK q : Nat) : Int)) ∧ Below w.heap.size w w' := by
  have hlt : ∀ j, j < 10 → nth q j < 10 := fun j _ => nth_lt hq.lt j
  have hin : ∀ j, j < 10 → nth q (nth q j) = j := fun j hj => inv_nth hq hi hj
  have hpo := fun w' => plugsOf_yes w' q hq hi
  have hpr := fun w' => pairs_any w' q hq.toTen
  rw [pairs_moved hq.len] at hpr
  have HOK := Lib.hid (fun k (hk : k ≤ 10) => bnR_ok hlt hin k hk)
  have HBO := Lib.hid (fun (w' : World) (L P' : Nat) (l p : Int) (hl : l = (L : Int)) (hp : p = (P' : Int)) (hL : L ≤ 10) (hP' : P' ≤ 5) => boardsOf_is w' L P' l p hl hp hL hP')
  have HPO := Lib.hid hpo; have HPR := Lib.hid hpr; have HQL := Lib.hid hq.len; have HLT := Lib.hid hlt; have HIN := Lib.hid hin
  have h0 : bnR q 0 = ⟨0, 10, movedN q / 2, []⟩ := rfl
  have HK := Lib.hid (show boardK q = (bnR q 10).n from rfl)
  generalize movedN q / 2 = M at HPR h0
  have H0 := Lib.hid h0
  clear hpo hpr hi hq hlt hin h0
  generalize pT q = T at HPO
  generalize boardK q = K at HK
  go_enter Tryz.func49, Tryz.ntmps49
  go_wp2_with fail
  refine (HPO.out _).mono ?_
  rintro _ w1 ⟨rfl, hb1⟩
  have HB1 := Lib.hid hb1; clear hb1 HPO
  have HG1 := Lib.hid (PB.made w1)
  have HB2 := Lib.hid (HB1.out.alloc HB1.out.size (.cells #[.int .u8 0, .int .u8 0, .int .u8 0, .int .u8 0, .int .u8 0, .int .u8 0, .int .u8 0, .int .u8 0, .int .u8 0, .int .u8 0] 101))
  have HS3 := Lib.hid (HG1.out.row q)
  have HB3 := Lib.hid (below_setRow HB2.out HB1.out.size (pC q))
  go_wp2_with (first | (refine wpList_store_row rfl 101 _ _ rfl w1.heap.size (pC q) rfl rfl _ _ HG1.out (permSize HQL.out) (by rw [pC_size, pC_size, HQL.out]; rfl) (pC_one _) ?_) | (refine wpList_load_row rfl 101 _ rfl w1.heap.size rfl _ _ _ _ HS3.out Tryz.underlying101 rfl (permSize HQL.out) ?_))
  obtain ⟨w3, hw3⟩ : ∃ w3, w3 = (w1.alloc (.cells #[.int .u8 0, .int .u8 0, .int .u8 0, .int .u8 0, .int .u8 0, .int .u8 0, .int .u8 0, .int .u8 0, .int .u8 0, .int .u8 0] 101)).setRow w1.heap.size (pC q) := ⟨_, rfl⟩
  rw [← hw3] at HS3 HB3 ⊢
  obtain ⟨A, hA⟩ : ∃ A, A = w1.heap.size := ⟨_, rfl⟩
  rw [← hA] at HS3 ⊢
  have hwA : w.heap.size ≤ A := by rw [hA]; exact HB1.out.size
  have hz3 : w3.heap.size = A + 1 := by rw [hw3, hA]; simp [World.setRow]
  clear hw3 HG1 HB2 hA
  refine (HPR.out _).mono ?_
  rintro _ w4 ⟨rfl, hb4⟩
  have HS4 := Lib.hid (HS3.out.below hb4)
  have HB4 := Lib.hid (HB3.out.trans (hb4.mono HB3.out.size))
  have hz4 : A < w4.heap.size := by have := hb4.size; omega
  clear hb4 HS3 HB3 hz3
  obtain ⟨w5, hw5⟩ : ∃ w5, w5 = w4.alloc noSeen := ⟨_, rfl⟩
  obtain ⟨D, hD⟩ : ∃ D, D = w4.heap.size := ⟨_, rfl⟩
  have hp5 : PB w5 A q := by rw [hw5]; exact block_kept3 HS4.out _
  have hd5 : SB w5 D (seenC 10 []) 103 := by rw [hw5, hD, ← seen_ten]; exact heap_alloc_new w4 _
  have hb5 : Below w.heap.size w w5 := by rw [hw5]; exact HB4.out.alloc HB4.out.size _
  have hAD : A ≠ D := by omega
  have hwD : w.heap.size ≤ D := by have := HB4.out.size; omega
  have HP5 := Lib.hid hp5; have HD5 := Lib.hid hd5; have HB5 := Lib.hid hb5
  go_wp2_with fail
  rw [← hw5, ← hD]
  clear hw5 hD hp5 hd5 hb5 HS4 HB4 hz4
  go_loopw [5, 6, 7, 21] (fun nv fv pv iv wr => ∃ (k n f P : Nat) (l : List Nat), nv = .int .i64 (n : Int) ∧ fv = .int .i64 (f : Int) ∧ pv = .int .i64 (P : Int) ∧ iv = .int .i64 (k : Int) ∧ k ≤ 10 ∧ Hid (bnR q k = ⟨n, f, P, l⟩) ∧ Hid (PB wr A q) ∧ Hid (SB wr D (seenC 10 l) 103) ∧ Hid (Below w.heap.size w wr)) (fun _ _ _ iv _ => 10 - (intOf iv).toNat)
  case atStart => exact ⟨0, 0, 10, M, [], rfl, rfl, rfl, rfl, by omega, H0, HP5, HD5, HB5⟩
  case round =>
    obtain ⟨k, n, f, P, l, rfl, rfl, rfl, rfl, hk, HS, HPB, HSB, HBL⟩ := hrel
    clear HP5 HD5 HB5 H0
    have HI := Lib.hid (HS.out ▸ HOK.out k hk : BnI q k ⟨n, f, P, l⟩)
    by_cases hlt : k < 10
    · have v0 : (k : Int) < 10 := by omega
      have c0 := seen_cell HSB.out hlt
      have hnx := bn_next HS.out
      unfold bnS at hnx
      by_cases hkl : k ∈ l
      · rw [decide_eq_true hkl] at c0
        rw [if_pos hkl] at hnx
        have HNX := Lib.hid hnx
        clear hkl hnx
        go_wp2_with fail
        go_roundw
        case rel => exact ⟨k + 1, n, f, P, l, rfl, rfl, rfl, by go_num, by omega, HNX, HPB, HSB, HBL⟩
        case measure => simp [intOf]; omega
      · rw [decide_eq_false hkl] at c0
        rw [if_neg hkl] at hnx
        obtain ⟨f1, f10, P5⟩ := HI.out.one hlt hkl
        simp only at f1 f10 P5 hnx
        have hkq : k < q.length := by rw [HQL.out]; exact hlt
        have c1 := HPB.out.cell hkq
        rw [← nth_eq hkq] at c1
        have hy10 := HLT.out k hlt
        have f2 : wr.frozen? ⟨D, k, none⟩ = false := HSB.out.frozen k
        have hput := SB.put HSB.out k (.bool true)
        rw [seenC_put] at hput
        by_cases hy : nth q k = k
        · rw [if_pos hy] at hnx
          rw [hy] at c1
          have hput2 := SB.put hput k (.bool true)
          rw [seenC_put] at hput2
          have HSB2 := Lib.hid hput2
          have HPB2 := Lib.hid ((HPB.out.far hAD k (.bool true)).far hAD k (.bool true))
          have HBL2 := Lib.hid ((HBL.out.setCell (p := ⟨D, k, none⟩) hwD (.bool true)).setCell (p := ⟨D, k, none⟩) hwD (.bool true))
          have HNX := Lib.hid hnx
          have w1' : IntKind.i64.wrap ((f : Int) - 1) = ((f - 1 : Nat) : Int) := by rw [IntKind.wrap_i64]; omega
          have w2' : wrap64 ((f : Int) - 1) = ((f - 1 : Nat) : Int) := by unfold wrap64; omega
          clear hkl hnx hput hput2 hy hkq hy10
          go_wp2_with fail
          go_roundw
          case rel => exact ⟨k + 1, n, f - 1, P, (l ++ [k]) ++ [k], rfl, by go_num, rfl, by go_num, by omega, HNX, HPB2, HSB2, HBL2⟩
          case measure => simp [intOf]; omega
        · rw [if_neg hy] at hnx
          obtain ⟨e1, e2, e3, e4, -, -⟩ := HI.out.two HLT.out HIN.out hlt hkl hy
          simp only at e3 e4
          have hIn := (HOK.out (k + 1) (by omega)).n
          rw [hnx] at hIn
          simp only at hIn
          have hn9 := HI.out.n
          simp only at hn9
          obtain ⟨y, hyy⟩ : ∃ y, y = nth q k := ⟨_, rfl⟩
          rw [← hyy] at c1 hy hy10 hnx e2 hIn
          have hput2 := SB.put hput y (.bool true)
          rw [seenC_put] at hput2
          have f3 : (wr.setCell ⟨D, k, none⟩ (.bool true)).frozen? ⟨D, y, none⟩ = false := hput.frozen y
          have c2 := seen_cell HSB.out hy10
          have c3 := seen_cell hput hy10
          have HSB2 := Lib.hid hput2
          have HPB2 := Lib.hid ((HPB.out.far hAD k (.bool true)).far hAD y (.bool true))
          have HBL2 := Lib.hid ((HBL.out.setCell (p := ⟨D, k, none⟩) hwD (.bool true)).setCell (p := ⟨D, y, none⟩) hwD (.bool true))
          obtain ⟨w6, hw6⟩ : ∃ w6, w6 = (wr.setCell ⟨D, k, none⟩ (.bool true)).setCell ⟨D, y, none⟩ (.bool true) := ⟨_, rfl⟩
          rw [← hw6] at HSB2 HPB2 HBL2
          obtain ⟨l2, hl2⟩ : ∃ l2, l2 = (l ++ [k]) ++ [y] := ⟨_, rfl⟩
          rw [← hl2] at hnx hIn HSB2
          have hb0 := fun w' => HBO.out w' (f - 1) P
          have hb1 := fun w' => HBO.out w' (f - 2) (P - 1)
          obtain ⟨C1, hC1⟩ : ∃ C1, C1 = cnt (f - 1) P := ⟨_, rfl⟩
          obtain ⟨E, hE⟩ : ∃ E, E = cnt (f - 2) (P - 1) := ⟨_, rfl⟩
          rw [← hC1] at hnx hb0 hIn
          rw [← hE] at hnx hb1 hIn
          obtain ⟨N2, hN2⟩ : ∃ N2, N2 = n + C1 + iS l2 E (k + 1) (y - (k + 1)) := ⟨_, rfl⟩
          rw [← hN2] at hnx hIn
          have HNX := Lib.hid hnx; have HC1 := Lib.hid hb0; have HC2 := Lib.hid hb1; have HN2 := Lib.hid hN2
          have hC45 : C1 ≤ 4725 := by rw [hC1]; exact cnt_le (by omega) P5
          have hE45 : E ≤ 4725 := by rw [hE]; exact cnt_le (by omega) (by omega)
          have hN6 : N2 ≤ 600000 := by omega
          have hn6 : n ≤ 600000 := by omega
          have w1' : IntKind.i64.wrap ((f : Int) - 1) = (f : Int) - 1 := by rw [IntKind.wrap_i64]; omega
          have w2' : IntKind.i64.wrap ((f : Int) - 2) = (f : Int) - 2 := by rw [IntKind.wrap_i64]; omega
          have w3' : IntKind.i64.wrap ((P : Int) - 1) = (P : Int) - 1 := by rw [IntKind.wrap_i64]; omega
          have w4' : wrap64 ((f : Int) - 2) = ((f - 2 : Nat) : Int) := by unfold wrap64; omega
          have w5' : wrap64 ((P : Int) - 1) = ((P - 1 : Nat) : Int) := by unfold wrap64; omega
          have v1 : ¬ (y : Int) = (k : Int) := by omega
          have v2 : ¬ y = k := hy
          have hw7 := Lib.hid hw6
          clear hnx hIn hput hput2 hkl hb0 hb1 hC1 hE hN2 hyy e1 hn9 hl2 hkq hw6
          go_wp2_with fail
          rw [← hw7.out]
          refine (HC1.out _ _ _ (by omega) (by first | rfl | omega) (by omega) P5).mono ?_
          rintro _ _ ⟨rfl, rfl⟩
          go_wp2_with fail
          go_loop [5, 11] (fun nv jv => ∃ m j : Nat, nv = .int .i64 (m : Int) ∧ jv = .int .i64 (j : Int) ∧ k + 1 ≤ j ∧ j ≤ y ∧ m ≤ 600000 ∧ Hid (m + iS l2 E j (y - j) = N2)) (fun _ jv => y - (intOf jv).toNat)
          case atStart => exact ⟨n + C1, k + 1, by go_num, by go_num, Nat.le_refl _, by omega, by have := HN2.out; omega, Lib.hid HN2.out.symm⟩
          case round =>
            obtain ⟨m, j, rfl, rfl, hkj, hjy, hm, HM⟩ := hrel
            by_cases hj : j < y
            · have u0 : (j : Int) < (y : Int) := by omega
              have hj10 : j < 10 := by omega
              have c4 := seen_cell HSB2.out hj10
              have hyj : y - j = (y - (j + 1)) + 1 := by omega
              have hM := HM.out
              rw [hyj] at hM
              by_cases hjl : j ∈ l2
              · rw [decide_eq_true hjl] at c4
                rw [iS_in hjl] at hM
                have HM2 := Lib.hid hM
                clear hM hjl hyj
                go_wp2_with fail
                go_round
                case rel => exact ⟨m, j + 1, rfl, by go_num, by omega, by omega, hm, HM2⟩
                case measure => simp [intOf]; omega
              · rw [decide_eq_false hjl] at c4
                rw [iS_out hjl, ← Nat.add_assoc] at hM
                have hm2 : m + E ≤ 600000 := by omega
                have HM2 := Lib.hid hM
                clear hM hjl hyj
                go_wp2_with fail
                refine (HC2.out _ _ _ (by omega) (by omega) (by omega) (by omega)).mono ?_
                rintro _ _ ⟨rfl, rfl⟩
                go_wp2_with fail
                go_round
                case rel => exact ⟨m + E, j + 1, by go_num, by go_num, by omega, by omega, hm2, HM2⟩
                case measure => simp [intOf]; omega
            · obtain rfl : j = y := by omega
              have hM := HM.out
              rw [Nat.sub_self, show iS l2 E j 0 = 0 from rfl, Nat.add_zero] at hM
              subst hM
              go_wp2_with fail
              go_roundw
              case rel => exact ⟨k + 1, m, f - 2, P - 1, l2, rfl, by go_num, by go_num, by go_num, by omega, HNX, HPB2, HSB2, HBL2⟩
              case measure => simp [intOf]; omega
    · obtain rfl : k = 10 := by omega
      have he : n = K := by rw [HK.out, HS.out]
      subst he
      go_wp2_with fail
      go_ret
      exact ⟨rfl, HBL.out⟩

theorem keep3N {W : World} {B D X o : Nat} (hB : B ≠ X) (hD : D ≠ X) {a b c u v y : Value} (h : W.cell? ⟨B, 0, none⟩ = some a ∧ W.cell? ⟨B, 1, none⟩ = some b ∧ W.cell? ⟨D, o, none⟩ = some c) :
    (((W.setCell ⟨X, 0, none⟩ u).setCell ⟨X, 1, none⟩ v).setCell ⟨X, 2, none⟩ y).cell? ⟨B, 0, none⟩ = some a ∧ (((W.setCell ⟨X, 0, none⟩ u).setCell ⟨X, 1, none⟩ v).setCell ⟨X, 2, none⟩ y).cell? ⟨B, 1, none⟩ = some b ∧ (((W.setCell ⟨X, 0, none⟩ u).setCell ⟨X, 1, none⟩ v).setCell ⟨X, 2, none⟩ y).cell? ⟨D, o, none⟩ = some c := by
  simp only [cell_set_ne hB, cell_set_ne hD]; exact h

theorem dayN_sum {R G W C K : Nat} (hR : R < 1000) (hG : G < 1000) (hW : W ≤ 1000) (hC : C ≤ 4725) (hK : K ≤ 600000) :
    IntKind.i64.wrap ((R : Int) * (C : Int)) = ((R * C : Nat) : Int) ∧ wrap64 ((R : Int) * (C : Int)) = ((R * C : Nat) : Int) ∧
    IntKind.i64.wrap (((R * C : Nat) : Int) + (K : Int)) = ((R * C + K : Nat) : Int) ∧ wrap64 (((R * C : Nat) : Int) + (K : Int)) = ((R * C + K : Nat) : Int) ∧
    IntKind.i64.wrap (((R * C + K : Nat) : Int) * (W : Int)) = (((R * C + K) * W : Nat) : Int) ∧ wrap64 (((R * C + K : Nat) : Int) * (W : Int)) = (((R * C + K) * W : Nat) : Int) ∧
    IntKind.i64.wrap ((((R * C + K) * W : Nat) : Int) + (G : Int)) = (((R * C + K) * W + G : Nat) : Int) ∧ wrap64 ((((R * C + K) * W : Nat) : Int) + (G : Int)) = (((R * C + K) * W + G : Nat) : Int) ∧ R < 1000 := by
  have h1 : R * C ≤ 1000 * 4725 := Nat.mul_le_mul (by omega) hC
  have h2 : (R * C + K) * W ≤ (1000 * 4725 + 600000) * 1000 := Nat.mul_le_mul (by omega) hW
  rw [← Int.natCast_mul, ← Int.natCast_mul]
  generalize R * C = X at h1 h2 ⊢
  generalize (X + K) * W = Y at h2 ⊢
  rw [IntKind.wrap_i64, IntKind.wrap_i64, IntKind.wrap_i64, IntKind.wrap_i64]
  unfold wrap64
  refine ⟨?_, ?_, ?_, ?_, ?_, ?_, ?_, ?_, hR⟩ <;> omega

set_option maxHeartbeats 8000000 in
set_option maxRecDepth 100000 in
/-- given what BoardNumber answers -/
theorem dayNumber_own (w : World) (A : Option Addr) (cap : Nat) (rs : List (ByteArray × ByteArray)) (p : ByteArray) (ri gr q : List Nat) (K : Nat) (h : Rd w w.heap.size A (rotV rs)) (hc : rs.length ≤ cap) (hv : WinV rs p (pT ri)) (hq : Prm q) (hi : invP q = q) (hri : ∀ n ∈ ri, n < 10) (hgr : ∀ n ∈ gr, n < 10) (hlr : ri.length = rs.length) (hlg : gr.length = rs.length) (hK : K ≤ 600000)
    (hbn : ∀ w' : World, Calls Tryz.prog 49 #[.string (pT q)] w' fun e w'' => e = .returned (.int .i64 (K : Int)) ∧ Below w'.heap.size w' w'') :
    Calls Tryz.prog 12 #[.agg #[.slice A rs.length cap, .string p], .agg #[.slice A rs.length cap, .string p, .string (pT ri), .string (pT q)], .string (pT gr)] w fun e w' => e = .returned (.int .i64 (((valN ri * cnt 10 (pairsP q) + K) * 10 ^ rs.length + valN gr : Nat) : Int)) ∧ Below w.heap.size w w' := by
  have hWV := hv.1
  have hP5 : pairsP q ≤ 5 := by have := movedN_le q; rw [pairs_moved hq.len]; omega
  have hnd := fun (w' : World) (h' : Rd w' w'.heap.size A (rotV rs)) => newDays_yes w' A cap rs p (pairsP q) _ rfl h' hc hWV hP5
  have hpc := fun w' => plugCount_is w' q hq hi
  have hwv := fun (w' : World) (h' : Rd w' w'.heap.size A (rotV rs)) => wheelsValid_any w' A cap rs p true h' hc (by have := hWV.2.1; omega) (by simp [hWV])
  have hsv := fun (w' : World) (h' : Rd w' w'.heap.size A (rotV rs)) => settingValid_yes w' A cap rs p (pT ri) (pT gr) q h' hc hv hq hi (by rw [pT_size, pT_size, hlr, hlg]) (pT_wv hgr (by have := hWV.2.1; omega))
  obtain ⟨w0, hw0⟩ : ∃ w0, w0 = (w.alloc (.cells #[.slice A rs.length cap, .string p] 25)).alloc (.cells #[.slice A rs.length cap, .string p, .string (pT ri), .string (pT q)] 29) := ⟨_, rfl⟩
  obtain ⟨hb0, hs0, hq0⟩ := two_sbs w _ _ _ _ w0 hw0
  have hrd0 := (h.below hb0).mono hb0.size
  have hoa := fun (w' : World) (a b : Int) (ha : a = ((rs.length : Nat) : Int)) (hb : b = 0) => orderAt_is w' rs.length 0 a b ha (by rw [hb]; rfl) hWV.1 hWV.2.1 (fct_le (show rs.length ≤ 10 by have := hWV.2.1; omega)).1
  have how := fun (w' : World) (Ao : Option Addr) (co : Nat) (h' : Rd w' w'.heap.size A (rotV rs)) (ho : Rd w' w'.heap.size Ao (natV (List.range rs.length))) (hco : (List.range rs.length).length ≤ co) => orderWheels_is w' A cap rs p Ao co (List.range rs.length) h' hc hWV ho hco (by simp) List.nodup_range (by simp)
  unfold OrdMade at hoa
  unfold OrdW at how
  rw [ordR_range] at how
  rw [ordP_zero hWV.2.1] at hoa
  rw [List.length_range] at how hoa
  have HOA := Lib.hid hoa; have HOW := Lib.hid how
  clear hoa how
  unfold dayV at hnd
  have hF : 0 < fct rs.length := (fct_le (show rs.length ≤ 10 by have := hWV.2.1; omega)).1
  have hr1 : 1 ≤ ri.length := by have := hWV.1; omega
  have hr3 : ri.length ≤ 3 := by have := hWV.2.1; omega
  have hg1 : 1 ≤ gr.length := by have := hWV.1; omega
  have hg3 : gr.length ≤ 3 := by have := hWV.2.1; omega
  have hl100 : rs.length ≤ 100 := by have := hWV.2.1; omega
  have hR0 : valN ri < 1000 := by
    have h := valN_lt hri ri.length (Nat.le_refl _)
    rw [List.take_of_length_le (Nat.le_refl _)] at h
    exact Nat.lt_of_lt_of_le h (Nat.pow_le_pow_right (show 1 ≤ 10 by omega) hr3)
  have hG0 : valN gr < 1000 := by
    have h := valN_lt hgr gr.length (Nat.le_refl _)
    rw [List.take_of_length_le (Nat.le_refl _)] at h
    exact Nat.lt_of_lt_of_le h (Nat.pow_le_pow_right (show 1 ≤ 10 by omega) hg3)
  have hW0 : 10 ^ rs.length ≤ 1000 := Nat.pow_le_pow_right (show 1 ≤ 10 by omega) hWV.2.1
  have hC0 : cnt 10 (pairsP q) ≤ 4725 := cnt_le (by omega) hP5
  obtain ⟨n1, n2, n3, n4, n5, n6, n7, n8, hF9⟩ := dayN_sum hR0 hG0 hW0 hC0 hK
  have hwv1 := fun w' => wordValue_is w' ri hri hr1 hr3
  have hwv2 := fun w' => wordValue_is w' gr hgr hg1 hg3
  generalize valN ri = R at n1 n2 n3 n4 n5 n6 n7 n8 hwv1 hR0 ⊢
  generalize valN gr = G at n1 n2 n3 n4 n5 n6 n7 n8 hwv2 ⊢
  have n0 : IntKind.i64.wrap (R : Int) = (R : Int) := by rw [IntKind.wrap_i64]; omega
  have HWV1 := Lib.hid hwv1; have HWV2 := Lib.hid hwv2
  clear hR0 hG0 hW0 hC0 hF9 hwv1 hwv2
  generalize fct rs.length = F at hnd hF
  generalize 10 ^ rs.length = W at hnd n1 n2 n3 n4 n5 n6 n7 n8 ⊢
  generalize cnt 10 (pairsP q) = C at hnd n1 n2 n3 n4 n5 n6 n7 n8 ⊢
  have hval : IntKind.i64.wrap (IntKind.i64.wrap (IntKind.i64.wrap (IntKind.i64.wrap (IntKind.i64.wrap (IntKind.i64.wrap 0 + (R : Int)) * (C : Int)) + (K : Int)) * (W : Int)) + (G : Int)) = (((R * C + K) * W + G : Nat) : Int) := by rw [show IntKind.i64.wrap 0 = 0 by decide, Int.zero_add, n0, n1, n3, n5, n7]
  have HVAL := Lib.hid hval
  clear hval n0 n1 n2 n3 n4 n5 n6 n7 n8
  obtain ⟨B, hB⟩ : ∃ B, B = w.heap.size := ⟨_, rfl⟩
  rw [← hB] at hs0 hq0
  have hBw : w.heap.size ≤ B := by omega
  have HB0 := Lib.hid hb0; have HS0 := Lib.hid hs0; have HQ0 := Lib.hid hq0; have HRD := Lib.hid hrd0; have HND := Lib.hid hnd; have HPC := Lib.hid hpc; have HWV := Lib.hid hwv; have HSV := Lib.hid hsv; have HBN := Lib.hid hbn
  clear h hb0 hs0 hq0 hrd0 hnd hpc hwv hsv hbn
  obtain ⟨c0, c1⟩ := HS0.out.two_cells
  obtain ⟨⟨m0, m1, m2, m3⟩, _⟩ := HQ0.out.all4
  go_enter Tryz.func12, Tryz.ntmps12
  go_wp2_with fail
  rw [← hw0, ← hB]
  clear hw0 hB
  go_wp2_with fail
  refine (HWV.out _ HRD.out).mono ?_
  rintro _ w1 ⟨rfl, hb1⟩
  have HB1 := Lib.hid (HB0.out.trans (hb1.mono HB0.out.size)); have HS1 := Lib.hid (HS0.out.below hb1); have HQ1 := Lib.hid (HQ0.out.below hb1); have HR1 := Lib.hid ((HRD.out.below hb1).mono hb1.size)
  clear hb1 HB0 HS0 HQ0 HRD c0 c1 m0 m1 m2 m3
  obtain ⟨c0, c1⟩ := HS1.out.two_cells
  obtain ⟨⟨m0, m1, m2, m3⟩, _⟩ := HQ1.out.all4
  go_wp2_with fail
  refine (HSV.out _ HR1.out).mono ?_
  rintro _ w2 ⟨rfl, hb2⟩
  have HB2 := Lib.hid (HB1.out.trans (hb2.mono HB1.out.size)); have HS2 := Lib.hid (HS1.out.below hb2); have HQ2 := Lib.hid (HQ1.out.below hb2); have HR2 := Lib.hid ((HR1.out.below hb2).mono hb2.size)
  clear hb2 HB1 HS1 HQ1 HR1 c0 c1 m0 m1 m2 m3
  have hs : ∀ W' : World, Below w2.heap.size w2 W' → (W'.cell? ⟨B, 0, none⟩ = some (.slice A rs.length cap) ∧ W'.cell? ⟨B, 1, none⟩ = some (.string p) ∧ W'.cell? ⟨B + 1, 2 + 1, none⟩ = some (.string (pT q))) := fun W' hb => ⟨(HS2.out.below hb).two_cells.1, (HS2.out.below hb).two_cells.2, (HQ2.out.below hb).all4.1.2.2.2⟩
  have HSS := Lib.hid hs
  have HRR := Lib.hid (fun (W' : World) (hb : Below w2.heap.size w2 W') => (HR2.out.below hb).mono hb.size)
  have hbd : Below w2.heap.size w2 w2.drew := (Below.refl _ _).drew
  have hbr : Below w2.heap.size w2 w2 := Below.refl _ _
  have HQZ := Lib.hid ((SB.made w2 #[.int .i64 0, .int .i64 0, .int .i64 0] 56).below (Below.refl _ _).drew)
  have HN1 := Lib.hid (fun (W' : World) (hb : Below w2.heap.size w2 W') => (show B ≠ W'.heap.size from Nat.ne_of_lt (Nat.lt_of_lt_of_le HS2.out.lt hb.size)))
  have HN2 := Lib.hid (fun (W' : World) (hb : Below w2.heap.size w2 W') => (show B + 1 ≠ W'.heap.size from Nat.ne_of_lt (Nat.lt_of_lt_of_le HQ2.out.lt hb.size)))
  clear hs
  have HHV := Lib.hid hv; have HHQ := Lib.hid hq; have HHI := Lib.hid hi; have HHR := Lib.hid hri; have HHG := Lib.hid hgr; have HLR := Lib.hid hlr; have HLG := Lib.hid hlg; have HWW := Lib.hid hWV
  clear hv hq hi hri hgr hlr hlg hWV
  go_wp2_with fail
  go_region_held3 (fun W' => W'.cell? ⟨B, 0, none⟩ = some (.slice A rs.length cap) ∧ W'.cell? ⟨B, 1, none⟩ = some (.string p) ∧ W'.cell? ⟨B + 1, 2 + 1, none⟩ = some (.string (pT q))) (first | with_reducible assumption | with_reducible exact HSS.out _ (by with_reducible assumption) | with_reducible exact HSS.out _ bel_aldK | with_reducible exact HSS.out _ (bel_alK (by with_reducible assumption)) | with_reducible exact keep3N (HN1.out _ (by with_reducible assumption)) (HN2.out _ (by with_reducible assumption)) (HSS.out _ (by with_reducible assumption)) | fail) (first | (go_at_call 46; refine (HPC.out _).mono ?_; rintro _ w7 ⟨rfl, hb7⟩; have b7 := bel_on (a := w2) (by first | with_reducible assumption | with_reducible exact bel_aldK | exact bel_alK (by with_reducible assumption)) hb7; (first | (have HQ7 := Lib.hid (HQZ.out.below hb7)) | skip)) | (go_at_call 25; refine (HND.out _ (HRR.out _ (by first | with_reducible assumption | exact bel_alK (by with_reducible assumption)))).mono ?_; rintro _ w8 ⟨rfl, hb8⟩; have b8 := bel_on (a := w2) (by first | with_reducible assumption | exact bel_alK (by with_reducible assumption)) hb8; (first | (have hq8 := HQ7.out.below hb8; have HQ8 := Lib.hid hq8; obtain ⟨⟨x0, x1, x2⟩, f0, f1, f2⟩ := hq8.tri; clear hq8) | (have hq8 := (SB.made w7 #[.int .i64 0, .int .i64 0, .int .i64 0] 56).below hb8; have HQ8 := Lib.hid hq8; obtain ⟨⟨x0, x1, x2⟩, f0, f1, f2⟩ := hq8.tri; clear hq8) | skip)) | fail)
  all_goals
    first
    | (have hx := SB.made w8 #[.int .i64 (F : Int), .int .i64 (W : Int), .int .i64 (C : Int)] 56
       have hbe := bel_alK (o := .cells #[.int .i64 (F : Int), .int .i64 (W : Int), .int .i64 (C : Int)] 56) b8
       obtain ⟨We, hWe⟩ : ∃ We, We = w8.alloc (.cells #[.int .i64 (F : Int), .int .i64 (W : Int), .int .i64 (C : Int)] 56) := ⟨_, rfl⟩
       obtain ⟨X, hX⟩ : ∃ X, X = w8.heap.size := ⟨_, rfl⟩
       have hwx : w2.heap.size ≤ X := by rw [hX]; exact b8.size
       rw [← hWe] at hx hbe
       rw [← hX] at hx
       rw [← hWe, ← hX]
       clear hWe hX)
    | (have hx := HQ8.out.triPut (.int .i64 (F : Int)) (.int .i64 (W : Int)) (.int .i64 (C : Int))
       have hbe := bel_tri b8 (p := w7.heap.size) b7.size (.int .i64 (F : Int)) (.int .i64 (W : Int)) (.int .i64 (C : Int))
       obtain ⟨We, hWe⟩ : ∃ We, We = ((w8.setCell ⟨w7.heap.size, 0, none⟩ (.int .i64 (F : Int))).setCell ⟨w7.heap.size, 1, none⟩ (.int .i64 (W : Int))).setCell ⟨w7.heap.size, 2, none⟩ (.int .i64 (C : Int)) := ⟨_, rfl⟩
       obtain ⟨X, hX⟩ : ∃ X, X = w7.heap.size := ⟨_, rfl⟩
       have hwx : w2.heap.size ≤ X := by rw [hX]; exact b7.size
       rw [← hWe] at hx hbe
       rw [← hX] at hx
       rw [← hWe, ← hX]
       clear hWe hX)
    | (have hx := HQ8.out.triPut (.int .i64 (F : Int)) (.int .i64 (W : Int)) (.int .i64 (C : Int))
       have hbe := bel_tri b8 (p := w2.heap.size) (Nat.le_refl _) (.int .i64 (F : Int)) (.int .i64 (W : Int)) (.int .i64 (C : Int))
       obtain ⟨We, hWe⟩ : ∃ We, We = ((w8.setCell ⟨w2.heap.size, 0, none⟩ (.int .i64 (F : Int))).setCell ⟨w2.heap.size, 1, none⟩ (.int .i64 (W : Int))).setCell ⟨w2.heap.size, 2, none⟩ (.int .i64 (C : Int)) := ⟨_, rfl⟩
       obtain ⟨X, hX⟩ : ∃ X, X = w2.heap.size := ⟨_, rfl⟩
       have hwx : w2.heap.size ≤ X := by rw [hX]; exact (Nat.le_refl _)
       rw [← hWe] at hx hbe
       rw [← hX] at hx
       rw [← hWe, ← hX]
       clear hWe hX)
    have HX := Lib.hid hx
    have HBE := Lib.hid (HB2.out.trans (hbe.mono HB2.out.size)); have HSE := Lib.hid (HS2.out.below hbe); have HQE := Lib.hid (HQ2.out.below hbe); have HRE := Lib.hid ((HR2.out.below hbe).mono hbe.size)
    obtain ⟨⟨z0, z1, z2⟩, _⟩ := hx.tri
    clear hx hbe
    have hF2 : (0 : Int) < (F : Int) := by omega
    go_wp2_with fail
    go_loopw [35] (fun i wr => i = .int .i64 0 ∧ wr = We) (fun i _ => 0)
    case atStart => exact ⟨rfl, rfl⟩
    case round =>
      obtain ⟨rfl, rfl⟩ := hrel
      go_wp2_with fail
      have hs : ∀ W' : World, Below wr.heap.size wr W' → (W'.cell? ⟨B, 0, none⟩ = some (.slice A rs.length cap) ∧ W'.cell? ⟨B, 1, none⟩ = some (.string p)) := fun W' hb => (HSE.out.below hb).two_cells
      have HS7 := Lib.hid hs
      have HR7 := Lib.hid (fun (W' : World) (hb : Below wr.heap.size wr W') => (HRE.out.below hb).mono hb.size)
      have hbd7 : Below wr.heap.size wr wr.drew := (Below.refl _ _).drew
      have hbr7 : Below wr.heap.size wr wr := Below.refl _ _
      have HZ7 := Lib.hid ((SB.made wr #[.slice none 0 0, .string ⟨#[]⟩] 25).below (Below.refl _ _).drew)
      have HN7 := Lib.hid (fun (W' : World) (hb : Below wr.heap.size wr W') => (show B ≠ W'.heap.size from Nat.ne_of_lt (Nat.lt_of_lt_of_le HSE.out.lt hb.size)))
      clear hs z0 z1 z2 hbd hbr
      go_region_held3 (fun W' => W'.cell? ⟨B, 0, none⟩ = some (.slice A rs.length cap) ∧ W'.cell? ⟨B, 1, none⟩ = some (.string p)) (first | with_reducible assumption | with_reducible exact HS7.out _ (by with_reducible assumption) | with_reducible exact HS7.out _ bel_aldK | with_reducible exact HS7.out _ (bel_alK (by with_reducible assumption)) | with_reducible exact keep2P (HN7.out _ (by with_reducible assumption)) (HS7.out _ (by with_reducible assumption)) | fail) (first | (go_at_call 30; refine (HOA.out _ _ _ (by with_reducible rfl) (by with_reducible rfl)).mono ?_; rintro _ w9 ⟨Ao, co, rfl, hoo, hb9⟩; have b9 := bel_on (a := wr) (by first | with_reducible assumption | with_reducible exact bel_aldK | exact bel_alK (by with_reducible assumption)) hb9; (first | (have HQ9 := Lib.hid (HZ7.out.below hb9)) | skip)) | (go_at_call 29; refine (HOW.out _ Ao co (HR7.out _ (by first | with_reducible assumption | exact bel_alK (by with_reducible assumption))) (by first | exact own_rd3' hoo | exact own_rd3' (hoo.alloc _)) (own_le3 hoo)).mono ?_; rintro _ w10 ⟨Ar, cr, rfl, how10, hb10⟩; have b10 := bel_on (a := wr) (by first | with_reducible assumption | exact bel_alK (by with_reducible assumption)) hb10; (first | (have hq8 := HQ9.out.below hb10; have HQ10 := Lib.hid hq8; obtain ⟨⟨x0, x1⟩, f0, f1⟩ := hq8.twoC; clear hq8) | (have hq8 := (SB.made w9 #[.slice none 0 0, .string ⟨#[]⟩] 25).below hb10; have HQ10 := Lib.hid hq8; obtain ⟨⟨x0, x1⟩, f0, f1⟩ := hq8.twoC; clear hq8) | skip)) | fail)
      all_goals
        first
        | (have hx := SB.made w10 #[.slice Ar rs.length cr, .string p] 25
           have hbe := bel_alK (o := (.cells #[.slice Ar rs.length cr, .string p] 25)) b10
           have hoe := how10.alloc (.cells #[.slice Ar rs.length cr, .string p] 25)
           obtain ⟨W2, hW2⟩ : ∃ W2, W2 = w10.alloc (.cells #[.slice Ar rs.length cr, .string p] 25) := ⟨_, rfl⟩
           obtain ⟨Y, hY⟩ : ∃ Y, Y = w10.heap.size := ⟨_, rfl⟩
           have hwy : wr.heap.size ≤ Y := by rw [hY]; exact b10.size
           rw [← hW2] at hx hbe hoe
           rw [← hY] at hx
           rw [← hW2, ← hY]
           clear hW2 hY)
        | (have hx := HQ10.out.two (.slice Ar rs.length cr) (.string p)
           have hne := own_ne_type how10 HQ10.out (by decide)
           have hoe := own_set (own_set how10 hne 0 (.slice Ar rs.length cr)) hne 1 (.string p)
           have hbe := (b10.setCell (p := ⟨w9.heap.size, 0, none⟩) (b9.size) (.slice Ar rs.length cr)).setCell (p := ⟨w9.heap.size, 1, none⟩) (b9.size) (.string p)
           obtain ⟨W2, hW2⟩ : ∃ W2, W2 = (w10.setCell ⟨w9.heap.size, 0, none⟩ (.slice Ar rs.length cr)).setCell ⟨w9.heap.size, 1, none⟩ (.string p) := ⟨_, rfl⟩
           obtain ⟨Y, hY⟩ : ∃ Y, Y = w9.heap.size := ⟨_, rfl⟩
           have hwy : wr.heap.size ≤ Y := by rw [hY]; exact (b9.size)
           rw [← hW2] at hx hbe hoe
           rw [← hY] at hx
           rw [← hW2, ← hY]
           clear hW2 hY hne)
        | (have hx := HQ10.out.two (.slice Ar rs.length cr) (.string p)
           have hne := own_ne_type how10 HQ10.out (by decide)
           have hoe := own_set (own_set how10 hne 0 (.slice Ar rs.length cr)) hne 1 (.string p)
           have hbe := (b10.setCell (p := ⟨wr.heap.size, 0, none⟩) (Nat.le_refl _) (.slice Ar rs.length cr)).setCell (p := ⟨wr.heap.size, 1, none⟩) (Nat.le_refl _) (.string p)
           obtain ⟨W2, hW2⟩ : ∃ W2, W2 = (w10.setCell ⟨wr.heap.size, 0, none⟩ (.slice Ar rs.length cr)).setCell ⟨wr.heap.size, 1, none⟩ (.string p) := ⟨_, rfl⟩
           obtain ⟨Y, hY⟩ : ∃ Y, Y = wr.heap.size := ⟨_, rfl⟩
           have hwy : wr.heap.size ≤ Y := by rw [hY]; exact (Nat.le_refl _)
           rw [← hW2] at hx hbe hoe
           rw [← hY] at hx
           rw [← hW2, ← hY]
           clear hW2 hY hne)
        have HX2 := Lib.hid (HX.out.below hbe); have HY2 := Lib.hid hx
        have HB2' := Lib.hid (HBE.out.trans (hbe.mono HBE.out.size)); have HQ2' := Lib.hid (HQE.out.below hbe); have HR2' := Lib.hid ((HRE.out.below hbe).mono hbe.size)
        have HRA := Lib.hid (own_rd3' hoe); have hca := own_le3 hoe
        have hke : (p.toList == p.toList) = true := beq_self_eq_true _
        obtain ⟨y0, y1⟩ := hx.two_cells
        obtain ⟨⟨m0, m1, m2, m3⟩, _⟩ := HQ2'.out.all4
        clear hx hbe hoe how10 hbd7 hbr7
        go_wp2_with fail
        refine (equalR_same _ Ar A cr cap rs HRA.out HR2'.out hca hc hl100).mono ?_
        rintro _ w11 ⟨rfl, hb11⟩
        have HB11 := Lib.hid (HB2'.out.trans (hb11.mono HB2'.out.size)); have HX11 := Lib.hid (HX2.out.below hb11); have HQ11 := Lib.hid (HQ2'.out.below hb11)
        clear hb11 y0 y1 m0 m1 m2 m3 HB2' HX2 HQ2' HR2' HRA HY2
        obtain ⟨⟨m0, m1, m2, m3⟩, _⟩ := HQ11.out.all4
        go_wp2_with fail
        refine (HWV1.out _).mono ?_
        rintro _ _ ⟨rfl, rfl⟩
        go_wp2_with fail
        refine (HWV2.out _).mono ?_
        rintro _ _ ⟨rfl, rfl⟩
        have hs : ∀ W' : World, Below w11.heap.size w11 W' → (W'.cell? ⟨X, 1, none⟩ = some (.int .i64 (W : Int)) ∧ W'.cell? ⟨X, 2, none⟩ = some (.int .i64 (C : Int)) ∧ W'.cell? ⟨B + 1, 2 + 1, none⟩ = some (.string (pT q))) := fun W' hb => by
          obtain ⟨⟨_, v1, v2⟩, _⟩ := (HX11.out.below hb).tri
          exact ⟨v1, v2, (HQ11.out.below hb).all4.1.2.2.2⟩
        have HSF := Lib.hid hs
        have hbd : Below w11.heap.size w11 w11.drew := (Below.refl _ _).drew
        have hbr : Below w11.heap.size w11 w11 := Below.refl _ _
        clear hs m0 m1 m2 m3
        go_wp2_with fail
        go_region_held3 (fun W' => W'.cell? ⟨X, 1, none⟩ = some (.int .i64 (W : Int)) ∧ W'.cell? ⟨X, 2, none⟩ = some (.int .i64 (C : Int)) ∧ W'.cell? ⟨B + 1, 2 + 1, none⟩ = some (.string (pT q))) (first | with_reducible assumption | with_reducible exact HSF.out _ (by with_reducible assumption) | fail) (first | (go_at_call 49; refine (HBN.out _).mono ?_; rintro _ w12 ⟨rfl, hb12⟩; have b12 := bel_on (a := w11) (by with_reducible assumption) hb12; clear hb12) | fail)
        all_goals
          go_wp2_with fail
          go_ret
          exact ⟨by rw [← HVAL.out]; rfl, HB11.out.trans (b12.mono HB11.out.size)⟩

theorem keep_p6d {W : World} {P R : Nat} (hP : P ≠ R) {x0 x1 x2 x3 x4 x5 u0 u1 u2 u3 u4 u5 : Value}
    (h : W.cell? ⟨P, 0, none⟩ = some x0 ∧ W.cell? ⟨P, 1, none⟩ = some x1 ∧ W.cell? ⟨P, 2, none⟩ = some x2 ∧ W.cell? ⟨P, 3, none⟩ = some x3 ∧ W.cell? ⟨P, 4, none⟩ = some x4 ∧ W.cell? ⟨P, 5, none⟩ = some x5) :
    (six W R u0 u1 u2 u3 u4 u5).cell? ⟨P, 0, none⟩ = some x0 ∧ (six W R u0 u1 u2 u3 u4 u5).cell? ⟨P, 1, none⟩ = some x1 ∧ (six W R u0 u1 u2 u3 u4 u5).cell? ⟨P, 2, none⟩ = some x2 ∧ (six W R u0 u1 u2 u3 u4 u5).cell? ⟨P, 3, none⟩ = some x3 ∧ (six W R u0 u1 u2 u3 u4 u5).cell? ⟨P, 4, none⟩ = some x4 ∧ (six W R u0 u1 u2 u3 u4 u5).cell? ⟨P, 5, none⟩ = some x5 := by
  simp only [cell_six hP]
  exact h
/-- what DayNumber answers at a desk -/
abbrev NumIs (d : Dk) (V : Nat) : Prop := ∀ (w' : World) (A : Option Addr) (cap : Nat), Rd w' w'.heap.size A (rotV d.rs) → d.rs.length ≤ cap → Calls Tryz.prog 12 #[.agg #[.slice A d.rs.length cap, .string d.rf], .agg #[.slice A d.rs.length cap, .string d.rf, .string d.ri, .string d.pl], .string d.wi] w' fun e w'' => e = .returned (.int .i64 (V : Int)) ∧ Below w'.heap.size w' w''

set_option maxHeartbeats 4000000 in
set_option maxRecDepth 100000 in
theorem runNumber_ok (w : World) (hg : GW w) (d : Dk) (a : At) (R : ByteArray) (F : Value) (V : Nat) (hV : V ≤ 1000000000000) (hnum : NumIs d V) (ho : Own d a w) :
    Calls Tryz.prog 141 #[dkV d a, .string R, F] w (Answered d (mk (Lib.itoa (V : Int))) w) := by
  have hb := bel_two (w := w) (.cells (dkC d a) 85) (.cells #[.slice none 0 0, .string ⟨#[]⟩, .string ⟨#[]⟩, .string ⟨#[]⟩, .string ⟨#[]⟩, .slice none 0 0] 85)
  have hdk := heap_alloc_new (w.alloc (.cells (dkC d a) 85)) (.cells #[.slice none 0 0, .string ⟨#[]⟩, .string ⟨#[]⟩, .string ⟨#[]⟩, .string ⟨#[]⟩, .slice none 0 0] 85)
  rw [szalloc] at hdk
  have hpa : ((w.alloc (.cells (dkC d a) 85)).alloc (.cells #[.slice none 0 0, .string ⟨#[]⟩, .string ⟨#[]⟩, .string ⟨#[]⟩, .string ⟨#[]⟩, .slice none 0 0] 85)).heap[w.heap.size]? = some (.cells (dkC d a) 85 (0, 0)) := block_below (heap_alloc_new w _) ((Below.refl _ _).alloc (Nat.le_refl _) _)
  obtain ⟨w1, hw1⟩ : ∃ w1, w1 = ((w.alloc (.cells (dkC d a) 85)).alloc (.cells #[.slice none 0 0, .string ⟨#[]⟩, .string ⟨#[]⟩, .string ⟨#[]⟩, .string ⟨#[]⟩, .slice none 0 0] 85)) := ⟨_, rfl⟩
  rw [← hw1] at hb hdk hpa
  have ho1 := ho.below hb
  have HG := Lib.hid (hg.below hb (Nat.le_refl _)); have HB := Lib.hid hb; have HDK := Lib.hid hdk; have HPA := Lib.hid hpa; have HO := Lib.hid ho1
  clear ho hg
  have HNU := Lib.hid (fun (w' : World) (h' : Own d a w') => hnum w' a.Ar a.cr (own_rd3' h'.r) (own_le3 h'.r))
  have hit := fun (w' : World) (hg' : GW w') => itoa_any w' hg' V (by omega)
  obtain ⟨T, hT⟩ : ∃ T, T = mk (Lib.itoa (V : Int)) := ⟨_, rfl⟩
  rw [← hT] at hit ⊢
  have HIT := Lib.hid hit
  clear hit hT hnum hV
  have hs : ∀ W : World, Below w1.heap.size w1 W → (W.cell? ⟨w.heap.size, 0, none⟩ = some (.slice a.Ar d.rs.length a.cr) ∧ W.cell? ⟨w.heap.size, 1, none⟩ = some (.string d.rf) ∧ W.cell? ⟨w.heap.size, 2, none⟩ = some (.string d.ri) ∧ W.cell? ⟨w.heap.size, 3, none⟩ = some (.string d.pl) ∧ W.cell? ⟨w.heap.size, 4, none⟩ = some (.string d.wi) ∧ W.cell? ⟨w.heap.size, 5, none⟩ = some (.slice a.Ab d.bk.length a.cb)) := fun W hbw => by
    obtain ⟨v0, v1, v2, v3, v4, v5⟩ := row_six (block_below HPA.out hbw)
    exact ⟨v0, v1, v2, v3, v4, v5⟩
  have HS := Lib.hid hs
  obtain ⟨k0, k1, k2, k3, k4, k5⟩ := row_six hpa
  have hbd : Below w1.heap.size w1 w1.drew := (Below.refl _ _).drew
  have hbr : Below w1.heap.size w1 w1 := Below.refl _ _
  have hn1 : w.heap.size ≠ w.heap.size + 1 := by omega
  clear hb hdk hpa ho1 hs
  have hz0 := fun (W : World) (hb : Below w1.heap.size w1 W) => (row_six (block_below HDK.out hb)).1
  have hz1 := fun (W : World) (hb : Below w1.heap.size w1 W) => (row_six (block_below HDK.out hb)).2.1
  have hz2 := fun (W : World) (hb : Below w1.heap.size w1 W) => (row_six (block_below HDK.out hb)).2.2.1
  have hz3 := fun (W : World) (hb : Below w1.heap.size w1 W) => (row_six (block_below HDK.out hb)).2.2.2.1
  have hz4 := fun (W : World) (hb : Below w1.heap.size w1 W) => (row_six (block_below HDK.out hb)).2.2.2.2.1
  have hz5 := fun (W : World) (hb : Below w1.heap.size w1 W) => (row_six (block_below HDK.out hb)).2.2.2.2.2
  have e0 := fun (W : World) (hb : Below w1.heap.size w1 W) => frozen_cells (block_below HDK.out hb) 0
  have e1 := fun (W : World) (hb : Below w1.heap.size w1 W) => frozen_cells (block_below HDK.out hb) 1
  have e2 := fun (W : World) (hb : Below w1.heap.size w1 W) => frozen_cells (block_below HDK.out hb) 2
  have e3 := fun (W : World) (hb : Below w1.heap.size w1 W) => frozen_cells (block_below HDK.out hb) 3
  have e4 := fun (W : World) (hb : Below w1.heap.size w1 W) => frozen_cells (block_below HDK.out hb) 4
  have e5 := fun (W : World) (hb : Below w1.heap.size w1 W) => frozen_cells (block_below HDK.out hb) 5
  go_enter Tryz.func141, Tryz.ntmps141
  go_wp2_with fail
  rw [← hw1]
  clear hw1
  go_wp2_with fail
  go_region_held3 (fun W => W.cell? ⟨w.heap.size, 0, none⟩ = some (.slice a.Ar d.rs.length a.cr) ∧ W.cell? ⟨w.heap.size, 1, none⟩ = some (.string d.rf) ∧ W.cell? ⟨w.heap.size, 2, none⟩ = some (.string d.ri) ∧ W.cell? ⟨w.heap.size, 3, none⟩ = some (.string d.pl) ∧ W.cell? ⟨w.heap.size, 4, none⟩ = some (.string d.wi) ∧ W.cell? ⟨w.heap.size, 5, none⟩ = some (.slice a.Ab d.bk.length a.cb)) (first | with_reducible assumption | with_reducible exact HS.out _ (by with_reducible assumption) | with_reducible exact keep_p6d hn1 (HS.out _ (by with_reducible assumption))) (first | (go_at_call 12; refine (HNU.out _ (HO.out.below (by with_reducible assumption))).mono ?_; rintro _ w4 ⟨rfl, hb4⟩; have b4 := bel_next (a := w1) (by with_reducible assumption) hb4; clear hb4) | (go_at_call 101; refine (HIT.out _ (HG.out.below (by with_reducible assumption) (Nat.le_refl _))).mono ?_; rintro _ w4 ⟨rfl, hb4⟩; have b4 := bel_next (a := w1) (by with_reducible assumption) hb4; clear hb4) | fail)
  all_goals
    have hd4 := block_below HDK.out b4
    have HD4 := Lib.hid hd4; have HO4 := Lib.hid (HO.out.below b4); have HB4 := Lib.hid (HB.out.trans (b4.mono HB.out.size))
    obtain ⟨z0, z1, z2, z3, z4, z5⟩ := row_six hd4
    clear hd4 hz0 hz1 hz2 hz3 hz4 hz5 e0 e1 e2 e3 e4 e5
    go_wp2_with fail
    refine bodyPost_ret (v := .tuple #[dkV d a, .string T]) (by simp [results, Tryz.results141, go_sem, z0, z1, z2, z3, z4, z5]) rfl ⟨a, rfl, ⟨?_, ?_⟩, ?_⟩
    · exact World.ownsRow.kept HO4.out.r (only_six _ (w.heap.size + 1) _ _ _ _ _ _) (own_ne HO4.out.r HD4.out (by decide))
    · exact World.ownsRow.kept HO4.out.b (only_six _ (w.heap.size + 1) _ _ _ _ _ _) (own_ne HO4.out.b HD4.out (by decide))
    · exact bel_six HB4.out (by omega) _ _ _ _ _ _

theorem exec_number (d : Dk) (V : Nat) (hV : V ≤ 1000000000000) (hnum : NumIs d V) (hm : tl d.wi ≠ []) : Exec d (mk [110, 117, 109, 98, 101, 114]) d (mk (Lib.itoa (V : Int))) :=
  exec_bareM d d [110, 117, 109, 98, 101, 114] (mk (Lib.itoa (V : Int))) (by decide) (by decide) 141 (enters_of Tryz.func141 (by kernel_rfl) rfl) hm (fun _ _ _ _ _ _ _ => rfl)
    (fun w a p0 p1 p2 p3 p4 p5 p6 hml ho hbx => runNumber_ok w hml d a _ _ V hV hnum ho)

/-- the desk of a day -/
abbrev dayD (d : Dk) (P N : Nat) : Dk := ⟨ordR d.rs (dayOrd d.rs.length P N), d.rf, pT (dayRing d.rs.length P N), pT (dayPlug d.rs.length P N), pT (dayGrd d.rs.length N), d.bk⟩

set_option maxHeartbeats 8000000 in
set_option maxRecDepth 100000 in
theorem runDay_ok (w : World) (hg : GW w) (d : Dk) (a : At) (B : Nat) (P N : Nat) (s : ByteArray) (hv : WheelsV d.rs d.rf) (hP : P ≤ 5) (hN : N < dayC d.rs.length P) (ho : Own d a w)
    (hr : Rd w (B + 1) (some ⟨B, 0, none⟩) (strV [mk (Lib.itoa (P : Int)), mk (Lib.itoa (N : Int))])) (hB : B + 1 ≤ w.heap.size) :
    Calls Tryz.prog 140 #[dkV d a, .string s, .slice (some ⟨B, 0, none⟩) 2 2] w (Answered (dayD d P N) (mk [111, 107]) w) := by
  obtain ⟨b0, o0, e0, _, c0⟩ := hr.str (k := 0) (by simp)
  obtain ⟨b1, o1, e1, _, c1⟩ := hr.str (k := 1) (by simp)
  simp only [Option.some.injEq, Addr.mk.injEq, and_true] at e0 e1
  obtain ⟨rfl, rfl⟩ := e0
  obtain ⟨rfl, rfl⟩ := e1
  simp only [Nat.zero_add, List.getElem_cons_zero, List.getElem_cons_succ] at c0 c1
  have hb := bel_two (w := w) (.cells (dkC d a) 85) (.cells #[.slice none 0 0, .string ⟨#[]⟩, .string ⟨#[]⟩, .string ⟨#[]⟩, .string ⟨#[]⟩, .slice none 0 0] 85)
  have hdk := heap_alloc_new (w.alloc (.cells (dkC d a) 85)) (.cells #[.slice none 0 0, .string ⟨#[]⟩, .string ⟨#[]⟩, .string ⟨#[]⟩, .string ⟨#[]⟩, .slice none 0 0] 85)
  rw [szalloc] at hdk
  have hpa : ((w.alloc (.cells (dkC d a) 85)).alloc (.cells #[.slice none 0 0, .string ⟨#[]⟩, .string ⟨#[]⟩, .string ⟨#[]⟩, .string ⟨#[]⟩, .slice none 0 0] 85)).heap[w.heap.size]? = some (.cells (dkC d a) 85 (0, 0)) := block_below (heap_alloc_new w _) ((Below.refl _ _).alloc (Nat.le_refl _) _)
  replace c0 := cell_alloc2 (cell_alloc2 c0 (.cells (dkC d a) 85)) (.cells #[.slice none 0 0, .string ⟨#[]⟩, .string ⟨#[]⟩, .string ⟨#[]⟩, .string ⟨#[]⟩, .slice none 0 0] 85)
  replace c1 := cell_alloc2 (cell_alloc2 c1 (.cells (dkC d a) 85)) (.cells #[.slice none 0 0, .string ⟨#[]⟩, .string ⟨#[]⟩, .string ⟨#[]⟩, .string ⟨#[]⟩, .slice none 0 0] 85)
  obtain ⟨w1, hw1⟩ : ∃ w1, w1 = ((w.alloc (.cells (dkC d a) 85)).alloc (.cells #[.slice none 0 0, .string ⟨#[]⟩, .string ⟨#[]⟩, .string ⟨#[]⟩, .string ⟨#[]⟩, .slice none 0 0] 85)) := ⟨_, rfl⟩
  have l0 := c0
  rw [← hw1] at hb hdk hpa c0 c1
  have hl3 : d.rs.length ≤ 3 := hv.2.1
  have hNb : N ≤ 1000000000000 := by have := (dayC_le hl3 hP).2.2.2; omega
  obtain ⟨hol, _⟩ := day_valid hv hP hN
  have hrn1 := fun w' (h' : GW w') => readNumber_ok w' h' P (by omega)
  have hrn2 := fun w' (h' : GW w') => readNumber_ok w' h' N hNb
  have hdy := fun (w' : World) (h' : Own d a w') => dayKey_yes w' a.Ar a.cr d.rs d.rf P N _ _ rfl rfl (own_rd3' h'.r) (own_le3 h'.r) hv hP hN
  unfold DayMade at hdy
  unfold dayD
  obtain ⟨T1, hT1⟩ : ∃ T, T = mk (Lib.itoa (P : Int)) := ⟨_, rfl⟩
  obtain ⟨T2, hT2⟩ : ∃ T, T = mk (Lib.itoa (N : Int)) := ⟨_, rfl⟩
  rw [← hT1] at hrn1 c0 l0
  rw [← hT2] at hrn2 c1
  obtain ⟨M, hM⟩ : ∃ M, M = d.rs.length := ⟨_, rfl⟩
  generalize ordR d.rs (dayOrd d.rs.length P N) = ws at hdy hol ⊢
  generalize pT (dayRing d.rs.length P N) = g at hdy ⊢
  generalize pT (dayPlug d.rs.length P N) = l at hdy ⊢
  generalize pT (dayGrd d.rs.length N) = u at hdy ⊢
  have hdy2 : ∀ (w' : World) (h' : Own d a w'), Calls Tryz.prog 6 #[.agg #[.slice a.Ar d.rs.length a.cr, .string d.rf], .int .i64 (P : Int), .int .i64 (N : Int)] w' fun e w'' => ∃ A cap, e = .returned (.tuple #[.agg #[.slice A ws.length cap, .string d.rf, .string g, .string l], .string u, .bool true]) ∧ w''.ownsRow w'.heap.size 77 2 (.slice A ws.length cap) ws.length (rotV ws) ∧ Below w'.heap.size w' w'' := by
    rw [hol]; exact hdy
  have HB := Lib.hid hb; have HDK := Lib.hid hdk; have HPA := Lib.hid hpa; have HO := Lib.hid (ho.below hb); have HG := Lib.hid (hg.below hb (Nat.le_refl _))
  have HR1 := Lib.hid hrn1; have HR2 := Lib.hid hrn2; have HDY := Lib.hid hdy2
  clear hb hdk hpa ho hg hr hrn1 hrn2 hdy hdy2 hT1 hT2 hol hM hv hP hN hNb hl3
  go_enter Tryz.func140, Tryz.ntmps140
  go_wp2_with fail
  rw [← hw1]
  clear hw1 l0
  refine (HR1.out _ HG.out).mono ?_
  rintro _ w2 ⟨rfl, hb2⟩
  obtain ⟨hcl, hfr⟩ := bcell hb2
  have q1 := (hcl B 1 (World.block_lt_of_cell? _ _ c1)).trans c1
  have HG2 := Lib.hid (HG.out.below hb2 (Nat.le_refl _)); have HB2 := Lib.hid (HB.out.trans (hb2.mono HB.out.size)); have HDK2 := Lib.hid (block_below HDK.out hb2); have HPA2 := Lib.hid (block_below HPA.out hb2); have HO2 := Lib.hid (HO.out.below hb2)
  clear hb2 c0 c1 HG HB HDK HPA HO hcl hfr HR1
  go_wp2_with fail
  refine (HR2.out _ HG2.out).mono ?_
  rintro _ w3 ⟨rfl, hb3⟩
  have HB3 := Lib.hid (HB2.out.trans (hb3.mono HB2.out.size)); have HDK3 := Lib.hid (block_below HDK2.out hb3); have HPA3 := Lib.hid (block_below HPA2.out hb3); have HO3 := Lib.hid (HO2.out.below hb3)
  obtain ⟨r0, r1, r2, r3, r4, r5⟩ := row_six HPA3.out
  clear hb3 q1 HG2 HB2 HDK2 HPA2 HO2 HR2
  go_wp2_with fail
  refine (HDY.out _ HO3.out).mono ?_
  rintro _ w4 ⟨A, cap, rfl, hown, hb4⟩
  obtain ⟨w5, hw5⟩ : ∃ w5, w5 = w4.alloc (.cells #[.slice A ws.length cap, .string d.rf, .string g, .string l] 29) := ⟨_, rfl⟩
  have hal : Below w4.heap.size w4 w5 := by rw [hw5]; exact (Below.refl _ _).alloc (Nat.le_refl _) _
  have hb5 := hb4.trans (hal.mono hb4.size)
  have hx := SB.made w4 #[.slice A ws.length cap, .string d.rf, .string g, .string l] 29
  have hxw : w.heap.size ≠ w4.heap.size := by have h1 := hb4.size; have h2 := (Array.getElem?_eq_some_iff.1 HPA3.out).1; omega
  have hxw1 : w.heap.size + 1 ≠ w4.heap.size := by have h1 := hb4.size; have h2 := (Array.getElem?_eq_some_iff.1 HDK3.out).1; omega
  have HDK5 := Lib.hid (block_below HDK3.out hb5); have HPA5 := Lib.hid (block_below HPA3.out hb5); have HB5 := Lib.hid (HB3.out.trans (hb5.mono HB3.out.size)); have HO5 := Lib.hid (HO3.out.below hb5)
  have HOW := Lib.hid (own_mono3 (ownsRow_below hown hal) (Nat.zero_le _))
  clear hal hb5 hown hb4 r0 r1 r2 r3 r4 r5 HB3 HDK3 HPA3 HO3
  obtain ⟨⟨x0, x1, x2, x3⟩, _⟩ := hx.all4
  obtain ⟨r0, r1, r2, r3, r4, r5⟩ := row_six HPA5.out
  have f0 := frozen_cells HPA5.out 0; have f1 := frozen_cells HPA5.out 1; have f2 := frozen_cells HPA5.out 2; have f3 := frozen_cells HPA5.out 3; have f4 := frozen_cells HPA5.out 4
  obtain ⟨z0, z1, z2, z3, z4, z5⟩ := row_six HDK5.out
  have e0 := frozen_cells HDK5.out 0; have e1 := frozen_cells HDK5.out 1; have e2 := frozen_cells HDK5.out 2; have e3 := frozen_cells HDK5.out 3; have e4 := frozen_cells HDK5.out 4; have e5 := frozen_cells HDK5.out 5
  have hnr : (Value.slice A ws.length cap).ownBlock = none ∨ (Value.slice A ws.length cap).ownBlock ≠ some w.heap.size := own_ne HOW.out HPA5.out (by decide)
  have hnb : (Value.slice a.Ab d.bk.length a.cb).ownBlock = none ∨ (Value.slice a.Ab d.bk.length a.cb).ownBlock ≠ some w.heap.size := own_ne HO5.out.b HPA5.out (by decide)
  have HOF := Lib.hid (own_setn (own_setn (own_setn (own_setn (own_setn HOW.out hnr 0 (.slice A ws.length cap)) hnr 1 (.string d.rf)) hnr 2 (.string g)) hnr 3 (.string l)) hnr 4 (.string u))
  have HOB := Lib.hid (own_setn (own_setn (own_setn (own_setn (own_setn HO5.out.b hnb 0 (.slice A ws.length cap)) hnb 1 (.string d.rf)) hnb 2 (.string g)) hnb 3 (.string l)) hnb 4 (.string u))
  have HBF := Lib.hid (((((HB5.out.setCell (Nat.le_refl _) (p := ⟨w.heap.size, 0, none⟩) (.slice A ws.length cap)).setCell (Nat.le_refl _) (p := ⟨w.heap.size, 1, none⟩) (.string d.rf)).setCell (Nat.le_refl _) (p := ⟨w.heap.size, 2, none⟩) (.string g)).setCell (Nat.le_refl _) (p := ⟨w.heap.size, 3, none⟩) (.string l)).setCell (Nat.le_refl _) (p := ⟨w.heap.size, 4, none⟩) (.string u))
  have hne : (w.heap.size + 1) ≠ w.heap.size := by omega
  have HDF := Lib.hid (block_set_other (block_set_other (block_set_other (block_set_other (block_set_other HDK5.out hne 0 (.slice A ws.length cap)) hne 1 (.string d.rf)) hne 2 (.string g)) hne 3 (.string l)) hne 4 (.string u))
  clear hnr hnb hne hx
  rw [hw5] at r0 r1 r2 r3 r4 r5 f0 f1 f2 f3 f4 z0 z1 z2 z3 z4 z5 e0 e1 e2 e3 e4 e5
  have HW5 := Lib.hid hw5
  clear hw5
  go_wp2_with fail
  rw [← HW5.out] at z0 z1 z2 z3 z4 z5 ⊢
  refine bodyPost_ret (v := .tuple #[dkV ⟨ws, d.rf, g, l, u, d.bk⟩ ⟨A, cap, a.Ab, a.cb⟩, .string (mk [111, 107])]) (by simp [results, Tryz.results140, go_sem, z0, z1, z2, z3, z4, z5]; rfl) rfl ⟨⟨A, cap, a.Ab, a.cb⟩, rfl, ⟨?_, ?_⟩, ?_⟩
  · exact World.ownsRow.kept HOF.out (only_six _ (w.heap.size + 1) _ _ _ _ _ _) (own_ne HOF.out HDF.out (by decide))
  · exact World.ownsRow.kept HOB.out (only_six _ (w.heap.size + 1) _ _ _ _ _ _) (own_ne HOB.out HDF.out (by decide))
  · exact bel_six HBF.out (by omega) _ _ _ _ _ _

theorem itoa_notD (t : Nat) (ht : t ≤ 1000000000000) {x : UInt8} (hx : x.toNat < 48) : x ∉ Lib.itoa (t : Int) := by
  rw [itoa_nat]
  intro hm
  have := (dec_bounds 13 t (by omega) x hm).1
  omega
def dayLine (P N : Nat) : List UInt8 := [100, 97, 121] ++ 32 :: (Lib.itoa (P : Int) ++ 32 :: Lib.itoa (N : Int))
theorem exec_day (d : Dk) (P N : Nat) (hv : WheelsV d.rs d.rf) (hP : P ≤ 5) (hN : N < dayC d.rs.length P) (hm : tl d.wi ≠ []) : Exec d (mk (dayLine P N)) (dayD d P N) (mk [111, 107]) := by
  have hNb : N ≤ 1000000000000 := by have := (dayC_le hv.2.1 hP).2.2.2; omega
  have zp := (itoa_len P (by omega)).2
  have zn := (itoa_len N hNb).2
  have hfl : spl 32 (tl (mk (Lib.itoa (P : Int) ++ 32 :: Lib.itoa (N : Int)))) = [Lib.itoa (P : Int), Lib.itoa (N : Int)] := by
    rw [tl_mk, spl_cons _ (itoa_notD P (by omega) (by decide)), spl_none (itoa_notD N hNb (by decide))]
  have hsz : (mk (Lib.itoa (P : Int) ++ 32 :: Lib.itoa (N : Int))).size ≤ 20000 := by rw [size_mk, List.length_append, List.length_cons]; omega
  have h := exec_restM d (dayD d P N) [100, 97, 121] (mk (Lib.itoa (P : Int) ++ 32 :: Lib.itoa (N : Int))) (mk [111, 107]) (by decide) (by decide) hsz 2 140 (enters_of Tryz.func140 (by kernel_rfl) rfl) (by decide) hm (fun _ => by rw [hfl]; rfl) (fun _ _ _ _ _ _ _ => rfl)
    (fun w a p0 p1 p2 p3 p4 p5 p6 B hml ho hbx hr hB => by
      rw [hfl] at hr ⊢
      exact runDay_ok w hml d a B P N _ hv hP hN ho hr hB)
  rw [tl_mk] at h
  exact h

/-- the rings of a plain machine -/
abbrev pRing (rs : List (ByteArray × ByteArray)) : ByteArray := mk (List.replicate rs.length 97)
theorem pRing_size (rs : List (ByteArray × ByteArray)) : (pRing rs).size = rs.length := by rw [size_mk, List.length_replicate]
theorem pRing_pT (rs : List (ByteArray × ByteArray)) : pRing rs = pT (List.replicate rs.length 0) := by
  unfold pT; congr 1; rw [List.map_replicate]; rfl
theorem plain_win {rs : List (ByteArray × ByteArray)} {p : ByteArray} (hv : WheelsV rs p) : WinV rs p (pRing rs) :=
  ⟨hv, pRing_size rs, by rw [pRing_pT]; exact pT_wv (fun n hn => by rw [List.eq_of_mem_replicate hn]; decide) (by rw [List.length_replicate]; have := hv.2.1; omega)⟩
theorem id_nth {j : Nat} (hj : j < 10) : nth (List.range 10) j = j := by rw [nth_eq (by simpa using hj), List.getElem_range]
theorem id_board : Prm (List.range 10) ∧ invP (List.range 10) = List.range 10 := (bst_start (P := 0) (n := 0) (by omega) (by decide)).prm

theorem run_day (w : World) (hg : GW w) (T : ByteArray) (rs : List (ByteArray × ByteArray)) (p : ByteArray) (P N V : Nat) (hv : WheelsV rs p) (hP : P ≤ 5) (hN : N < dayC rs.length P) (hV : V ≤ 1000000000000)
    (hnum : NumIs ⟨ordR rs (dayOrd rs.length P N), p, pT (dayRing rs.length P N), pT (dayPlug rs.length P N), pT (dayGrd rs.length N), []⟩ V)
    (hT : tl T = [machLine rs p (pRing rs) (List.range 10), dayLine P N, [115, 104, 111, 119], [110, 117, 109, 98, 101, 114]].flatMap (· ++ [10])) :
    Calls Tryz.prog 13 #[.string T] w fun e w' => e = .returned (.string (mk ([111, 107, 10, 111, 107, 10] ++ (showT (ordR rs (dayOrd rs.length P N)) p (pT (dayRing rs.length P N)) (dayPlug rs.length P N) (pT (dayGrd rs.length N)) ++ [10]) ++ (Lib.itoa (V : Int) ++ [10])))) ∧ Below w.heap.size w w' := by
  have hwv := plain_win hv
  obtain ⟨iq, ii⟩ := id_board
  obtain ⟨dl, dv, dq, di, dz, dw⟩ := day_valid hv hP hN
  have hl3 := hv.2.1
  have hl1 := hv.1
  have hNb : N ≤ 1000000000000 := by have := (dayC_le hl3 hP).2.2.2; omega
  have zp := (itoa_len P (by omega)).2
  have zn := (itoa_len N hNb).2
  have zv := (itoa_len V hV).2
  have hmz := @machT_len rs p (pRing rs) (List.range 10) hwv
  have hdz := @machT_len _ p _ (dayPlug rs.length P N) dv
  have hgz : (pT (dayGrd rs.length N)).size = rs.length := by rw [dz, dv.2.1, dl]
  have hgn : tl (pT (dayGrd rs.length N)) ≠ [] := by intro e; have := congrArg List.length e; rw [length_tl, List.length_nil] at this; omega
  have hpz := pRing_size rs
  have hrn : tl (mk (List.replicate (pRing rs).size (97 : UInt8))) ≠ [] := by rw [tl_mk]; intro e; have := congrArg List.length e; rw [List.length_replicate, List.length_nil] at this; omega
  have hn : ∀ x ∈ [machLine rs p (pRing rs) (List.range 10), dayLine P N, [115, 104, 111, 119], [110, 117, 109, 98, 101, 114]], (10 : UInt8) ∉ x := by
    intro x hx
    simp only [List.mem_cons, List.not_mem_nil, or_false] at hx
    rcases hx with rfl | rfl | rfl | rfl
    · unfold machLine
      simp only [List.mem_append, not_or]
      exact ⟨by decide, by rw [List.mem_cons, not_or]; exact ⟨by decide, machT_chars hwv iq (by decide) (by decide) (by decide) (by decide) (by decide) (by decide)⟩⟩
    · unfold dayLine
      simp only [List.mem_append, List.mem_cons, not_or]
      exact ⟨by decide, by decide, itoa_notD P (by omega) (by decide), by decide, itoa_notD N hNb (by decide)⟩
    · decide
    · decide
  have hsp : mkl (spl 10 (tl T)) = [mk (machLine rs p (pRing rs) (List.range 10)), mk (dayLine P N), mk [115, 104, 111, 119], mk [110, 117, 109, 98, 101, 114], mk []] := by rw [hT, spl_lines3 10 _ hn]; rfl
  have hTz : T.size ≤ 20000 := by
    rw [← length_tl, hT]
    unfold machLine dayLine
    simp only [List.flatMap_cons, List.flatMap_nil, List.append_nil, List.length_append, List.length_cons, List.length_nil]
    omega
  have e0 := exec_machine Dk.empty rs p (pRing rs) (List.range 10) hwv iq ii
  have e1 := exec_day (deskM rs p (pRing rs) (List.range 10) (mk (List.replicate (pRing rs).size 97)) []) P N hv hP hN hrn
  obtain ⟨D, hD⟩ : ∃ D : Dk, D = ⟨ordR rs (dayOrd rs.length P N), p, pT (dayRing rs.length P N), pT (dayPlug rs.length P N), pT (dayGrd rs.length N), []⟩ := ⟨_, rfl⟩
  have e1' : Exec (deskM rs p (pRing rs) (List.range 10) (mk (List.replicate (pRing rs).size 97)) []) (mk (dayLine P N)) D (mk [111, 107]) := by rw [hD]; exact e1
  have e2 := exec_show ⟨ordR rs (dayOrd rs.length P N), p, pT (dayRing rs.length P N), pT (dayPlug rs.length P N), pT (dayGrd rs.length N), []⟩ (dayPlug rs.length P N) dv dq di rfl (by show (pT (dayGrd rs.length N)).size ≤ 3; omega) hgn rfl
  have e3 := exec_number _ V hV hnum hgn
  have hsz : (showT (ordR rs (dayOrd rs.length P N)) p (pT (dayRing rs.length P N)) (dayPlug rs.length P N) (pT (dayGrd rs.length N))).length ≤ 200 := by
    unfold showT
    simp only [List.length_append, List.length_cons, List.length_nil, length_tl]; omega
  obtain ⟨S, hS⟩ : ∃ S, S = showT (ordR rs (dayOrd rs.length P N)) p (pT (dayRing rs.length P N)) (dayPlug rs.length P N) (pT (dayGrd rs.length N)) := ⟨_, rfl⟩
  have e2' : Exec D (mk [115, 104, 111, 119]) D (mk S) := by rw [hS, hD]; exact e2
  have e3' : Exec D (mk [110, 117, 109, 98, 101, 114]) D (mk (Lib.itoa (V : Int))) := by rw [hD]; exact e3
  rw [← hS] at hsz ⊢
  clear e1 e2 e3 hS hnum
  obtain ⟨I, hI⟩ : ∃ I, I = Lib.itoa (V : Int) := ⟨_, rfl⟩
  rw [← hI] at e3' zv ⊢
  clear hI
  have hrun := run_lines w hg T hTz _ hsp (by simp) (fun j => if j = 0 then Dk.empty else if j = 1 then deskM rs p (pRing rs) (List.range 10) (mk (List.replicate (pRing rs).size 97)) [] else D) (fun j => if j = 0 then [] else if j = 1 then [111, 107, 10] else if j = 2 then [111, 107, 10, 111, 107, 10] else if j = 3 then [111, 107, 10, 111, 107, 10] ++ (S ++ [10]) else [111, 107, 10, 111, 107, 10] ++ (S ++ [10]) ++ (I ++ [10])) rfl rfl (fun j hj => by
    have hj3 : j = 0 ∨ j = 1 ∨ j = 2 ∨ j = 3 ∨ j = 4 := by simp at hj; omega
    rcases hj3 with rfl | rfl | rfl | rfl | rfl
    · exact .inr ⟨by simp only [List.getElem_cons_zero]; rw [tl_mk]; simp [machLine], by simp, mk [111, 107], by rw [size_mk]; decide, by simp [tl_mk], e0⟩
    · exact .inr ⟨by simp only [List.getElem_cons_zero, List.getElem_cons_succ]; rw [tl_mk]; simp [dayLine], by simp, mk [111, 107], by rw [size_mk]; decide, by simp [tl_mk], e1'⟩
    · exact .inr ⟨by simp only [List.getElem_cons_zero, List.getElem_cons_succ]; rw [tl_mk]; simp, by simp, mk S, by rw [size_mk]; omega, by simp [tl_mk], e2'⟩
    · exact .inr ⟨by simp only [List.getElem_cons_zero, List.getElem_cons_succ]; rw [tl_mk]; simp, by simp; omega, mk I, by rw [size_mk]; omega, by simp [tl_mk], e3'⟩
    · exact .inl ⟨by simp only [List.getElem_cons_zero, List.getElem_cons_succ]; rw [tl_mk], rfl, by simp⟩) (by simp)
  exact hrun

end Go.Proofs.YtipcodebmemkpaaGreatDoor
