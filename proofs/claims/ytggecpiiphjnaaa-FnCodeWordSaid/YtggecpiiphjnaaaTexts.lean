/-
  Contracts of the laws' own helpers on slices of strings: their sizes, copies and comparisons. No conditions but those that each theorem names.
-/
import Derived.Test.YtggecpiiphjnaaaOwn
import Derived.OwnWalk
import Derived.BigQuiet
import Derived.StillTailTactics
import Derived.BigRegion
import Derived.Deep.RegionHeld3
namespace Go.Proofs.Ytggecpiiphjnaaa
open Go.RowKit Pl
set_option linter.unusedVariables false

theorem Try.infoS : (Try.prog.info? 9).map (fun i => (i.zero, i.size, i.bytes)) = some (some (.string ByteArray.empty), 1, 16) := by kernel_rfl
theorem Try.undS : Try.prog.underlying 42 = some (.slice 9) := by kernel_rfl

theorem Rd.str {w : World} {B : Nat} {A : Option Addr} {l : List ByteArray} (h : Rd w B A (strV l)) {k : Nat} (hk : k < l.length) :
    ∃ b off, A = some ⟨b, off, none⟩ ∧ b < B ∧ w.cell? ⟨b, off + k, none⟩ = some (.string l[k]) := by
  have hn : strV l ≠ [] := by intro e; have := congrArg List.length e; rw [length_strV, List.length_nil] at this; omega
  obtain ⟨b, off, e, hb, hcell⟩ := h hn
  exact ⟨b, off, e, hb, by rw [hcell k (by rw [length_strV]; exact hk)]; simp [strV]⟩

set_option maxHeartbeats 4000000 in
/-- two slices of the same strings are equal -/
theorem rcTexts_same (w : World) (A1 A2 : Option Addr) (c1 c2 : Nat) (l : List ByteArray) (h1 : Rd w w.heap.size A1 (strV l)) (h2 : Rd w w.heap.size A2 (strV l)) (hl : l.length ≤ 1048576) (k1 : l.length ≤ c1) (k2 : l.length ≤ c2) :
    Calls Try.prog 58 #[.slice A1 l.length c1, .slice A2 l.length c2] w fun e w' => e = .returned (.bool true) ∧ Below w.heap.size w w' := by
  have R1 := Lib.hid h1; have R2 := Lib.hid h2; clear h1 h2
  go_enter Try.func58, Try.ntmps58
  go_wp2_with fail
  go_loopw [5] (fun i wr => ∃ k : Nat, k ≤ l.length ∧ i = .int .i64 k ∧ Below w.heap.size w wr) (fun i _ => l.length - (intOf i).toNat)
  case atStart => exact ⟨0, Nat.zero_le _, rfl, Below.refl _ _⟩
  case round =>
    obtain ⟨k, hk, rfl, hbl⟩ := hrel
    have HBL := Lib.hid hbl; clear hbl
    by_cases hlt : k < l.length
    · obtain ⟨b1, o1, rfl, _, hx1⟩ := (R1.out.below HBL.out).str hlt
      obtain ⟨b2, o2, rfl, _, hx2⟩ := (R2.out.below HBL.out).str hlt
      go_wp2_with fail
      go_quiet (fail)
      go_wp2_with fail
      go_roundw
      case rel => exact ⟨k + 1, by omega, by go_num, below_drewN' HBL.out _⟩
      case measure => simp [intOf]; omega
    · go_wp2_with fail
      go_ret
      exact ⟨rfl, HBL.out⟩

set_option maxHeartbeats 4000000 in
/-- two slices of the same strings are equal -/
theorem eqStringS_same (w : World) (A1 A2 : Option Addr) (c1 c2 : Nat) (l : List ByteArray) (h1 : Rd w w.heap.size A1 (strV l)) (h2 : Rd w w.heap.size A2 (strV l)) (hl : l.length ≤ 1048576) (k1 : l.length ≤ c1) (k2 : l.length ≤ c2) :
    Calls Try.prog 46 #[.slice A1 l.length c1, .slice A2 l.length c2] w fun e w' => e = .returned (.bool true) ∧ Below w.heap.size w w' := by
  have R1 := Lib.hid h1; have R2 := Lib.hid h2; clear h1 h2
  go_enter Try.func46, Try.ntmps46
  go_wp2_with fail
  go_loopw [5] (fun i wr => ∃ k : Nat, k ≤ l.length ∧ i = .int .i64 k ∧ Below w.heap.size w wr) (fun i _ => l.length - (intOf i).toNat)
  case atStart => exact ⟨0, Nat.zero_le _, rfl, Below.refl _ _⟩
  case round =>
    obtain ⟨k, hk, rfl, hbl⟩ := hrel
    have HBL := Lib.hid hbl; clear hbl
    by_cases hlt : k < l.length
    · obtain ⟨b1, o1, rfl, _, hx1⟩ := (R1.out.below HBL.out).str hlt
      obtain ⟨b2, o2, rfl, _, hx2⟩ := (R2.out.below HBL.out).str hlt
      go_wp2_with fail
      go_quiet (fail)
      go_wp2_with fail
      go_roundw
      case rel => exact ⟨k + 1, by omega, by go_num, below_drewN' HBL.out _⟩
      case measure => simp [intOf]; omega
    · go_wp2_with fail
      go_ret
      exact ⟨rfl, HBL.out⟩

set_option maxHeartbeats 2000000 in
theorem szStringS_any (w : World) (A : Option Addr) (cap : Nat) (l : List ByteArray) (n : Int) (h : Rd w w.heap.size A (strV l)) (hc : l.length ≤ cap) (hm : cap ≤ maxLen) (hz : ∀ s ∈ l, s.size ≤ maxLen) (h0 : 0 ≤ n) (h1 : n ≤ 1048576) :
    Calls Try.prog 54 #[.slice A l.length cap, .int .i64 n] w fun e w' => ∃ m : Int, e = .returned (.int .i64 m) ∧ (m = -1 ∨ (0 ≤ m ∧ m ≤ n ∧ l.length ≤ 1048576 ∧ ∀ s ∈ l, s.size ≤ 1048576)) ∧ Below w.heap.size w w' := by
  have hlm : l.length ≤ 9223372036854775807 := Nat.le_trans hc hm
  have HR := Lib.hid h; have HZ := Lib.hid hz; clear h hz hm
  by_cases h2 : n - (l.length : Int) < 0
  · go_enter Try.func54, Try.ntmps54
    go_wp2_with fail
    go_ret
    exact ⟨_, rfl, .inl rfl, Below.refl _ _⟩
  · go_enter Try.func54, Try.ntmps54
    go_wp2_with fail
    go_loopw [1, 5] (fun x i wr => ∃ (k : Nat) (m : Int), k ≤ l.length ∧ i = .int .i64 k ∧ x = .int .i64 m ∧ 0 ≤ m ∧ m ≤ n ∧ (∀ j (hj : j < l.length), j < k → l[j].size ≤ 1048576) ∧ Below w.heap.size w wr) (fun _ i _ => l.length - (intOf i).toNat)
    case atStart => exact ⟨0, _, Nat.zero_le _, rfl, rfl, by omega, by omega, fun j _ hj => absurd hj (Nat.not_lt_zero _), Below.refl _ _⟩
    case round =>
      obtain ⟨k, m, hk, rfl, rfl, m0, m1, hall, hbl⟩ := hrel
      have HA := Lib.hid hall; have HBL := Lib.hid hbl; clear hall hbl
      by_cases hlt : k < l.length
      · obtain ⟨b, off, rfl, hb, c0⟩ := (HR.out.below HBL.out).str hlt
        have z : l[k].size ≤ 9223372036854775807 := HZ.out _ (List.getElem_mem hlt)
        obtain ⟨s, hs⟩ : ∃ s, s = l[k] := ⟨_, rfl⟩
        rw [← hs] at c0 z
        have HE := Lib.hid hs; clear hs
        by_cases hneg : m - (s.size : Int) < 0
        · go_wp2_with fail
          go_ret
          exact ⟨_, rfl, .inl rfl, HBL.out⟩
        · go_wp2_with fail
          go_roundw
          case rel =>
            refine ⟨k + 1, _, by omega, by go_num, rfl, by omega, by omega, fun j hj hjk => ?_, HBL.out⟩
            rcases Nat.lt_or_ge j k with hjk' | hjk'
            · exact HA.out j hj hjk'
            · have hje : j = k := by omega
              subst hje
              rw [← HE.out]; omega
          case measure => simp [intOf]; omega
      · go_wp2_with fail
        go_ret
        refine ⟨m, rfl, .inr ⟨m0, m1, by omega, fun e he => ?_⟩, HBL.out⟩
        obtain ⟨j, hj, rfl⟩ := List.mem_iff_getElem.1 he
        exact HA.out j hj (by omega)

theorem strV_of {xs : List Value} {l : List ByteArray} (hl : xs.length = l.length) (h : ∀ j (hj : j < l.length), xs[j]? = some (.string l[j])) : xs = strV l := by
  apply List.ext_getElem?
  intro i
  by_cases hi : i < l.length
  · rw [h i hi]; simp [strV, hi]
  · rw [List.getElem?_eq_none (by omega), List.getElem?_eq_none (by rw [length_strV]; omega)]

set_option maxHeartbeats 2000000 in
theorem toStringS_any (w : World) (A : Option Addr) (cap : Nat) (l : List ByteArray) (h : Rd w w.heap.size A (strV l)) (hc : l.length ≤ cap) (hl : l.length ≤ 1048576) :
    Calls Try.prog 55 #[.slice A l.length cap] w (Listed l w) := by
  have HR := Lib.hid h; clear h
  obtain ⟨iS, hi, hz0, hz1, hz2⟩ := info_parts Try.infoS
  have HI := Lib.hid hi; have HZ0 := Lib.hid hz0; have HZ1 := Lib.hid hz1; have hby : iS.bytes * l.length ≤ 281474976710656 := by rw [hz2]; omega
  have HBY := Lib.hid hby
  clear hi hz0 hz1 hz2 hby
  go_enter Try.func55, Try.ntmps55
  go_wp2_with (at_make; refine wpList_make_full _ rfl _ _ 42 rfl w.heap.size 9 iS (.string ByteArray.empty) 1 Try.undS HI.out HZ0.out HZ1.out _ _ _ _ l.length rfl rfl rfl rfl HBY.out (by unfold maxLen; omega) (Nat.le_refl _) ?_)
  intro w1 hown hgr
  have OWN := Lib.hid hown
  have HB1 := Lib.hid ((Below.refl w.heap.size w).grown hgr (Nat.le_refl _) (by simp)); clear hown hgr
  go_wp2_with fail
  go_loopw [4] (fun i wr => ∃ (k : Nat) (xs : List Value), k ≤ l.length ∧ i = .int .i64 k ∧ wr.ownsRow w.heap.size 9 1 (.slice (some ⟨w.heap.size, 0, none⟩) l.length l.length) l.length xs ∧
      (∀ j (hj : j < l.length), j < k → xs[j]? = some (.string l[j])) ∧ Below w.heap.size w wr) (fun i _ => l.length - (intOf i).toNat)
  case atStart => exact ⟨0, _, Nat.zero_le _, rfl, OWN.out, fun j _ hj => absurd hj (Nat.not_lt_zero _), HB1.out⟩
  case round =>
    obtain ⟨k, xs, hk, rfl, hown, hall, hbl⟩ := hrel
    have HA := Lib.hid hall; have HBL := Lib.hid hbl; have HO := Lib.hid hown; clear hall hbl hown OWN HB1
    by_cases hlt : k < l.length
    · obtain ⟨b, off, rfl, hb, c0⟩ := (HR.out.below HBL.out).str hlt
      have hlen := HO.out.1
      have d0 : wr.cell? ⟨w.heap.size, k, none⟩ = some (xs[k]'(by omega)) := by rw [HO.out.cellAt _ (by omega), List.getElem?_eq_getElem (by omega)]
      have f0 : wr.frozen? ⟨w.heap.size, k, none⟩ = false := HO.out.frozenAt _
      have q1 := (HO.out.stored k (.string l[k])).1
      have q2 : ∀ j (hj : j < l.length), j < k + 1 → (xs.set k (.string l[k]))[j]? = some (.string l[j]) := by
        intro j hj hjk
        by_cases hje : j = k
        · subst hje; rw [List.getElem?_set_self (by omega)]
        · rw [List.getElem?_set_ne (by omega)]; exact HA.out j hj (by omega)
      have q3 : Below w.heap.size w (wr.setCell ⟨w.heap.size, k, none⟩ (.string l[k])) := HBL.out.setCell (Nat.le_refl _) _
      have Q1 := Lib.hid q1; have Q2 := Lib.hid q2; have Q3 := Lib.hid q3; clear q1 q2 q3
      generalize xs[k]'(by omega) = z0 at d0
      generalize l[k] = s at c0 Q1 Q2 Q3
      clear hlen
      go_wp2_with fail
      go_roundw
      case rel => exact ⟨k + 1, _, by omega, by go_num, Q1.out, Q2.out, Q3.out⟩
      case measure => simp [intOf]; omega
    · go_wp2_with fail
      go_ret
      have hx : xs = strV l := strV_of (by have := HO.out.1; omega) fun j hj => HA.out j hj (by omega)
      refine ⟨_, rfl, ?_, HBL.out⟩
      rw [← hx]; exact HO.out

end Go.Proofs.Ytggecpiiphjnaaa
