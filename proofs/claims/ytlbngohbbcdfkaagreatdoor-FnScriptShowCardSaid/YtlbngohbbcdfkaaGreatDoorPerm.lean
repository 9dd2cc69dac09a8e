/-
  Contracts of permutations as arrays: rotation, identity, then, inverse, String. Conditions: what each theorem names.
-/
import Derived.Test.YtlbngohbbcdfkaaGreatDoorComb
import Derived.Test.YtlbngohbbcdfkaaGreatDoorOwn
import Derived.Laws.Rows
namespace Go.Proofs.YtlbngohbbcdfkaaGreatDoor
open Go.RowKit Pl
set_option linter.unusedVariables false

/-- the cells of an array of small numbers -/
def pC (q : List Nat) : Array Value := (q.map fun n : Nat => Value.int .u8 (n : Int)).toArray
theorem pC_size (q : List Nat) : (pC q).size = q.length := by simp [pC]
theorem pC_get {q : List Nat} {k : Nat} (hk : k < q.length) : (pC q)[k]? = some (.int .u8 (q[k] : Int)) := by simp [pC, hk]
theorem pC_set (q : List Nat) (k n : Nat) : (pC q).setIfInBounds k (.int .u8 (n : Int)) = pC (q.set k n) := by
  apply Array.ext_getElem?
  intro j
  rw [Array.getElem?_setIfInBounds]
  by_cases e : k = j
  · subst e
    by_cases hk : k < q.length
    · simp [pC, hk]
    · simp [pC, hk]
  · simp [pC, e, List.getElem?_set_ne e]
theorem pC_one (q : List Nat) : (pC q).all (·.oneCell') = true := by
  rw [Array.all_eq_true_iff_forall_mem]
  intro x hx
  simp [pC] at hx
  obtain ⟨n, _, rfl⟩ := hx
  rfl
theorem zeroPerm : (#[.int .u8 0, .int .u8 0, .int .u8 0, .int .u8 0, .int .u8 0, .int .u8 0, .int .u8 0, .int .u8 0, .int .u8 0, .int .u8 0] : Array Value) = pC (List.replicate 10 0) := rfl
theorem permSize {q : List Nat} (h : q.length = 10) : (Tryz.prog.info? 96).map (·.size) = some (pC q).size := by rw [pC_size, h]; kernel_rfl
/-- block p is an array of numbers -/
abbrev PB (w : World) (p : Nat) (q : List Nat) : Prop := w.heap[p]? = some (.cells (pC q) 96 (0, 0))
theorem PB.put {w : World} {p : Nat} {q : List Nat} (h : PB w p q) (k n : Nat) : PB (w.setCell ⟨p, k, none⟩ (.int .u8 (n : Int))) p (q.set k n) := by
  unfold PB
  rw [setCell_eq_setRow w p k _ _ _ _ h, pC_set]
  exact setRow_heap w p _ _ _ _ h
theorem PB.cell {w : World} {p : Nat} {q : List Nat} (h : PB w p q) {k : Nat} (hk : k < q.length) : w.cell? ⟨p, k, none⟩ = some (.int .u8 (q[k] : Int)) := by
  rw [cell_of_row w p k _ _ _ h]; exact pC_get hk
theorem PB.frozen {w : World} {p : Nat} {q : List Nat} (h : PB w p q) (k : Nat) : w.frozen? ⟨p, k, none⟩ = false := by
  have h2 : w.heap[p]? = some (.cells (pC q) 96 (0, 0)) := h
  simp [World.frozen?, h2]
theorem PB.far {w : World} {p p' : Nat} {q : List Nat} (h : PB w p q) (hne : p ≠ p') (k : Nat) (v : Value) : PB (w.setCell ⟨p', k, none⟩ v) p q :=
  (Below.heap_setCell w ⟨p', k, none⟩ v p (by intro e; exact hne e)).trans h

theorem szalloc3 (w : World) (o : Obj) : (w.alloc o).heap.size = w.heap.size + 1 := by simp
theorem below_setRow {B p : Nat} {a w : World} (h : Below B a w) (hp : B ≤ p) (cs : Array Value) : Below B a (w.setRow p cs) :=
  ⟨h.os, h.tape, h.output, by simpa [World.setRow] using h.size, fun k hk => (setRow_other w p k cs (by omega)).trans (h.block k hk)⟩
def rotP (n : Nat) : List Nat := (List.range 10).map fun i => (i + n) % 10

set_option maxHeartbeats 4000000 in
set_option maxRecDepth 100000 in
theorem rotation_any (w : World) (n : Nat) (hn : n ≤ 10) :
    Calls Tryz.prog 192 #[.int .i64 n] w fun e w' => e = .returned (.agg (pC (rotP n))) ∧ Below w.heap.size w w' := by
  have hrl : (rotP n).length = 10 := by simp [rotP]
  have hrg : ∀ k (hk : k < (rotP n).length), (rotP n)[k] = (k + n) % 10 := fun k hk => by simp [rotP]
  obtain ⟨r, hr⟩ : ∃ r, r = rotP n := ⟨_, rfl⟩
  rw [← hr] at hrl hrg ⊢
  have HRL := Lib.hid hrl; have HRG := Lib.hid hrg; clear hrl hrg hr
  have hb : Below w.heap.size w ((w.alloc (.cells #[.int .u8 0, .int .u8 0, .int .u8 0, .int .u8 0, .int .u8 0, .int .u8 0, .int .u8 0, .int .u8 0, .int .u8 0, .int .u8 0] 96)).alloc (.cells #[.int .u8 0, .int .u8 0, .int .u8 0, .int .u8 0, .int .u8 0, .int .u8 0, .int .u8 0, .int .u8 0, .int .u8 0, .int .u8 0] 96)) := ((Below.refl _ _).alloc (Nat.le_refl _) _).alloc (by simp) _
  have h1 : PB ((w.alloc (.cells #[.int .u8 0, .int .u8 0, .int .u8 0, .int .u8 0, .int .u8 0, .int .u8 0, .int .u8 0, .int .u8 0, .int .u8 0, .int .u8 0] 96)).alloc (.cells #[.int .u8 0, .int .u8 0, .int .u8 0, .int .u8 0, .int .u8 0, .int .u8 0, .int .u8 0, .int .u8 0, .int .u8 0, .int .u8 0] 96)) (w.heap.size + 1) (r.take 0 ++ List.replicate (10 - 0) 0) := by
    have := heap_alloc_new (w.alloc (.cells #[.int .u8 0, .int .u8 0, .int .u8 0, .int .u8 0, .int .u8 0, .int .u8 0, .int .u8 0, .int .u8 0, .int .u8 0, .int .u8 0] 96)) (.cells #[.int .u8 0, .int .u8 0, .int .u8 0, .int .u8 0, .int .u8 0, .int .u8 0, .int .u8 0, .int .u8 0, .int .u8 0, .int .u8 0] 96)
    rw [szalloc3] at this
    exact this
  have h0 : PB ((w.alloc (.cells #[.int .u8 0, .int .u8 0, .int .u8 0, .int .u8 0, .int .u8 0, .int .u8 0, .int .u8 0, .int .u8 0, .int .u8 0, .int .u8 0] 96)).alloc (.cells #[.int .u8 0, .int .u8 0, .int .u8 0, .int .u8 0, .int .u8 0, .int .u8 0, .int .u8 0, .int .u8 0, .int .u8 0, .int .u8 0] 96)) w.heap.size (List.replicate 10 0) := by
    have h2 := heap_alloc_new w (.cells #[.int .u8 0, .int .u8 0, .int .u8 0, .int .u8 0, .int .u8 0, .int .u8 0, .int .u8 0, .int .u8 0, .int .u8 0, .int .u8 0] 96)
    have h3 := (Below.alloc (Below.refl (w.alloc (.cells #[.int .u8 0, .int .u8 0, .int .u8 0, .int .u8 0, .int .u8 0, .int .u8 0, .int .u8 0, .int .u8 0, .int .u8 0, .int .u8 0] 96)).heap.size (w.alloc (.cells #[.int .u8 0, .int .u8 0, .int .u8 0, .int .u8 0, .int .u8 0, .int .u8 0, .int .u8 0, .int .u8 0, .int .u8 0, .int .u8 0] 96))) (Nat.le_refl _) (.cells #[.int .u8 0, .int .u8 0, .int .u8 0, .int .u8 0, .int .u8 0, .int .u8 0, .int .u8 0, .int .u8 0, .int .u8 0, .int .u8 0] 96)).block w.heap.size (by simp)
    exact h3.trans h2
  have HB := Lib.hid hb; have H1 := Lib.hid h1; have H0 := Lib.hid h0; clear hb h1 h0
  go_enter Tryz.func192, Tryz.ntmps192
  go_wp2_with fail
  go_loopw [5] (fun i wr => ∃ k : Nat, k ≤ 10 ∧ i = .int .i64 k ∧ PB wr (w.heap.size + 1) (r.take k ++ List.replicate (10 - k) 0) ∧ PB wr w.heap.size (List.replicate 10 0) ∧ Below w.heap.size w wr) (fun i _ => 10 - (intOf i).toNat)
  case atStart => exact ⟨0, by omega, rfl, H1.out, H0.out, HB.out⟩
  case round =>
    obtain ⟨k, hk, rfl, hp1, hp0, hbl⟩ := hrel
    have HP := Lib.hid hp1; have HQ := Lib.hid hp0; have HBL := Lib.hid hbl; clear hp1 hp0 hbl H1 H0 HB
    by_cases hlt : k < 10
    · have hl : (r.take k ++ List.replicate (10 - k) 0).length = 10 := by have := HRL.out; simp; omega
      have c1 := HP.out.cell (k := k) (by rw [hl]; exact hlt)
      have f1 := HP.out.frozen k
      have hnx : (r.take k ++ List.replicate (10 - k) 0).set k ((k + n) % 10) = r.take (k + 1) ++ List.replicate (10 - (k + 1)) 0 := by
        have hkr : k < r.length := by rw [HRL.out]; exact hlt
        have e1 : 10 - k = (10 - (k + 1)) + 1 := by omega
        rw [List.set_append_right _ _ (by rw [List.length_take]; omega), List.length_take, Nat.min_eq_left (by omega), Nat.sub_self, e1, List.replicate_succ, List.set_cons_zero, List.take_succ_eq_append_getElem hkr, List.append_assoc, HRG.out k hkr]
        rfl
      have hput := HP.out.put k ((k + n) % 10)
      rw [hnx] at hput
      have hfar := HQ.out.far (p' := w.heap.size + 1) (by omega) k (.int .u8 (((k + n) % 10 : Nat) : Int))
      have hct : (((k + n) % 10 : Nat) : Int) = ((k : Int) + (n : Int)) % 10 := by omega
      rw [hct] at hput hfar
      have HPUT := Lib.hid hput; have HFAR := Lib.hid hfar; clear hput hfar hnx hct
      go_wp2_with fail
      go_roundw
      case rel => exact ⟨k + 1, by omega, by go_num, HPUT.out, HFAR.out, HBL.out.setCell (Nat.le_succ _) _⟩
      case measure => simp [intOf]; omega
    · have hke : k = 10 := by omega
      subst hke
      have hp := HP.out
      rw [show r.take 10 ++ List.replicate (10 - 10) 0 = r by rw [List.take_of_length_le (by rw [HRL.out]; exact Nat.le_refl _)]; simp] at hp
      have HPP := Lib.hid hp; clear hp
      go_wp2_with (first | (refine wpList_load_row rfl 96 _ rfl (w.heap.size + 1) rfl _ _ _ _ HPP.out Tryz.underlying96 rfl (permSize HRL.out) ?_) | (refine wpList_store_row rfl 96 _ _ rfl w.heap.size (pC r) rfl rfl _ _ HQ.out (permSize HRL.out) (by rw [pC_size, pC_size, HRL.out]; rfl) (pC_one r) ?_))
      have hs := setRow_heap wr w.heap.size _ (pC r) _ _ HQ.out
      refine bodyPost_ret (results_cell_row rfl _ _ w.heap.size _ (pC r) _ _ rfl hs Tryz.underlying96 rfl (permSize HRL.out)) rfl ⟨rfl, ?_⟩
      exact below_setRow HBL.out (Nat.le_refl _) _

theorem rotP_zero : rotP 0 = List.range 10 := by decide
theorem identity_any (w : World) :
    Calls Tryz.prog 121 #[] w fun e w' => e = .returned (.agg (pC (List.range 10))) ∧ Below w.heap.size w w' := by
  have hr := fun w' => rotation_any w' 0 (by omega)
  rw [rotP_zero] at hr
  have HR := Lib.hid hr; clear hr
  have h10 : (List.range 10).length = 10 := rfl
  have h0 : PB (w.alloc (.cells #[.int .u8 0, .int .u8 0, .int .u8 0, .int .u8 0, .int .u8 0, .int .u8 0, .int .u8 0, .int .u8 0, .int .u8 0, .int .u8 0] 96)) w.heap.size (List.replicate 10 0) := heap_alloc_new w _
  have hb0 : Below w.heap.size w (w.alloc (.cells #[.int .u8 0, .int .u8 0, .int .u8 0, .int .u8 0, .int .u8 0, .int .u8 0, .int .u8 0, .int .u8 0, .int .u8 0, .int .u8 0] 96)) := (Below.refl _ _).alloc (Nat.le_refl _) _
  have H0 := Lib.hid h0; have HB0 := Lib.hid hb0; clear h0 hb0
  go_enter Tryz.func121, Tryz.ntmps121
  go_wp2_with fail
  refine (HR.out _).mono ?_
  rintro _ w1 ⟨rfl, hb1⟩
  have hp : PB w1 w.heap.size (List.replicate 10 0) := (hb1.block w.heap.size (by simp)).trans H0.out
  have HP := Lib.hid hp; have HB1 := Lib.hid (HB0.out.trans (hb1.mono HB0.out.size)); clear hp hb1 H0 HB0
  go_wp2_with (refine wpList_store_row rfl 96 _ _ rfl w.heap.size (pC (List.range 10)) rfl rfl _ _ HP.out (permSize h10) (by rw [pC_size, pC_size]; rfl) (pC_one _) ?_)
  have hs := setRow_heap w1 w.heap.size _ (pC (List.range 10)) _ _ HP.out
  refine bodyPost_ret (results_cell_row rfl _ _ w.heap.size _ (pC (List.range 10)) _ _ rfl hs Tryz.underlying96 rfl (permSize h10)) rfl ⟨rfl, ?_⟩
  exact below_setRow HB1.out (Nat.le_refl _) _

set_option maxRecDepth 100000 in
theorem index_perm (w : World) (p : List Nat) (k : Nat) (hk : k < p.length) (h10 : p.length = 10) : (Instr.index 96 (.agg (pC p)) (.int .i64 (k : Int))).run Tryz.prog w = .ok (.int .u8 (p[k] : Int)) w := by
  have h1 : (pC p)[k]? = some (.int .u8 (p[k] : Int)) := pC_get hk
  have h2 : (pC p).size = p.length := pC_size p
  have h3 : k < (pC p).size := by rw [h2]; exact hk
  rw [Array.getElem?_eq_getElem h3] at h1
  injection h1 with h1
  have h4 : k < 10 := by omega
  unfold Instr.index
  simp [go_sem, h1, h2, hk, h4]
theorem block_kept3 {w : World} {p : Nat} {o : Obj} (h : w.heap[p]? = some o) (o2 : Obj) : (w.alloc o2).heap[p]? = some o :=
  (((Below.refl w.heap.size w).alloc (Nat.le_refl _) o2).block p (Array.getElem?_eq_some_iff.1 h).1).trans h
/-- a list of ten numbers below ten -/
structure Ten (q : List Nat) : Prop where
  len : q.length = 10
  lt : ∀ n ∈ q, n < 10
theorem Ten.at {q : List Nat} (h : Ten q) {k : Nat} (hk : k < q.length) : q[k] < 10 := h.lt _ (List.getElem_mem hk)
def thenP (p q : List Nat) : List Nat := p.map fun n => q[n]?.getD 0
theorem thenP_ten {p q : List Nat} (hp : Ten p) (hq : Ten q) : Ten (thenP p q) := by
  refine ⟨by simp [thenP, hp.len], fun n hn => ?_⟩
  obtain ⟨m, hm, rfl⟩ := List.mem_map.1 hn
  have hl : m < q.length := by rw [hq.len]; exact hp.lt m hm
  rw [List.getElem?_eq_getElem hl, Option.getD_some]
  exact hq.at hl

set_option maxHeartbeats 4000000 in
set_option maxRecDepth 100000 in
theorem then_any (w : World) (p q : List Nat) (hp : Ten p) (hq : Ten q) :
    Calls Tryz.prog 120 #[.agg (pC p), .agg (pC q)] w fun e w' => e = .returned (.agg (pC (thenP p q))) ∧ Below w.heap.size w w' := by
  have hrl := (thenP_ten hp hq).len
  have hpl := hp.len
  have hql := hq.len
  have hrg : ∀ k (hk : k < p.length) (hk2 : p[k] < q.length) (hk3 : k < (thenP p q).length), (thenP p q)[k] = q[p[k]] := fun k hk hk2 hk3 => by simp [thenP, hk2]
  obtain ⟨r, hr⟩ : ∃ r, r = thenP p q := ⟨_, rfl⟩
  rw [← hr] at hrl hrg ⊢
  obtain ⟨W, hW⟩ : ∃ W, W = (((w.alloc (.cells (pC p) 96)).alloc (.cells (pC q) 96)).alloc (.cells #[.int .u8 0, .int .u8 0, .int .u8 0, .int .u8 0, .int .u8 0, .int .u8 0, .int .u8 0, .int .u8 0, .int .u8 0, .int .u8 0] 96)).alloc (.cells #[.int .u8 0, .int .u8 0, .int .u8 0, .int .u8 0, .int .u8 0, .int .u8 0, .int .u8 0, .int .u8 0, .int .u8 0, .int .u8 0] 96) := ⟨_, rfl⟩
  have hb : Below w.heap.size w W := by rw [hW]; exact ((((Below.refl _ _).alloc (Nat.le_refl _) _).alloc (by simp) _).alloc (by simp; omega) _).alloc (by simp; omega) _
  have g0 : PB W w.heap.size p := by
    rw [hW]
    have h1 := heap_alloc_new w (.cells (pC p) 96)
    exact block_kept3 (block_kept3 (block_kept3 h1 _) _) _
  have g1 : PB W (w.heap.size + 1) q := by
    rw [hW]
    have h1 := heap_alloc_new (w.alloc (.cells (pC p) 96)) (.cells (pC q) 96)
    rw [szalloc3] at h1
    exact block_kept3 (block_kept3 h1 _) _
  have g2 : PB W (w.heap.size + 1 + 1) (List.replicate 10 0) := by
    rw [hW]
    have h1 := heap_alloc_new ((w.alloc (.cells (pC p) 96)).alloc (.cells (pC q) 96)) (.cells #[.int .u8 0, .int .u8 0, .int .u8 0, .int .u8 0, .int .u8 0, .int .u8 0, .int .u8 0, .int .u8 0, .int .u8 0, .int .u8 0] 96)
    rw [szalloc3, szalloc3] at h1
    exact block_kept3 h1 _
  have g3 : PB W (w.heap.size + 1 + 1 + 1) (r.take 0 ++ List.replicate (10 - 0) 0) := by
    rw [hW]
    have h1 := heap_alloc_new (((w.alloc (.cells (pC p) 96)).alloc (.cells (pC q) 96)).alloc (.cells #[.int .u8 0, .int .u8 0, .int .u8 0, .int .u8 0, .int .u8 0, .int .u8 0, .int .u8 0, .int .u8 0, .int .u8 0, .int .u8 0] 96)) (.cells #[.int .u8 0, .int .u8 0, .int .u8 0, .int .u8 0, .int .u8 0, .int .u8 0, .int .u8 0, .int .u8 0, .int .u8 0, .int .u8 0] 96)
    rw [szalloc3, szalloc3, szalloc3] at h1
    exact h1
  have HRL := Lib.hid hrl; have HPL := Lib.hid hpl; have HQL := Lib.hid hql; have HRG := Lib.hid hrg; have HP := Lib.hid hp
  have HB := Lib.hid hb; have G0 := Lib.hid g0; have G1 := Lib.hid g1; have G2 := Lib.hid g2; have G3 := Lib.hid g3
  have g0' := g0
  rw [hW] at g0'
  have G0' := Lib.hid g0'; have HWE := Lib.hid hW
  clear hrl hpl hql hrg hr hp hq hb g0 g1 g2 g3 g0' hW
  go_enter Tryz.func120, Tryz.ntmps120
  go_wp2_with (refine wpList_load_row rfl 96 _ rfl w.heap.size rfl _ _ _ _ G0'.out Tryz.underlying96 rfl (permSize HPL.out) ?_)
  rw [← HWE.out]
  clear G0' HWE
  go_loopw [9] (fun i wr => ∃ k : Nat, k ≤ 10 ∧ i = .int .i64 k ∧ PB wr (w.heap.size + 1) q ∧ PB wr (w.heap.size + 1 + 1) (List.replicate 10 0) ∧ PB wr (w.heap.size + 1 + 1 + 1) (r.take k ++ List.replicate (10 - k) 0) ∧ Below w.heap.size w wr) (fun i _ => 10 - (intOf i).toNat)
  case atStart => exact ⟨0, by omega, rfl, G1.out, G2.out, G3.out, HB.out⟩
  case round =>
    obtain ⟨k, hk, rfl, h1, h2, h3, hbl⟩ := hrel
    have P1 := Lib.hid h1; have P2 := Lib.hid h2; have P3 := Lib.hid h3; have HBL := Lib.hid hbl; clear h1 h2 h3 hbl G1 G2 G3 HB
    by_cases hlt : k < 10
    · have hl : (r.take k ++ List.replicate (10 - k) 0).length = 10 := by have := HRL.out; simp; omega
      have hkp : k < p.length := by rw [HPL.out]; exact hlt
      have hpk := HP.out.at hkp
      have hix : ∀ w' : World, (Instr.index 96 (.agg (pC p)) (.int .i64 (k : Int))).run Tryz.prog w' = .ok (.int .u8 (p[k] : Int)) w' := fun w' => index_perm w' p k hkp HPL.out
      have hrk := HRG.out k hkp (by rw [HQL.out]; exact hpk) (by rw [HRL.out]; exact hlt)
      have hnx : (r.take k ++ List.replicate (10 - k) 0).set k (q[p[k]]'(by rw [HQL.out]; exact hpk)) = r.take (k + 1) ++ List.replicate (10 - (k + 1)) 0 := by
        have hkr : k < r.length := by rw [HRL.out]; exact hlt
        have e1 : 10 - k = (10 - (k + 1)) + 1 := by omega
        rw [List.set_append_right _ _ (by rw [List.length_take]; omega), List.length_take, Nat.min_eq_left (by omega), Nat.sub_self, e1, List.replicate_succ, List.set_cons_zero, List.take_succ_eq_append_getElem hkr, List.append_assoc, hrk]
        rfl
      have c2 := P1.out.cell (k := p[k]) (by rw [HQL.out]; exact hpk)
      have c1 := P3.out.cell (k := k) (by rw [hl]; exact hlt)
      have f1 := P3.out.frozen k
      have hput := P3.out.put k (q[p[k]]'(by rw [HQL.out]; exact hpk))
      rw [hnx] at hput
      have hf1 := P1.out.far (p' := w.heap.size + 1 + 1 + 1) (by omega) k (.int .u8 ((q[p[k]]'(by rw [HQL.out]; exact hpk) : Nat) : Int))
      have hf2 := P2.out.far (p' := w.heap.size + 1 + 1 + 1) (by omega) k (.int .u8 ((q[p[k]]'(by rw [HQL.out]; exact hpk) : Nat) : Int))
      have HPUT := Lib.hid hput; have HF1 := Lib.hid hf1; have HF2 := Lib.hid hf2; clear hput hf1 hf2 hnx hrk
      go_wp2_with fail
      go_roundw
      case rel => exact ⟨k + 1, by omega, by go_num, HF1.out, HF2.out, HPUT.out, HBL.out.setCell (show w.heap.size ≤ w.heap.size + 1 + 1 + 1 by omega) _⟩
      case measure => simp [intOf]; omega
    · have hke : k = 10 := by omega
      subst hke
      have hp := P3.out
      rw [show r.take 10 ++ List.replicate (10 - 10) 0 = r by rw [List.take_of_length_le (by rw [HRL.out]; exact Nat.le_refl _)]; simp] at hp
      have HPP := Lib.hid hp; clear hp
      go_wp2_with (first | (refine wpList_load_row rfl 96 _ rfl (w.heap.size + 1 + 1 + 1) rfl _ _ _ _ HPP.out Tryz.underlying96 rfl (permSize HRL.out) ?_) | (refine wpList_store_row rfl 96 _ _ rfl (w.heap.size + 1 + 1) (pC r) rfl rfl _ _ P2.out (permSize HRL.out) (by rw [pC_size, pC_size, HRL.out]; rfl) (pC_one r) ?_))
      have hs := setRow_heap wr (w.heap.size + 1 + 1) _ (pC r) _ _ P2.out
      refine bodyPost_ret (results_cell_row rfl _ _ (w.heap.size + 1 + 1) _ (pC r) _ _ rfl hs Tryz.underlying96 rfl (permSize HRL.out)) rfl ⟨rfl, ?_⟩
      exact below_setRow HBL.out (by omega) _

end Go.Proofs.YtlbngohbbcdfkaaGreatDoor
