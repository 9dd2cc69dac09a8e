/-
  Contracts of functions and plain laws that the law's proof uses (parts: Perms). Conditions: what each theorem names.
-/
import Derived.Laws.Rows
import Derived.Laws.ResultCell
import Derived.Test.YtnbdimbhklbadaaGreatDoorQBsA
namespace Go.Proofs.YtnbdimbhklbadaaGreatDoor
open Go.RowKit Pl
set_option linter.unusedVariables false
def pC (q : List Nat) : Array Value := (q.map fun n : Nat => Value.int .u8 (n : Int)).toArray
theorem pC_size (q : List Nat) : (pC q).size = q.length := by simp [pC]
theorem pC_get {q : List Nat} {k : Nat} (hk : k < q.length) : (pC q)[k]? = some (.int .u8 (q[k] : Int)) := by simp [pC, hk]
theorem pC_set (q : List Nat) (k n : Nat) : (pC q).setIfInBounds k (.int .u8 (n : Int)) = pC (q.set k n) := by
  apply Array.ext_getElem?
  intro j
  rw [Array.getElem?_setIfInBounds]
  by_cases e : k = j
  · subst e
    by_cases hk : k < q.length
    · simp [pC, hk]
    · simp [pC, hk]
  · simp [pC, e, List.getElem?_set_ne e]
theorem pC_one (q : List Nat) : (pC q).all (·.oneCell') = true := by
  rw [Array.all_eq_true_iff_forall_mem]
  intro x hx
  simp [pC] at hx
  obtain ⟨n, _, rfl⟩ := hx
  rfl
theorem permSize {q : List Nat} (h : q.length = 10) : (Tryz.prog.info? 52).map (·.size) = some (pC q).size := by rw [pC_size, h]; kernel_rfl
abbrev PB (w : World) (p : Nat) (q : List Nat) : Prop := w.heap[p]? = some (.cells (pC q) 52 (0, 0))
theorem PB.put {w : World} {p : Nat} {q : List Nat} (h : PB w p q) (k n : Nat) : PB (w.setCell ⟨p, k, none⟩ (.int .u8 (n : Int))) p (q.set k n) := by
  unfold PB
  rw [setCell_eq_setRow w p k _ _ _ _ h, pC_set]
  exact setRow_heap w p _ _ _ _ h
theorem PB.cell {w : World} {p : Nat} {q : List Nat} (h : PB w p q) {k : Nat} (hk : k < q.length) : w.cell? ⟨p, k, none⟩ = some (.int .u8 (q[k] : Int)) := by
  rw [cell_of_row w p k _ _ _ h]; exact pC_get hk
theorem PB.frozen {w : World} {p : Nat} {q : List Nat} (h : PB w p q) (k : Nat) : w.frozen? ⟨p, k, none⟩ = false := by
  have h2 : w.heap[p]? = some (.cells (pC q) 52 (0, 0)) := h
  simp [World.frozen?, h2]
theorem PB.far {w : World} {p p' : Nat} {q : List Nat} (h : PB w p q) (hne : p ≠ p') (k : Nat) (v : Value) : PB (w.setCell ⟨p', k, none⟩ v) p q :=
  (Below.heap_setCell w ⟨p', k, none⟩ v p (by intro e; exact hne e)).trans h
theorem szalloc3 (w : World) (o : Obj) : (w.alloc o).heap.size = w.heap.size + 1 := by simp
theorem below_setRow {B p : Nat} {a w : World} (h : Below B a w) (hp : B ≤ p) (cs : Array Value) : Below B a (w.setRow p cs) :=
  ⟨h.os, h.tape, h.output, by simpa [World.setRow] using h.size, fun k hk => (setRow_other w p k cs (by omega)).trans (h.block k hk)⟩
def rotP (n : Nat) : List Nat := (List.range 10).map fun i => (i + n) % 10
set_option maxHeartbeats 4000000 in
set_option maxRecDepth 100000 in
theorem rotation_any (w : World) (n : Nat) (hn : n ≤ 10) :
    Calls Tryz.prog 96 #[.int .i64 n] w fun e w' => e = .returned (.agg (pC (rotP n))) ∧ Below w.heap.size w w' := by
  have hrl : (rotP n).length = 10 := by simp [rotP]
  have hrg : ∀ k (hk : k < (rotP n).length), (rotP n)[k] = (k + n) % 10 := fun k hk => by simp [rotP]
  obtain ⟨r, hr⟩ : ∃ r, r = rotP n := ⟨_, rfl⟩
  rw [← hr] at hrl hrg ⊢
  have HRL := Lib.hid hrl; have HRG := Lib.hid hrg; clear hrl hrg hr
  have hb : Below w.heap.size w ((w.alloc (.cells #[.int .u8 0, .int .u8 0, .int .u8 0, .int .u8 0, .int .u8 0, .int .u8 0, .int .u8 0, .int .u8 0, .int .u8 0, .int .u8 0] 52)).alloc (.cells #[.int .u8 0, .int .u8 0, .int .u8 0, .int .u8 0, .int .u8 0, .int .u8 0, .int .u8 0, .int .u8 0, .int .u8 0, .int .u8 0] 52)) := ((Below.refl _ _).alloc (Nat.le_refl _) _).alloc (by simp) _
  have h1 : PB ((w.alloc (.cells #[.int .u8 0, .int .u8 0, .int .u8 0, .int .u8 0, .int .u8 0, .int .u8 0, .int .u8 0, .int .u8 0, .int .u8 0, .int .u8 0] 52)).alloc (.cells #[.int .u8 0, .int .u8 0, .int .u8 0, .int .u8 0, .int .u8 0, .int .u8 0, .int .u8 0, .int .u8 0, .int .u8 0, .int .u8 0] 52)) (w.heap.size + 1) (r.take 0 ++ List.replicate (10 - 0) 0) := by
    have := heap_alloc_new (w.alloc (.cells #[.int .u8 0, .int .u8 0, .int .u8 0, .int .u8 0, .int .u8 0, .int .u8 0, .int .u8 0, .int .u8 0, .int .u8 0, .int .u8 0] 52)) (.cells #[.int .u8 0, .int .u8 0, .int .u8 0, .int .u8 0, .int .u8 0, .int .u8 0, .int .u8 0, .int .u8 0, .int .u8 0, .int .u8 0] 52)
    rw [szalloc3] at this
    exact this
  have h0 : PB ((w.alloc (.cells #[.int .u8 0, .int .u8 0, .int .u8 0, .int .u8 0, .int .u8 0, .int .u8 0, .int .u8 0, .int .u8 0, .int .u8 0, .int .u8 0] 52)).alloc (.cells #[.int .u8 0, .int .u8 0, .int .u8 0, .int .u8 0, .int .u8 0, .int .u8 0, .int .u8 0, .int .u8 0, .int .u8 0, .int .u8 0] 52)) w.heap.size (List.replicate 10 0) := by
    have h2 := heap_alloc_new w (.cells #[.int .u8 0, .int .u8 0, .int .u8 0, .int .u8 0, .int .u8 0, .int .u8 0, .int .u8 0, .int .u8 0, .int .u8 0, .int .u8 0] 52)
    have h3 := (Below.alloc (Below.refl (w.alloc (.cells #[.int .u8 0, .int .u8 0, .int .u8 0, .int .u8 0, .int .u8 0, .int .u8 0, .int .u8 0, .int .u8 0, .int .u8 0, .int .u8 0] 52)).heap.size (w.alloc (.cells #[.int .u8 0, .int .u8 0, .int .u8 0, .int .u8 0, .int .u8 0, .int .u8 0, .int .u8 0, .int .u8 0, .int .u8 0, .int .u8 0] 52))) (Nat.le_refl _) (.cells #[.int .u8 0, .int .u8 0, .int .u8 0, .int .u8 0, .int .u8 0, .int .u8 0, .int .u8 0, .int .u8 0, .int .u8 0, .int .u8 0] 52)).block w.heap.size (by simp)
    exact h3.trans h2
  have HB := Lib.hid hb; have H1 := Lib.hid h1; have H0 := Lib.hid h0; clear hb h1 h0
  go_enter Tryz.func96, Tryz.ntmps96
  go_wp2_with fail
  go_loopw [5] (fun i wr => ∃ k : Nat, k ≤ 10 ∧ i = .int .i64 k ∧ PB wr (w.heap.size + 1) (r.take k ++ List.replicate (10 - k) 0) ∧ PB wr w.heap.size (List.replicate 10 0) ∧ Below w.heap.size w wr) (fun i _ => 10 - (intOf i).toNat)
  case atStart => exact ⟨0, by omega, rfl, H1.out, H0.out, HB.out⟩
  case round =>
    obtain ⟨k, hk, rfl, hp1, hp0, hbl⟩ := hrel
    have HP := Lib.hid hp1; have HQ := Lib.hid hp0; have HBL := Lib.hid hbl; clear hp1 hp0 hbl H1 H0 HB
    by_cases hlt : k < 10
    · have hl : (r.take k ++ List.replicate (10 - k) 0).length = 10 := by have := HRL.out; simp; omega
      have c1 := HP.out.cell (k := k) (by rw [hl]; exact hlt)
      have f1 := HP.out.frozen k
      have hnx : (r.take k ++ List.replicate (10 - k) 0).set k ((k + n) % 10) = r.take (k + 1) ++ List.replicate (10 - (k + 1)) 0 := by
        have hkr : k < r.length := by rw [HRL.out]; exact hlt
        have e1 : 10 - k = (10 - (k + 1)) + 1 := by omega
        rw [List.set_append_right _ _ (by rw [List.length_take]; omega), List.length_take, Nat.min_eq_left (by omega), Nat.sub_self, e1, List.replicate_succ, List.set_cons_zero, List.take_succ_eq_append_getElem hkr, List.append_assoc, HRG.out k hkr]
        rfl
      have hput := HP.out.put k ((k + n) % 10)
      rw [hnx] at hput
      have hfar := HQ.out.far (p' := w.heap.size + 1) (by omega) k (.int .u8 (((k + n) % 10 : Nat) : Int))
      have hct : (((k + n) % 10 : Nat) : Int) = ((k : Int) + (n : Int)) % 10 := by omega
      rw [hct] at hput hfar
      have HPUT := Lib.hid hput; have HFAR := Lib.hid hfar; clear hput hfar hnx hct
      go_wp2_with fail
      go_roundw
      case rel => exact ⟨k + 1, by omega, by go_num, HPUT.out, HFAR.out, HBL.out.setCell (Nat.le_succ _) _⟩
      case measure => simp [intOf]; omega
    · have hke : k = 10 := by omega
      subst hke
      have hp := HP.out
      rw [show r.take 10 ++ List.replicate (10 - 10) 0 = r by rw [List.take_of_length_le (by rw [HRL.out]; exact Nat.le_refl _)]; simp] at hp
      have HPP := Lib.hid hp; clear hp
      go_wp2_with (first | (refine wpList_load_row rfl 52 _ rfl (w.heap.size + 1) rfl _ _ _ _ HPP.out Tryz.underlying52 rfl (permSize HRL.out) ?_) | (refine wpList_store_row rfl 52 _ _ rfl w.heap.size (pC r) rfl rfl _ _ HQ.out (permSize HRL.out) (by rw [pC_size, pC_size, HRL.out]; rfl) (pC_one r) ?_))
      have hs := setRow_heap wr w.heap.size _ (pC r) _ _ HQ.out
      refine bodyPost_ret (results_cell_row rfl _ _ w.heap.size _ (pC r) _ _ rfl hs Tryz.underlying52 rfl (permSize HRL.out)) rfl ⟨rfl, ?_⟩
      exact below_setRow HBL.out (Nat.le_refl _) _
theorem rotP_zero : rotP 0 = List.range 10 := by decide
theorem identity_any (w : World) :
    Calls Tryz.prog 60 #[] w fun e w' => e = .returned (.agg (pC (List.range 10))) ∧ Below w.heap.size w w' := by
  have hr := fun w' => rotation_any w' 0 (by omega)
  rw [rotP_zero] at hr
  have HR := Lib.hid hr; clear hr
  have h10 : (List.range 10).length = 10 := rfl
  have h0 : PB (w.alloc (.cells #[.int .u8 0, .int .u8 0, .int .u8 0, .int .u8 0, .int .u8 0, .int .u8 0, .int .u8 0, .int .u8 0, .int .u8 0, .int .u8 0] 52)) w.heap.size (List.replicate 10 0) := heap_alloc_new w _
  have hb0 : Below w.heap.size w (w.alloc (.cells #[.int .u8 0, .int .u8 0, .int .u8 0, .int .u8 0, .int .u8 0, .int .u8 0, .int .u8 0, .int .u8 0, .int .u8 0, .int .u8 0] 52)) := (Below.refl _ _).alloc (Nat.le_refl _) _
  have H0 := Lib.hid h0; have HB0 := Lib.hid hb0; clear h0 hb0
  go_enter Tryz.func60, Tryz.ntmps60
  go_wp2_with fail
  refine (HR.out _).mono ?_
  rintro _ w1 ⟨rfl, hb1⟩
  have hp : PB w1 w.heap.size (List.replicate 10 0) := (hb1.block w.heap.size (by simp)).trans H0.out
  have HP := Lib.hid hp; have HB1 := Lib.hid (HB0.out.trans (hb1.mono HB0.out.size)); clear hp hb1 H0 HB0
  go_wp2_with (refine wpList_store_row rfl 52 _ _ rfl w.heap.size (pC (List.range 10)) rfl rfl _ _ HP.out (permSize h10) (by rw [pC_size, pC_size]; rfl) (pC_one _) ?_)
  have hs := setRow_heap w1 w.heap.size _ (pC (List.range 10)) _ _ HP.out
  refine bodyPost_ret (results_cell_row rfl _ _ w.heap.size _ (pC (List.range 10)) _ _ rfl hs Tryz.underlying52 rfl (permSize h10)) rfl ⟨rfl, ?_⟩
  exact below_setRow HB1.out (Nat.le_refl _) _
set_option maxRecDepth 100000 in
theorem index_perm (w : World) (p : List Nat) (k : Nat) (hk : k < p.length) (h10 : p.length = 10) : (Instr.index 52 (.agg (pC p)) (.int .i64 (k : Int))).run Tryz.prog w = .ok (.int .u8 (p[k] : Int)) w := by
  have h1 : (pC p)[k]? = some (.int .u8 (p[k] : Int)) := pC_get hk
  have h2 : (pC p).size = p.length := pC_size p
  have h3 : k < (pC p).size := by rw [h2]; exact hk
  rw [Array.getElem?_eq_getElem h3] at h1
  injection h1 with h1
  have h4 : k < 10 := by omega
  unfold Instr.index
  simp [go_sem, h1, h2, hk, h4]
theorem block_kept3 {w : World} {p : Nat} {o : Obj} (h : w.heap[p]? = some o) (o2 : Obj) : (w.alloc o2).heap[p]? = some o :=
  (((Below.refl w.heap.size w).alloc (Nat.le_refl _) o2).block p (Array.getElem?_eq_some_iff.1 h).1).trans h
structure Ten (q : List Nat) : Prop where
  len : q.length = 10
  lt : ∀ n ∈ q, n < 10
theorem Ten.at {q : List Nat} (h : Ten q) {k : Nat} (hk : k < q.length) : q[k] < 10 := h.lt _ (List.getElem_mem hk)
def thenP (p q : List Nat) : List Nat := p.map fun n => q[n]?.getD 0
theorem thenP_ten {p q : List Nat} (hp : Ten p) (hq : Ten q) : Ten (thenP p q) := by
  refine ⟨by simp [thenP, hp.len], fun n hn => ?_⟩
  obtain ⟨m, hm, rfl⟩ := List.mem_map.1 hn
  have hl : m < q.length := by rw [hq.len]; exact hp.lt m hm
  rw [List.getElem?_eq_getElem hl, Option.getD_some]
  exact hq.at hl
set_option maxHeartbeats 4000000 in
set_option maxRecDepth 100000 in
theorem then_any (w : World) (p q : List Nat) (hp : Ten p) (hq : Ten q) :
    Calls Tryz.prog 63 #[.agg (pC p), .agg (pC q)] w fun e w' => e = .returned (.agg (pC (thenP p q))) ∧ Below w.heap.size w w' := by
  have hrl := (thenP_ten hp hq).len
  have hpl := hp.len
  have hql := hq.len
  have hrg : ∀ k (hk : k < p.length) (hk2 : p[k] < q.length) (hk3 : k < (thenP p q).length), (thenP p q)[k] = q[p[k]] := fun k hk hk2 hk3 => by simp [thenP, hk2]
  obtain ⟨r, hr⟩ : ∃ r, r = thenP p q := ⟨_, rfl⟩
  rw [← hr] at hrl hrg ⊢
  obtain ⟨W, hW⟩ : ∃ W, W = (((w.alloc (.cells (pC p) 52)).alloc (.cells (pC q) 52)).alloc (.cells #[.int .u8 0, .int .u8 0, .int .u8 0, .int .u8 0, .int .u8 0, .int .u8 0, .int .u8 0, .int .u8 0, .int .u8 0, .int .u8 0] 52)).alloc (.cells #[.int .u8 0, .int .u8 0, .int .u8 0, .int .u8 0, .int .u8 0, .int .u8 0, .int .u8 0, .int .u8 0, .int .u8 0, .int .u8 0] 52) := ⟨_, rfl⟩
  have hb : Below w.heap.size w W := by rw [hW]; exact ((((Below.refl _ _).alloc (Nat.le_refl _) _).alloc (by simp) _).alloc (by simp; omega) _).alloc (by simp; omega) _
  have g0 : PB W w.heap.size p := by
    rw [hW]
    have h1 := heap_alloc_new w (.cells (pC p) 52)
    exact block_kept3 (block_kept3 (block_kept3 h1 _) _) _
  have g1 : PB W (w.heap.size + 1) q := by
    rw [hW]
    have h1 := heap_alloc_new (w.alloc (.cells (pC p) 52)) (.cells (pC q) 52)
    rw [szalloc3] at h1
    exact block_kept3 (block_kept3 h1 _) _
  have g2 : PB W (w.heap.size + 1 + 1) (List.replicate 10 0) := by
    rw [hW]
    have h1 := heap_alloc_new ((w.alloc (.cells (pC p) 52)).alloc (.cells (pC q) 52)) (.cells #[.int .u8 0, .int .u8 0, .int .u8 0, .int .u8 0, .int .u8 0, .int .u8 0, .int .u8 0, .int .u8 0, .int .u8 0, .int .u8 0] 52)
    rw [szalloc3, szalloc3] at h1
    exact block_kept3 h1 _
  have g3 : PB W (w.heap.size + 1 + 1 + 1) (r.take 0 ++ List.replicate (10 - 0) 0) := by
    rw [hW]
    have h1 := heap_alloc_new (((w.alloc (.cells (pC p) 52)).alloc (.cells (pC q) 52)).alloc (.cells #[.int .u8 0, .int .u8 0, .int .u8 0, .int .u8 0, .int .u8 0, .int .u8 0, .int .u8 0, .int .u8 0, .int .u8 0, .int .u8 0] 52)) (.cells #[.int .u8 0, .int .u8 0, .int .u8 0, .int .u8 0, .int .u8 0, .int .u8 0, .int .u8 0, .int .u8 0, .int .u8 0, .int .u8 0] 52)
    rw [szalloc3, szalloc3, szalloc3] at h1
    exact h1
  have HRL := Lib.hid hrl; have HPL := Lib.hid hpl; have HQL := Lib.hid hql; have HRG := Lib.hid hrg; have HP := Lib.hid hp
  have HB := Lib.hid hb; have G0 := Lib.hid g0; have G1 := Lib.hid g1; have G2 := Lib.hid g2; have G3 := Lib.hid g3
  have g0' := g0
  rw [hW] at g0'
  have G0' := Lib.hid g0'; have HWE := Lib.hid hW
  clear hrl hpl hql hrg hr hp hq hb g0 g1 g2 g3 g0' hW
  go_enter Tryz.func63, Tryz.ntmps63
  go_wp2_with (refine wpList_load_row rfl 52 _ rfl w.heap.size rfl _ _ _ _ G0'.out Tryz.underlying52 rfl (permSize HPL.out) ?_)
  rw [← HWE.out]
  clear G0' HWE
  go_loopw [9] (fun i wr => ∃ k : Nat, k ≤ 10 ∧ i = .int .i64 k ∧ PB wr (w.heap.size + 1) q ∧ PB wr (w.heap.size + 1 + 1) (List.replicate 10 0) ∧ PB wr (w.heap.size + 1 + 1 + 1) (r.take k ++ List.replicate (10 - k) 0) ∧ Below w.heap.size w wr) (fun i _ => 10 - (intOf i).toNat)
  case atStart => exact ⟨0, by omega, rfl, G1.out, G2.out, G3.out, HB.out⟩
  case round =>
    obtain ⟨k, hk, rfl, h1, h2, h3, hbl⟩ := hrel
    have P1 := Lib.hid h1; have P2 := Lib.hid h2; have P3 := Lib.hid h3; have HBL := Lib.hid hbl; clear h1 h2 h3 hbl G1 G2 G3 HB
    by_cases hlt : k < 10
    · have hl : (r.take k ++ List.replicate (10 - k) 0).length = 10 := by have := HRL.out; simp; omega
      have hkp : k < p.length := by rw [HPL.out]; exact hlt
      have hpk := HP.out.at hkp
      have hix : ∀ w' : World, (Instr.index 52 (.agg (pC p)) (.int .i64 (k : Int))).run Tryz.prog w' = .ok (.int .u8 (p[k] : Int)) w' := fun w' => index_perm w' p k hkp HPL.out
      have hrk := HRG.out k hkp (by rw [HQL.out]; exact hpk) (by rw [HRL.out]; exact hlt)
      have hnx : (r.take k ++ List.replicate (10 - k) 0).set k (q[p[k]]'(by rw [HQL.out]; exact hpk)) = r.take (k + 1) ++ List.replicate (10 - (k + 1)) 0 := by
        have hkr : k < r.length := by rw [HRL.out]; exact hlt
        have e1 : 10 - k = (10 - (k + 1)) + 1 := by omega
        rw [List.set_append_right _ _ (by rw [List.length_take]; omega), List.length_take, Nat.min_eq_left (by omega), Nat.sub_self, e1, List.replicate_succ, List.set_cons_zero, List.take_succ_eq_append_getElem hkr, List.append_assoc, hrk]
        rfl
      have c2 := P1.out.cell (k := p[k]) (by rw [HQL.out]; exact hpk)
      have c1 := P3.out.cell (k := k) (by rw [hl]; exact hlt)
      have f1 := P3.out.frozen k
      have hput := P3.out.put k (q[p[k]]'(by rw [HQL.out]; exact hpk))
      rw [hnx] at hput
      have hf1 := P1.out.far (p' := w.heap.size + 1 + 1 + 1) (by omega) k (.int .u8 ((q[p[k]]'(by rw [HQL.out]; exact hpk) : Nat) : Int))
      have hf2 := P2.out.far (p' := w.heap.size + 1 + 1 + 1) (by omega) k (.int .u8 ((q[p[k]]'(by rw [HQL.out]; exact hpk) : Nat) : Int))
      have HPUT := Lib.hid hput; have HF1 := Lib.hid hf1; have HF2 := Lib.hid hf2; clear hput hf1 hf2 hnx hrk
      go_wp2_with fail
      go_roundw
      case rel => exact ⟨k + 1, by omega, by go_num, HF1.out, HF2.out, HPUT.out, HBL.out.setCell (show w.heap.size ≤ w.heap.size + 1 + 1 + 1 by omega) _⟩
      case measure => simp [intOf]; omega
    · have hke : k = 10 := by omega
      subst hke
      have hp := P3.out
      rw [show r.take 10 ++ List.replicate (10 - 10) 0 = r by rw [List.take_of_length_le (by rw [HRL.out]; exact Nat.le_refl _)]; simp] at hp
      have HPP := Lib.hid hp; clear hp
      go_wp2_with (first | (refine wpList_load_row rfl 52 _ rfl (w.heap.size + 1 + 1 + 1) rfl _ _ _ _ HPP.out Tryz.underlying52 rfl (permSize HRL.out) ?_) | (refine wpList_store_row rfl 52 _ _ rfl (w.heap.size + 1 + 1) (pC r) rfl rfl _ _ P2.out (permSize HRL.out) (by rw [pC_size, pC_size, HRL.out]; rfl) (pC_one r) ?_))
      have hs := setRow_heap wr (w.heap.size + 1 + 1) _ (pC r) _ _ P2.out
      refine bodyPost_ret (results_cell_row rfl _ _ (w.heap.size + 1 + 1) _ (pC r) _ _ rfl hs Tryz.underlying52 rfl (permSize HRL.out)) rfl ⟨rfl, ?_⟩
      exact below_setRow HBL.out (by omega) _
theorem nodup_le : ∀ {l m : List Nat}, l.Nodup → (∀ n ∈ l, n ∈ m) → l.length ≤ m.length
  | [], m, _, _ => Nat.zero_le _
  | a :: r, m, h, hs => by
    have hc := List.nodup_cons.1 h
    have ham := hs a (by simp)
    have h1 := nodup_le (m := m.erase a) hc.2 fun n hn => (List.mem_erase_of_ne (by intro e; subst e; exact hc.1 hn)).2 (hs n (by simp [hn]))
    rw [List.length_erase_of_mem ham] at h1
    have : 0 < m.length := List.length_pos_of_mem ham
    rw [List.length_cons]; omega
structure Prm (q : List Nat) : Prop extends Ten q where
  nodup : q.Nodup
theorem Prm.perm {q : List Nat} (h : Prm q) : q.Perm (List.range 10) := by
  have hsub : ∀ n ∈ q, n ∈ List.range 10 := fun n hn => List.mem_range.2 (h.lt n hn)
  have key : ∀ n, n < 10 → n ∈ q := by
    intro n hn
    apply Classical.byContradiction
    intro hnot
    have h1 : (n :: q).Nodup := List.nodup_cons.2 ⟨hnot, h.nodup⟩
    have h2 : ∀ m ∈ n :: q, m ∈ List.range 10 := fun m hm => by
      rcases List.mem_cons.1 hm with rfl | hm
      · exact List.mem_range.2 hn
      · exact hsub m hm
    have h3 := nodup_le h1 h2
    rw [List.length_cons, h.len, List.length_range] at h3
    omega
  exact (List.perm_ext_iff_of_nodup h.nodup List.nodup_range).2 fun n => ⟨hsub n, fun hn => key n (List.mem_range.1 hn)⟩
theorem Prm.mem {q : List Nat} (h : Prm q) {n : Nat} (hn : n < 10) : n ∈ q := (h.perm.mem_iff).2 (List.mem_range.2 hn)
def invP (p : List Nat) : List Nat := (List.range 10).map fun t => p.idxOf t
theorem invP_is {p u : List Nat} (hp : Prm p) (hl : u.length = 10) (h : ∀ j (hj : j < p.length), u[p[j]]? = some j) : u = invP p := by
  apply List.ext_getElem?
  intro t
  by_cases ht : t < 10
  · have hm := hp.mem ht
    have hi : p.idxOf t < p.length := List.idxOf_lt_length_of_mem hm
    have h1 := h (p.idxOf t) hi
    rw [List.getElem_idxOf hi] at h1
    rw [h1]
    simp [invP, ht]
  · rw [List.getElem?_eq_none (by omega), List.getElem?_eq_none (by simp [invP]; omega)]
def InvTo (p u : List Nat) (k : Nat) : Prop := u.length = 10 ∧ ∀ j (h : j < p.length), j < k → u[p[j]]? = some j
theorem invTo_put {p u : List Nat} {k : Nat} (h : InvTo p u k) (hp : Prm p) (hk : k < p.length) : InvTo p (u.set p[k] k) (k + 1) := by
  refine ⟨by rw [List.length_set]; exact h.1, fun j hj hjk => ?_⟩
  rw [List.getElem?_set]
  by_cases e : p[k] = p[j]
  · have hkj : k = j := by
      have h1 := List.pairwise_iff_getElem.1 hp.nodup
      rcases Nat.lt_trichotomy k j with hlt | heq | hgt
      · exact absurd e (h1 k j hk hj hlt)
      · exact heq
      · exact absurd e.symm (h1 j k hj hk hgt)
    subst hkj
    have := hp.lt _ (List.getElem_mem hk)
    rw [if_pos rfl, if_pos (by rw [h.1]; exact this)]
  · rw [if_neg e]
    exact h.2 j hj (by rcases Nat.lt_or_ge j k with h2 | h2; exact h2; exact absurd (by congr 1; omega : p[k] = p[j]) e)
set_option maxHeartbeats 4000000 in
set_option maxRecDepth 100000 in
theorem inverse_any (w : World) (p : List Nat) (hp : Prm p) :
    Calls Tryz.prog 141 #[.agg (pC p)] w fun e w' => e = .returned (.agg (pC (invP p))) ∧ Below w.heap.size w w' := by
  have hpl := hp.len
  obtain ⟨W, hW⟩ : ∃ W, W = ((w.alloc (.cells (pC p) 52)).alloc (.cells #[.int .u8 0, .int .u8 0, .int .u8 0, .int .u8 0, .int .u8 0, .int .u8 0, .int .u8 0, .int .u8 0, .int .u8 0, .int .u8 0] 52)).alloc (.cells #[.int .u8 0, .int .u8 0, .int .u8 0, .int .u8 0, .int .u8 0, .int .u8 0, .int .u8 0, .int .u8 0, .int .u8 0, .int .u8 0] 52) := ⟨_, rfl⟩
  have hb : Below w.heap.size w W := by rw [hW]; exact (((Below.refl _ _).alloc (Nat.le_refl _) _).alloc (by simp) _).alloc (by simp; omega) _
  have g0 : PB W w.heap.size p := by
    rw [hW]
    have h1 := heap_alloc_new w (.cells (pC p) 52)
    exact block_kept3 (block_kept3 h1 _) _
  have g2 : PB W (w.heap.size + 1) (List.replicate 10 0) := by
    rw [hW]
    have h1 := heap_alloc_new (w.alloc (.cells (pC p) 52)) (.cells #[.int .u8 0, .int .u8 0, .int .u8 0, .int .u8 0, .int .u8 0, .int .u8 0, .int .u8 0, .int .u8 0, .int .u8 0, .int .u8 0] 52)
    rw [szalloc3] at h1
    exact block_kept3 h1 _
  have g3 : PB W (w.heap.size + 1 + 1) (List.replicate 10 0) := by
    rw [hW]
    have h1 := heap_alloc_new ((w.alloc (.cells (pC p) 52)).alloc (.cells #[.int .u8 0, .int .u8 0, .int .u8 0, .int .u8 0, .int .u8 0, .int .u8 0, .int .u8 0, .int .u8 0, .int .u8 0, .int .u8 0] 52)) (.cells #[.int .u8 0, .int .u8 0, .int .u8 0, .int .u8 0, .int .u8 0, .int .u8 0, .int .u8 0, .int .u8 0, .int .u8 0, .int .u8 0] 52)
    rw [szalloc3, szalloc3] at h1
    exact h1
  have HPL := Lib.hid hpl; have HP := Lib.hid hp
  have HB := Lib.hid hb; have G2 := Lib.hid g2; have G3 := Lib.hid g3
  have g0' := g0
  rw [hW] at g0'
  have G0' := Lib.hid g0'; have HWE := Lib.hid hW
  clear hpl hp hb g0 g2 g3 g0' hW
  go_enter Tryz.func141, Tryz.ntmps141
  go_wp2_with (refine wpList_load_row rfl 52 _ rfl w.heap.size rfl _ _ _ _ G0'.out Tryz.underlying52 rfl (permSize HPL.out) ?_)
  rw [← HWE.out]
  clear G0' HWE
  go_loopw [7] (fun i wr => ∃ (k : Nat) (u : List Nat), k ≤ 10 ∧ i = .int .i64 k ∧ Hid (InvTo p u k) ∧ PB wr (w.heap.size + 1) (List.replicate 10 0) ∧ PB wr (w.heap.size + 1 + 1) u ∧ Below w.heap.size w wr) (fun i _ => 10 - (intOf i).toNat)
  case atStart => exact ⟨0, List.replicate 10 0, by omega, rfl, ⟨by simp, fun j _ hj => by omega⟩, G2.out, G3.out, HB.out⟩
  case round =>
    obtain ⟨k, u, hk, rfl, HI, h2, h3, hbl⟩ := hrel
    have P2 := Lib.hid h2; have P3 := Lib.hid h3; have HBL := Lib.hid hbl; clear h2 h3 hbl G2 G3 HB
    by_cases hlt : k < 10
    · have hkp : k < p.length := by rw [HPL.out]; exact hlt
      have hpk := HP.out.lt _ (List.getElem_mem hkp)
      have hix : ∀ w' : World, (Instr.index 52 (.agg (pC p)) (.int .i64 (k : Int))).run Tryz.prog w' = .ok (.int .u8 (p[k] : Int)) w' := fun w' => index_perm w' p k hkp HPL.out
      have hin := invTo_put HI.out HP.out hkp
      have c1 := P3.out.cell (k := p[k]) (by rw [HI.out.1]; exact hpk)
      have f1 := P3.out.frozen p[k]
      have hput := P3.out.put p[k] k
      have hf2 := P2.out.far (p' := w.heap.size + 1 + 1) (by omega) p[k] (.int .u8 (k : Int))
      have HPUT := Lib.hid hput; have HF2 := Lib.hid hf2; have HIN := Lib.hid hin; clear hput hf2 hin
      go_wp2_with fail
      go_roundw
      case rel => exact ⟨k + 1, u.set p[k] k, by omega, by go_num, HIN, HF2.out, HPUT.out, HBL.out.setCell (show w.heap.size ≤ w.heap.size + 1 + 1 by omega) _⟩
      case measure => simp [intOf]; omega
    · have hu : u = invP p := invP_is HP.out HI.out.1 fun j hj => HI.out.2 j hj (by have := HPL.out; omega)
      have hul := HI.out.1
      subst hu
      have HUL := Lib.hid hul; clear hul
      go_wp2_with (first | (refine wpList_load_row rfl 52 _ rfl (w.heap.size + 1 + 1) rfl _ _ _ _ P3.out Tryz.underlying52 rfl (permSize HUL.out) ?_) | (refine wpList_store_row rfl 52 _ _ rfl (w.heap.size + 1) (pC (invP p)) rfl rfl _ _ P2.out (permSize HUL.out) (by rw [pC_size, pC_size, HUL.out]; rfl) (pC_one _) ?_))
      have hs := setRow_heap wr (w.heap.size + 1) _ (pC (invP p)) _ _ P2.out
      refine bodyPost_ret (results_cell_row rfl _ _ (w.heap.size + 1) _ (pC (invP p)) _ _ rfl hs Tryz.underlying52 rfl (permSize HUL.out)) rfl ⟨rfl, ?_⟩
      exact below_setRow HBL.out (by omega) _
abbrev BT (w : World) (p : Nat) (q : List Nat) : Prop := w.heap[p]? = some (.cells (pC q) 51 (0, 0))
theorem BT.put {w : World} {p : Nat} {q : List Nat} (h : BT w p q) (k n : Nat) : BT (w.setCell ⟨p, k, none⟩ (.int .u8 (n : Int))) p (q.set k n) := by
  unfold BT
  rw [setCell_eq_setRow w p k _ _ _ _ h, pC_set]
  exact setRow_heap w p _ _ _ _ h
theorem BT.cell {w : World} {p : Nat} {q : List Nat} (h : BT w p q) {k : Nat} (hk : k < q.length) : w.cell? ⟨p, k, none⟩ = some (.int .u8 (q[k] : Int)) := by
  rw [cell_of_row w p k _ _ _ h]; exact pC_get hk
theorem BT.frozen {w : World} {p : Nat} {q : List Nat} (h : BT w p q) (k : Nat) : w.frozen? ⟨p, k, none⟩ = false := by
  have h2 : w.heap[p]? = some (.cells (pC q) 51 (0, 0)) := h
  simp [World.frozen?, h2]
theorem BT.conv {w : World} {p : Nat} {q : List UInt8} (h : BT w p (q.map UInt8.toNat)) (hl : q.length = 10) : (convert 22 9 (.slice (some ⟨p, 0, none⟩) 10 10)).run Tryz.prog w = .ok (.string (mk q)) w := by
  have h1 := conv_string w 22 9 5 p 0 10 q Tryz.underlying22 Tryz.underlying5 Tryz.underlying9 fun j hj => by
    rw [Nat.zero_add, h.cell (by simpa using hj)]
    simp
  rw [hl] at h1
  exact h1
def LtTo (p u : List Nat) (k : Nat) : Prop := u.length = 10 ∧ ∀ j (h : j < p.length), j < k → u[j]? = some (letter p[j]).toNat
theorem ltTo_put {p u : List Nat} {k : Nat} (h : LtTo p u k) (hp : Ten p) (hk : k < p.length) : LtTo p (u.set k (letter p[k]).toNat) (k + 1) := by
  refine ⟨by rw [List.length_set]; exact h.1, fun j hj hjk => ?_⟩
  rw [List.getElem?_set]
  by_cases e : k = j
  · subst e
    rw [if_pos rfl, if_pos (by rw [h.1, ← hp.len]; exact hk)]
  · rw [if_neg e]
    exact h.2 j hj (by omega)
theorem ltTo_end {p u : List Nat} (h : LtTo p u 10) (hp : Ten p) : u = (p.map letter).map UInt8.toNat := by
  apply List.ext_getElem?
  intro j
  by_cases hj : j < p.length
  · rw [h.2 j hj (by rw [← hp.len]; exact hj)]; simp [hj]
  · rw [List.getElem?_eq_none (by rw [h.1, ← hp.len]; omega), List.getElem?_eq_none (by simp; omega)]
set_option maxHeartbeats 4000000 in
set_option maxRecDepth 100000 in
theorem permStr_any (w : World) (p : List Nat) (hp : Ten p) :
    Calls Tryz.prog 61 #[.agg (pC p)] w fun e w' => e = .returned (.string (mk (p.map letter))) ∧ Below w.heap.size w w' := by
  have hpl := hp.len
  obtain ⟨W, hW⟩ : ∃ W, W = (w.alloc (.cells (pC p) 52)).alloc (.cells #[.int .u8 0, .int .u8 0, .int .u8 0, .int .u8 0, .int .u8 0, .int .u8 0, .int .u8 0, .int .u8 0, .int .u8 0, .int .u8 0] 51) := ⟨_, rfl⟩
  have hb : Below w.heap.size w W := by rw [hW]; exact ((Below.refl _ _).alloc (Nat.le_refl _) _).alloc (by simp) _
  have g0 : PB W w.heap.size p := by
    rw [hW]
    have h1 := heap_alloc_new w (.cells (pC p) 52)
    exact block_kept3 h1 _
  have g1 : BT W (w.heap.size + 1) (List.replicate 10 0) := by
    rw [hW]
    have h1 := heap_alloc_new (w.alloc (.cells (pC p) 52)) (.cells #[.int .u8 0, .int .u8 0, .int .u8 0, .int .u8 0, .int .u8 0, .int .u8 0, .int .u8 0, .int .u8 0, .int .u8 0, .int .u8 0] 51)
    rw [szalloc3] at h1
    exact h1
  have HPL := Lib.hid hpl; have HP := Lib.hid hp
  have HB := Lib.hid hb; have G1 := Lib.hid g1
  have g0' := g0
  rw [hW] at g0'
  have G0' := Lib.hid g0'; have HWE := Lib.hid hW
  clear hpl hp hb g0 g1 g0' hW
  go_enter Tryz.func61, Tryz.ntmps61
  go_wp2_with (refine wpList_load_row rfl 52 _ rfl w.heap.size rfl _ _ _ _ G0'.out Tryz.underlying52 rfl (permSize HPL.out) ?_)
  rw [← HWE.out]
  clear G0' HWE
  go_loopw [7] (fun i wr => ∃ (k : Nat) (u : List Nat), k ≤ 10 ∧ i = .int .i64 k ∧ Hid (LtTo p u k) ∧ BT wr (w.heap.size + 1) u ∧ Below w.heap.size w wr) (fun i _ => 10 - (intOf i).toNat)
  case atStart => exact ⟨0, List.replicate 10 0, by omega, rfl, ⟨by simp, fun j _ hj => by omega⟩, G1.out, HB.out⟩
  case round =>
    obtain ⟨k, u, hk, rfl, HI, h1, hbl⟩ := hrel
    have P1 := Lib.hid h1; have HBL := Lib.hid hbl; clear h1 hbl G1 HB
    by_cases hlt : k < 10
    · have hkp : k < p.length := by rw [HPL.out]; exact hlt
      have hpk := HP.out.lt _ (List.getElem_mem hkp)
      have hix : ∀ w' : World, (Instr.index 52 (.agg (pC p)) (.int .i64 (k : Int))).run Tryz.prog w' = .ok (.int .u8 (p[k] : Int)) w' := fun w' => index_perm w' p k hkp HPL.out
      have hin := ltTo_put HI.out HP.out hkp
      have c1 := P1.out.cell (k := k) (by rw [HI.out.1]; exact hlt)
      have f1 := P1.out.frozen k
      have hput := P1.out.put k (letter p[k]).toNat
      have HPUT := Lib.hid hput; have HIN := Lib.hid hin; clear hput hin
      go_wp2_with fail
      refine (letter_any _ _ hpk).mono ?_
      rintro _ wz ⟨rfl, rfl⟩
      go_wp2_with fail
      go_roundw
      case rel => exact ⟨k + 1, _, by omega, by go_num, HIN, HPUT.out, HBL.out.setCell (show w.heap.size ≤ w.heap.size + 1 by omega) _⟩
      case measure => simp [intOf]; omega
    · have hke : k = 10 := by omega
      subst hke
      have hu := ltTo_end HI.out HP.out
      subst hu
      have hcv := P1.out.conv (by rw [List.length_map]; exact HPL.out)
      go_wp2_with fail
      go_ret
      exact ⟨rfl, HBL.out⟩
def cntTo (p : List Nat) (k : Nat) : Nat := ((List.range k).filter fun j => p[j]? != some j).length
theorem cntTo_le (p : List Nat) (k : Nat) : cntTo p k ≤ k := by
  have := List.length_filter_le (fun j => p[j]? != some j) (List.range k)
  rwa [List.length_range] at this
theorem cntTo_same {p : List Nat} {k : Nat} (hk : k < p.length) (h : p[k] = k) : cntTo p (k + 1) = cntTo p k := by
  unfold cntTo
  rw [List.range_succ, List.filter_append, List.filter_cons_of_neg (by simp [hk, h])]
  simp
theorem cntTo_moved {p : List Nat} {k : Nat} (hk : k < p.length) (h : p[k] ≠ k) : cntTo p (k + 1) = cntTo p k + 1 := by
  unfold cntTo
  rw [List.range_succ, List.filter_append, List.filter_cons_of_pos (by simp [hk, h])]
  simp
def pairsP (p : List Nat) : Nat := cntTo p 10 / 2
set_option maxHeartbeats 4000000 in
set_option maxRecDepth 100000 in
theorem pairs_any (w : World) (p : List Nat) (hp : Ten p) :
    Calls Tryz.prog 137 #[.agg (pC p)] w fun e w' => e = .returned (.int .i64 (pairsP p)) ∧ Below w.heap.size w w' := by
  have hpl := hp.len
  obtain ⟨W, hW⟩ : ∃ W, W = w.alloc (.cells (pC p) 52) := ⟨_, rfl⟩
  have hb : Below w.heap.size w W := by rw [hW]; exact (Below.refl _ _).alloc (Nat.le_refl _) _
  have g0 : PB (w.alloc (.cells (pC p) 52)) w.heap.size p := heap_alloc_new w (.cells (pC p) 52)
  have HPL := Lib.hid hpl; have HP := Lib.hid hp
  have HB := Lib.hid hb; have G0' := Lib.hid g0; have HWE := Lib.hid hW
  clear hpl hp hb g0 hW
  go_enter Tryz.func137, Tryz.ntmps137
  go_wp2_with (refine wpList_load_row rfl 52 _ rfl w.heap.size rfl _ _ _ _ G0'.out Tryz.underlying52 rfl (permSize HPL.out) ?_)
  rw [← HWE.out]
  clear G0' HWE
  go_loopw [3, 7] (fun n i wr => ∃ k : Nat, k ≤ 10 ∧ i = .int .i64 k ∧ n = .int .i64 (cntTo p k : Nat) ∧ Below w.heap.size w wr) (fun n i _ => 10 - (intOf i).toNat)
  case atStart => exact ⟨0, by omega, rfl, rfl, HB.out⟩
  case round =>
    obtain ⟨k, hk, rfl, rfl, hbl⟩ := hrel
    have HBL := Lib.hid hbl; clear hbl HB
    have hcl := cntTo_le p k
    by_cases hlt : k < 10
    · have hkp : k < p.length := by rw [HPL.out]; exact hlt
      have hpk := HP.out.lt _ (List.getElem_mem hkp)
      have hix : ∀ w' : World, (Instr.index 52 (.agg (pC p)) (.int .i64 (k : Int))).run Tryz.prog w' = .ok (.int .u8 (p[k] : Int)) w' := fun w' => index_perm w' p k hkp HPL.out
      by_cases he : p[k] = k
      · have hn := cntTo_same hkp he
        have he' : ((p[k] : Nat) : Int) = (k : Int) := by rw [he]
        have HN := Lib.hid hn; clear hn he
        go_wp2_with fail
        go_roundw
        case rel => exact ⟨k + 1, by omega, by go_num, by rw [HN.out], HBL.out⟩
        case measure => simp [intOf]; omega
      · have hn := cntTo_moved hkp he
        have he' : ¬ ((p[k] : Nat) : Int) = (k : Int) := by omega
        have HN := Lib.hid hn; clear hn he
        go_wp2_with fail
        go_roundw
        case rel => exact ⟨k + 1, by omega, by go_num, by rw [HN.out]; go_num, HBL.out⟩
        case measure => simp [intOf]; omega
    · have hke : k = 10 := by omega
      subst hke
      have hd : ((pairsP p : Nat) : Int) = ((cntTo p 10 : Nat) : Int) / 2 := by unfold pairsP; omega
      have HD := Lib.hid hd; clear hd
      go_wp2_with fail
      go_ret
      exact ⟨by rw [HD.out]; rfl, HBL.out⟩
theorem and_all : ∀ s : Fin 1024, ∀ n : Fin 10, bits .and .i64 (((s.val / 2 ^ n.val : Nat) : Int)) 1 = if s.val.testBit n.val then 1 else 0 := by decide +kernel
theorem or_all : ∀ s : Fin 1024, ∀ n : Fin 10, bits .or .i64 (s.val : Int) ((2 ^ n.val : Nat) : Int) = ((s.val ||| 2 ^ n.val : Nat) : Int) := by decide +kernel
structure Seen (s : Nat) (l : List Nat) : Prop where
  lt : s < 1024
  bit : ∀ n, n < 10 → (s.testBit n = true ↔ n ∈ l)
theorem seen_none : Seen 0 [] := ⟨by omega, fun n _ => by simp⟩
theorem Seen.put {s : Nat} {l : List Nat} (h : Seen s l) {n : Nat} (hn : n < 10) : Seen (s ||| 2 ^ n) (l ++ [n]) := by
  refine ⟨Nat.or_lt_two_pow (n := 10) h.lt (Nat.pow_lt_pow_right (by omega) hn), fun m hm => ?_⟩
  rw [Nat.testBit_or, Bool.or_eq_true, h.bit m hm, Nat.testBit_two_pow]
  simp [eq_comm]
theorem Seen.and_in {s : Nat} {l : List Nat} (h : Seen s l) {n : Nat} (hn : n < 10) (hm : n ∈ l) : bits .and .i64 ((s : Int) / 2 ^ n) 1 = 1 := by
  have h1 := and_all ⟨s, h.lt⟩ ⟨n, hn⟩
  rw [if_pos ((h.bit n hn).2 hm)] at h1
  rw [← h1]; congr 1
theorem Seen.and_out {s : Nat} {l : List Nat} (h : Seen s l) {n : Nat} (hn : n < 10) (hm : n ∉ l) : bits .and .i64 ((s : Int) / 2 ^ n) 1 = 0 := by
  have h1 := and_all ⟨s, h.lt⟩ ⟨n, hn⟩
  rw [if_neg (fun e => hm ((h.bit n hn).1 e))] at h1
  rw [← h1]; congr 1
theorem Seen.or_ {s : Nat} {l : List Nat} (h : Seen s l) {n : Nat} (hn : n < 10) : bits .or .i64 (s : Int) (2 ^ n) = ((s ||| 2 ^ n : Nat) : Int) := by
  have h1 := or_all ⟨s, h.lt⟩ ⟨n, hn⟩
  rw [← h1]; congr 1
theorem results_row_tmp {fn : Func} {p u : Tmp} {ty : TypeId} (h : fn.results = #[.cell p ty, .tmp u]) (tmps : Array Value) (w : World) (g : Nat) (t : TypeId) (cs : Array Value) (fr : Nat × Nat) (n : Nat) (e : TypeId)
    (hp : tmps.getD p undef = .pointer (some ⟨g, 0, none⟩)) (hg : w.heap[g]? = some (.cells cs t fr))
    (hu : Tryz.prog.underlying ty = some (.array n e)) (hi : (Tryz.prog.info? ty).map (·.size) = some cs.size) :
    (results fn tmps).run Tryz.prog w = .ok (.tuple #[.agg cs, tmps.getD u undef]) w := by
  have hp' : tmps[p]?.getD undef = .pointer (some ⟨g, 0, none⟩) := by simpa using hp
  simp [results, h, hp', asAddr, run_loadVar_row w g t ty cs fr _ hg hu rfl hi]
set_option maxHeartbeats 4000000 in
set_option maxRecDepth 100000 in
theorem permOf_ok (w : World) (a : ByteArray) (p : List Nat) (hal : a.size = 10) (hL : ∀ k (h : k < a.size), isL a[k] = true) (hv : ∀ k (h : k < a.size) (h2 : k < p.length), p[k] = dg a[k]) (hp : Prm p) :
    Calls Tryz.prog 62 #[.string a] w fun e w' => e = .returned (.tuple #[.agg (pC p), .bool true]) ∧ Below w.heap.size w w' := by
  have hpl := hp.len
  have hb : Below w.heap.size w ((w.alloc (.cells #[.int .u8 0, .int .u8 0, .int .u8 0, .int .u8 0, .int .u8 0, .int .u8 0, .int .u8 0, .int .u8 0, .int .u8 0, .int .u8 0] 52)).alloc (.cells #[.int .u8 0, .int .u8 0, .int .u8 0, .int .u8 0, .int .u8 0, .int .u8 0, .int .u8 0, .int .u8 0, .int .u8 0, .int .u8 0] 52)) := ((Below.refl _ _).alloc (Nat.le_refl _) _).alloc (by simp) _
  have g0 : PB ((w.alloc (.cells #[.int .u8 0, .int .u8 0, .int .u8 0, .int .u8 0, .int .u8 0, .int .u8 0, .int .u8 0, .int .u8 0, .int .u8 0, .int .u8 0] 52)).alloc (.cells #[.int .u8 0, .int .u8 0, .int .u8 0, .int .u8 0, .int .u8 0, .int .u8 0, .int .u8 0, .int .u8 0, .int .u8 0, .int .u8 0] 52)) w.heap.size (List.replicate 10 0) :=
    block_kept3 (heap_alloc_new w _) _
  have g1 : PB ((w.alloc (.cells #[.int .u8 0, .int .u8 0, .int .u8 0, .int .u8 0, .int .u8 0, .int .u8 0, .int .u8 0, .int .u8 0, .int .u8 0, .int .u8 0] 52)).alloc (.cells #[.int .u8 0, .int .u8 0, .int .u8 0, .int .u8 0, .int .u8 0, .int .u8 0, .int .u8 0, .int .u8 0, .int .u8 0, .int .u8 0] 52)) (w.heap.size + 1) (p.take 0 ++ List.replicate (10 - 0) 0) := by
    have h1 := heap_alloc_new (w.alloc (.cells #[.int .u8 0, .int .u8 0, .int .u8 0, .int .u8 0, .int .u8 0, .int .u8 0, .int .u8 0, .int .u8 0, .int .u8 0, .int .u8 0] 52)) (.cells #[.int .u8 0, .int .u8 0, .int .u8 0, .int .u8 0, .int .u8 0, .int .u8 0, .int .u8 0, .int .u8 0, .int .u8 0, .int .u8 0] 52)
    rw [szalloc3] at h1
    exact h1
  have HPL := Lib.hid hpl; have HP := Lib.hid hp; have HLL := Lib.hid hL; have HV := Lib.hid hv; have HAL := Lib.hid hal
  have HB := Lib.hid hb; have G0 := Lib.hid g0; have G1 := Lib.hid g1
  have hai : ((a.size : Nat) : Int) = 10 := by omega
  clear hpl hp hL hv hb g0 g1 hal
  go_enter Tryz.func62, Tryz.ntmps62
  go_wp2_with fail
  go_loopw [5, 11] (fun s i wr => ∃ k sn : Nat, k ≤ 10 ∧ i = .int .i64 k ∧ s = .int .i64 sn ∧ Hid (Seen sn (p.take k)) ∧ PB wr w.heap.size (List.replicate 10 0) ∧ PB wr (w.heap.size + 1) (p.take k ++ List.replicate (10 - k) 0) ∧ Below w.heap.size w wr) (fun s i _ => 10 - (intOf i).toNat)
  case atStart => exact ⟨0, 0, by omega, rfl, rfl, Lib.hid seen_none, G0.out, G1.out, HB.out⟩
  case round =>
    obtain ⟨k, sn, hk, rfl, rfl, HS, h0, h1, hbl⟩ := hrel
    have P0 := Lib.hid h0; have P1 := Lib.hid h1; have HBL := Lib.hid hbl; clear h0 h1 hbl G0 G1 HB
    by_cases hlt : k < 10
    · have hka : k < a.size := by rw [HAL.out]; exact hlt
      have hkp : k < p.length := by rw [HPL.out]; exact hlt
      have HC := Lib.hid (HLL.out k hka)
      have hpk := HP.out.lt _ (List.getElem_mem hkp)
      have hvk := HV.out k hka hkp
      have hnot : p[k] ∉ p.take k := by
        intro hm
        obtain ⟨j, hj, e⟩ := List.mem_iff_getElem.1 hm
        rw [List.length_take] at hj
        rw [List.getElem_take] at e
        exact List.pairwise_iff_getElem.1 HP.out.nodup j k (by omega) hkp (by omega) e
      have hand := HS.out.and_out hpk hnot
      have hor := HS.out.or_ hpk
      have hput := HS.out.put hpk
      rw [← List.take_succ_eq_append_getElem hkp] at hput
      have hl : (p.take k ++ List.replicate (10 - k) 0).length = 10 := by have := HPL.out; simp; omega
      have c1 := P1.out.cell (k := k) (by rw [hl]; exact hlt)
      have f1 := P1.out.frozen k
      have hnx : (p.take k ++ List.replicate (10 - k) 0).set k p[k] = p.take (k + 1) ++ List.replicate (10 - (k + 1)) 0 := by
        have e1 : 10 - k = (10 - (k + 1)) + 1 := by omega
        rw [List.set_append_right _ _ (by rw [List.length_take]; omega), List.length_take, Nat.min_eq_left (by omega), Nat.sub_self, e1, List.replicate_succ, List.set_cons_zero, List.take_succ_eq_append_getElem hkp, List.append_assoc]
        rfl
      have hpp := P1.out.put k p[k]
      rw [hnx] at hpp
      have hf0 := P0.out.far (p' := w.heap.size + 1) (by omega) k (.int .u8 (p[k] : Int))
      rw [hvk] at hand hor hput hpp hf0 hpk
      have hw : IntKind.i64.wrap (2 ^ dg a[k]) = 2 ^ dg a[k] := by
        have : ∀ n : Fin 10, IntKind.i64.wrap ((2 : Int) ^ n.val) = 2 ^ n.val := by decide
        exact this ⟨dg a[k], hpk⟩
      have HPUT := Lib.hid hput; have HPP := Lib.hid hpp; have HF0 := Lib.hid hf0; clear hput hpp hf0 hnx hnot hvk
      go_wp2_with (first
        | (go_at_call 81; refine (isLetter_is _ true _ HC.out).mono ?_; rintro e w' ⟨rfl, rfl⟩)
        | (go_at_call 21; refine (number_any _ _ HC.out).mono ?_; rintro e w' ⟨rfl, rfl⟩))
      go_roundw
      case rel => exact ⟨k + 1, _, by omega, by go_num, rfl, HPUT, HF0.out, HPP.out, HBL.out.setCell (Nat.le_succ _) _⟩
      case measure => simp [intOf]; omega
    · have hke : k = 10 := by omega
      subst hke
      have hp1 := P1.out
      rw [show p.take 10 ++ List.replicate (10 - 10) 0 = p by rw [List.take_of_length_le (by rw [HPL.out]; exact Nat.le_refl _)]; simp] at hp1
      have HPP := Lib.hid hp1; clear hp1
      go_wp2_with (first | (refine wpList_load_row rfl 52 _ rfl (w.heap.size + 1) rfl _ _ _ _ HPP.out Tryz.underlying52 rfl (permSize HPL.out) ?_) | (refine wpList_store_row rfl 52 _ _ rfl w.heap.size (pC p) rfl rfl _ _ P0.out (permSize HPL.out) (by rw [pC_size, pC_size, HPL.out]; rfl) (pC_one p) ?_))
      have hs := setRow_heap wr w.heap.size _ (pC p) _ _ P0.out
      refine bodyPost_ret (results_row_tmp rfl _ _ w.heap.size _ (pC p) _ _ _ rfl hs Tryz.underlying52 (permSize HPL.out)) rfl ⟨rfl, ?_⟩
      exact below_setRow HBL.out (Nat.le_refl _) _
def withP (p : List Nat) (a b : Nat) : List Nat := (p.set a b).set b a
theorem withP_len (p : List Nat) (a b : Nat) : (withP p a b).length = p.length := by simp [withP]
set_option maxHeartbeats 4000000 in
set_option maxRecDepth 100000 in
theorem withPair_any (w : World) (p : List Nat) (hp : Ten p) (a b : Nat) (ha : a < 10) (hb : b < 10) :
    Calls Tryz.prog 225 #[.agg (pC p), .int .i64 a, .int .i64 b] w fun e w' => e = .returned (.agg (pC (withP p a b))) ∧ Below w.heap.size w w' := by
  have hpl := hp.len
  obtain ⟨W, hW⟩ : ∃ W, W = (w.alloc (.cells (pC p) 52)).alloc (.cells #[.int .u8 0, .int .u8 0, .int .u8 0, .int .u8 0, .int .u8 0, .int .u8 0, .int .u8 0, .int .u8 0, .int .u8 0, .int .u8 0] 52) := ⟨_, rfl⟩
  have hbl : Below w.heap.size w W := by rw [hW]; exact ((Below.refl _ _).alloc (Nat.le_refl _) _).alloc (by simp) _
  have g0 : PB W w.heap.size p := by rw [hW]; exact block_kept3 (heap_alloc_new w _) _
  have g1 : PB W (w.heap.size + 1) (List.replicate 10 0) := by
    rw [hW]
    have h1 := heap_alloc_new (w.alloc (.cells (pC p) 52)) (.cells #[.int .u8 0, .int .u8 0, .int .u8 0, .int .u8 0, .int .u8 0, .int .u8 0, .int .u8 0, .int .u8 0, .int .u8 0, .int .u8 0] 52)
    rw [szalloc3] at h1
    exact h1
  have c0 := g0.cell (k := a) (by omega)
  have f0 := g0.frozen a
  have p0 := g0.put a b
  have q0 := g1.far (p' := w.heap.size) (by omega) a (.int .u8 (b : Int))
  have b0 : Below w.heap.size w (W.setCell ⟨w.heap.size, a, none⟩ (.int .u8 (b : Int))) := hbl.setCell (Nat.le_refl _) _
  have c1 := p0.cell (k := b) (by rw [List.length_set]; omega)
  have f1 := p0.frozen b
  have p1 := p0.put b a
  have q1 := q0.far (p' := w.heap.size) (by omega) b (.int .u8 (a : Int))
  have b1 : Below w.heap.size w ((W.setCell ⟨w.heap.size, a, none⟩ (.int .u8 (b : Int))).setCell ⟨w.heap.size, b, none⟩ (.int .u8 (a : Int))) := b0.setCell (Nat.le_refl _) _
  have e1 : IntKind.u8.wrap (b : Int) = (b : Int) := by
    have : ∀ n : Fin 10, IntKind.u8.wrap ((n.val : Nat) : Int) = n.val := by decide
    exact this ⟨b, hb⟩
  have e2 : IntKind.u8.wrap (a : Int) = (a : Int) := by
    have : ∀ n : Fin 10, IntKind.u8.wrap ((n.val : Nat) : Int) = n.val := by decide
    exact this ⟨a, ha⟩
  have hwl : (withP p a b).length = 10 := by rw [withP_len]; exact hpl
  change PB _ w.heap.size (withP p a b) at p1
  rw [hW] at c0 f0 p0 q0 b0 c1 f1 p1 q1 b1
  obtain ⟨X, hX⟩ : ∃ X, X = (w.alloc (.cells (pC (withP p a b)) 52)).alloc (.cells #[.int .u8 0, .int .u8 0, .int .u8 0, .int .u8 0, .int .u8 0, .int .u8 0, .int .u8 0, .int .u8 0, .int .u8 0, .int .u8 0] 52) := ⟨_, rfl⟩
  have bx : Below w.heap.size w X := by rw [hX]; exact ((Below.refl _ _).alloc (Nat.le_refl _) _).alloc (by simp) _
  have x0 : PB X w.heap.size (withP p a b) := by rw [hX]; exact block_kept3 (heap_alloc_new w _) _
  have x1 : PB X (w.heap.size + 1) (List.replicate 10 0) := by
    rw [hX]
    have h1 := heap_alloc_new (w.alloc (.cells (pC (withP p a b)) 52)) (.cells #[.int .u8 0, .int .u8 0, .int .u8 0, .int .u8 0, .int .u8 0, .int .u8 0, .int .u8 0, .int .u8 0, .int .u8 0, .int .u8 0] 52)
    rw [szalloc3] at h1
    exact h1
  have HX := Lib.hid hX; have X0 := Lib.hid x0; have X1 := Lib.hid x1; have BX := Lib.hid bx; clear bx x0 x1 hX
  have hwd : (p.set a b).set b a = withP p a b := rfl
  have hwd2 : (p.set b a).set a b = withP p a b := by
    by_cases e : a = b
    · subst e; rfl
    · exact List.set_comm _ _ (Ne.symm e)
  have HWD := Lib.hid hwd; have HWD2 := Lib.hid hwd2; clear hwd hwd2
  have ia : a < (pC p).size := by rw [pC_size]; omega
  have ib : b < (pC p).size := by rw [pC_size]; omega
  have HWL := Lib.hid hwl; have P1 := Lib.hid p1; have Q1 := Lib.hid q1; have B1 := Lib.hid b1
  clear hbl g0 g1 p0 q0 b0 p1 q1 b1 hwl hW
  go_enter Tryz.func225, Tryz.ntmps225
  go_wp2_with (first | (rw [pC_set, pC_set, HWD.out, ← HX.out]; refine wpList_load_row rfl 52 _ rfl w.heap.size rfl _ _ _ _ X0.out Tryz.underlying52 rfl (permSize HWL.out) ?_) | (rw [pC_set, pC_set, HWD2.out, ← HX.out]; refine wpList_load_row rfl 52 _ rfl w.heap.size rfl _ _ _ _ X0.out Tryz.underlying52 rfl (permSize HWL.out) ?_) | (refine wpList_store_row rfl 52 _ _ rfl (w.heap.size + 1) (pC (withP p a b)) rfl rfl _ _ X1.out (permSize HWL.out) (by rw [pC_size, pC_size, HWL.out]; rfl) (pC_one _) ?_))
  have hs := setRow_heap X (w.heap.size + 1) _ (pC (withP p a b)) _ _ X1.out
  refine bodyPost_ret (results_cell_row rfl _ _ (w.heap.size + 1) _ (pC (withP p a b)) _ _ rfl hs Tryz.underlying52 rfl (permSize HWL.out)) rfl ⟨rfl, ?_⟩
  exact below_setRow BX.out (by omega) _
theorem ten10 : (List.replicate 10 0).length = 10 := rfl
set_option maxHeartbeats 4000000 in
set_option maxRecDepth 100000 in
theorem permOf_no (w : World) (a : ByteArray) (p : List Nat) (hal : a.size = 10) (hpl : p.length = 10) (hv : ∀ k (h : k < a.size) (h2 : k < p.length), p[k] = dg a[k]) (hbad : ¬ ((∀ k (h : k < a.size), isL a[k] = true) ∧ p.Nodup)) :
    Calls Tryz.prog 62 #[.string a] w fun e w' => e = .returned (.tuple #[.agg (pC (List.replicate 10 0)), .bool false]) ∧ Below w.heap.size w w' := by
  have hb : Below w.heap.size w ((w.alloc (.cells #[.int .u8 0, .int .u8 0, .int .u8 0, .int .u8 0, .int .u8 0, .int .u8 0, .int .u8 0, .int .u8 0, .int .u8 0, .int .u8 0] 52)).alloc (.cells #[.int .u8 0, .int .u8 0, .int .u8 0, .int .u8 0, .int .u8 0, .int .u8 0, .int .u8 0, .int .u8 0, .int .u8 0, .int .u8 0] 52)) := ((Below.refl _ _).alloc (Nat.le_refl _) _).alloc (by simp) _
  have g0 : PB ((w.alloc (.cells #[.int .u8 0, .int .u8 0, .int .u8 0, .int .u8 0, .int .u8 0, .int .u8 0, .int .u8 0, .int .u8 0, .int .u8 0, .int .u8 0] 52)).alloc (.cells #[.int .u8 0, .int .u8 0, .int .u8 0, .int .u8 0, .int .u8 0, .int .u8 0, .int .u8 0, .int .u8 0, .int .u8 0, .int .u8 0] 52)) w.heap.size (List.replicate 10 0) :=
    block_kept3 (heap_alloc_new w _) _
  have g1 : PB ((w.alloc (.cells #[.int .u8 0, .int .u8 0, .int .u8 0, .int .u8 0, .int .u8 0, .int .u8 0, .int .u8 0, .int .u8 0, .int .u8 0, .int .u8 0] 52)).alloc (.cells #[.int .u8 0, .int .u8 0, .int .u8 0, .int .u8 0, .int .u8 0, .int .u8 0, .int .u8 0, .int .u8 0, .int .u8 0, .int .u8 0] 52)) (w.heap.size + 1) (List.replicate 10 0) := by
    have h1 := heap_alloc_new (w.alloc (.cells #[.int .u8 0, .int .u8 0, .int .u8 0, .int .u8 0, .int .u8 0, .int .u8 0, .int .u8 0, .int .u8 0, .int .u8 0, .int .u8 0] 52)) (.cells #[.int .u8 0, .int .u8 0, .int .u8 0, .int .u8 0, .int .u8 0, .int .u8 0, .int .u8 0, .int .u8 0, .int .u8 0, .int .u8 0] 52)
    rw [szalloc3] at h1
    exact h1
  have HPL := Lib.hid hpl; have HV := Lib.hid hv; have HAL := Lib.hid hal; have HBAD := Lib.hid hbad
  have HB := Lib.hid hb; have G0 := Lib.hid g0; have G1 := Lib.hid g1
  have hai : ((a.size : Nat) : Int) = 10 := by omega
  clear hpl hv hb g0 g1 hal hbad
  go_enter Tryz.func62, Tryz.ntmps62
  go_wp2_with fail
  go_loopw [5, 11] (fun s i wr => ∃ (k sn : Nat) (u : List Nat), k ≤ 10 ∧ i = .int .i64 k ∧ s = .int .i64 sn ∧ Hid (Seen sn (p.take k) ∧ (p.take k).Nodup ∧ (∀ j (h : j < a.size), j < k → isL a[j] = true) ∧ u.length = 10) ∧ PB wr w.heap.size (List.replicate 10 0) ∧ PB wr (w.heap.size + 1) u ∧ Below w.heap.size w wr) (fun s i _ => 10 - (intOf i).toNat)
  case atStart => exact ⟨0, 0, List.replicate 10 0, by omega, rfl, rfl, Lib.hid ⟨seen_none, by simp, fun j _ h => by omega, rfl⟩, G0.out, G1.out, HB.out⟩
  case round =>
    obtain ⟨k, sn, u, hk, rfl, rfl, HS, h0, h1, hbl⟩ := hrel
    have P0 := Lib.hid h0; have P1 := Lib.hid h1; have HBL := Lib.hid hbl; clear h0 h1 hbl G0 G1 HB
    by_cases hlt : k < 10
    · have hka : k < a.size := by rw [HAL.out]; exact hlt
      have hkp : k < p.length := by rw [HPL.out]; exact hlt
      by_cases hc : isL a[k] = true
      · have HC := Lib.hid hc; clear hc
        have hvk := HV.out k hka hkp
        have hpk : p[k] < 10 := by rw [hvk]; exact dg_lt HC.out
        by_cases hm : p[k] ∈ p.take k
        · have hand := HS.out.1.and_in hpk hm
          rw [hvk] at hand hpk
          clear hvk hm
          go_wp2_with (first
            | (go_at_call 81; refine (isLetter_is _ true _ HC.out).mono ?_; rintro e w' ⟨rfl, rfl⟩)
            | (go_at_call 21; refine (number_any _ _ HC.out).mono ?_; rintro e w' ⟨rfl, rfl⟩)
            | (refine wpList_store_row rfl 52 _ _ rfl w.heap.size (pC (List.replicate 10 0)) rfl rfl _ _ P0.out (permSize ten10) (by rfl) (pC_one _) ?_))
          have hs := setRow_heap _ w.heap.size _ (pC (List.replicate 10 0)) _ _ P0.out
          refine bodyPost_ret (results_row_tmp rfl _ _ w.heap.size _ (pC (List.replicate 10 0)) _ _ _ rfl hs Tryz.underlying52 (permSize ten10)) rfl ⟨rfl, ?_⟩
          exact below_setRow HBL.out (Nat.le_refl _) _
        · have hand := HS.out.1.and_out hpk hm
          have hor := HS.out.1.or_ hpk
          have hput := HS.out.1.put hpk
          rw [← List.take_succ_eq_append_getElem hkp] at hput
          have hnd : (p.take (k + 1)).Nodup := by
            rw [List.take_succ_eq_append_getElem hkp]
            refine List.nodup_append.2 ⟨HS.out.2.1, by simp, fun x hx y hy e => ?_⟩
            rw [List.mem_singleton] at hy
            subst hy; subst e; exact hm hx
          have hlL : ∀ j (h : j < a.size), j < k + 1 → isL a[j] = true := fun j h hj => by
            rcases Nat.lt_or_ge j k with h2 | h2
            · exact HS.out.2.2.1 j h h2
            · have e : j = k := by omega
              subst e; exact HC.out
          have hul := HS.out.2.2.2
          have c1 := P1.out.cell (k := k) (by rw [hul]; exact hlt)
          have f1 := P1.out.frozen k
          have hpp := P1.out.put k p[k]
          have hf0 := P0.out.far (p' := w.heap.size + 1) (by omega) k (.int .u8 (p[k] : Int))
          rw [hvk] at hand hor hput hpp hf0 hpk
          have hw : IntKind.i64.wrap (2 ^ dg a[k]) = 2 ^ dg a[k] := by
            have : ∀ n : Fin 10, IntKind.i64.wrap ((2 : Int) ^ n.val) = 2 ^ n.val := by decide
            exact this ⟨dg a[k], hpk⟩
          have hH : Seen (sn ||| 2 ^ dg a[k]) (p.take (k + 1)) ∧ (p.take (k + 1)).Nodup ∧ (∀ j (h : j < a.size), j < k + 1 → isL a[j] = true) ∧ (u.set k (dg a[k])).length = 10 := ⟨hput, hnd, hlL, by rw [List.length_set]; exact hul⟩
          have HH := Lib.hid hH; have HPP := Lib.hid hpp; have HF0 := Lib.hid hf0; clear hput hpp hf0 hm hvk hnd hlL hH
          go_wp2_with (first
            | (go_at_call 81; refine (isLetter_is _ true _ HC.out).mono ?_; rintro e w' ⟨rfl, rfl⟩)
            | (go_at_call 21; refine (number_any _ _ HC.out).mono ?_; rintro e w' ⟨rfl, rfl⟩))
          go_roundw
          case rel => exact ⟨k + 1, _, _, by omega, by go_num, rfl, HH, HF0.out, HPP.out, HBL.out.setCell (Nat.le_succ _) _⟩
          case measure => simp [intOf]; omega
      · have HC := Lib.hid (show isL a[k] = false by simpa using hc); clear hc
        go_wp2_with (first
          | (go_at_call 81; refine (isLetter_is _ false _ HC.out).mono ?_; rintro e w' ⟨rfl, rfl⟩)
          | (refine wpList_store_row rfl 52 _ _ rfl w.heap.size (pC (List.replicate 10 0)) rfl rfl _ _ P0.out (permSize ten10) (by rfl) (pC_one _) ?_))
        have hs := setRow_heap _ w.heap.size _ (pC (List.replicate 10 0)) _ _ P0.out
        refine bodyPost_ret (results_row_tmp rfl _ _ w.heap.size _ (pC (List.replicate 10 0)) _ _ _ rfl hs Tryz.underlying52 (permSize ten10)) rfl ⟨rfl, ?_⟩
        exact below_setRow HBL.out (Nat.le_refl _) _
    · have hke : k = 10 := by omega
      subst hke
      have h2 := HS.out.2.1
      rw [List.take_of_length_le (by rw [HPL.out]; exact Nat.le_refl _)] at h2
      exact absurd ⟨fun k h => HS.out.2.2.1 k h (by rw [← HAL.out]; exact h), h2⟩ HBAD.out
set_option maxHeartbeats 4000000 in
set_option maxRecDepth 100000 in
theorem permOf_size (w : World) (a : ByteArray) (hal : a.size ≠ 10) :
    Calls Tryz.prog 62 #[.string a] w fun e w' => e = .returned (.tuple #[.agg (pC (List.replicate 10 0)), .bool false]) ∧ Below w.heap.size w w' := by
  have hb : Below w.heap.size w ((w.alloc (.cells #[.int .u8 0, .int .u8 0, .int .u8 0, .int .u8 0, .int .u8 0, .int .u8 0, .int .u8 0, .int .u8 0, .int .u8 0, .int .u8 0] 52)).alloc (.cells #[.int .u8 0, .int .u8 0, .int .u8 0, .int .u8 0, .int .u8 0, .int .u8 0, .int .u8 0, .int .u8 0, .int .u8 0, .int .u8 0] 52)) := ((Below.refl _ _).alloc (Nat.le_refl _) _).alloc (by simp) _
  have g0 : PB ((w.alloc (.cells #[.int .u8 0, .int .u8 0, .int .u8 0, .int .u8 0, .int .u8 0, .int .u8 0, .int .u8 0, .int .u8 0, .int .u8 0, .int .u8 0] 52)).alloc (.cells #[.int .u8 0, .int .u8 0, .int .u8 0, .int .u8 0, .int .u8 0, .int .u8 0, .int .u8 0, .int .u8 0, .int .u8 0, .int .u8 0] 52)) w.heap.size (List.replicate 10 0) :=
    block_kept3 (heap_alloc_new w _) _
  have g1 : PB ((w.alloc (.cells #[.int .u8 0, .int .u8 0, .int .u8 0, .int .u8 0, .int .u8 0, .int .u8 0, .int .u8 0, .int .u8 0, .int .u8 0, .int .u8 0] 52)).alloc (.cells #[.int .u8 0, .int .u8 0, .int .u8 0, .int .u8 0, .int .u8 0, .int .u8 0, .int .u8 0, .int .u8 0, .int .u8 0, .int .u8 0] 52)) (w.heap.size + 1) (List.replicate 10 0) := by
    have h1 := heap_alloc_new (w.alloc (.cells #[.int .u8 0, .int .u8 0, .int .u8 0, .int .u8 0, .int .u8 0, .int .u8 0, .int .u8 0, .int .u8 0, .int .u8 0, .int .u8 0] 52)) (.cells #[.int .u8 0, .int .u8 0, .int .u8 0, .int .u8 0, .int .u8 0, .int .u8 0, .int .u8 0, .int .u8 0, .int .u8 0, .int .u8 0] 52)
    rw [szalloc3] at h1
    exact h1
  have HB := Lib.hid hb; have G0 := Lib.hid g0; have G1 := Lib.hid g1
  have hai : ¬ ((a.size : Nat) : Int) = 10 := by omega
  clear hb g0 g1 hal
  go_enter Tryz.func62, Tryz.ntmps62
  go_wp2_with (first
    | (refine wpList_load_row rfl 52 _ rfl (w.heap.size + 1) rfl _ _ _ _ G1.out Tryz.underlying52 rfl (permSize ten10) ?_)
    | (refine wpList_store_row rfl 52 _ _ rfl w.heap.size (pC (List.replicate 10 0)) rfl rfl _ _ G0.out (permSize ten10) (by rfl) (pC_one _) ?_))
  have hs := setRow_heap _ w.heap.size _ (pC (List.replicate 10 0)) _ _ G0.out
  refine bodyPost_ret (results_row_tmp rfl _ _ w.heap.size _ (pC (List.replicate 10 0)) _ _ _ rfl hs Tryz.underlying52 (permSize ten10)) rfl ⟨rfl, ?_⟩
  exact below_setRow HB.out (Nat.le_refl _) _
end Go.Proofs.YtnbdimbhklbadaaGreatDoor
