/-
  Contracts of permutations as arrays: inverse, String. Conditions: what each theorem names.
-/
import Derived.Test.YtlbngohbbcdfkaaGreatDoorPerm
namespace Go.Proofs.YtlbngohbbcdfkaaGreatDoor
open Go.RowKit Pl
set_option linter.unusedVariables false

theorem nodup_le : ∀ {l m : List Nat}, l.Nodup → (∀ n ∈ l, n ∈ m) → l.length ≤ m.length
  | [], m, _, _ => Nat.zero_le _
  | a :: r, m, h, hs => by
    have hc := List.nodup_cons.1 h
    have ham := hs a (by simp)
    have h1 := nodup_le (m := m.erase a) hc.2 fun n hn => (List.mem_erase_of_ne (by intro e; subst e; exact hc.1 hn)).2 (hs n (by simp [hn]))
    rw [List.length_erase_of_mem ham] at h1
    have : 0 < m.length := List.length_pos_of_mem ham
    rw [List.length_cons]; omega
/-- ten numbers, each once -/
structure Prm (q : List Nat) : Prop extends Ten q where
  nodup : q.Nodup
theorem Prm.perm {q : List Nat} (h : Prm q) : q.Perm (List.range 10) := by
  have hsub : ∀ n ∈ q, n ∈ List.range 10 := fun n hn => List.mem_range.2 (h.lt n hn)
  have key : ∀ n, n < 10 → n ∈ q := by
    intro n hn
    apply Classical.byContradiction
    intro hnot
    have h1 : (n :: q).Nodup := List.nodup_cons.2 ⟨hnot, h.nodup⟩
    have h2 : ∀ m ∈ n :: q, m ∈ List.range 10 := fun m hm => by
      rcases List.mem_cons.1 hm with rfl | hm
      · exact List.mem_range.2 hn
      · exact hsub m hm
    have h3 := nodup_le h1 h2
    rw [List.length_cons, h.len, List.length_range] at h3
    omega
  exact (List.perm_ext_iff_of_nodup h.nodup List.nodup_range).2 fun n => ⟨hsub n, fun hn => key n (List.mem_range.1 hn)⟩
theorem Prm.mem {q : List Nat} (h : Prm q) {n : Nat} (hn : n < 10) : n ∈ q := (h.perm.mem_iff).2 (List.mem_range.2 hn)
def invP (p : List Nat) : List Nat := (List.range 10).map fun t => p.idxOf t
theorem invP_is {p u : List Nat} (hp : Prm p) (hl : u.length = 10) (h : ∀ j (hj : j < p.length), u[p[j]]? = some j) : u = invP p := by
  apply List.ext_getElem?
  intro t
  by_cases ht : t < 10
  · have hm := hp.mem ht
    have hi : p.idxOf t < p.length := List.idxOf_lt_length_of_mem hm
    have h1 := h (p.idxOf t) hi
    rw [List.getElem_idxOf hi] at h1
    rw [h1]
    simp [invP, ht]
  · rw [List.getElem?_eq_none (by omega), List.getElem?_eq_none (by simp [invP]; omega)]

/-- what of a permutation has been turned round -/
def InvTo (p u : List Nat) (k : Nat) : Prop := u.length = 10 ∧ ∀ j (h : j < p.length), j < k → u[p[j]]? = some j
theorem invTo_put {p u : List Nat} {k : Nat} (h : InvTo p u k) (hp : Prm p) (hk : k < p.length) : InvTo p (u.set p[k] k) (k + 1) := by
  refine ⟨by rw [List.length_set]; exact h.1, fun j hj hjk => ?_⟩
  rw [List.getElem?_set]
  by_cases e : p[k] = p[j]
  · have hkj : k = j := by
      have h1 := List.pairwise_iff_getElem.1 hp.nodup
      rcases Nat.lt_trichotomy k j with hlt | heq | hgt
      · exact absurd e (h1 k j hk hj hlt)
      · exact heq
      · exact absurd e.symm (h1 j k hj hk hgt)
    subst hkj
    have := hp.lt _ (List.getElem_mem hk)
    rw [if_pos rfl, if_pos (by rw [h.1]; exact this)]
  · rw [if_neg e]
    exact h.2 j hj (by rcases Nat.lt_or_ge j k with h2 | h2; exact h2; exact absurd (by congr 1; omega : p[k] = p[j]) e)

set_option maxHeartbeats 4000000 in
set_option maxRecDepth 100000 in
theorem inverse_any (w : World) (p : List Nat) (hp : Prm p) :
    Calls Tryz.prog 271 #[.agg (pC p)] w fun e w' => e = .returned (.agg (pC (invP p))) ∧ Below w.heap.size w w' := by
  have hpl := hp.len
  obtain ⟨W, hW⟩ : ∃ W, W = ((w.alloc (.cells (pC p) 96)).alloc (.cells #[.int .u8 0, .int .u8 0, .int .u8 0, .int .u8 0, .int .u8 0, .int .u8 0, .int .u8 0, .int .u8 0, .int .u8 0, .int .u8 0] 96)).alloc (.cells #[.int .u8 0, .int .u8 0, .int .u8 0, .int .u8 0, .int .u8 0, .int .u8 0, .int .u8 0, .int .u8 0, .int .u8 0, .int .u8 0] 96) := ⟨_, rfl⟩
  have hb : Below w.heap.size w W := by rw [hW]; exact (((Below.refl _ _).alloc (Nat.le_refl _) _).alloc (by simp) _).alloc (by simp; omega) _
  have g0 : PB W w.heap.size p := by
    rw [hW]
    have h1 := heap_alloc_new w (.cells (pC p) 96)
    exact block_kept3 (block_kept3 h1 _) _
  have g2 : PB W (w.heap.size + 1) (List.replicate 10 0) := by
    rw [hW]
    have h1 := heap_alloc_new (w.alloc (.cells (pC p) 96)) (.cells #[.int .u8 0, .int .u8 0, .int .u8 0, .int .u8 0, .int .u8 0, .int .u8 0, .int .u8 0, .int .u8 0, .int .u8 0, .int .u8 0] 96)
    rw [szalloc3] at h1
    exact block_kept3 h1 _
  have g3 : PB W (w.heap.size + 1 + 1) (List.replicate 10 0) := by
    rw [hW]
    have h1 := heap_alloc_new ((w.alloc (.cells (pC p) 96)).alloc (.cells #[.int .u8 0, .int .u8 0, .int .u8 0, .int .u8 0, .int .u8 0, .int .u8 0, .int .u8 0, .int .u8 0, .int .u8 0, .int .u8 0] 96)) (.cells #[.int .u8 0, .int .u8 0, .int .u8 0, .int .u8 0, .int .u8 0, .int .u8 0, .int .u8 0, .int .u8 0, .int .u8 0, .int .u8 0] 96)
    rw [szalloc3, szalloc3] at h1
    exact h1
  have HPL := Lib.hid hpl; have HP := Lib.hid hp
  have HB := Lib.hid hb; have G2 := Lib.hid g2; have G3 := Lib.hid g3
  have g0' := g0
  rw [hW] at g0'
  have G0' := Lib.hid g0'; have HWE := Lib.hid hW
  clear hpl hp hb g0 g2 g3 g0' hW
  go_enter Tryz.func271, Tryz.ntmps271
  go_wp2_with (refine wpList_load_row rfl 96 _ rfl w.heap.size rfl _ _ _ _ G0'.out Tryz.underlying96 rfl (permSize HPL.out) ?_)
  rw [← HWE.out]
  clear G0' HWE
  go_loopw [7] (fun i wr => ∃ (k : Nat) (u : List Nat), k ≤ 10 ∧ i = .int .i64 k ∧ Hid (InvTo p u k) ∧ PB wr (w.heap.size + 1) (List.replicate 10 0) ∧ PB wr (w.heap.size + 1 + 1) u ∧ Below w.heap.size w wr) (fun i _ => 10 - (intOf i).toNat)
  case atStart => exact ⟨0, List.replicate 10 0, by omega, rfl, ⟨by simp, fun j _ hj => by omega⟩, G2.out, G3.out, HB.out⟩
  case round =>
    obtain ⟨k, u, hk, rfl, HI, h2, h3, hbl⟩ := hrel
    have P2 := Lib.hid h2; have P3 := Lib.hid h3; have HBL := Lib.hid hbl; clear h2 h3 hbl G2 G3 HB
    by_cases hlt : k < 10
    · have hkp : k < p.length := by rw [HPL.out]; exact hlt
      have hpk := HP.out.lt _ (List.getElem_mem hkp)
      have hix : ∀ w' : World, (Instr.index 96 (.agg (pC p)) (.int .i64 (k : Int))).run Tryz.prog w' = .ok (.int .u8 (p[k] : Int)) w' := fun w' => index_perm w' p k hkp HPL.out
      have hin := invTo_put HI.out HP.out hkp
      have c1 := P3.out.cell (k := p[k]) (by rw [HI.out.1]; exact hpk)
      have f1 := P3.out.frozen p[k]
      have hput := P3.out.put p[k] k
      have hf2 := P2.out.far (p' := w.heap.size + 1 + 1) (by omega) p[k] (.int .u8 (k : Int))
      have HPUT := Lib.hid hput; have HF2 := Lib.hid hf2; have HIN := Lib.hid hin; clear hput hf2 hin
      go_wp2_with fail
      go_roundw
      case rel => exact ⟨k + 1, u.set p[k] k, by omega, by go_num, HIN, HF2.out, HPUT.out, HBL.out.setCell (show w.heap.size ≤ w.heap.size + 1 + 1 by omega) _⟩
      case measure => simp [intOf]; omega
    · have hu : u = invP p := invP_is HP.out HI.out.1 fun j hj => HI.out.2 j hj (by have := HPL.out; omega)
      have hul := HI.out.1
      subst hu
      have HUL := Lib.hid hul; clear hul
      go_wp2_with (first | (refine wpList_load_row rfl 96 _ rfl (w.heap.size + 1 + 1) rfl _ _ _ _ P3.out Tryz.underlying96 rfl (permSize HUL.out) ?_) | (refine wpList_store_row rfl 96 _ _ rfl (w.heap.size + 1) (pC (invP p)) rfl rfl _ _ P2.out (permSize HUL.out) (by rw [pC_size, pC_size, HUL.out]; rfl) (pC_one _) ?_))
      have hs := setRow_heap wr (w.heap.size + 1) _ (pC (invP p)) _ _ P2.out
      refine bodyPost_ret (results_cell_row rfl _ _ (w.heap.size + 1) _ (pC (invP p)) _ _ rfl hs Tryz.underlying96 rfl (permSize HUL.out)) rfl ⟨rfl, ?_⟩
      exact below_setRow HBL.out (by omega) _

end Go.Proofs.YtlbngohbbcdfkaaGreatDoor
