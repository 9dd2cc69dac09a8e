/-
  Contract of withPair. Conditions: what each theorem names.
-/
import Derived.Test.YtlbngohbbcdfkaaGreatDoorPermOf
namespace Go.Proofs.YtlbngohbbcdfkaaGreatDoor
open Go.RowKit Pl
set_option linter.unusedVariables false

def withP (p : List Nat) (a b : Nat) : List Nat := (p.set a b).set b a
theorem withP_len (p : List Nat) (a b : Nat) : (withP p a b).length = p.length := by simp [withP]

set_option maxHeartbeats 4000000 in
set_option maxRecDepth 100000 in
theorem withPair_any (w : World) (p : List Nat) (hp : Ten p) (a b : Nat) (ha : a < 10) (hb : b < 10) :
    Calls Tryz.prog 205 #[.agg (pC p), .int .i64 a, .int .i64 b] w fun e w' => e = .returned (.agg (pC (withP p a b))) ∧ Below w.heap.size w w' := by
  have hpl := hp.len
  obtain ⟨W, hW⟩ : ∃ W, W = (w.alloc (.cells (pC p) 96)).alloc (.cells #[.int .u8 0, .int .u8 0, .int .u8 0, .int .u8 0, .int .u8 0, .int .u8 0, .int .u8 0, .int .u8 0, .int .u8 0, .int .u8 0] 96) := ⟨_, rfl⟩
  have hbl : Below w.heap.size w W := by rw [hW]; exact ((Below.refl _ _).alloc (Nat.le_refl _) _).alloc (by simp) _
  have g0 : PB W w.heap.size p := by rw [hW]; exact block_kept3 (heap_alloc_new w _) _
  have g1 : PB W (w.heap.size + 1) (List.replicate 10 0) := by
    rw [hW]
    have h1 := heap_alloc_new (w.alloc (.cells (pC p) 96)) (.cells #[.int .u8 0, .int .u8 0, .int .u8 0, .int .u8 0, .int .u8 0, .int .u8 0, .int .u8 0, .int .u8 0, .int .u8 0, .int .u8 0] 96)
    rw [szalloc3] at h1
    exact h1
  have c0 := g0.cell (k := a) (by omega)
  have f0 := g0.frozen a
  have p0 := g0.put a b
  have q0 := g1.far (p' := w.heap.size) (by omega) a (.int .u8 (b : Int))
  have b0 : Below w.heap.size w (W.setCell ⟨w.heap.size, a, none⟩ (.int .u8 (b : Int))) := hbl.setCell (Nat.le_refl _) _
  have c1 := p0.cell (k := b) (by rw [List.length_set]; omega)
  have f1 := p0.frozen b
  have p1 := p0.put b a
  have q1 := q0.far (p' := w.heap.size) (by omega) b (.int .u8 (a : Int))
  have b1 : Below w.heap.size w ((W.setCell ⟨w.heap.size, a, none⟩ (.int .u8 (b : Int))).setCell ⟨w.heap.size, b, none⟩ (.int .u8 (a : Int))) := b0.setCell (Nat.le_refl _) _
  have e1 : IntKind.u8.wrap (b : Int) = (b : Int) := by
    have : ∀ n : Fin 10, IntKind.u8.wrap ((n.val : Nat) : Int) = n.val := by decide
    exact this ⟨b, hb⟩
  have e2 : IntKind.u8.wrap (a : Int) = (a : Int) := by
    have : ∀ n : Fin 10, IntKind.u8.wrap ((n.val : Nat) : Int) = n.val := by decide
    exact this ⟨a, ha⟩
  have hwl : (withP p a b).length = 10 := by rw [withP_len]; exact hpl
  change PB _ w.heap.size (withP p a b) at p1
  rw [hW] at c0 f0 p0 q0 b0 c1 f1 p1 q1 b1
  obtain ⟨X, hX⟩ : ∃ X, X = (w.alloc (.cells (pC (withP p a b)) 96)).alloc (.cells #[.int .u8 0, .int .u8 0, .int .u8 0, .int .u8 0, .int .u8 0, .int .u8 0, .int .u8 0, .int .u8 0, .int .u8 0, .int .u8 0] 96) := ⟨_, rfl⟩
  have bx : Below w.heap.size w X := by rw [hX]; exact ((Below.refl _ _).alloc (Nat.le_refl _) _).alloc (by simp) _
  have x0 : PB X w.heap.size (withP p a b) := by rw [hX]; exact block_kept3 (heap_alloc_new w _) _
  have x1 : PB X (w.heap.size + 1) (List.replicate 10 0) := by
    rw [hX]
    have h1 := heap_alloc_new (w.alloc (.cells (pC (withP p a b)) 96)) (.cells #[.int .u8 0, .int .u8 0, .int .u8 0, .int .u8 0, .int .u8 0, .int .u8 0, .int .u8 0, .int .u8 0, .int .u8 0, .int .u8 0] 96)
    rw [szalloc3] at h1
    exact h1
  have HX := Lib.hid hX; have X0 := Lib.hid x0; have X1 := Lib.hid x1; have BX := Lib.hid bx; clear bx x0 x1 hX
  have hwd : (p.set a b).set b a = withP p a b := rfl
  have hwd2 : (p.set b a).set a b = withP p a b := by
    by_cases e : a = b
    · subst e; rfl
    · exact List.set_comm _ _ (Ne.symm e)
  have HWD := Lib.hid hwd; have HWD2 := Lib.hid hwd2; clear hwd hwd2
  have ia : a < (pC p).size := by rw [pC_size]; omega
  have ib : b < (pC p).size := by rw [pC_size]; omega
  have HWL := Lib.hid hwl; have P1 := Lib.hid p1; have Q1 := Lib.hid q1; have B1 := Lib.hid b1
  clear hbl g0 g1 p0 q0 b0 p1 q1 b1 hwl hW
  go_enter Tryz.func205, Tryz.ntmps205
  go_wp2_with (first | (rw [pC_set, pC_set, HWD.out, ← HX.out]; refine wpList_load_row rfl 96 _ rfl w.heap.size rfl _ _ _ _ X0.out Tryz.underlying96 rfl (permSize HWL.out) ?_) | (rw [pC_set, pC_set, HWD2.out, ← HX.out]; refine wpList_load_row rfl 96 _ rfl w.heap.size rfl _ _ _ _ X0.out Tryz.underlying96 rfl (permSize HWL.out) ?_) | (refine wpList_store_row rfl 96 _ _ rfl (w.heap.size + 1) (pC (withP p a b)) rfl rfl _ _ X1.out (permSize HWL.out) (by rw [pC_size, pC_size, HWL.out]; rfl) (pC_one _) ?_))
  have hs := setRow_heap X (w.heap.size + 1) _ (pC (withP p a b)) _ _ X1.out
  refine bodyPost_ret (results_cell_row rfl _ _ (w.heap.size + 1) _ (pC (withP p a b)) _ _ rfl hs Tryz.underlying96 rfl (permSize HWL.out)) rfl ⟨rfl, ?_⟩
  exact below_setRow BX.out (by omega) _

end Go.Proofs.YtlbngohbbcdfkaaGreatDoor
