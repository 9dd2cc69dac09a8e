/-
  Contracts of functions and plain laws that the law's proof uses (parts: DayPr). Conditions: what each theorem names.
-/
import Derived.RangeFuncNested
import Derived.RangeFuncBound
import Derived.RangeFuncCalls
import Derived.RangeFuncLeaves
import Derived.Shelf.Abstract
import Derived.Shelf.RegionOpen
import Derived.WalkKit
import Derived.OwnWalkIn
import Derived.TacticsInMore
import Derived.LoopNIn
import Derived.LoopIn
import Derived.OrdersHeld
import Derived.OrdersIn
import Derived.Deep.RegionHeld
import Derived.TacticsIn
import Derived.StillTail
import Derived.Deep.RegionHeld3
import Derived.Stop.RegionWithIn
import Derived.StillTailTactics
import Derived.BigQuiet
import Derived.Deep.AppendLies
import Derived.Deep.RegionLaw
import Derived.Test.YtnbdimbhklbadaaGreatDoorQEncC
import Derived.Test.YtnbdimbhklbadaaGreatDoorQChrA
namespace Go.Proofs.YtnbdimbhklbadaaGreatDoor
set_option linter.unusedVariables false
section
open Go Go.RowKit Pl
structure ButC (lo b : Nat) (A B : World) : Prop extends ButTo lo b A B where
  cells : ∀ k o, A.heap[k]? = some o → o.isCells = true → k ≠ b → B.heap[k]? = some o
theorem ButC.of_but {lo b : Nat} {A B : World} (h : But b A B) (hl : lo ≤ A.heap.size) : ButC lo b A B := ⟨h.to hl, fun k o hk _ hn => (h.block k (Array.getElem?_eq_some_iff.1 hk).1 hn).trans hk⟩
theorem butC_alloc {lo b : Nat} (W : World) (o : Obj) (h : lo ≤ W.heap.size) : ButC lo b W (W.alloc o) := ⟨butTo_alloc W o h, fun k o' hk _ _ => (Below.heap_alloc W o k (Array.getElem?_eq_some_iff.1 hk).1).trans hk⟩
theorem butC_put {lo b l : Nat} {W : World} {o : Obj} (h : W.heap[l]? = some o) (hc : o.isCells = false) (o' : Obj) (hl : lo ≤ l) : ButC lo b W (W.putObj l o') :=
  ⟨butTo_put W o' hl, fun k o2 hk hc2 _ => (World.putObj_heap_other (by intro e; subst e; rw [h] at hk; injection hk with hk; rw [← hk, hc] at hc2; cases hc2)).trans hk⟩
theorem wpIn_range_natC {F : Fence} {n : Nat} {P : Program} {g : Operand} {ps : Array Tmp} {assign body : Code} {Q : Exit → Act → World → Prop} {a : Act} {w : World}
    (hro : F.round = none) (h1 : 1 ≤ n) {gf : Nat} {lb : Array Value} (hg : a.eval g = .func (.func gf) #[] lb) (hFg : F.fn gf) (eg : ∀ args w, (callFunc gf args).run P w = .ok (.enter gf args) w)
    {encs : Nat → Array Value} {Kp : World → World → Prop} {b : Nat} (hb : b < w.heap.size)
    (I : Nat → World → Prop) (Ix : Code → Nat → World → Prop) (hseq : SeqN F (n - 1) P gf lb encs Kp b I w)
    (hKt : ∀ {A B C : World}, Kp A B → Kp B C → Kp A C) (hKb : ∀ (W : World) (l : Nat) (o' : Obj), w.heap.size ≤ l → Kp W (W.putObj l o')) (hps : ∀ x, (encs x).size = ps.size)
    (hI : ∀ k A B, I k A → ButC w.heap.size b A B → I k B) (hIx : ∀ c k A B, Ix c k A → ButC w.heap.size b A B → Ix c k B) (h0 : I 0 w)
    (Ax : Nat → Act → World → Prop) (hAx : ∀ k a' W j (o o' : Obj), Ax k a' W → W.heap[j]? = some o → o.isCells = false → Ax k a' (W.putObj j o'))
    (hassign : ∀ (l : Nat) (k : Nat) (W : World) (K : Act → World → Prop), I k W → w.heap.size < W.heap.size → (∀ a' W', KeepsOthers W W' → Kp W W' → I k W' → Ax k a' W' → K a' W') →
      assign.wpIn (F.inRound l) (n - 1 - 1) P (Exit.then K (fun _ _ _ => False)) { tmps := (ps.zip (encs k)).foldl (fun t (p, v) => t.setIfInBounds p v) a.tmps, defers := [] } W)
    (hbody : ∀ (l : Nat) (k : Nat) (a' : Act) (W : World), I k W → Ax k a' W → w.heap.size < W.heap.size → body.wpIn (F.inRound l) (n - 1 - 1) P (ownPostN Kp I Ix (k + 1) W) a' W)
    (hstop : ∀ (D : Nat) (c : Code) (k : Nat) (W : World), Ix c k W → w.heap.size ≤ D → W.heap[D]? = some (.deferred (some [])) → c.wpIn F n P Q { a with defers := { target := .collected D, args := #[] } :: a.defers } W) :
    (Code.rangeFunc g ps assign body).wpIn F n P Q a w := by
  refine wpIn_rangeFunc ?_
  intro fn hfn
  rw [hro]
  obtain ⟨rec, hrec⟩ : ∃ rec : LoopState → Option Code → Loop, rec = fun st pe => { state := st, pending := pe, fn, tmps := a.tmps, params := ps, assign, body, defers := w.heap.size } := ⟨_, rfl⟩
  obtain ⟨W1, hW1⟩ : ∃ W1, (w.alloc (.deferred (some []))).alloc (.loop (rec .ready none)) = W1 := ⟨_, rfl⟩
  have hL1 : W1.heap[w.heap.size + 1]? = some (.loop (rec .ready none)) := by
    rw [← hW1]; have := World.alloc_heap_new (w.alloc (.deferred (some []))) (.loop (rec .ready none)); rwa [World.size_alloc] at this
  have hK1 : W1.heap[w.heap.size]? = some (.deferred (some [])) := by
    rw [← hW1]; exact (Below.heap_alloc _ _ _ (by simp)).trans (World.alloc_heap_new w _)
  have hI1 : I 0 W1 := by rw [← hW1]; exact hI _ _ _ (hI _ _ _ h0 (butC_alloc _ _ (Nat.le_refl _))) (butC_alloc _ _ (by simp))
  have hb1 : Below w.heap.size w W1 := by
    rw [← hW1]; exact ((Below.refl _ w).alloc (Nat.le_refl _) _).alloc (by simp) _
  refine ⟨w.heap.size + 1, [{ target := .collected w.heap.size, args := #[] }], W1, { target := .fn (.func gf) lb, args := #[.func (.yield (w.heap.size + 1)) #[] #[]] }, W1, gf,
    #[.func (.yield (w.heap.size + 1)) #[] #[]] ++ lb, W1, ?_, ?_, ?_, ?_, fun _ => h1, ?_⟩
  · rw [← hW1, hrec]; exact run_enterLoop_outer _ _ _ _ _
  · simp only [resolve, hg]
    simp [go_sem]
  · intro f' hf'; simp [Target.leads] at hf'; subst hf'; exact hFg
  · simp [invoke, go_sem, eg]
  · refine (hseq (w.heap.size + 1)
      (fun k W => I k W ∧ W.heap[w.heap.size + 1]? = some (.loop (rec .ready none)) ∧ W.heap[w.heap.size]? = some (.deferred (some [])))
      (fun k W => ∃ c, Ix c k W ∧ W.heap[w.heap.size + 1]? = some (.loop (rec .done (some c))) ∧ W.heap[w.heap.size]? = some (.deferred (some [])))
      W1 hb1 hb1.size
      (fun k A B hs hg' => by
        have h1 := (Array.getElem?_eq_some_iff.1 hs.2.1).1
        exact ⟨hI k A B hs.1 (ButC.of_but hg' (by omega)), (hg'.block _ h1 (by omega)).trans hs.2.1, (hg'.block _ (by omega) (by omega)).trans hs.2.2⟩)
      (fun k A hs => ⟨hs.1, by have h1 := (Array.getElem?_eq_some_iff.1 hs.2.1).1; omega⟩)
      ?_ ⟨hI1, hL1, hK1⟩).mono ?_
    · rintro k W ⟨hi, hl, hk⟩
      have hlt : w.heap.size + 1 < W.heap.size := (Array.getElem?_eq_some_iff.1 hl).1
      have hy := run_yield (P := P) (args := encs k) hl (by rw [hrec]; exact hps k)
      rw [hrec] at hy
      refine ⟨fn, _, assign, body, hy, roundIn_of_wpIn hfn (hassign _ k W _ hi (by omega) ?_)⟩
      intro a' Wa hka hkpa hia hax
      have hla := hka.same _ _ hl rfl
      have hda := hka.same _ _ hk rfl
      have hlta : w.heap.size + 1 < Wa.heap.size := (Array.getElem?_eq_some_iff.1 hla).1
      refine ⟨_, run_beginRound hla (by rw [hrec]), ?_⟩
      have hl2 : (Wa.putObj (w.heap.size + 1) (.loop { rec .ready none with state := .busy })).heap[w.heap.size + 1]? = some (.loop { rec .ready none with state := .busy }) := World.putObj_heap_same hlta
      have hk2 : (Wa.putObj (w.heap.size + 1) (.loop { rec .ready none with state := .busy })).heap[w.heap.size]? = some (.deferred (some [])) := (World.putObj_heap_other (by omega)).trans hda
      have hw2 : Kp W (Wa.putObj (w.heap.size + 1) (.loop { rec .ready none with state := .busy })) := hKt hkpa (hKb _ _ _ (by omega))
      refine wpIn_mono (hbody _ k a' _ (hI _ _ _ hia (butC_put hla rfl _ (by omega))) (hAx _ _ _ _ _ _ hax hla rfl) (by simp; omega)) ?_
      have fin : ∀ (jump : Option Code) (W3 : World), KeepsOthers (Wa.putObj (w.heap.size + 1) (.loop { rec .ready none with state := .busy })) W3 →
          (Instr.endRound (w.heap.size + 1) jump).run P W3 = .ok (.bool jump.isNone) (W3.putObj (w.heap.size + 1) (.loop (rec (if jump.isNone then .ready else .done) jump))) ∧
          (W3.putObj (w.heap.size + 1) (.loop (rec (if jump.isNone then .ready else .done) jump))).heap[w.heap.size + 1]? = some (.loop (rec (if jump.isNone then .ready else .done) jump)) ∧
          (W3.putObj (w.heap.size + 1) (.loop (rec (if jump.isNone then .ready else .done) jump))).heap[w.heap.size]? = some (.deferred (some [])) := fun jump W3 hk3 => by
        have hl3 := hk3.same _ _ hl2 rfl
        have := run_endRound (P := P) jump hl3
        rw [hrec] at this ⊢
        exact ⟨this, World.putObj_heap_same (Array.getElem?_eq_some_iff.1 hl3).1, (World.putObj_heap_other (by omega)).trans (hk3.same _ _ hk2 rfl)⟩
      rintro e a3 W3 hp
      cases e with
      | normal =>
        obtain ⟨hk3, hkp3, hi3⟩ := hp
        obtain ⟨hr, hl4, hk4⟩ := fin none W3 hk3
        exact ⟨_, _, hr, .inl ⟨rfl, ⟨hI _ _ _ hi3 (butC_put (hk3.same _ _ hl2 rfl) rfl _ (by omega)), hl4, hk4⟩, hKt (hKt hw2 hkp3) (hKb _ _ _ (by omega))⟩⟩
      | ret =>
        obtain ⟨hk3, hi3⟩ := hp
        obtain ⟨hr, hl4, hk4⟩ := fin (some .ret) W3 hk3
        exact ⟨_, _, hr, .inr ⟨rfl, .ret, hIx _ _ _ _ hi3 (butC_put (hk3.same _ _ hl2 rfl) rfl _ (by omega)), hl4, hk4⟩⟩
      | exit id =>
        obtain ⟨hk3, hi3⟩ := hp
        obtain ⟨hr, hl4, hk4⟩ := fin (some (.exit id)) W3 hk3
        exact ⟨_, _, hr, .inr ⟨rfl, .exit id, hIx _ _ _ _ hi3 (butC_put (hk3.same _ _ hl2 rfl) rfl _ (by omega)), hl4, hk4⟩⟩
      | goto t =>
        obtain ⟨hk3, hi3⟩ := hp
        obtain ⟨hr, hl4, hk4⟩ := fin (some (.goto t)) W3 hk3
        exact ⟨_, _, hr, .inr ⟨rfl, .goto t, hIx _ _ _ _ hi3 (butC_put (hk3.same _ _ hl2 rfl) rfl _ (by omega)), hl4, hk4⟩⟩
      | panic ch => exact hp.elim
      | outgrown => exact hp.elim
    · rintro e W2 ⟨⟨v, rfl⟩, k, c, hi, hl, hk⟩
      exact ⟨some c, _, by have := run_endLoop (P := P) hl (by rw [hrec]; simp); rw [hrec] at this; exact this, hstop _ c k _ (hIx _ _ _ _ hi (butC_put hl rfl _ (by omega))) (Nat.le_refl _) ((World.putObj_heap_other (by omega)).trans hk)⟩
end
section
open Go Go.RowKit Pl
theorem keeps_grown {W W' : World} {base : Nat} {e : TypeId} {s n : Nat} {v : Value} {xs : List Value} (ho : W.ownsRow base e s v n xs) (hg : W.grownBy W' v.ownBlock) : KeepsOthers W W' := by
  refine ⟨hg.size, fun k o hk hc => (hg.block k (Array.getElem?_eq_some_iff.1 hk).1 ?_).trans hk⟩
  intro e1
  obtain ⟨_, ⟨rfl, _⟩ | ⟨g, cap, cur, rfl, hb, hgg, _⟩⟩ := ho
  · simp [Value.ownBlock] at e1
  · have e2 : k = g := by simpa [Value.ownBlock] using e1
    subst e2
    rw [hk] at hgg; injection hgg with hgg; rw [hgg] at hc; simp [Obj.isCells] at hc
theorem own_cells {lo b m : Nat} {A B : World} {e : TypeId} {s n : Nat} {v : Value} {xs : List Value} (h : A.ownsRow m e s v n xs) (hb : ButC lo b A B) (hm : b < m) : B.ownsRow m e s v n xs := by
  obtain ⟨h1, h2 | ⟨g, cap, cur, hv, hbg, hg, r⟩⟩ := h
  · exact ⟨h1, .inl h2⟩
  · exact ⟨h1, .inr ⟨g, cap, cur, hv, hbg, hb.cells g _ hg rfl (by omega), r⟩⟩
structure KeysAt (w W : World) (P m n : Nat) (K : Nat → List Nat) (k : Nat) : Prop where
  half : SB W (P + 1) #[.int .i64 (n : Int)] 3
  row : ∃ A c, SB W (P + 2) #[.slice A k c] 47 ∧ W.ownsRow m 52 10 (.slice A k c) k (pF (permsTo K k))
  bel : Below P w W
theorem KeysAt.toC {w A B : World} {P m n k lo b : Nat} {K : Nat → List Nat} (h : KeysAt w A P m n K k) (hb : ButC lo b A B) (h1 : P + 2 < lo) (h2 : P + 2 < b) (h3 : b < m) : KeysAt w B P m n K k := by
  obtain ⟨A', c, hs, ho⟩ := h.row
  exact ⟨(hb.block (P + 1) (by omega) (by omega)).trans h.half, ⟨A', c, (hb.block (P + 2) (by omega) (by omega)).trans hs, own_cells ho hb h3⟩, h.bel.trans (hb.toButTo.below (by omega) (by omega))⟩
attribute [local go_sem] Oper.semAt_some
end
end Go.Proofs.YtnbdimbhklbadaaGreatDoor
