/-
  Both sides' Encipher, and the enciphering of what was enciphered. Conditions: what each theorem names.
-/
import Derived.RangeFuncNested
import Derived.RangeFuncBound
import Derived.RangeFuncCalls
import Derived.RangeFuncLeaves
import Derived.Shelf.Abstract
import Derived.Shelf.RegionOpen
import Derived.WalkKit
import Derived.OwnWalkIn
import Derived.TacticsInMore
import Derived.LoopNIn
import Derived.LoopIn
import Derived.OrdersHeld
import Derived.OrdersIn
import Derived.Deep.RegionHeld
import Derived.TacticsIn
import Derived.StillTail
import Derived.Test.YtipcodebmemkpaaGreatDoorPerms
import Derived.Test.YtipcodebmemkpaaGreatDoorKeyA
import Derived.Test.YtipcodebmemkpaaGreatDoorStepA
import Derived.Deep.RegionHeld3
import Derived.Stop.RegionWithIn
import Derived.StillTailTactics
import Derived.BigQuiet
import Derived.Test.YtipcodebmemkpaaGreatDoorTextF
import Derived.Test.YtipcodebmemkpaaGreatDoorRunTw
namespace Go.Proofs.YtipcodebmemkpaaGreatDoor
open Go Go.RowKit Pl
set_option linter.unusedVariables false

/-- what an iterator with one cell of its own may do to the world: new blocks, and block b -/
structure But (b : Nat) (A B : World) : Prop where
  os : B.os = A.os
  tape : B.tape = A.tape
  output : B.output = A.output
  size : A.heap.size ≤ B.heap.size
  block : ∀ k, k < A.heap.size → k ≠ b → B.heap[k]? = A.heap[k]?
/-- the same, below lo alone -/
structure ButTo (lo b : Nat) (A B : World) : Prop where
  os : B.os = A.os
  tape : B.tape = A.tape
  output : B.output = A.output
  size : A.heap.size ≤ B.heap.size
  block : ∀ k, k < lo → k ≠ b → B.heap[k]? = A.heap[k]?
theorem But.to {b lo : Nat} {A B : World} (h : But b A B) (hl : lo ≤ A.heap.size) : ButTo lo b A B := ⟨h.os, h.tape, h.output, h.size, fun k hk hn => h.block k (by omega) hn⟩
theorem But.of_below {b : Nat} {A B : World} (h : Below A.heap.size A B) : But b A B := ⟨h.os, h.tape, h.output, h.size, fun k hk _ => h.block k hk⟩
theorem But.of_set {b : Nat} (A : World) (o : Nat) (v : Value) : But b A (A.setCell ⟨b, o, none⟩ v) :=
  ⟨rfl, rfl, rfl, by show A.heap.size ≤ (A.heap.modify _ _).size; rw [Array.size_modify]; exact Nat.le_refl _, fun k _ hn => Below.heap_setCell _ _ _ _ hn⟩
theorem But.trans {b : Nat} {A B C : World} (h : But b A B) (k : But b B C) : But b A C :=
  ⟨k.os.trans h.os, k.tape.trans h.tape, k.output.trans h.output, Nat.le_trans h.size k.size, fun i hi hn => (k.block i (Nat.lt_of_lt_of_le hi h.size) hn).trans (h.block i hi hn)⟩
theorem ButTo.cell {lo b : Nat} {A B : World} (h : ButTo lo b A B) {p : Addr} (hp : p.block < lo) (hn : p.block ≠ b) : B.cell? p = A.cell? p := World.cell?_of_block (w := A) (h.block p.block hp hn)
theorem ButTo.frozen {lo b : Nat} {A B : World} (h : ButTo lo b A B) {p : Addr} (hp : p.block < lo) (hn : p.block ≠ b) : B.frozen? p = A.frozen? p := World.frozen?_of_block (w := A) (h.block p.block hp hn)
theorem ButTo.below {lo b n : Nat} {A B : World} (h : ButTo lo b A B) (hl : n ≤ lo) (hb : n ≤ b) : Below n A B := ⟨h.os, h.tape, h.output, h.size, fun k hk => h.block k (by omega) (by omega)⟩
theorem butTo_put (W : World) {lo b l : Nat} (o : Obj) (h : lo ≤ l) : ButTo lo b W (W.putObj l o) := ⟨rfl, rfl, rfl, by simp, fun k hk _ => World.putObj_heap_other (by omega)⟩
theorem butTo_alloc (W : World) {lo b : Nat} (o : Obj) (h : lo ≤ W.heap.size) : ButTo lo b W (W.alloc o) := ⟨rfl, rfl, rfl, by simp, fun k hk _ => Below.heap_alloc W o k (by omega)⟩

/-- how the body of a round may be left -/
def ownPostN (Kp : World → World → Prop) (I : Nat → World → Prop) (Ix : Code → Nat → World → Prop) (k : Nat) (W : World) : Exit → Act → World → Prop
  | .normal, _, W' => KeepsOthers W W' ∧ Kp W W' ∧ I k W'
  | .ret, _, W' => KeepsOthers W W' ∧ Ix .ret k W'
  | .exit id, _, W' => KeepsOthers W W' ∧ Ix (.exit id) k W'
  | .goto t, _, W' => KeepsOthers W W' ∧ Ix (.goto t) k W'
  | .panic _, _, _ => False
  | .outgrown, _, _ => False

/-- what is asked of the iterator: it hands over the values of round 0, 1, .. till a round says 'no more' -/
def SeqN (F : Fence) (n : Nat) (P : Program) (gf : Nat) (lb : Array Value) (encs : Nat → Array Value) (Kp : World → World → Prop) (b : Nat) (I : Nat → World → Prop) (w : World) : Prop :=
  ∀ (l : Nat) (J Jx : Nat → World → Prop) (W : World), Below w.heap.size w W → w.heap.size ≤ W.heap.size →
    (∀ k A B, J k A → But b A B → J k B) → (∀ k A, J k A → I k A ∧ w.heap.size ≤ A.heap.size) →
    (∀ k W1, J k W1 → YieldAt F (n - 1) P l (encs k) W1 fun e W' => (e = .returned (.bool true) ∧ J (k + 1) W' ∧ Kp W1 W') ∨ (e = .returned (.bool false) ∧ Jx (k + 1) W')) →
    J 0 W → CallsIn F n P gf (#[.func (.yield l) #[] #[]] ++ lb) W fun e W' => (∃ v, e = .returned v) ∧ ∃ k, Jx k W'

theorem wpIn_range_nat {F : Fence} {n : Nat} {P : Program} {g : Operand} {ps : Array Tmp} {assign body : Code} {Q : Exit → Act → World → Prop} {a : Act} {w : World}
    (hro : F.round = none) (h1 : 1 ≤ n) {gf : Nat} {lb : Array Value} (hg : a.eval g = .func (.func gf) #[] lb) (hFg : F.fn gf) (eg : ∀ args w, (callFunc gf args).run P w = .ok (.enter gf args) w)
    {encs : Nat → Array Value} {Kp : World → World → Prop} {b : Nat} (hb : b < w.heap.size)
    (I : Nat → World → Prop) (Ix : Code → Nat → World → Prop) (hseq : SeqN F (n - 1) P gf lb encs Kp b I w)
    (hKt : ∀ {A B C : World}, Kp A B → Kp B C → Kp A C) (hKb : ∀ (W : World) (l : Nat) (o' : Obj), w.heap.size ≤ l → Kp W (W.putObj l o')) (hps : ∀ x, (encs x).size = ps.size)
    (hI : ∀ k A B, I k A → ButTo w.heap.size b A B → I k B) (hIx : ∀ c k A B, Ix c k A → ButTo w.heap.size b A B → Ix c k B) (h0 : I 0 w)
    (Ax : Nat → Act → World → Prop) (hAx : ∀ k a' W j (o o' : Obj), Ax k a' W → W.heap[j]? = some o → o.isCells = false → Ax k a' (W.putObj j o'))
    (hassign : ∀ (l : Nat) (k : Nat) (W : World) (K : Act → World → Prop), I k W → w.heap.size < W.heap.size → (∀ a' W', KeepsOthers W W' → Kp W W' → I k W' → Ax k a' W' → K a' W') →
      assign.wpIn (F.inRound l) (n - 1 - 1) P (Exit.then K (fun _ _ _ => False)) { tmps := (ps.zip (encs k)).foldl (fun t (p, v) => t.setIfInBounds p v) a.tmps, defers := [] } W)
    (hbody : ∀ (l : Nat) (k : Nat) (a' : Act) (W : World), I k W → Ax k a' W → w.heap.size < W.heap.size → body.wpIn (F.inRound l) (n - 1 - 1) P (ownPostN Kp I Ix (k + 1) W) a' W)
    (hstop : ∀ (D : Nat) (c : Code) (k : Nat) (W : World), Ix c k W → w.heap.size ≤ D → W.heap[D]? = some (.deferred (some [])) → c.wpIn F n P Q { a with defers := { target := .collected D, args := #[] } :: a.defers } W) :
    (Code.rangeFunc g ps assign body).wpIn F n P Q a w := by
  refine wpIn_rangeFunc ?_
  intro fn hfn
  rw [hro]
  obtain ⟨rec, hrec⟩ : ∃ rec : LoopState → Option Code → Loop, rec = fun st pe => { state := st, pending := pe, fn, tmps := a.tmps, params := ps, assign, body, defers := w.heap.size } := ⟨_, rfl⟩
  obtain ⟨W1, hW1⟩ : ∃ W1, (w.alloc (.deferred (some []))).alloc (.loop (rec .ready none)) = W1 := ⟨_, rfl⟩
  have hL1 : W1.heap[w.heap.size + 1]? = some (.loop (rec .ready none)) := by
    rw [← hW1]; have := World.alloc_heap_new (w.alloc (.deferred (some []))) (.loop (rec .ready none)); rwa [World.size_alloc] at this
  have hK1 : W1.heap[w.heap.size]? = some (.deferred (some [])) := by
    rw [← hW1]; exact (Below.heap_alloc _ _ _ (by simp)).trans (World.alloc_heap_new w _)
  have hI1 : I 0 W1 := by rw [← hW1]; exact hI _ _ _ (hI _ _ _ h0 (butTo_alloc _ _ (Nat.le_refl _))) (butTo_alloc _ _ (by simp))
  have hb1 : Below w.heap.size w W1 := by
    rw [← hW1]; exact ((Below.refl _ w).alloc (Nat.le_refl _) _).alloc (by simp) _
  refine ⟨w.heap.size + 1, [{ target := .collected w.heap.size, args := #[] }], W1, { target := .fn (.func gf) lb, args := #[.func (.yield (w.heap.size + 1)) #[] #[]] }, W1, gf,
    #[.func (.yield (w.heap.size + 1)) #[] #[]] ++ lb, W1, ?_, ?_, ?_, ?_, fun _ => h1, ?_⟩
  · rw [← hW1, hrec]; exact run_enterLoop_outer _ _ _ _ _
  · simp only [resolve, hg]
    simp [go_sem]
  · intro f' hf'; simp [Target.leads] at hf'; subst hf'; exact hFg
  · simp [invoke, go_sem, eg]
  · refine (hseq (w.heap.size + 1)
      (fun k W => I k W ∧ W.heap[w.heap.size + 1]? = some (.loop (rec .ready none)) ∧ W.heap[w.heap.size]? = some (.deferred (some [])))
      (fun k W => ∃ c, Ix c k W ∧ W.heap[w.heap.size + 1]? = some (.loop (rec .done (some c))) ∧ W.heap[w.heap.size]? = some (.deferred (some [])))
      W1 hb1 hb1.size
      (fun k A B hs hg' => by
        have h1 := (Array.getElem?_eq_some_iff.1 hs.2.1).1
        exact ⟨hI k A B hs.1 (hg'.to (by omega)), (hg'.block _ h1 (by omega)).trans hs.2.1, (hg'.block _ (by omega) (by omega)).trans hs.2.2⟩)
      (fun k A hs => ⟨hs.1, by have h1 := (Array.getElem?_eq_some_iff.1 hs.2.1).1; omega⟩)
      ?_ ⟨hI1, hL1, hK1⟩).mono ?_
    · rintro k W ⟨hi, hl, hk⟩
      have hlt : w.heap.size + 1 < W.heap.size := (Array.getElem?_eq_some_iff.1 hl).1
      have hy := run_yield (P := P) (args := encs k) hl (by rw [hrec]; exact hps k)
      rw [hrec] at hy
      refine ⟨fn, _, assign, body, hy, roundIn_of_wpIn hfn (hassign _ k W _ hi (by omega) ?_)⟩
      intro a' Wa hka hkpa hia hax
      have hla := hka.same _ _ hl rfl
      have hda := hka.same _ _ hk rfl
      have hlta : w.heap.size + 1 < Wa.heap.size := (Array.getElem?_eq_some_iff.1 hla).1
      refine ⟨_, run_beginRound hla (by rw [hrec]), ?_⟩
      have hl2 : (Wa.putObj (w.heap.size + 1) (.loop { rec .ready none with state := .busy })).heap[w.heap.size + 1]? = some (.loop { rec .ready none with state := .busy }) := World.putObj_heap_same hlta
      have hk2 : (Wa.putObj (w.heap.size + 1) (.loop { rec .ready none with state := .busy })).heap[w.heap.size]? = some (.deferred (some [])) := (World.putObj_heap_other (by omega)).trans hda
      have hw2 : Kp W (Wa.putObj (w.heap.size + 1) (.loop { rec .ready none with state := .busy })) := hKt hkpa (hKb _ _ _ (by omega))
      refine wpIn_mono (hbody _ k a' _ (hI _ _ _ hia (butTo_put _ _ (by omega))) (hAx _ _ _ _ _ _ hax hla rfl) (by simp; omega)) ?_
      have fin : ∀ (jump : Option Code) (W3 : World), KeepsOthers (Wa.putObj (w.heap.size + 1) (.loop { rec .ready none with state := .busy })) W3 →
          (Instr.endRound (w.heap.size + 1) jump).run P W3 = .ok (.bool jump.isNone) (W3.putObj (w.heap.size + 1) (.loop (rec (if jump.isNone then .ready else .done) jump))) ∧
          (W3.putObj (w.heap.size + 1) (.loop (rec (if jump.isNone then .ready else .done) jump))).heap[w.heap.size + 1]? = some (.loop (rec (if jump.isNone then .ready else .done) jump)) ∧
          (W3.putObj (w.heap.size + 1) (.loop (rec (if jump.isNone then .ready else .done) jump))).heap[w.heap.size]? = some (.deferred (some [])) := fun jump W3 hk3 => by
        have hl3 := hk3.same _ _ hl2 rfl
        have := run_endRound (P := P) jump hl3
        rw [hrec] at this ⊢
        exact ⟨this, World.putObj_heap_same (Array.getElem?_eq_some_iff.1 hl3).1, (World.putObj_heap_other (by omega)).trans (hk3.same _ _ hk2 rfl)⟩
      rintro e a3 W3 hp
      cases e with
      | normal =>
        obtain ⟨hk3, hkp3, hi3⟩ := hp
        obtain ⟨hr, hl4, hk4⟩ := fin none W3 hk3
        exact ⟨_, _, hr, .inl ⟨rfl, ⟨hI _ _ _ hi3 (butTo_put _ _ (by omega)), hl4, hk4⟩, hKt (hKt hw2 hkp3) (hKb _ _ _ (by omega))⟩⟩
      | ret =>
        obtain ⟨hk3, hi3⟩ := hp
        obtain ⟨hr, hl4, hk4⟩ := fin (some .ret) W3 hk3
        exact ⟨_, _, hr, .inr ⟨rfl, .ret, hIx _ _ _ _ hi3 (butTo_put _ _ (by omega)), hl4, hk4⟩⟩
      | exit id =>
        obtain ⟨hk3, hi3⟩ := hp
        obtain ⟨hr, hl4, hk4⟩ := fin (some (.exit id)) W3 hk3
        exact ⟨_, _, hr, .inr ⟨rfl, .exit id, hIx _ _ _ _ hi3 (butTo_put _ _ (by omega)), hl4, hk4⟩⟩
      | goto t =>
        obtain ⟨hk3, hi3⟩ := hp
        obtain ⟨hr, hl4, hk4⟩ := fin (some (.goto t)) W3 hk3
        exact ⟨_, _, hr, .inr ⟨rfl, .goto t, hIx _ _ _ _ hi3 (butTo_put _ _ (by omega)), hl4, hk4⟩⟩
      | panic ch => exact hp.elim
      | outgrown => exact hp.elim
    · rintro e W2 ⟨⟨v, rfl⟩, k, c, hi, hl, hk⟩
      exact ⟨some c, _, by have := run_endLoop (P := P) hl (by rw [hrec]; simp); rw [hrec] at this; exact this, hstop _ c k _ (hIx _ _ _ _ hi (butTo_put _ _ (by omega))) (Nat.le_refl _) ((World.putObj_heap_other (by omega)).trans hk)⟩

/-! a region that draws its order, in a round: by the plain calculus -/
section
variable {P : Program} {ops : Array Oper} {Q : Exit → Act → World → Prop} {md : Region.Mode} {S : World → Prop} {l n : Nat}

theorem opIn_round {o : Oper} {a : Act} {w : World} {K : Act → World → Prop} (hnd : ∀ c, o.op ≠ .defer c) (h : o.wp P a w K Q) : o.wpIn (Fence.wide.inRound l) n P a w K Q := by
  unfold Oper.wp at h
  unfold Oper.wpIn
  refine ⟨fun _ _ => trivial, ?_⟩
  rw [Fence.inRound_round, Oper.semAt_some _ _ _ hnd]
  generalize (execOp a.eval o).run P w = r at h ⊢
  cases r with
  | ok x w' =>
    cases x <;> simp only [Oper.upon, Oper.uponIn] at h ⊢
    · exact h
    · exact h
    · exact ⟨fun e => by simp [Fence.wide] at e, CallsIn.inRound l (callsIn_wide.2 h)⟩
    · exact h
    · exact ⟨fun e => by simp [Fence.wide] at e, fun c cs _ => let ⟨v, w'', r, s⟩ := h c cs; ⟨v, w'', r, stepsIn_wide.2 s⟩⟩
  | halt x w' => cases x <;> simp only [Oper.upon, Oper.uponIn] at h ⊢ <;> exact h

theorem opAt_round {i : Nat} {a : Act} {w : World} {K : Act → World → Prop} (hnd : ∀ (j : Nat) (o : Oper) c, ops[j]? = some o → o.op ≠ .defer c) (hlo : ∀ a w, ¬ Q .outgrown a w) (h : wpOp P ops Q i K a w) :
    wpOpIn (Fence.wide.inRound l) n P ops Q i K a w := by
  unfold wpOp at h
  unfold wpOpIn
  cases ho : ops[i]? with
  | none => simpa only [ho] using h
  | some o =>
    simp only [ho] at h ⊢
    by_cases hw : Region.wanted o (yielded ops a.tmps) = true
    · rw [if_pos hw] at h ⊢
      rcases h with h | ⟨_, a', w', hq⟩
      · exact opIn_round (fun c => hnd i o c ho) h
      · exact absurd hq (hlo _ _)
    · rw [if_neg hw] at h ⊢
      exact ⟨fun _ _ => trivial, h⟩

theorem anyIn_round (hnd : ∀ (j : Nat) (o : Oper) c, ops[j]? = some o → o.op ≠ .defer c) (hlo : ∀ a w, ¬ Q .outgrown a w) : ∀ (fuel : Nat) (listed : Array Bool) (a : Act) (w : World), wpAny P md ops Q fuel listed a w → wpAnyIn (Fence.wide.inRound l) n P md ops Q fuel listed a w
  | 0, _, _, _, h => h
  | fuel + 1, _, _, _, h => ⟨h.1, fun i hi => opAt_round hnd hlo (wpOp_mono (fun a' w' h' => anyIn_round hnd hlo fuel _ a' w' h') (h.2 i hi))⟩

def noDefer (ops : Array Oper) : Bool := ops.toList.all fun o => match o.op with | .defer _ => false | _ => true
theorem noDefer_spec (h : noDefer ops = true) : ∀ (j : Nat) (o : Oper) c, ops[j]? = some o → o.op ≠ .defer c := fun j o c hj e => by
  have hm : o ∈ ops.toList := by
    obtain ⟨h1, rfl⟩ := Array.getElem?_eq_some_iff.1 hj
    exact Array.getElem_mem_toList h1
  have := List.all_eq_true.1 h o hm
  simp [e] at this

/-- a drawn region in a round, by the laws of the plain calculus -/
theorem region_round {id : Nat} {a : Act} {w : World} (hm : P.follows .mixedOrders = true) (hnd : noDefer ops = true) (hlo : ∀ a w, ¬ Q .outgrown a w)
    (hS : S w.drew) (h : S w.drew → wpAnyH P .any ops Q S ops.size (Array.replicate ops.size false) a w.drew) : (Code.region id ops true).wpIn (Fence.wide.inRound l) n P Q a w :=
  wpIn_region_any hm (anyIn_round (noDefer_spec hnd) hlo _ _ _ _ (wpAny_of_held _ _ _ _ (h hS)))
/-- the same where all but the last operations only read -/
theorem still_tail_round {id : Nat} {a : Act} {w : World} {ol : List Oper} (k : Nat) (hm : P.follows .mixedOrders = true) (hnd : noDefer ol.toArray = true) (hlo : ∀ a w, ¬ Q .outgrown a w) (hB : Region.lexTailB .any ol.toArray k = true)
    (h : wpStill P ol.toArray w.drew (fun a' => wpList P ol.toArray Q (ol.drop k) a' w.drew) (ol.take k) a) : (Code.region id ol.toArray true).wpIn (Fence.wide.inRound l) n P Q a w := by
  refine wpIn_region_any hm (anyIn_round (noDefer_spec hnd) hlo _ _ _ _ ?_)
  simp only [Region.lexTailB, Bool.and_eq_true, decide_eq_true_eq] at hB
  obtain ⟨⟨⟨⟨hsel, hn⟩, hs⟩, hc⟩, hlex⟩ := hB
  have hn' : k < ol.length := by simpa using hn
  have htl : (ol.take k).length = k := by simp; omega
  have hdl : (ol.drop k).length = ol.toArray.size - k := by simp
  have inv0 : HeadInv .any ol.toArray k (Array.replicate ol.toArray.size false) :=
    ⟨by simp, fun j oj _ hl => (by rw [getD_replicate_false] at hl; cases hl), fun t _ ht => getD_in (by simpa using ht) (getD_replicate_false _ _)⟩
  have H := wpAnyL_lex (md := .any) (g := ol.toArray.size - k) hsel hs hc hn (ol.take k) 0 _ a (fun j hj => by
    have hj' : j < k := by rw [htl] at hj; exact hj
    simp [hj']) (by simpa using htl) inv0 (by rw [htl]; exact hlex) h
  have h2 := wpAny_of_head (Q' := Q) (g := ol.toArray.size - k) (fun listed a' hL => by
    have h3 := wpAny_of_seq (md := .any) (Q' := Q) (ol.drop k) k listed a' w.drew (fun j => by simp [List.getElem?_drop]) (by rw [hdl]; exact hL.1) hL.2
    rwa [hdl] at h3) _ _ _ H
  rw [htl, show k + (ol.toArray.size - k) = ol.toArray.size by omega] at h2
  exact h2
theorem list_round (hlo : ∀ a w, ¬ Q .outgrown a w) : ∀ (ol : List Oper) (a : Act) (w : World), (∀ o ∈ ol, ∀ c, o.op ≠ .defer c) → wpList P ops Q ol a w → wpListIn (Fence.wide.inRound l) n P ops Q ol a w
  | [], _, _, _, h => h
  | o :: rest, a, w, hnd, h => by
    unfold wpList at h
    unfold wpListIn
    by_cases hw : Region.wanted o (yielded ops a.tmps) = true
    · rw [if_pos hw] at h ⊢
      rcases h with h | ⟨_, a', w', hq⟩
      · exact opIn_round (hnd o (by simp)) (Oper.wp_mono (fun a' w' h' => list_round hlo rest a' w' (fun o' ho' => hnd o' (by simp [ho'])) h') h)
      · exact absurd hq (hlo _ _)
    · rw [if_neg hw] at h ⊢
      exact ⟨fun _ _ => trivial, list_round hlo rest _ _ (fun o' ho' => hnd o' (by simp [ho'])) h⟩
/-- a region in the text's order, in a round -/
theorem region_list_round {id : Nat} {a : Act} {w : World} {ol : List Oper} (hnd : noDefer ol.toArray = true) (hlo : ∀ a w, ¬ Q .outgrown a w) (h : wpList P ol.toArray Q ol a w) : (Code.region id ol.toArray false).wpIn (Fence.wide.inRound l) n P Q a w :=
  wpIn_region_lit (list_round hlo ol a w (fun o ho c => by
    obtain ⟨j, hj, e⟩ := List.getElem_of_mem ho
    exact noDefer_spec hnd j o c (by simp [hj, e])) h)
end

/-- the windows after k steps, as numbers -/
def wnd (rs : List (ByteArray × ByteArray)) (o : ByteArray) (k : Nat) : List Nat := (stepN rs (tl o) k).map dg
theorem wnd_lo {rs : List (ByteArray × ByteArray)} {o : ByteArray} (h : wv (tl o) = true) (k : Nat) : ∀ x ∈ wnd rs o k, x < 10 := by
  intro x hx
  unfold wnd at hx
  rw [List.mem_map] at hx
  obtain ⟨c, hc, rfl⟩ := hx
  exact dg_lt (wv_mem (stepN_wv rs h k) hc)
theorem wnd_len (rs : List (ByteArray × ByteArray)) (o : ByteArray) (k : Nat) : (wnd rs o k).length = o.size := by
  unfold wnd; rw [List.length_map, stepN_len, length_tl]
theorem wnd_pT {rs : List (ByteArray × ByteArray)} {o : ByteArray} (h : wv (tl o) = true) (k : Nat) : pT (wnd rs o k) = stepW rs o k := by
  unfold wnd pT stepW
  congr 1
  rw [List.map_map]
  conv => rhs; rw [← List.map_id (stepN rs (tl o) k)]
  exact List.map_congr_left fun c hc => letter_dg (wv_mem (stepN_wv rs h k) hc)
/-- the permutation at the windows after k steps -/
def keyP (q r : List Nat) (rs : List (ByteArray × ByteArray)) (rg : List Nat) (o : ByteArray) (k : Nat) : List Nat := permW (wayC q rs (wnd rs o k) rg rs.length rs.length) r
theorem keyP_prm {q r : List Nat} {rs : List (ByteArray × ByteArray)} {rg : List Nat} {o : ByteArray} (hq : Prm q) (hr : Prm r) (hw : ∀ i, i < rs.length → Prm (wirP rs i)) (k : Nat) : Prm (keyP q r rs rg o k) := by
  have hw := wayC_prm (ws := wnd rs o k) (rg := rg) hq hw rs.length (Nat.le_refl _)
  exact prm_then (prm_then hw hr) (prm_inv hw)
theorem nth_thenP {p q : List Nat} {x : Nat} (hx : x < p.length) : nth (thenP p q) x = nth q (nth p x) := by
  unfold nth thenP
  rw [List.getElem?_map, List.getElem?_eq_getElem hx]
  rfl
theorem permW_back {w r : List Nat} (hw : Prm w) (hr : Prm r) (hi : invP r = r) {x : Nat} (hx : x < 10) : nth (permW w r) (nth (permW w r) x) = x := by
  have hwr := prm_then hw hr
  have h1 : ∀ y, y < 10 → nth (permW w r) y = nth (invP w) (nth r (nth w y)) := fun y hy => by
    unfold permW
    rw [nth_thenP (by rw [hwr.len]; exact hy), nth_thenP (by rw [hw.len]; exact hy)]
  have hl : nth (permW w r) x < 10 := nth_ten (prm_then hwr (prm_inv hw)).toTen
  rw [h1 _ hl, h1 x hx, inv_right hw (nth_ten hr.toTen), inv_nth hr hi (nth_ten hw.toTen), inv_left hw hx]
/-- letter by letter -/
def encN (Pr : Nat → List Nat) (us : List Nat) : List Nat := us.mapIdx fun i x => nth (Pr (i + 1)) x
theorem encN_len (Pr : Nat → List Nat) (us : List Nat) : (encN Pr us).length = us.length := by unfold encN; rw [List.length_mapIdx]
theorem encN_at (Pr : Nat → List Nat) {us : List Nat} {i : Nat} (h : i < us.length) (h' : i < (encN Pr us).length) : (encN Pr us)[i] = nth (Pr (i + 1)) us[i] := by
  simp only [encN, List.getElem_mapIdx]
theorem encN_lo {Pr : Nat → List Nat} (hp : ∀ k, Prm (Pr k)) (us : List Nat) : ∀ x ∈ encN Pr us, x < 10 := fun x hx => by
  obtain ⟨i, hi, rfl⟩ := List.getElem_of_mem hx
  rw [encN_at Pr (by rw [encN_len] at hi; exact hi) hi]
  exact nth_ten (hp _).toTen
theorem encN_back {Pr : Nat → List Nat} (hi : ∀ k x, x < 10 → nth (Pr k) (nth (Pr k) x) = x) {us : List Nat} (hu : ∀ x ∈ us, x < 10) : encN Pr (encN Pr us) = us := by
  apply List.ext_getElem
  · rw [encN_len, encN_len]
  · intro i h1 h2
    rw [encN_at Pr (by rw [encN_len]; exact h2) h1, encN_at Pr h2 (by rw [encN_len]; exact h2)]
    exact hi _ _ (hu _ (List.getElem_mem h2))
/-- after k letters -/
def encTo (Pr : Nat → List Nat) (us : List Nat) (k : Nat) : List Nat := (encN Pr us).take k ++ us.drop k
theorem encTo_zero (Pr : Nat → List Nat) (us : List Nat) : encTo Pr us 0 = us := by unfold encTo; simp
theorem encTo_all (Pr : Nat → List Nat) (us : List Nat) : encTo Pr us us.length = encN Pr us := by
  unfold encTo; rw [List.drop_length, List.append_nil, List.take_of_length_le (by rw [encN_len]; exact Nat.le_refl _)]
theorem encTo_len (Pr : Nat → List Nat) (us : List Nat) (k : Nat) : (encTo Pr us k).length = us.length := by
  unfold encTo; rw [List.length_append, List.length_take, List.length_drop, encN_len]; omega
theorem encTo_at (Pr : Nat → List Nat) {us : List Nat} {k : Nat} (h : k < us.length) (h' : k < (encTo Pr us k).length) : (encTo Pr us k)[k] = us[k] := by
  have e : (encTo Pr us k)[k]? = us[k]? := by
    unfold encTo
    rw [List.getElem?_append_right (by rw [List.length_take, encN_len]; omega), List.getElem?_drop]
    congr 1
    rw [List.length_take, encN_len]; omega
  rw [List.getElem?_eq_getElem h', List.getElem?_eq_getElem h] at e
  exact Option.some.inj e
theorem encTo_next (Pr : Nat → List Nat) {us : List Nat} {k : Nat} (h : k < us.length) : (encTo Pr us k).set k (nth (Pr (k + 1)) us[k]) = encTo Pr us (k + 1) := by
  apply List.ext_getElem?
  intro i
  rw [List.getElem?_set]
  have hl := encTo_len Pr us k
  by_cases e : k = i
  · subst e
    rw [if_pos rfl, if_pos (by omega)]
    unfold encTo
    rw [List.getElem?_append_left (by rw [List.length_take, encN_len]; omega), List.getElem?_take, if_pos (by omega), List.getElem?_eq_getElem (by rw [encN_len]; exact h), encN_at Pr h]
  · rw [if_neg e]
    unfold encTo
    by_cases e2 : i < k
    · rw [List.getElem?_append_left (by rw [List.length_take, encN_len]; omega), List.getElem?_append_left (by rw [List.length_take, encN_len]; omega), List.getElem?_take, List.getElem?_take, if_pos e2, if_pos (by omega)]
    · rw [List.getElem?_append_right (by rw [List.length_take, encN_len]; omega), List.getElem?_append_right (by rw [List.length_take, encN_len]; omega), List.getElem?_drop, List.getElem?_drop]
      congr 1
      rw [List.length_take, List.length_take, encN_len]; omega

attribute [local go_sem] Oper.semAt_some

/-- what a round of the caller keeps: all but the caller's own blocks n0 .. n1 and block b -/
structure KB (n0 n1 m b : Nat) (A B : World) : Prop where
  size : A.heap.size ≤ B.heap.size
  block : ∀ j, j < m → (j < n0 ∨ n1 ≤ j) → j ≠ b → B.heap[j]? = A.heap[j]?
theorem KB.refl (n0 n1 m b : Nat) (A : World) : KB n0 n1 m b A A := ⟨Nat.le_refl _, fun _ _ _ _ => rfl⟩
theorem KB.trans {n0 n1 m b : Nat} {A B C : World} (h : KB n0 n1 m b A B) (k : KB n0 n1 m b B C) : KB n0 n1 m b A C := ⟨Nat.le_trans h.size k.size, fun j h1 h2 h3 => (k.block j h1 h2 h3).trans (h.block j h1 h2 h3)⟩
theorem KB.of_below {n0 n1 m b : Nat} {A B : World} (h : Below m A B) : KB n0 n1 m b A B := ⟨h.size, fun j h1 _ _ => h.block j h1⟩
theorem KB.set {n0 n1 m b : Nat} (A : World) (v : Value) : KB n0 n1 m b A (A.setCell ⟨b, 0, none⟩ v) :=
  ⟨by show A.heap.size ≤ (A.heap.modify _ _).size; rw [Array.size_modify]; exact Nat.le_refl _, fun j _ _ hj => Below.heap_setCell A ⟨b, 0, none⟩ v j (by intro e; exact hj e)⟩
theorem KB.own {n0 n1 m b p o : Nat} (A : World) (v : Value) (h0 : n0 ≤ p) (h1 : p < n1) : KB n0 n1 m b A (A.setCell ⟨p, o, none⟩ v) :=
  ⟨by show A.heap.size ≤ (A.heap.modify _ _).size; rw [Array.size_modify]; exact Nat.le_refl _, fun j _ hj _ => Below.heap_setCell A ⟨p, o, none⟩ v j (by intro e; simp only at e; omega)⟩
theorem KB.put {n0 n1 m b : Nat} (A : World) (l : Nat) (o : Obj) (h : m ≤ l) : KB n0 n1 m b A (A.putObj l o) := ⟨by simp, fun j hj _ _ => World.putObj_heap_other (by omega)⟩
theorem KB.cell {n0 n1 m b : Nat} {A B : World} (h : KB n0 n1 m b A B) {p o : Nat} (hp : p < m) (h1 : p < n0 ∨ n1 ≤ p) (h2 : p ≠ b) : B.cell? ⟨p, o, none⟩ = A.cell? ⟨p, o, none⟩ := World.cell?_of_block (w := A) (a := ⟨p, o, none⟩) (h.block p hp h1 h2)

/-- the same, and the iterator's cell too -/
def KP (n0 n1 m b : Nat) (A B : World) : Prop := KB n0 n1 m b A B ∧ B.heap[b]? = A.heap[b]?
theorem KP.trans {n0 n1 m b : Nat} {A B C : World} (h : KP n0 n1 m b A B) (k : KP n0 n1 m b B C) : KP n0 n1 m b A C := ⟨h.1.trans k.1, k.2.trans h.2⟩

theorem keys_is (w : World) (X : Nat) (o : ByteArray) :
    Calls Tryz.prog 164 #[.pointer (some ⟨X, 0, none⟩), .string o] w fun e w' => e = .returned (.func (.func 228) #[] #[.pointer (some ⟨w.heap.size, 0, none⟩), .pointer (some ⟨w.heap.size + 1, 0, none⟩)]) ∧ w' = (w.alloc (.cells #[.pointer (some ⟨X, 0, none⟩)] 166)).alloc (.cells #[.string o] 9) := by
  go_enter Tryz.func164, Tryz.ntmps164
  go_wp2_with fail
  go_ret
  exact ⟨rfl, rfl⟩

/-- what the iterator's region of a step keeps -/
def Cel3 (Ba X : Nat) (g0 g1 : Value) (W : World) : Prop := W.cell? ⟨Ba, 0, none⟩ = some (.pointer (some ⟨X, 0, none⟩)) ∧ W.cell? ⟨X, 0, none⟩ = some g0 ∧ W.cell? ⟨X, 1, none⟩ = some g1
theorem cel3_set {Ba X b : Nat} {g0 g1 v : Value} {W : World} (h1 : Ba ≠ b) (h2 : X ≠ b) (h : W.cell? ⟨Ba, 0, none⟩ = some (.pointer (some ⟨X, 0, none⟩)) ∧ W.cell? ⟨X, 0, none⟩ = some g0 ∧ W.cell? ⟨X, 1, none⟩ = some g1) :
    (W.setCell ⟨b, 0, none⟩ v).cell? ⟨Ba, 0, none⟩ = some (.pointer (some ⟨X, 0, none⟩)) ∧ (W.setCell ⟨b, 0, none⟩ v).cell? ⟨X, 0, none⟩ = some g0 ∧ (W.setCell ⟨b, 0, none⟩ v).cell? ⟨X, 1, none⟩ = some g1 := by
  have e1 : ∀ j, (W.setCell ⟨b, 0, none⟩ v).cell? ⟨Ba, j, none⟩ = W.cell? ⟨Ba, j, none⟩ := fun j => World.cell?_of_block (w := W) (a := ⟨Ba, j, none⟩) (Below.heap_setCell W ⟨b, 0, none⟩ v Ba (by intro e; exact h1 e))
  have e2 : ∀ j, (W.setCell ⟨b, 0, none⟩ v).cell? ⟨X, j, none⟩ = W.cell? ⟨X, j, none⟩ := fun j => World.cell?_of_block (w := W) (a := ⟨X, j, none⟩) (Below.heap_setCell W ⟨b, 0, none⟩ v X (by intro e; exact h2 e))
  rw [e1, e2, e2]; exact h

set_option maxHeartbeats 4000000 in
set_option maxRecDepth 100000 in
theorem keys1_seq (n L Ba b X n0 n1 : Nat) (w : World) (g0 : Value) (p : ByteArray) (S : Nat → ByteArray) (K : Nat → List Nat) (Rdy : World → Prop) (I : Nat → World → Prop) (mu : World → Nat)
    (hb : b < w.heap.size) (hX : X < w.heap.size) (hBa : Ba < w.heap.size) (hbX : X ≠ b) (hbB : Ba ≠ b) (h1X : n1 ≤ X) (h1B : n1 ≤ Ba) (h1b : n1 ≤ b)
    (hca : w.cell? ⟨Ba, 0, none⟩ = some (.pointer (some ⟨X, 0, none⟩))) (hcb : w.cell? ⟨b, 0, none⟩ = some (.string (S 0))) (hfb : w.frozen? ⟨b, 0, none⟩ = false)
    (hx0 : w.cell? ⟨X, 0, none⟩ = some g0) (hx1 : w.cell? ⟨X, 1, none⟩ = some (.string p))
    (hR0 : Rdy w) (hR : ∀ A B, Rdy A → KB n0 n1 w.heap.size b A B → Rdy B)
    (hst : ∀ W k, Rdy W → Calls Tryz.prog 229 #[.agg #[g0, .string p], .string (S k)] W fun e w' => e = .returned (.string (S (k + 1))) ∧ Below W.heap.size W w')
    (hpm : ∀ W k, Rdy W → Calls Tryz.prog 230 #[.pointer (some ⟨X, 0, none⟩), .string (S k)] W fun e w' => e = .returned (.agg (pC (K k))) ∧ Below W.heap.size W w')
    (hmu : ∀ k W, I k W → k + mu W = L) :
    SeqN Fence.wide n Tryz.prog 228 #[.pointer (some ⟨Ba, 0, none⟩), .pointer (some ⟨b, 0, none⟩)] (fun k => #[.string (S (k + 1)), .agg (pC (K (k + 1)))]) (KP n0 n1 w.heap.size b) b I w := by
  intro l J Jx W hW hWs hJ hJI hY hJ0
  have hkw : KB n0 n1 w.heap.size b w W := KB.of_below hW
  have hcb1 : W.cell? ⟨b, 0, none⟩ = some (.string (S 0)) := (hW.cell (p := ⟨b, 0, none⟩) hb).trans hcb
  have hfb1 : W.frozen? ⟨b, 0, none⟩ = false := (hW.frozen (p := ⟨b, 0, none⟩) hb).trans hfb
  -- what the cells hold in each world that keeps
  have hce : ∀ W', KB n0 n1 w.heap.size b w W' → W'.cell? ⟨Ba, 0, none⟩ = some (.pointer (some ⟨X, 0, none⟩)) ∧ W'.cell? ⟨X, 0, none⟩ = some g0 ∧ W'.cell? ⟨X, 1, none⟩ = some (.string p) := fun W' h =>
    ⟨(h.cell hBa (.inr h1B) hbB).trans hca, (h.cell hX (.inr h1X) hbX).trans hx0, (h.cell hX (.inr h1X) hbX).trans hx1⟩
  have HCE := Lib.hid hce; have HR0 := Lib.hid hR0; have HR := Lib.hid hR; have HST := Lib.hid hst; have HPM := Lib.hid hpm; have HMU := Lib.hid hmu; have HKW := Lib.hid hkw; have HJ := Lib.hid hJ; have HJI := Lib.hid hJI; have HY := Lib.hid hY; have HJ0 := Lib.hid hJ0
  have HN := Lib.hid (show b < w.heap.size ∧ X ≠ b ∧ Ba ≠ b from ⟨hb, hbX, hbB⟩)
  clear hce hR0 hR hst hpm hmu hkw hJ hJI hY hJ0 hW hca hcb hfb hx0 hx1 hb hX hBa hbX hbB h1X h1B h1b
  refine callsIn_of_wp Tryz.func228 rfl trivial ?_ rfl
  simp only [Tryz.ntmps228, List.size_toArray, List.length_cons, List.length_nil, Nat.reduceAdd, Nat.reduceSub, Array.replicate_succ, Array.replicate_zero, List.push_toArray, List.append_toArray, List.nil_append, List.cons_append]
  gi_wp2_with fail
  gi_loopw [4] (fun _ wr => ∃ k : Nat, Hid (J k wr) ∧ Hid (KB n0 n1 w.heap.size b w wr) ∧ wr.cell? ⟨b, 0, none⟩ = some (.string (S k)) ∧ wr.frozen? ⟨b, 0, none⟩ = false) (fun _ wr => mu wr)
  case atStart => exact ⟨0, HJ0, HKW, hcb1, hfb1⟩
  case round =>
    obtain ⟨k, HJk, HKB, cb, fb⟩ := hrel
    clear HJ0 HKW hcb1 hfb1
    obtain ⟨hbl, hnX, hnB⟩ := HN.out
    have hbr : b < wr.heap.size := Nat.lt_of_lt_of_le hbl HKB.out.size
    have hsz := HKB.out.size
    have hrd := HR.out _ _ HR0.out HKB.out
    have hdw : Below wr.heap.size wr wr.drew := (Below.refl _ _).drew
    have HS1 := Lib.hid (HST.out wr.drew k (HR.out _ _ hrd (KB.of_below (hdw.mono hsz))))
    have hs : ∀ W' : World, Below wr.heap.size wr W' → (W'.cell? ⟨Ba, 0, none⟩ = some (.pointer (some ⟨X, 0, none⟩)) ∧ W'.cell? ⟨X, 0, none⟩ = some g0 ∧ W'.cell? ⟨X, 1, none⟩ = some (.string p)) := fun W' h => HCE.out W' (HKB.out.trans (KB.of_below (h.mono hsz)))
    have HS := Lib.hid hs
    have HBR := Lib.hid hbr; have HSZ := Lib.hid hsz; have HNE := Lib.hid (And.intro hnX hnB)
    clear hs hrd hbr hsz hbl hnX hnB
    obtain ⟨ca, cx, cp⟩ := HS.out wr (Below.refl _ _)
    gi_wp2_with fail
    refine wpIn_wide.2 ?_
    refine wp_region_still_tail 6 (by kernel_rfl) (by kernel_rfl) ?_
    simp only [List.take_succ_cons, List.take_zero, List.drop_succ_cons, List.drop_zero]
    change wpStill _ _ wr.drew (fun a' => wpList _ _ _ _ a' wr.drew) _ _
    have CB := Lib.hid cb
    replace ca : wr.drew.cell? ⟨Ba, 0, none⟩ = some (.pointer (some ⟨X, 0, none⟩)) := ca
    replace cx : wr.drew.cell? ⟨X, 0, none⟩ = some g0 := cx
    replace cp : wr.drew.cell? ⟨X, 1, none⟩ = some (.string p) := cp
    replace cb : wr.drew.cell? ⟨b, 0, none⟩ = some (.string (S k)) := cb
    obtain ⟨wq, hwq⟩ : ∃ wq, wq = wr.drew := ⟨_, rfl⟩
    rw [← hwq] at ca cx cp cb HS1 hdw ⊢
    have HWQ := Lib.hid hwq
    clear hwq
    repeat still_step
    refine wpStill_nil ?_
    go_wp2_with fail
    refine HS1.out.mono ?_
    rintro _ w1 ⟨rfl, hb1'⟩
    have hb1 : Below wr.heap.size wr w1 := by rw [HWQ.out] at hb1'; exact below_of_drew hb1'
    have cb1 : w1.cell? ⟨b, 0, none⟩ = some (.string (S k)) := (hb1.cell (p := ⟨b, 0, none⟩) HBR.out).trans CB.out
    have fb1 := (hb1.frozen (p := ⟨b, 0, none⟩) HBR.out).trans fb
    clear hb1'
    go_wp2_with fail
    obtain ⟨hbl, hnX, hnB⟩ := HN.out
    obtain ⟨w2, hw2⟩ : ∃ w2, w2 = w1.setCell ⟨b, 0, none⟩ (.string (S (k + 1))) := ⟨_, rfl⟩
    have hk2 : KB n0 n1 w.heap.size b w w2 := by rw [hw2]; exact (HKB.out.trans (KB.of_below (hb1.mono HSZ.out))).trans (KB.set _ _)
    have hbut : But b wr w2 := by rw [hw2]; exact (But.of_below hb1).trans (But.of_set w1 0 _)
    have cb2 : w2.cell? ⟨b, 0, none⟩ = some (.string (S (k + 1))) := by rw [hw2]; exact World.cell?_setCell_same' _ _ _ (by rw [cb1]; rfl)
    have fb2 : w2.frozen? ⟨b, 0, none⟩ = false := by rw [hw2, World.frozen?_setCell]; exact fb1
    rw [← hw2]
    clear hw2 cb1 fb1 hb1 cb fb hdw HS1 HS ca cx cp HWQ
    have hsz2 := hk2.size
    have hbd : Below w2.heap.size w2 w2.drew := (Below.refl _ _).drew
    have hJ2 : ∀ w3, Below w2.heap.size w2 w3 → J k w3 := fun w3 h3 => HJ.out k wr w3 HJk.out (hbut.trans (But.of_below h3))
    have HP := Lib.hid (HPM.out w2.drew (k + 1) (HR.out _ _ HR0.out (hk2.trans (KB.of_below (hbd.mono hsz2)))))
    have hyy : ∀ w3, Below w2.heap.size w2 w3 → ∃ fn tmps assign body, (Instr.yield l #[.string (S (k + 1)), .agg (pC (K (k + 1)))]).run Tryz.prog w3 = .ok (.round l fn tmps assign body) w3 ∧ RoundIn Fence.wide (n - 1) Tryz.prog l fn tmps assign body w3 (fun e W' => ∃ c : Bool, e = .returned (.bool c) ∧ Hid ((c = true ∧ J (k + 1) W' ∧ KP n0 n1 w.heap.size b w3 W') ∨ (c = false ∧ Jx (k + 1) W'))) := fun w3 h3 => by
      obtain ⟨fn, tmps, assign, body, hy, hr⟩ := HY.out k w3 (hJ2 w3 h3)
      refine ⟨fn, tmps, assign, body, hy, hr.mono ?_⟩
      rintro e W' (⟨rfl, h1, h2⟩ | ⟨rfl, h1⟩)
      · exact ⟨true, rfl, Lib.hid (.inl ⟨rfl, h1, h2⟩)⟩
      · exact ⟨false, rfl, Lib.hid (.inr ⟨rfl, h1⟩)⟩
    have HYY := Lib.hid hyy; have HK2 := Lib.hid hk2; have HB2 := Lib.hid (Nat.lt_of_lt_of_le hbl hsz2); have HZ2 := Lib.hid hsz2
    obtain ⟨ca2, cx2, cp2⟩ := HCE.out w2 hk2
    have HCA := Lib.hid (fun (w3 : World) (h3 : Below w2.heap.size w2 w3) => (HCE.out w3 (hk2.trans (KB.of_below (h3.mono hsz2)))).1)
    clear hyy hk2 hJ2 hbut hbl hnX hnB hsz2 hbd cx2 cp2
    gi_wp2_with fail
    gi_region_with (first | (refine ⟨trivial, fun h => (by simp [Fence.wide] at h), (callsIn_wide.2 HP.out).mono ?_⟩; rintro _ w3 ⟨rfl, hb3'⟩; have hb3 : Below w2.heap.size w2 w3 := below_of_drew hb3'; have cb3 := (hb3.cell (p := ⟨b, 0, none⟩) HB2.out).trans cb2; obtain ⟨fn, tmps, assign, body, hy, hr⟩ := HYY.out w3 hb3; clear hb3') | (refine ⟨fun h => (by simp [Fence.wide] at h), hr.mono ?_⟩; rintro _ W' ⟨c, rfl, hres⟩) | fail)
    all_goals
      cases c with
      | true =>
        have hj := hres.out.elim (fun h => h.2) (fun h => absurd h.1 (by decide))
        have hkb : KB n0 n1 w.heap.size b w W' := (HK2.out.trans (KB.of_below (hb3.mono HZ2.out))).trans hj.2.1
        have hbb := hj.2.2
        have hcc : W'.cell? ⟨b, 0, none⟩ = some (.string (S (k + 1))) := (World.cell?_of_block (w := w3) (a := ⟨b, 0, none⟩) hbb).trans cb3
        have hff : W'.frozen? ⟨b, 0, none⟩ = false := (World.frozen?_of_block (w := w3) (a := ⟨b, 0, none⟩) hbb).trans ((hb3.frozen (p := ⟨b, 0, none⟩) HB2.out).trans fb2)
        have HJN := Lib.hid hj.1; have HKN := Lib.hid hkb
        have hm1 := HMU.out k wr (HJI.out k wr HJk.out).1
        have hm2 := HMU.out (k + 1) W' (HJI.out (k + 1) W' hj.1).1
        have HM := Lib.hid (show mu W' < mu wr by omega)
        clear hj hkb hbb hm1 hm2 hres hr hy
        gi_wp2_with fail
        go_roundw
        case rel => exact ⟨_, _, _, _, _, _, _, _, _, _, _, _, _, _, ⟨k + 1, HJN, HKN, hcc, hff⟩, rfl⟩
        case measure => exact HM.out
      | false =>
        have hj := Lib.hid (hres.out.elim (fun h => absurd h.1 (by decide)) (fun h => h.2))
        clear hres hr hy
        gi_wp2_with fail
        refine bodyPost_ret (results_none rfl _ _ _) rfl ?_
        exact ⟨⟨_, rfl⟩, k + 1, hj.out⟩

attribute [local go_sem] Oper.semAt_some

set_option maxHeartbeats 4000000 in
set_option maxRecDepth 100000 in
theorem encipher_no (w : World) (A : Option Addr) (cap : Nat) (rs : List (ByteArray × ByteArray)) (p g l o x : ByteArray) (h : Rd w w.heap.size A (rotV rs)) (hc : rs.length ≤ cap) (hl : rs.length ≤ 100) (hn : ¬ (SetV rs p g l o ∧ wv (tl x) = true)) :
    Calls Tryz.prog 191 #[.agg #[.slice A rs.length cap, .string p, .string g, .string l], .string o, .string x] w fun e w' => e = .returned (.tuple #[.string ⟨#[]⟩, .string ⟨#[]⟩, .bool false]) ∧ Below w.heap.size w w' := by
  obtain ⟨w0, hw0⟩ : ∃ w0, w0 = (w.alloc (.cells #[.slice A rs.length cap, .string p, .string g, .string l] 29)).alloc (.cells #[.string o] 9) := ⟨_, rfl⟩
  have hb0 : Below w.heap.size w w0 := by rw [hw0]; exact ((Below.refl _ _).alloc (Nat.le_refl _) _).alloc (by simp) _
  have hs0 := (SB.made w #[.slice A rs.length cap, .string p, .string g, .string l] 29).below ((Below.refl _ _).alloc (Nat.le_refl _) (.cells #[.string o] 9))
  rw [← hw0] at hs0
  have hwc : w0.cell? ⟨w.heap.size + 1, 0, none⟩ = some (.string o) := by rw [hw0]; simp
  by_cases hv : SetV rs p g l o
  · have hwx : wv (tl x) = false := by
      cases e : wv (tl x) with
      | false => rfl
      | true => exact absurd ⟨hv, e⟩ hn
    have hcon := settingValid_any w0 A cap rs p g l o true ((h.below hb0).mono hb0.size) hc hl (by simp [hv])
    obtain ⟨M, hM⟩ : ∃ M, M = rs.length := ⟨_, rfl⟩
    have HB0 := Lib.hid hb0; have HCON := Lib.hid hcon; have HX := Lib.hid hwx
    rw [← hM] at hw0 HCON hs0 ⊢
    obtain ⟨P, hP⟩ : ∃ P, P = w.heap.size := ⟨_, rfl⟩
    rw [← hP] at hs0 hwc
    obtain ⟨⟨c0, c1, c2, c3⟩, _⟩ := hs0.all4
    clear h hb0 hcon hM hc hl hs0 hn hv hwx
    go_enter Tryz.func191, Tryz.ntmps191
    go_wp2_with fail
    rw [← hw0]
    rw [← hP]
    clear hw0 hP
    go_wp2_with fail
    refine HCON.out.mono ?_
    rintro _ w1 ⟨rfl, hb1⟩
    have HB1 := Lib.hid (HB0.out.trans (hb1.mono HB0.out.size))
    clear hb1 c0 c1 c2 c3
    go_wp2_with fail
    refine (wordValid_is _ false _ HX.out).mono ?_
    rintro _ _ ⟨rfl, rfl⟩
    go_wp2_with fail
    go_ret3
    exact ⟨rfl, HB1.out⟩
  · have hcon := settingValid_any w0 A cap rs p g l o false ((h.below hb0).mono hb0.size) hc hl (by simp [hv])
    obtain ⟨M, hM⟩ : ∃ M, M = rs.length := ⟨_, rfl⟩
    have HB0 := Lib.hid hb0; have HCON := Lib.hid hcon
    rw [← hM] at hw0 HCON hs0 ⊢
    obtain ⟨P, hP⟩ : ∃ P, P = w.heap.size := ⟨_, rfl⟩
    rw [← hP] at hs0 hwc
    obtain ⟨⟨c0, c1, c2, c3⟩, _⟩ := hs0.all4
    clear h hb0 hcon hM hc hl hs0 hn hv
    go_enter Tryz.func191, Tryz.ntmps191
    go_wp2_with fail
    rw [← hw0]
    rw [← hP]
    clear hw0 hP
    go_wp2_with fail
    refine HCON.out.mono ?_
    rintro _ w1 ⟨rfl, hb1⟩
    have HB1 := Lib.hid (HB0.out.trans (hb1.mono HB0.out.size))
    clear hb1 c0 c1 c2 c3
    go_wp2_with fail
    go_ret3
    exact ⟨rfl, HB1.out⟩

theorem Buf.keep {W W' : World} {g : Nat} {l : List UInt8} (h : Buf W g l) (e : W'.heap[g]? = W.heap[g]?) : Buf W' g l := by
  obtain ⟨cs, m, hb, r⟩ := h
  exact ⟨cs, m, e.trans hb, r⟩
theorem AsmTo.keep {w w' : World} {X : Nat} {m : List Value} {q r : List Nat} {rs : List (ByteArray × ByteArray)} {k j : Nat} (h : AsmTo w X m q r rs k j) (e : w'.heap[X]? = w.heap[X]?) : AsmTo w' X m q r rs k j := by
  have hc : ∀ i, w'.cell? ⟨X, i, none⟩ = w.cell? ⟨X, i, none⟩ := fun i => World.cell?_of_block (w := w) (a := ⟨X, i, none⟩) e
  have hf : ∀ i, w'.frozen? ⟨X, i, none⟩ = w.frozen? ⟨X, i, none⟩ := fun i => World.frozen?_of_block (w := w) (a := ⟨X, i, none⟩) e
  have hr : ∀ {o : Nat} {cs : List Value}, w.rangeAt X o cs → w'.rangeAt X o cs := fun h j v hv => by rw [hc]; exact h j v hv
  exact ⟨hr h.m, hr h.pl, hr h.re, fun i c h1 h2 => hr (h.tu i c h1 h2), fun j hj => by rw [hc, hf]; exact h.th j hj⟩
/-- the caller's own cells after k letters -/
structure EncAt (w W : World) (P D XZ cq : Nat) (us : List Nat) (Pr : Nat → List Nat) (S : Nat → ByteArray) (k : Nat) : Prop where
  buf : Buf W D ((encTo Pr us k).map letter)
  out : SB W (D + 1) #[.slice (some ⟨D, 0, none⟩) XZ cq] 22
  ix : SB W (D + 2) #[.int .i64 k] 3
  win : SB W (P + 1) #[.string (S k)] 9
  bel : Below P w W
theorem EncAt.to {w A B : World} {P D XZ cq k m b : Nat} {us : List Nat} {Pr : Nat → List Nat} {S : Nat → ByteArray} (h : EncAt w A P D XZ cq us Pr S k) (hb : ButTo m b A B) (hP : P + 2 ≤ D) (hD : D + 2 < m) (hn : D + 2 < b) : EncAt w B P D XZ cq us Pr S k :=
  ⟨h.buf.keep (hb.block D (by omega) (by omega)), (hb.block (D + 1) (by omega) (by omega)).trans h.out, (hb.block (D + 2) (by omega) (by omega)).trans h.ix, (hb.block (P + 1) (by omega) (by omega)).trans h.win, h.bel.trans (hb.below (by omega) (by omega))⟩
theorem EncAt.below {w A B : World} {P D XZ cq k : Nat} {us : List Nat} {Pr : Nat → List Nat} {S : Nat → ByteArray} (h : EncAt w A P D XZ cq us Pr S k) (hb : Below A.heap.size A B) (hP : P + 2 ≤ D) : EncAt w B P D XZ cq us Pr S k :=
  ⟨h.buf.keep (hb.block D h.buf.lt), h.out.below hb, h.ix.below hb, h.win.below hb, h.bel.trans (hb.mono (by have := h.buf.lt; omega))⟩
/-- how many letters are still to come, read off the world -/
def encMu (L D : Nat) (W : World) : Nat := match W.cell? ⟨D + 2, 0, none⟩ with
  | some (.int _ z) => L - z.toNat
  | _ => 0
theorem encMu_at {w W : World} {P D XZ cq k L : Nat} {us : List Nat} {Pr : Nat → List Nat} {S : Nat → ByteArray} (h : EncAt w W P D XZ cq us Pr S k) : encMu L D W = L - k := by
  unfold encMu
  rw [h.ix.cell 0 _ rfl]
  simp
theorem keeps_below {W W' : World} (h : Below W.heap.size W W') : KeepsOthers W W' := ⟨h.size, fun k o hk _ => (h.block k (Array.getElem?_eq_some_iff.1 hk).1).trans hk⟩
theorem KP.own {n0 n1 m b p o : Nat} (A : World) (v : Value) (h0 : n0 ≤ p) (h1 : p < n1) (hb : p ≠ b) : KP n0 n1 m b A (A.setCell ⟨p, o, none⟩ v) := ⟨KB.own A v h0 h1, Below.heap_setCell A ⟨p, o, none⟩ v b (by intro e; exact hb e.symm)⟩
theorem KP.of_below {n0 n1 m b : Nat} {A B : World} (h : Below A.heap.size A B) (hm : m ≤ A.heap.size) (hb : b < m) : KP n0 n1 m b A B := ⟨KB.of_below (h.mono hm), h.block b (by omega)⟩
theorem KP.put {n0 n1 m b : Nat} (A : World) (l : Nat) (o : Obj) (h : m ≤ l) (hb : b < m) : KP n0 n1 m b A (A.putObj l o) := ⟨KB.put A l o h, World.putObj_heap_other (by omega)⟩
theorem bel_eq {a W w4 : World} {o1 o2 : Obj} (h : Below a.heap.size a W) (e : w4 = (W.alloc o1).alloc o2) : Below a.heap.size a w4 := by
  rw [e]; exact (h.alloc h.size _).alloc (by have := h.size; simp; omega) _
/-- a round's three stores -/
theorem EncAt.step {w W Wq : World} {P D XZ cq k x y n0m b : Nat} {us : List Nat} {Pr : Nat → List Nat} {S : Nat → ByteArray} (h : EncAt w W P D XZ cq us Pr S k) (hq : Wq = W.drew) (hk : k < us.length) (hx : x = nth us k) (hy : y = nth (Pr (k + 1)) x) (hP : P + 2 ≤ D) (hm : n0m ≤ W.heap.size) (hb : b < n0m) (hbD : D + 3 ≤ b) :
    KeepsOthers W (((Wq.setCell ⟨D, k, none⟩ (.int .u8 (letter y).toNat)).setCell ⟨P + 1, 0, none⟩ (.string (S (k + 1)))).setCell ⟨D + 2, 0, none⟩ (.int .i64 ((k : Int) + 1))) ∧
    KP P (D + 3) n0m b W (((Wq.setCell ⟨D, k, none⟩ (.int .u8 (letter y).toNat)).setCell ⟨P + 1, 0, none⟩ (.string (S (k + 1)))).setCell ⟨D + 2, 0, none⟩ (.int .i64 ((k : Int) + 1))) ∧
    EncAt w (((Wq.setCell ⟨D, k, none⟩ (.int .u8 (letter y).toNat)).setCell ⟨P + 1, 0, none⟩ (.string (S (k + 1)))).setCell ⟨D + 2, 0, none⟩ (.int .i64 ((k : Int) + 1))) P D XZ cq us Pr S (k + 1) := by
  subst hq
  have hbq : Below W.heap.size W W.drew := (Below.refl _ _).drew
  have E1 := h.below hbq hP
  have hl : ((encTo Pr us k).map letter).set k (letter y) = (encTo Pr us (k + 1)).map letter := by
    rw [← List.map_set, hy, hx, nth_eq hk, encTo_next Pr hk]
  refine ⟨(((KeepsOthers.drew _).trans (KeepsOthers.setCell _ _ _)).trans (KeepsOthers.setCell _ _ _)).trans (KeepsOthers.setCell _ _ _), ?_, ?_, ?_, ?_, ?_, ?_⟩
  · exact (((KP.of_below hbq hm hb).trans (KP.own _ _ (by omega) (by omega) (by omega))).trans (KP.own _ _ (by omega) (by omega) (by omega))).trans (KP.own _ _ (by omega) (by omega) (by omega))
  · have h1 := E1.buf.set_ (j := k) (letter y)
    rw [hl] at h1
    exact (h1.keep (Below.heap_setCell _ ⟨P + 1, 0, none⟩ _ D (by intro e; simp only at e; omega))).keep (Below.heap_setCell _ ⟨D + 2, 0, none⟩ _ D (by intro e; simp only at e; omega))
  · exact ((E1.out.far (by omega) _ _).far (by omega) _ _).far (by omega) _ _
  · exact ((E1.ix.far (by omega) _ _).far (by omega) _ _).put 0 _
  · exact ((E1.win.far (by omega) _ _).put 0 _).far (by omega) _ _
  · exact ((E1.bel.setCell (p := ⟨D, k, none⟩) (by simp only; omega) _).setCell (p := ⟨P + 1, 0, none⟩) (by simp only; omega) _).setCell (p := ⟨D + 2, 0, none⟩) (by simp only; omega) _
theorem bel_put {B l : Nat} {a W : World} (h : Below B a W) (hl : B ≤ l) (o : Obj) : Below B a (W.putObj l o) :=
  ⟨h.os, h.tape, h.output, by simp; exact h.size, fun k hk => (World.putObj_heap_other (by omega)).trans (h.block k hk)⟩
theorem heap_alloc_new' (w : World) (o : Obj) : (w.alloc o).heap[w.heap.size]? = some o := World.alloc_heap_new w o
set_option maxHeartbeats 4000000 in
set_option maxRecDepth 100000 in
theorem encipher_yes (w : World) (A : Option Addr) (cap : Nat) (rs : List (ByteArray × ByteArray)) (r q rg us : List Nat) (o : ByteArray) (h : Rd w w.heap.size A (rotV rs)) (hc : rs.length ≤ cap) (hv : SetV rs (pT r) (pT rg) (pT q) o) (hr : Prm r) (hri : invP r = r) (hq : Prm q) (hi : invP q = q) (hrg : rg.length = rs.length) (hrl : ∀ x ∈ rg, x < 10) (hu : ∀ x ∈ us, x < 10) (hul : us.length ≤ 200) :
    Calls Tryz.prog 191 #[.agg #[.slice A rs.length cap, .string (pT r), .string (pT rg), .string (pT q)], .string o, .string (pT us)] w fun e w' => e = .returned (.tuple #[.string (pT (encN (keyP q r rs rg o) us)), .string (stepW rs o us.length), .bool true]) ∧ Below w.heap.size w w' := by
  have hl3 := hv.1.1.1.2.1
  have hrv := hv.1.1.1.2.2.2
  have hz : o.size = rs.length := hv.2.1.trans hv.1.1.2.1
  have hwp : WinV rs (pT r) o := ⟨hv.1.1.1, hz, hv.2.2⟩
  have hwi : ∀ i, i < rs.length → Prm (wirP rs i) := fun i hi => (wir_ok hrv hi).1
  obtain ⟨w0, hw0⟩ : ∃ w0, w0 = (w.alloc (.cells #[.slice A rs.length cap, .string (pT r), .string (pT rg), .string (pT q)] 29)).alloc (.cells #[.string o] 9) := ⟨_, rfl⟩
  have hb0 : Below w.heap.size w w0 := by rw [hw0]; exact ((Below.refl _ _).alloc (Nat.le_refl _) _).alloc (by simp) _
  have hs0 := (SB.made w #[.slice A rs.length cap, .string (pT r), .string (pT rg), .string (pT q)] 29).below ((Below.refl _ _).alloc (Nat.le_refl _) (.cells #[.string o] 9))
  rw [← hw0] at hs0
  have hwb : SB w0 (w.heap.size + 1) #[.string o] 9 := by
    rw [hw0, show w.heap.size + 1 = (w.alloc (.cells #[.slice A rs.length cap, .string (pT r), .string (pT rg), .string (pT q)] 29)).heap.size by simp]
    exact heap_alloc_new' _ _
  have hrd0 := (h.below hb0).mono hb0.size
  have hcon := settingValid_any w0 A cap rs (pT r) (pT rg) (pT q) o true hrd0 hc (by omega) (by simp [hv])
  have hwx : wv (tl (pT us)) = true := pT_wv hu hul
  have hxz : (pT us).size = us.length := pT_size us
  have HB0 := Lib.hid hb0; have HCON := Lib.hid hcon; have HRD := Lib.hid hrd0; have HX := Lib.hid hwx; have HS0 := Lib.hid hs0; have HV := Lib.hid hv; have HQ := Lib.hid (And.intro (And.intro hr hri) (And.intro hq hi)); have HRG := Lib.hid (And.intro hrg hrl); have HU := Lib.hid (And.intro hu hul); have HC := Lib.hid (And.intro hc (And.intro hl3 hwp)); have HWI := Lib.hid hwi; have HRV := Lib.hid hrv; have HR0 := Lib.hid h
  have HXZ := Lib.hid hxz
  have HW0 := Lib.hid (show w.heap.size + 2 ≤ w0.heap.size by rw [hw0]; simp)
  clear h hb0 hcon hrd0 hwx hs0 hv hr hri hq hi hrg hrl hu hul hc hl3 hwp hwi hrv hz hxz
  generalize hXX : pT us = X at HX HXZ HCON hw0 ⊢
  have HXX := Lib.hid hXX; clear hXX
  obtain ⟨P, hP⟩ : ∃ P, P = w.heap.size := ⟨_, rfl⟩
  rw [← hP] at HS0 hwb
  have HWB := Lib.hid hwb
  have hwc := hwb.cell 0 _ rfl
  clear hwb
  obtain ⟨⟨c0, c1, c2, c3⟩, _⟩ := HS0.out.all4
  refine (callsIn_wide (n := 3)).1 ?_
  refine callsIn_of_wp_marks Tryz.func191 rfl trivial ?_ rfl
  simp only [Tryz.ntmps191, List.size_toArray, List.length_cons, List.length_nil, Nat.reduceAdd, Nat.reduceSub, Array.replicate_succ, Array.replicate_zero, List.push_toArray, List.append_toArray, List.nil_append, List.cons_append]
  refine wpIn_wide.2 ?_
  go_wp2_with fail
  rw [← hw0]
  rw [← hP]
  have HP := Lib.hid hP
  clear hw0 hP
  go_wp2_with fail
  refine HCON.out.mono ?_
  rintro _ w1 ⟨rfl, hb1⟩
  have HB1 := Lib.hid (HB0.out.trans (hb1.mono HB0.out.size)); have HRD1 := Lib.hid ((HRD.out.below hb1).mono hb1.size); have HS1 := Lib.hid (HS0.out.below hb1)
  have hz1 := Nat.le_trans HW0.out hb1.size
  obtain ⟨⟨d0, d1, d2, d3⟩, _⟩ := HS1.out.all4
  have hwb1 := HWB.out.below hb1
  have dc := hwb1.cell 0 _ rfl
  have HWB1 := Lib.hid hwb1
  have HZ1 := Lib.hid hz1
  clear hb1 c0 c1 c2 c3 hwc hz1 hwb1
  go_wp2_with fail
  refine (wordValid_is _ true _ HX.out).mono ?_
  rintro _ _ ⟨rfl, rfl⟩
  have hcv := Lib.run_convert_string_bytes (P := Tryz.prog) w1 9 22 5 X Tryz.underlying9 Tryz.underlying22 Tryz.underlying5
  obtain ⟨cq, hcq⟩ : ∃ cq, cq = grownCap w1 X.size 0 5 := ⟨_, rfl⟩
  rw [← hcq] at hcv
  have hbufd := Buf.made w1 X
  have hbd := below_made w1 X
  have hzd : (Lib.bytesWorld w1 5 X).heap.size = w1.heap.size + 1 := Lib.bytesWorld_size _ _ _
  obtain ⟨wd, hwd⟩ : ∃ wd, wd = Lib.bytesWorld w1 5 X := ⟨_, rfl⟩
  rw [← hwd] at hcv hbufd hbd hzd
  obtain ⟨D, hD⟩ : ∃ D, D = w1.heap.size := ⟨_, rfl⟩
  rw [← hD] at hcv hbufd hzd
  have HBD := Lib.hid hbd; have HBU := Lib.hid hbufd; have HZD := Lib.hid hzd; have HD := Lib.hid hD
  clear hcq hbd hbufd hzd hD hwd
  have hP1 : P + 2 ≤ w1.heap.size := by have := HP.out; have := HZ1.out; omega
  have hPD : P + 2 ≤ D := by have := HD.out; omega
  have HP1 := Lib.hid hP1; have HPD := Lib.hid hPD
  obtain ⟨O1, hO1⟩ : ∃ O1 : Obj, O1 = .cells #[.slice (some ⟨D, 0, none⟩) X.size cq] 22 := ⟨_, rfl⟩
  obtain ⟨O2, hO2⟩ : ∃ O2 : Obj, O2 = .cells #[.int .i64 0] 3 := ⟨_, rfl⟩
  obtain ⟨W2, hW2⟩ : ∃ W2, W2 = (wd.alloc O1).alloc O2 := ⟨_, rfl⟩
  have hbw : Below w1.heap.size w1 W2 := by rw [hW2]; exact (HBD.out.alloc (by rw [HZD.out]; have := HD.out; omega) _).alloc (by simp [HZD.out]; have := HD.out; omega) _
  have hz2 : W2.heap.size = D + 3 := by rw [hW2]; simp [HZD.out]
  have hbuf2 : Buf W2 D (tl X) := by
    obtain ⟨cs, m, hb, e⟩ := HBU.out
    refine ⟨cs, m, ?_, e⟩
    rw [hW2]
    exact block_kept3 (block_kept3 hb _) _
  have hout : W2.heap[D + 1]? = some O1 := by
    rw [hW2, ← HZD.out]
    exact block_kept3 (heap_alloc_new' wd O1) _
  have hib : W2.heap[D + 2]? = some O2 := by
    rw [hW2, show D + 2 = (wd.alloc O1).heap.size by simp [HZD.out]]
    exact heap_alloc_new' _ O2
  clear hP1 hPD
  have HBW := Lib.hid hbw; have HZ2 := Lib.hid hz2; have HBU2 := Lib.hid hbuf2; have HOUT := Lib.hid hout; have HIB := Lib.hid hib
  have HS2 := Lib.hid (HS1.out.below hbw); have HRD2 := Lib.hid ((HRD1.out.below hbw).mono hbw.size)
  obtain ⟨⟨k0, k1, k2, k3⟩, _⟩ := HS2.out.all4
  have hwb2 := HWB1.out.below hbw
  have kc := hwb2.cell 0 _ rfl
  have HWB2 := Lib.hid hwb2
  have HB2 := Lib.hid (HB1.out.trans (hbw.mono HB1.out.size))
  clear hbw hz2 hbuf2 hout hib hwb2
  have HZ3 := Lib.hid (show wd.heap.size = D + 1 from HZD.out)
  by_cases hus : X.size = 0
  · have hze : ((X.size : Int) == 0) = true := by rw [hus]; rfl
    have HUS := Lib.hid hus
    clear hus
    go_wp2_with fail
    rw [← hO1, ← hO2, ← hW2]
    clear hO1 hO2 hW2 d0 d1 d2 d3 dc
    go_region
    all_goals
      go_wp2_with fail
      have hn : us = [] := List.length_eq_zero_iff.1 (by have := HXZ.out; have := HUS.out; omega)
      refine ⟨.tuple #[.string ⟨#[]⟩, .string o, .bool true], by simp [results, Tryz.results191, go_sem], ?_⟩
      subst hn
      have e1 : (⟨#[]⟩ : ByteArray) = pT (encN (keyP q r rs rg o) []) := rfl
      exact ⟨by rw [← e1]; show _ = Ending.returned (.tuple #[.string ⟨#[]⟩, .string (stepW rs o 0), .bool true]); rw [stepW_zero], HB2.out.drew⟩
  · have hze : ((X.size : Int) == 0) = false := by rw [beq_eq_false_iff_ne]; omega
    have HUS := Lib.hid hus
    clear hus
    go_wp2_with fail
    rw [← hO1, ← hO2, ← hW2]
    clear hW2 d0 d1 d2 d3 dc
    have hs : ∀ W : World, Below W2.heap.size W2 W → (W.cell? ⟨P, 0, none⟩ = some (.slice A rs.length cap) ∧ W.cell? ⟨P, 1, none⟩ = some (.string (pT r)) ∧ W.cell? ⟨P, 2, none⟩ = some (.string (pT rg)) ∧ W.cell? ⟨P, 3, none⟩ = some (.string (pT q)) ∧ W.cell? ⟨P + 1, 0, none⟩ = some (.string o)) := fun W hbw => by
      obtain ⟨⟨v0, v1, v2, v3⟩, _⟩ := (HS2.out.below hbw).all4
      exact ⟨v0, v1, v2, v3, (hbw.cell (p := ⟨P + 1, 0, none⟩) (by have := HP1.out; have := HZ2.out; have := HPD.out; simp only; omega)).trans kc⟩
    have HS := Lib.hid hs
    have hbd : Below W2.heap.size W2 W2.drew := (Below.refl _ _).drew
    have HNA := Lib.hid (newAssembly_is W2.drew A cap rs (pT rg) q r ((HRD2.out.below hbd).mono hbd.size) HC.out.1 HC.out.2.1 HRV.out HQ.out.2.1 HQ.out.2.2 HQ.out.1.1 HQ.out.1.2)
    have HO := Lib.hid (And.intro hO1 hO2)
    clear hs k0 k1 k2 k3 kc hO1 hO2 hze
    generalize hT1 : pT r = T1 at HS2 HS HNA HC ⊢
    generalize hT2 : pT rg = T2 at HS2 HS HNA HRG ⊢
    generalize hT3 : pT q = T3 at HS2 HS HNA ⊢
    have HT := Lib.hid (And.intro hT1 (And.intro hT2 hT3))
    clear hT1 hT2 hT3
    go_region_held3 (fun W => W.cell? ⟨P, 0, none⟩ = some (.slice A rs.length cap) ∧ W.cell? ⟨P, 1, none⟩ = some (.string T1) ∧ W.cell? ⟨P, 2, none⟩ = some (.string T2) ∧ W.cell? ⟨P, 3, none⟩ = some (.string T3) ∧ W.cell? ⟨P + 1, 0, none⟩ = some (.string o)) (first | with_reducible assumption | with_reducible exact HS.out _ (by with_reducible assumption)) (first | (go_at_call 163; refine HNA.out.mono ?_; rintro _ w3 ⟨XA, rfl, hxl, has, hb3⟩; have b3 := bel_on (a := W2) (by assumption) hb3; clear hb3) | (go_at_call 164; refine (keys_is _ XA o).mono ?_; rintro _ w4 ⟨rfl, hw4⟩; have HW4 := Lib.hid hw4; have b4 := bel_eq b3 hw4; clear hw4) | fail)
    all_goals
      go_wp2_with fail
      rw [HZ3.out]
      rw [show D + 1 + 1 = D + 2 from rfl]
      have hW4 := HW4.out
      obtain ⟨Ba, hBa⟩ : ∃ Ba, Ba = w3.heap.size := ⟨_, rfl⟩
      rw [← hBa]
      have hPD := HPD.out
      have hz4 : w4.heap.size = Ba + 2 := by rw [hW4, hBa]; simp
      have hBD : D + 3 ≤ Ba := by have := b3.size; have := HZ2.out; omega
      have hXD : D + 3 ≤ XA := by have h1 : W2.drew.heap.size = W2.heap.size := rfl; have := HZ2.out; omega
      have has4 := has.below (bel_eq (Below.refl _ _) hW4)
      have hXB : XA < Ba := by
        obtain ⟨v, hv⟩ := Option.isSome_iff_exists.1 (has.th 0 (by decide)).1
        have := World.block_lt_of_cell? _ _ hv
        simp only at this; omega
      have hca : w4.cell? ⟨Ba, 0, none⟩ = some (.pointer (some ⟨XA, 0, none⟩)) := by
        have h1 : SB w4 Ba #[.pointer (some ⟨XA, 0, none⟩)] 166 := by rw [hW4, hBa]; exact block_kept3 (heap_alloc_new' _ _) _
        exact h1.cell 0 _ rfl
      have hsb : SB w4 (Ba + 1) #[.string o] 9 := by
        rw [hW4, show Ba + 1 = (w3.alloc (.cells #[.pointer (some ⟨XA, 0, none⟩)] 166)).heap.size by simp [hBa]]
        exact heap_alloc_new' _ _
      have hx0 : w4.cell? ⟨XA, 0, none⟩ = some (.slice A rs.length cap) := by have h1 := has4.m 0 _ rfl; rw [Nat.zero_add] at h1; exact h1
      have hx1 : w4.cell? ⟨XA, 1, none⟩ = some (.string T1) := by have h1 := has4.m 1 _ rfl; rw [Nat.zero_add] at h1; exact h1
      have HB4 := Lib.hid (HB2.out.trans (b4.mono HB2.out.size))
      have hP4 : P ≤ w4.heap.size := by omega
      have hrd4 : Rd w4 P A (rotV rs) := by have h1 := HR0.out.below HB4.out; rw [← HP.out] at h1; exact h1
      have hwo := HC.out.2.2.2.2
      have hoz := HC.out.2.2.2.1
      have hK : ∀ k, Prm (keyP q r rs rg o k) := fun k => keyP_prm HQ.out.2.1 HQ.out.1.1 HWI.out k
      have hul := HU.out.2
      have hxz := HXZ.out
      have hn0 : us.length ≠ 0 := by have := HUS.out; omega
      have hseq := keys1_seq 2 us.length Ba (Ba + 1) XA P (D + 3) w4 (.slice A rs.length cap) T1 (stepW rs o) (keyP q r rs rg o)
        (fun W => AsmTo W XA [.slice A rs.length cap, .string T1, .string T2, .string T3] q r rs rs.length 0 ∧ Rd W P A (rotV rs) ∧ P ≤ W.heap.size)
        (fun k W => EncAt w W P D X.size cq us (keyP q r rs rg o) (stepW rs o) k ∧ k < us.length) (encMu us.length D)
        (by omega) (by omega) (by omega) (by omega) (by omega) hXD hBD (by omega) hca (by rw [stepW_zero]; exact hsb.cell 0 _ rfl) (hsb.frozen 0) hx0 hx1
        ⟨has4, hrd4, hP4⟩
        (fun A' B h hk => ⟨h.1.keep (hk.block XA (by omega) (.inr hXD) (by omega)), h.2.1.keep (fun j hj => hk.block j (by omega) (.inl hj) (by omega)), Nat.le_trans h.2.2 hk.size⟩)
        (fun W k h => step_at W A cap rs T1 o (WhB.make (h.2.1.mono h.2.2) HC.out.1 HC.out.2.2) k)
        (fun W k h => by
          have h1 := h.1
          rw [← HT.out.2.1] at h1
          have h2 := permAt_is W XA A rs.length cap T1 T3 q r rg (wnd rs o k) rs HC.out.2.1 (by rw [wnd_len]; exact hoz) (wnd_lo hwo k) HRG.out.1 HRG.out.2 HQ.out.2.1 HQ.out.1.1 HWI.out h1
          rw [wnd_pT hwo] at h2
          exact h2)
        (fun k W h => by rw [encMu_at h.1]; have := h.2; omega)
      have hE0 : EncAt w w4 P D X.size cq us (keyP q r rs rg o) (stepW rs o) 0 := by
        refine ⟨?_, ?_, ?_, ?_, ?_⟩
        · rw [encTo_zero]
          have h1 := HBU2.out
          rw [← HXX.out, show tl (pT us) = us.map letter from tl_mk _] at h1
          exact h1.keep (b4.block D h1.lt)
        · have h1 : SB W2 (D + 1) #[.slice (some ⟨D, 0, none⟩) X.size cq] 22 := by have h2 := HOUT.out; rw [HO.out.1] at h2; exact h2
          exact h1.below b4
        · have h1 : SB W2 (D + 2) #[.int .i64 0] 3 := by have h2 := HIB.out; rw [HO.out.2] at h2; exact h2
          exact h1.below b4
        · rw [stepW_zero]; exact HWB2.out.below b4
        · have h1 := HB4.out; rw [← HP.out] at h1; exact h1
      have HSEQ := Lib.hid hseq; have HE0 := Lib.hid hE0; have HK := Lib.hid hK
      have HFA := Lib.hid (And.intro hPD (And.intro hBD (And.intro hz4 (And.intro hul hxz))))
      obtain ⟨S, hS⟩ : ∃ S, S = stepW rs o := ⟨_, rfl⟩
      obtain ⟨K, hKK⟩ : ∃ K, K = keyP q r rs rg o := ⟨_, rfl⟩
      rw [← hS, ← hKK] at HSEQ HE0
      rw [← hKK] at HK
      have HSS := Lib.hid (And.intro hS hKK); have HBA := Lib.hid hBa
      clear hS hKK hBa hz4
      clear hseq hE0 hK hPD hBD hXD hXB has4 has hca hsb hx0 hx1 hP4 hrd4 hwo hoz hul hxz hW4 hxl b3 b4 HS hbd
      refine (wpIn_wide (n := 3)).1 ?_
      refine wpIn_range_nat rfl (by omega) (gf := 228) (lb := #[.pointer (some ⟨Ba, 0, none⟩), .pointer (some ⟨Ba + 1, 0, none⟩)]) rfl trivial (enters_of Tryz.func228 (by kernel_rfl) rfl) (b := Ba + 1) (by rw [HFA.out.2.2.1]; omega)
        (fun k W => EncAt w W P D X.size cq us K S k ∧ k < us.length) (fun c k W => c = .exit 0 ∧ EncAt w W P D X.size cq us K S k ∧ k = us.length) HSEQ.out KP.trans
        (fun W l o' hl => KP.put W l o' hl (by rw [HFA.out.2.2.1]; omega)) (fun _ => rfl)
        (fun k A' B h hb => ⟨h.1.to hb HFA.out.1 (by rw [HFA.out.2.2.1]; have := HFA.out.2.1; omega) (by have := HFA.out.2.1; omega), h.2⟩)
        (fun c k A' B h hb => ⟨h.1, h.2.1.to hb HFA.out.1 (by rw [HFA.out.2.2.1]; have := HFA.out.2.1; omega) (by have := HFA.out.2.1; omega), h.2.2⟩)
        ⟨HE0.out, by omega⟩
        (fun k a' W => ∃ Bx, w4.heap.size ≤ Bx ∧ PB W Bx (K (k + 1)) ∧ a' = { tmps := #[.agg #[.slice A rs.length cap, .string T1, .string T2, .string T3], .string o, .string X, .pointer (some ⟨P, 0, none⟩), .pointer (some ⟨P + 1, 0, none⟩), undef, .string ⟨#[]⟩, .string ⟨#[]⟩, .bool false, .pointer (some ⟨D + 1, 0, none⟩), .pointer (some ⟨D + 2, 0, none⟩), .string (S (k + 1)), .pointer (some ⟨Bx, 0, none⟩), .agg #[.slice A rs.length cap, .string T1, .string T2, .string T3], .string o, .bool true, .bool false, .bool false, .string X, .bool true, .bool false, .bool false, .string X, .slice (some ⟨D, 0, none⟩) X.size cq, .slice (some ⟨D, 0, none⟩) X.size cq, .int .i64 X.size, .bool false, undef, .agg #[.slice A rs.length cap, .string T1, .string T2, .string T3], .pointer (some ⟨XA, 0, none⟩), .string o, .func (.func 228) #[] #[.pointer (some ⟨Ba, 0, none⟩), .pointer (some ⟨Ba + 1, 0, none⟩)], .string (S (k + 1)), .agg (pC (K (k + 1))), undef, undef, undef, undef, undef, undef, undef, undef, undef, undef, undef, undef, undef, undef, undef, undef, undef, undef, undef, undef, undef, undef], defers := [] })
        (fun k a' W j o o' h hj hc => by
          obtain ⟨Bx, h1, h2, h3⟩ := h
          refine ⟨Bx, h1, (World.putObj_heap_other ?_).trans h2, h3⟩
          intro e; subst e
          have h4 := h2.symm.trans hj
          injection h4 with h4
          rw [← h4] at hc
          exact absurd hc (by simp [Obj.isCells]))
        ?assign ?body ?stop
      case assign =>
        intro l k W K' hI hlt hK'
        have HI := Lib.hid hI; have HKK := Lib.hid hK'; have HLT := Lib.hid hlt
        clear hI hK' hlt
        have hpm := PB.made W
        have HPM := Lib.hid hpm; clear hpm
        have hql : (K (k + 1)).length = 10 := (HK.out (k + 1)).len
        have HQL := Lib.hid hql; clear hql
        refine wpIn_seq ?_
        refine region_list_round (by kernel_rfl) (fun _ _ h => h) ?_
        go_wp2_with fail
        refine region_list_round (by kernel_rfl) (fun _ _ h => h) ?_
        go_wp2_with (first | (refine wpList_store_row rfl 101 _ _ rfl W.heap.size (pC (K (k + 1))) rfl rfl _ _ HPM.out (permSize HQL.out) (by rw [pC_size, pC_size, HQL.out]; rfl) (pC_one _) ?_))
        have hb' : Below W.heap.size W ((W.alloc (.cells #[.int .u8 0, .int .u8 0, .int .u8 0, .int .u8 0, .int .u8 0, .int .u8 0, .int .u8 0, .int .u8 0, .int .u8 0, .int .u8 0] 101)).setRow W.heap.size (pC (K (k + 1)))) := below_setRow ((Below.refl _ _).alloc (Nat.le_refl _) _) (Nat.le_refl _) _
        exact HKK.out _ _ (keeps_below hb') (KP.of_below hb' (Nat.le_of_lt HLT.out) (by rw [HFA.out.2.2.1]; omega)) ⟨HI.out.1.below hb' HFA.out.1, HI.out.2⟩ ⟨W.heap.size, Nat.le_of_lt HLT.out, HPM.out.row _, rfl⟩
      case body =>
        rintro l k a' W hI ⟨Bx, hBx, hPB, rfl⟩ hlt
        have HI := Lib.hid hI; have HBX := Lib.hid hBx; have HLT := Lib.hid hlt; have HPB := Lib.hid hPB
        clear hI hBx hlt hPB
        have hkl := HI.out.2
        have hLE := HFA.out.2.2.2.1
        have hxz := HFA.out.2.2.2.2
        have HE := Lib.hid HI.out.1
        obtain ⟨x, hx⟩ : ∃ x, x = nth us k := ⟨_, rfl⟩
        have hx10 : x < 10 := by rw [hx, nth_eq hkl]; exact HU.out.1 _ (List.getElem_mem hkl)
        obtain ⟨y, hy⟩ : ∃ y, y = nth (K (k + 1)) x := ⟨_, rfl⟩
        have hy10 : y < 10 := by rw [hy]; exact nth_ten (HK.out (k + 1)).toTen
        have hel := encTo_len K us k
        have hdc : W.cell? ⟨D, k, none⟩ = some (.int .u8 (letter x).toNat) := by
          have h1 := HE.out.buf.cell (j := k) (by rw [List.length_map, hel]; exact hkl)
          rw [h1, List.getElem_map, encTo_at K hkl (by rw [hel]; exact hkl), hx, nth_eq hkl]
        have hdf : W.frozen? ⟨D, k, none⟩ = false := HE.out.buf.frozen (by rw [List.length_map, hel]; exact hkl)
        have hpc : W.cell? ⟨Bx, x, none⟩ = some (.int .u8 (y : Int)) := by
          have h1 := HPB.out.cell (k := x) (by rw [(HK.out (k + 1)).len]; exact hx10)
          rw [h1, hy, nth_eq (by rw [(HK.out (k + 1)).len]; exact hx10)]
        have hoc : W.cell? ⟨D + 1, 0, none⟩ = some (.slice (some ⟨D, 0, none⟩) X.size cq) := HE.out.out.cell 0 _ rfl
        have hic : W.cell? ⟨D + 2, 0, none⟩ = some (.int .i64 k) := HE.out.ix.cell 0 _ rfl
        have hif := HE.out.ix.frozen 0
        have hwc : W.cell? ⟨P + 1, 0, none⟩ = some (.string (S k)) := HE.out.win.cell 0 _ rfl
        have hwf := HE.out.win.frozen 0
        have HNUM := Lib.hid (fun w' => number_any (letter x) w' (isL_letter hx10))
        have hdg : dg (letter x) = x := dg_letter hx10
        rw [hdg] at HNUM
        have HLET := Lib.hid (fun w' => letter_any y w' hy10)
        have v1 : (k : Int) < (X.size : Int) := by omega
        have v2 : (x : Int) < 10 := by omega
        have v3 : IntKind.i64.wrap (y : Int) = y := IntWalk.i64_in _ ⟨by omega, by omega⟩
        have HX2 := Lib.hid (And.intro hx (And.intro hy (And.intro hx10 hy10)))
        have n1 : ¬ P + 1 = D := by have := HFA.out.1; omega
        have n2 : ¬ D = P + 1 := fun e => n1 e.symm
        have n3 : ¬ P = D := by have := HFA.out.1; omega
        have n4 : ¬ D = P := fun e => n3 e.symm
        have n5 : ¬ P = D + 1 := by have := HFA.out.1; omega
        have n6 : ¬ D + 1 = P := fun e => n5 e.symm
        clear hx hy hx10 hy10 hel hdg hkl hLE hxz
        gi_wp2_with fail
        refine still_tail_round 12 (by kernel_rfl) (by kernel_rfl) (fun _ _ h => h) (by kernel_rfl) ?_
        simp only [List.take_succ_cons, List.take_zero, List.drop_succ_cons, List.drop_zero]
        replace hdc : W.drew.cell? ⟨D, k, none⟩ = some (.int .u8 (letter x).toNat) := hdc
        replace hdf : W.drew.frozen? ⟨D, k, none⟩ = false := hdf
        replace hpc : W.drew.cell? ⟨Bx, x, none⟩ = some (.int .u8 (y : Int)) := hpc
        replace hoc : W.drew.cell? ⟨D + 1, 0, none⟩ = some (.slice (some ⟨D, 0, none⟩) X.size cq) := hoc
        replace hic : W.drew.cell? ⟨D + 2, 0, none⟩ = some (.int .i64 k) := hic
        replace hif : W.drew.frozen? ⟨D + 2, 0, none⟩ = false := hif
        replace hwc : W.drew.cell? ⟨P + 1, 0, none⟩ = some (.string (S k)) := hwc
        replace hwf : W.drew.frozen? ⟨P + 1, 0, none⟩ = false := hwf
        obtain ⟨Wq, hWq⟩ : ∃ Wq, Wq = W.drew := ⟨_, rfl⟩
        rw [← hWq] at hdc hdf hpc hoc hic hif hwc hwf ⊢
        have HWQ := Lib.hid hWq
        clear hWq
        repeat still_step
        still_call (HNUM.out _)
        repeat still_step
        still_call (HLET.out _)
        repeat still_step
        refine wpStill_nil ?_
        go_wp2_with fail
        have HFIN := Lib.hid (HE.out.step (n0m := w4.heap.size) (b := Ba + 1) HWQ.out HI.out.2 HX2.out.1 HX2.out.2.1 HFA.out.1 (Nat.le_of_lt HLT.out) (by rw [HFA.out.2.2.1]; omega) (by have := HFA.out.2.1; omega))
        have v4 : wrap64 ((k : Int) + 1) = (k : Int) + 1 := by
          have h1 := HI.out.2; have h2 := HFA.out.2.2.2.1
          unfold wrap64; omega
        by_cases hend : k + 1 = X.size
        · have v5 : (((k : Int) + 1) == (X.size : Int)) = true := by rw [beq_iff_eq]; omega
          have HEND := Lib.hid hend
          clear hend
          gi_wp2_with fail
          exact ⟨HFIN.out.1, rfl, HFIN.out.2.2, HEND.out.trans HFA.out.2.2.2.2⟩
        · have v5 : (((k : Int) + 1) == (X.size : Int)) = false := by rw [beq_eq_false_iff_ne]; omega
          have HEND := Lib.hid hend
          clear hend
          gi_wp2_with fail
          exact ⟨HFIN.out.1, HFIN.out.2.1, HFIN.out.2.2, by have h1 := HI.out.2; have h2 := HEND.out; have h3 := HFA.out.2.2.2.2; omega⟩
      case stop =>
        rintro D' _ k W ⟨rfl, hE, rfl⟩ hD hK
        have HE := Lib.hid hE; have HDD := Lib.hid hK; have HD2 := Lib.hid hD
        have hml : ((encTo K us us.length).map letter).length = X.size := by rw [List.length_map, encTo_len]; exact HFA.out.2.2.2.2.symm
        have hcv2 := hE.buf.conv cq
        rw [hml, encTo_all] at hcv2
        have hbd2 : Buf W.drew D ((encTo K us us.length).map letter) := hE.buf
        have hcv2x := hbd2.conv cq
        rw [hml, encTo_all] at hcv2x
        have ho : W.cell? ⟨D + 1, 0, none⟩ = some (.slice (some ⟨D, 0, none⟩) X.size cq) := hE.out.cell 0 _ rfl
        have hw : W.cell? ⟨P + 1, 0, none⟩ = some (.string (S us.length)) := hE.win.cell 0 _ rfl
        obtain ⟨Z, hZ⟩ : ∃ Z, Z = mk ((encN K us).map letter) := ⟨_, rfl⟩
        rw [← hZ] at hcv2 hcv2x
        have HZE := Lib.hid hZ
        obtain ⟨U, hU⟩ : ∃ U, U = S us.length := ⟨_, rfl⟩
        rw [← hU] at hw
        have HUE := Lib.hid hU
        replace hcv2 : (convert 22 9 (.slice (some ⟨D, 0, none⟩) X.size cq)).run Tryz.prog W.drew = .ok (.string Z) W.drew := hcv2x
        clear hml hZ hU hbd2 hcv2x
        clear hE hK hD
        refine wpIn_wide.2 ?_
        go_wp2_with fail
        go_region
        all_goals
          go_wp2_with fail
          refine ⟨by simp, .inl ⟨_, _, rfl, run_takeDeferred (show W.drew.heap[D']? = some (.deferred (some [])) from HDD.out), ?_⟩⟩
          refine ⟨.tuple #[.string Z, .string U, .bool true], by simp [results, Tryz.results191, go_sem], ?_, ?_⟩
          · rw [HZE.out, HUE.out, HSS.out.1, HSS.out.2]; rfl
          · have h1 := HE.out.bel.drew
            rw [HP.out] at h1
            exact bel_put h1 (by have h2 := HD2.out; have h3 := HB4.out.size; omega) _

/-- the first n permutations -/
def permsTo (K : Nat → List Nat) (n : Nat) : List (List Nat) := (List.range n).map fun j => K (j + 1)
theorem permsTo_len (K : Nat → List Nat) (n : Nat) : (permsTo K n).length = n := by unfold permsTo; rw [List.length_map, List.length_range]
theorem permsTo_succ (K : Nat → List Nat) (n : Nat) : permsTo K (n + 1) = permsTo K n ++ [K (n + 1)] := by unfold permsTo; rw [List.range_succ, List.map_append]; rfl
theorem permsTo_at (K : Nat → List Nat) {n k : Nat} (h : k < (permsTo K n).length) : (permsTo K n)[k] = K (k + 1) := by simp only [permsTo, List.getElem_map, List.getElem_range]
theorem encN_nth (Pr : Nat → List Nat) {us : List Nat} {i : Nat} (h : i < us.length) : nth (encN Pr us) i = nth (Pr (i + 1)) (nth us i) := by
  rw [nth_eq (by rw [encN_len]; exact h), nth_eq h, encN_at Pr h]

set_option maxHeartbeats 8000000 in
set_option maxRecDepth 100000 in
theorem l8Perms_is (w : World) (A : Option Addr) (cap : Nat) (rs : List (ByteArray × ByteArray)) (q rg pl : List Nat) (S : Nat → ByteArray) (K : Nat → List Nat) (n : Nat) (m : Int) (hm : m = (n : Int)) (hn : n ≤ 200) (h : WhA w A cap rs)
    (hst : ∀ (w' : World) (k : Nat), WhA w' A cap rs → Calls Tryz.prog 236 #[.agg (whC (.slice A rs.length cap) (.string (pT q))), .string (S k)] w' fun e w'' => e = .returned (.string (S (k + 1))) ∧ Below w'.heap.size w' w'')
    (hpm : ∀ (w' : World) (k : Nat), WhA w' A cap rs → Calls Tryz.prog 237 #[.agg (macC (.slice A rs.length cap) q rg pl), .string (S k)] w' fun e w'' => e = .returned (.string (pT (K k))) ∧ Below w'.heap.size w' w'') :
    Calls Tryz.prog 169 #[.agg (macC (.slice A rs.length cap) q rg pl), .string (S 0), .int .i64 m] w fun e w' => ∃ v : Value, e = .returned v ∧ w'.ownsRow w.heap.size 9 1 v n (strV (pTs (permsTo K n))) ∧ Below w.heap.size w w' := by
  subst hm
  obtain ⟨iS, hi, hz0, hz1, hz2⟩ := info_parts Tryz.infoS
  have HI := Lib.hid hi; have HZ0 := Lib.hid hz0; have HZ1 := Lib.hid hz1; have HZ2 := Lib.hid hz2
  clear hi hz0 hz1 hz2
  have hsz : (w.alloc (.cells (macC (.slice A rs.length cap) q rg pl) 29)).heap.size = w.heap.size + 1 := by simp
  have how : ((w.alloc (.cells (macC (.slice A rs.length cap) q rg pl) 29)).alloc (.cells #[] 9)).ownsRow (w.heap.size + 1) 9 1 (.slice (some ⟨(w.alloc (.cells (macC (.slice A rs.length cap) q rg pl) 29)).heap.size, 0, none⟩) 0 0) 0 (strV (pTs (permsTo K 0))) := World.ownsRow_made _ #[] 0 (by rw [hsz]; exact Nat.le_refl _) (by decide) rfl
  have hb1 : Below w.heap.size w ((w.alloc (.cells (macC (.slice A rs.length cap) q rg pl) 29)).alloc (.cells #[] 9)) := ((Below.refl _ _).alloc (Nat.le_refl _) _).alloc (by rw [hsz]; omega) _
  have hs1 : SB ((w.alloc (.cells (macC (.slice A rs.length cap) q rg pl) 29)).alloc (.cells #[] 9)) w.heap.size (macC (.slice A rs.length cap) q rg pl) 29 := (SB.made w _ _).below ((Below.refl _ _).alloc (Nat.le_refl _) _)
  rw [hsz] at how
  have HST := Lib.hid hst; have HPM := Lib.hid hpm; have HOW := Lib.hid how; have HB1 := Lib.hid hb1; have HS1 := Lib.hid hs1; have HH := Lib.hid h
  clear hst hpm how hb1 hs1 h hsz
  obtain ⟨P, hP⟩ : ∃ P, P = w.heap.size := ⟨_, rfl⟩
  go_enter Tryz.func169, Tryz.ntmps169
  go_wp2_with fail
  rw [← hP] at HOW HS1 ⊢
  have HPE := Lib.hid hP; clear hP
  go_loopw [1, 7, 8] (fun s o i wr => ∃ k : Nat, s = .string (S k) ∧ i = .int .i64 k ∧ k ≤ n ∧ wr.ownsRow (P + 1) 9 1 o k (strV (pTs (permsTo K k))) ∧ Hid (SB wr P (macC (.slice A rs.length cap) q rg pl) 29) ∧ Below w.heap.size w wr) (fun _ _ i _ => n - (intOf i).toNat)
  case atStart => exact ⟨0, rfl, rfl, by omega, HOW.out, HS1, HB1.out⟩
  case round =>
    clear HOW HS1 HB1
    obtain ⟨k, rfl, rfl, hk, hown, HS, hbl⟩ := hrel
    have HO := Lib.hid hown; have HBL := Lib.hid hbl; clear hown hbl
    obtain ⟨A3, c3, e3⟩ := slot_slice HO.out
    subst e3
    by_cases hlt : k < n
    · obtain ⟨⟨c0, c1, c2, c4⟩, _⟩ := HS.out.all4
      have HT1 := Lib.hid (HST.out wr k (HH.out.below HBL.out))
      generalize S k = T at HT1 ⊢
      go_wp2_with fail
      refine HT1.out.mono ?_
      rintro _ w2 ⟨rfl, hb2⟩
      have HS2 := Lib.hid (HS.out.below hb2); have HO2 := Lib.hid (ownsRow_below HO.out hb2)
      have HB2 := Lib.hid (HBL.out.trans (hb2.mono HBL.out.size))
      clear hb2 c0 c1 c2 c4 HO HS HBL
      obtain ⟨⟨c0, c1, c2, c4⟩, _⟩ := HS2.out.all4
      have HT2 := Lib.hid (HPM.out w2 (k + 1) (HH.out.below HB2.out))
      have hll : k ≤ 200 := by omega
      obtain ⟨U, hU⟩ : ∃ U, U = S (k + 1) := ⟨_, rfl⟩
      obtain ⟨Z, hZ⟩ : ∃ Z, Z = pT (K (k + 1)) := ⟨_, rfl⟩
      rw [← hZ] at HT2
      have HZE := Lib.hid hZ
      clear hZ
      rw [← hU] at HT2 ⊢
      have HUE := Lib.hid hU
      clear hU
      go_wp2_with fail
      refine HT2.out.mono ?_
      rintro _ w3 ⟨rfl, hb3⟩
      have HS3 := Lib.hid (HS2.out.below hb3); have HO3 := Lib.hid (ownsRow_below HO2.out hb3)
      have HB3 := Lib.hid (HB2.out.trans (hb3.mono HB2.out.size))
      have hPs := HS3.out.lt
      clear hb3 c0 c1 c2 c4 HS2 HO2 HB2
      go_wp2_with (at_builtin; refine wpList_append_own _ rfl _ _ 42 rfl (P + 1) 9 iS (.string ByteArray.empty) 1 16 Tryz.undS HI.out HZ0.out HZ1.out HZ2.out rfl (by decide) _ k _ rfl (HO3.out.alloc _) ⟨w3.heap.size, 0, none⟩ 1 1 [.string Z] rfl rfl (one_new w3 (.string Z) 9) one_cell (by unfold maxLen; omega) (by omega) (by simp; omega) ?_)
      intro v' w6 ho' hg' _
      rw [HZE.out, pTs_snoc, ← permsTo_succ] at ho'
      have hs6 : SB w6 P (macC (.slice A rs.length cap) q rg pl) 29 := SB.own (SB.below HS3.out ((Below.refl _ _).alloc (Nat.le_refl _) _)) hg' (ownBlock_ne HO3.out (Nat.lt_succ_self P))
      have hb6 : Below w.heap.size w w6 := (HB3.out.alloc HB3.out.size _).grown hg' (Nat.le_trans HB3.out.size (by simp)) fun k' e => by have := (HO3.out.lt k' e).1; have := HPE.out; omega
      have HO6 := Lib.hid ho'; have HB6 := Lib.hid hb6; have HS6 := Lib.hid hs6; clear ho' hg' hb6 hs6
      go_wp2_with fail
      go_roundw
      case rel => exact ⟨k + 1, by rw [HUE.out], by go_num, by omega, HO6.out, HS6, HB6.out⟩
      case measure => simp [intOf]; omega
    · go_wp2_with fail
      go_ret
      have hkn : k = n := by omega
      subst hkn
      exact ⟨_, rfl, own_mono3 HO.out (by rw [HPE.out]; exact Nat.le_succ _), HBL.out⟩


































































































































































































































































end Go.Proofs.YtipcodebmemkpaaGreatDoor
