/-
  The products of a day's keys: the program's dayProducts, by a range over its iterator. Conditions: what each theorem names.
-/
import Derived.Test.YtipcodebmemkpaaGreatDoorEncC
import Derived.RangeFuncNested
import Derived.RangeFuncBound
import Derived.RangeFuncCalls
import Derived.RangeFuncLeaves
import Derived.Shelf.Abstract
import Derived.Shelf.RegionOpen
import Derived.WalkKit
import Derived.OwnWalkIn
import Derived.TacticsInMore
import Derived.LoopNIn
import Derived.LoopIn
import Derived.OrdersHeld
import Derived.OrdersIn
import Derived.Deep.RegionHeld
import Derived.TacticsIn
import Derived.StillTail
import Derived.Deep.RegionHeld3
import Derived.Stop.RegionWithIn
import Derived.StillTailTactics
import Derived.BigQuiet
import Derived.Deep.AppendLies
import Derived.Deep.RegionLaw
import Derived.Test.YtipcodebmemkpaaGreatDoorChrA
namespace Go.Proofs.YtipcodebmemkpaaGreatDoor
set_option linter.unusedVariables false

section
open Go Go.RowKit Pl

/-- blocks of cells stay, and all below lo, but for block b -/
structure ButC (lo b : Nat) (A B : World) : Prop extends ButTo lo b A B where
  cells : ∀ k o, A.heap[k]? = some o → o.isCells = true → k ≠ b → B.heap[k]? = some o
theorem ButC.of_but {lo b : Nat} {A B : World} (h : But b A B) (hl : lo ≤ A.heap.size) : ButC lo b A B := ⟨h.to hl, fun k o hk _ hn => (h.block k (Array.getElem?_eq_some_iff.1 hk).1 hn).trans hk⟩
theorem butC_alloc {lo b : Nat} (W : World) (o : Obj) (h : lo ≤ W.heap.size) : ButC lo b W (W.alloc o) := ⟨butTo_alloc W o h, fun k o' hk _ _ => (Below.heap_alloc W o k (Array.getElem?_eq_some_iff.1 hk).1).trans hk⟩
theorem butC_put {lo b l : Nat} {W : World} {o : Obj} (h : W.heap[l]? = some o) (hc : o.isCells = false) (o' : Obj) (hl : lo ≤ l) : ButC lo b W (W.putObj l o') :=
  ⟨butTo_put W o' hl, fun k o2 hk hc2 _ => (World.putObj_heap_other (by intro e; subst e; rw [h] at hk; injection hk with hk; rw [← hk, hc] at hc2; cases hc2)).trans hk⟩

theorem wpIn_range_natC {F : Fence} {n : Nat} {P : Program} {g : Operand} {ps : Array Tmp} {assign body : Code} {Q : Exit → Act → World → Prop} {a : Act} {w : World}
    (hro : F.round = none) (h1 : 1 ≤ n) {gf : Nat} {lb : Array Value} (hg : a.eval g = .func (.func gf) #[] lb) (hFg : F.fn gf) (eg : ∀ args w, (callFunc gf args).run P w = .ok (.enter gf args) w)
    {encs : Nat → Array Value} {Kp : World → World → Prop} {b : Nat} (hb : b < w.heap.size)
    (I : Nat → World → Prop) (Ix : Code → Nat → World → Prop) (hseq : SeqN F (n - 1) P gf lb encs Kp b I w)
    (hKt : ∀ {A B C : World}, Kp A B → Kp B C → Kp A C) (hKb : ∀ (W : World) (l : Nat) (o' : Obj), w.heap.size ≤ l → Kp W (W.putObj l o')) (hps : ∀ x, (encs x).size = ps.size)
    (hI : ∀ k A B, I k A → ButC w.heap.size b A B → I k B) (hIx : ∀ c k A B, Ix c k A → ButC w.heap.size b A B → Ix c k B) (h0 : I 0 w)
    (Ax : Nat → Act → World → Prop) (hAx : ∀ k a' W j (o o' : Obj), Ax k a' W → W.heap[j]? = some o → o.isCells = false → Ax k a' (W.putObj j o'))
    (hassign : ∀ (l : Nat) (k : Nat) (W : World) (K : Act → World → Prop), I k W → w.heap.size < W.heap.size → (∀ a' W', KeepsOthers W W' → Kp W W' → I k W' → Ax k a' W' → K a' W') →
      assign.wpIn (F.inRound l) (n - 1 - 1) P (Exit.then K (fun _ _ _ => False)) { tmps := (ps.zip (encs k)).foldl (fun t (p, v) => t.setIfInBounds p v) a.tmps, defers := [] } W)
    (hbody : ∀ (l : Nat) (k : Nat) (a' : Act) (W : World), I k W → Ax k a' W → w.heap.size < W.heap.size → body.wpIn (F.inRound l) (n - 1 - 1) P (ownPostN Kp I Ix (k + 1) W) a' W)
    (hstop : ∀ (D : Nat) (c : Code) (k : Nat) (W : World), Ix c k W → w.heap.size ≤ D → W.heap[D]? = some (.deferred (some [])) → c.wpIn F n P Q { a with defers := { target := .collected D, args := #[] } :: a.defers } W) :
    (Code.rangeFunc g ps assign body).wpIn F n P Q a w := by
  refine wpIn_rangeFunc ?_
  intro fn hfn
  rw [hro]
  obtain ⟨rec, hrec⟩ : ∃ rec : LoopState → Option Code → Loop, rec = fun st pe => { state := st, pending := pe, fn, tmps := a.tmps, params := ps, assign, body, defers := w.heap.size } := ⟨_, rfl⟩
  obtain ⟨W1, hW1⟩ : ∃ W1, (w.alloc (.deferred (some []))).alloc (.loop (rec .ready none)) = W1 := ⟨_, rfl⟩
  have hL1 : W1.heap[w.heap.size + 1]? = some (.loop (rec .ready none)) := by
    rw [← hW1]; have := World.alloc_heap_new (w.alloc (.deferred (some []))) (.loop (rec .ready none)); rwa [World.size_alloc] at this
  have hK1 : W1.heap[w.heap.size]? = some (.deferred (some [])) := by
    rw [← hW1]; exact (Below.heap_alloc _ _ _ (by simp)).trans (World.alloc_heap_new w _)
  have hI1 : I 0 W1 := by rw [← hW1]; exact hI _ _ _ (hI _ _ _ h0 (butC_alloc _ _ (Nat.le_refl _))) (butC_alloc _ _ (by simp))
  have hb1 : Below w.heap.size w W1 := by
    rw [← hW1]; exact ((Below.refl _ w).alloc (Nat.le_refl _) _).alloc (by simp) _
  refine ⟨w.heap.size + 1, [{ target := .collected w.heap.size, args := #[] }], W1, { target := .fn (.func gf) lb, args := #[.func (.yield (w.heap.size + 1)) #[] #[]] }, W1, gf,
    #[.func (.yield (w.heap.size + 1)) #[] #[]] ++ lb, W1, ?_, ?_, ?_, ?_, fun _ => h1, ?_⟩
  · rw [← hW1, hrec]; exact run_enterLoop_outer _ _ _ _ _
  · simp only [resolve, hg]
    simp [go_sem]
  · intro f' hf'; simp [Target.leads] at hf'; subst hf'; exact hFg
  · simp [invoke, go_sem, eg]
  · refine (hseq (w.heap.size + 1)
      (fun k W => I k W ∧ W.heap[w.heap.size + 1]? = some (.loop (rec .ready none)) ∧ W.heap[w.heap.size]? = some (.deferred (some [])))
      (fun k W => ∃ c, Ix c k W ∧ W.heap[w.heap.size + 1]? = some (.loop (rec .done (some c))) ∧ W.heap[w.heap.size]? = some (.deferred (some [])))
      W1 hb1 hb1.size
      (fun k A B hs hg' => by
        have h1 := (Array.getElem?_eq_some_iff.1 hs.2.1).1
        exact ⟨hI k A B hs.1 (ButC.of_but hg' (by omega)), (hg'.block _ h1 (by omega)).trans hs.2.1, (hg'.block _ (by omega) (by omega)).trans hs.2.2⟩)
      (fun k A hs => ⟨hs.1, by have h1 := (Array.getElem?_eq_some_iff.1 hs.2.1).1; omega⟩)
      ?_ ⟨hI1, hL1, hK1⟩).mono ?_
    · rintro k W ⟨hi, hl, hk⟩
      have hlt : w.heap.size + 1 < W.heap.size := (Array.getElem?_eq_some_iff.1 hl).1
      have hy := run_yield (P := P) (args := encs k) hl (by rw [hrec]; exact hps k)
      rw [hrec] at hy
      refine ⟨fn, _, assign, body, hy, roundIn_of_wpIn hfn (hassign _ k W _ hi (by omega) ?_)⟩
      intro a' Wa hka hkpa hia hax
      have hla := hka.same _ _ hl rfl
      have hda := hka.same _ _ hk rfl
      have hlta : w.heap.size + 1 < Wa.heap.size := (Array.getElem?_eq_some_iff.1 hla).1
      refine ⟨_, run_beginRound hla (by rw [hrec]), ?_⟩
      have hl2 : (Wa.putObj (w.heap.size + 1) (.loop { rec .ready none with state := .busy })).heap[w.heap.size + 1]? = some (.loop { rec .ready none with state := .busy }) := World.putObj_heap_same hlta
      have hk2 : (Wa.putObj (w.heap.size + 1) (.loop { rec .ready none with state := .busy })).heap[w.heap.size]? = some (.deferred (some [])) := (World.putObj_heap_other (by omega)).trans hda
      have hw2 : Kp W (Wa.putObj (w.heap.size + 1) (.loop { rec .ready none with state := .busy })) := hKt hkpa (hKb _ _ _ (by omega))
      refine wpIn_mono (hbody _ k a' _ (hI _ _ _ hia (butC_put hla rfl _ (by omega))) (hAx _ _ _ _ _ _ hax hla rfl) (by simp; omega)) ?_
      have fin : ∀ (jump : Option Code) (W3 : World), KeepsOthers (Wa.putObj (w.heap.size + 1) (.loop { rec .ready none with state := .busy })) W3 →
          (Instr.endRound (w.heap.size + 1) jump).run P W3 = .ok (.bool jump.isNone) (W3.putObj (w.heap.size + 1) (.loop (rec (if jump.isNone then .ready else .done) jump))) ∧
          (W3.putObj (w.heap.size + 1) (.loop (rec (if jump.isNone then .ready else .done) jump))).heap[w.heap.size + 1]? = some (.loop (rec (if jump.isNone then .ready else .done) jump)) ∧
          (W3.putObj (w.heap.size + 1) (.loop (rec (if jump.isNone then .ready else .done) jump))).heap[w.heap.size]? = some (.deferred (some [])) := fun jump W3 hk3 => by
        have hl3 := hk3.same _ _ hl2 rfl
        have := run_endRound (P := P) jump hl3
        rw [hrec] at this ⊢
        exact ⟨this, World.putObj_heap_same (Array.getElem?_eq_some_iff.1 hl3).1, (World.putObj_heap_other (by omega)).trans (hk3.same _ _ hk2 rfl)⟩
      rintro e a3 W3 hp
      cases e with
      | normal =>
        obtain ⟨hk3, hkp3, hi3⟩ := hp
        obtain ⟨hr, hl4, hk4⟩ := fin none W3 hk3
        exact ⟨_, _, hr, .inl ⟨rfl, ⟨hI _ _ _ hi3 (butC_put (hk3.same _ _ hl2 rfl) rfl _ (by omega)), hl4, hk4⟩, hKt (hKt hw2 hkp3) (hKb _ _ _ (by omega))⟩⟩
      | ret =>
        obtain ⟨hk3, hi3⟩ := hp
        obtain ⟨hr, hl4, hk4⟩ := fin (some .ret) W3 hk3
        exact ⟨_, _, hr, .inr ⟨rfl, .ret, hIx _ _ _ _ hi3 (butC_put (hk3.same _ _ hl2 rfl) rfl _ (by omega)), hl4, hk4⟩⟩
      | exit id =>
        obtain ⟨hk3, hi3⟩ := hp
        obtain ⟨hr, hl4, hk4⟩ := fin (some (.exit id)) W3 hk3
        exact ⟨_, _, hr, .inr ⟨rfl, .exit id, hIx _ _ _ _ hi3 (butC_put (hk3.same _ _ hl2 rfl) rfl _ (by omega)), hl4, hk4⟩⟩
      | goto t =>
        obtain ⟨hk3, hi3⟩ := hp
        obtain ⟨hr, hl4, hk4⟩ := fin (some (.goto t)) W3 hk3
        exact ⟨_, _, hr, .inr ⟨rfl, .goto t, hIx _ _ _ _ hi3 (butC_put (hk3.same _ _ hl2 rfl) rfl _ (by omega)), hl4, hk4⟩⟩
      | panic ch => exact hp.elim
      | outgrown => exact hp.elim
    · rintro e W2 ⟨⟨v, rfl⟩, k, c, hi, hl, hk⟩
      exact ⟨some c, _, by have := run_endLoop (P := P) hl (by rw [hrec]; simp); rw [hrec] at this; exact this, hstop _ c k _ (hIx _ _ _ _ hi (butC_put hl rfl _ (by omega))) (Nat.le_refl _) ((World.putObj_heap_other (by omega)).trans hk)⟩

end

section
open Go Go.RowKit Pl

theorem keeps_grown {W W' : World} {base : Nat} {e : TypeId} {s n : Nat} {v : Value} {xs : List Value} (ho : W.ownsRow base e s v n xs) (hg : W.grownBy W' v.ownBlock) : KeepsOthers W W' := by
  refine ⟨hg.size, fun k o hk hc => (hg.block k (Array.getElem?_eq_some_iff.1 hk).1 ?_).trans hk⟩
  intro e1
  obtain ⟨_, ⟨rfl, _⟩ | ⟨g, cap, cur, rfl, hb, hgg, _⟩⟩ := ho
  · simp [Value.ownBlock] at e1
  · have e2 : k = g := by simpa [Value.ownBlock] using e1
    subst e2
    rw [hk] at hgg; injection hgg with hgg; rw [hgg] at hc; simp [Obj.isCells] at hc
theorem kp_grown {n0 n1 m b : Nat} {W W' : World} {r : Option Nat} (hg : W.grownBy W' r) (hr : ∀ k, r = some k → m ≤ k) (hm : m ≤ W.heap.size) (hb : b < m) : KP n0 n1 m b W W' :=
  ⟨⟨hg.size, fun j hj _ _ => hg.block j (by omega) (by intro e; have := hr j e.symm; omega)⟩, hg.block b (by omega) (by intro e; have := hr b e.symm; omega)⟩
theorem own_putObj {W : World} {base l : Nat} {e : TypeId} {s n : Nat} {v : Value} {xs : List Value} (h : W.ownsRow base e s v n xs) (hl : l < base) (o : Obj) : (W.putObj l o).ownsRow base e s v n xs := by
  obtain ⟨h1, h2 | ⟨g, cap, cur, hv, hbg, hg, r⟩⟩ := h
  · exact ⟨h1, .inl h2⟩
  · exact ⟨h1, .inr ⟨g, cap, cur, hv, hbg, (World.putObj_heap_other (by omega)).trans hg, r⟩⟩
theorem own_cells {lo b m : Nat} {A B : World} {e : TypeId} {s n : Nat} {v : Value} {xs : List Value} (h : A.ownsRow m e s v n xs) (hb : ButC lo b A B) (hm : b < m) : B.ownsRow m e s v n xs := by
  obtain ⟨h1, h2 | ⟨g, cap, cur, hv, hbg, hg, r⟩⟩ := h
  · exact ⟨h1, .inl h2⟩
  · exact ⟨h1, .inr ⟨g, cap, cur, hv, hbg, hb.cells g _ hg rfl (by omega), r⟩⟩
/-- the caller's own cells after k keys -/
structure KeysAt (w W : World) (P m n : Nat) (K : Nat → List Nat) (k : Nat) : Prop where
  half : SB W (P + 1) #[.int .i64 (n : Int)] 3
  row : ∃ A c, SB W (P + 2) #[.slice A k c] 136 ∧ W.ownsRow m 101 10 (.slice A k c) k (pF (permsTo K k))
  bel : Below P w W
theorem KeysAt.toC {w A B : World} {P m n k lo b : Nat} {K : Nat → List Nat} (h : KeysAt w A P m n K k) (hb : ButC lo b A B) (h1 : P + 2 < lo) (h2 : P + 2 < b) (h3 : b < m) : KeysAt w B P m n K k := by
  obtain ⟨A', c, hs, ho⟩ := h.row
  exact ⟨(hb.block (P + 1) (by omega) (by omega)).trans h.half, ⟨A', c, (hb.block (P + 2) (by omega) (by omega)).trans hs, own_cells ho hb h3⟩, h.bel.trans (hb.toButTo.below (by omega) (by omega))⟩
/-- how many keys are still to come, read off the world -/
def keysMu (L P : Nat) (W : World) : Nat := match W.cell? ⟨P + 2, 0, none⟩ with
  | some (.slice _ k _) => L - k
  | _ => 0
theorem keysMu_at {w W : World} {P m n k L : Nat} {K : Nat → List Nat} (h : KeysAt w W P m n K k) : keysMu L P W = L - k := by
  obtain ⟨A', c, hs, _⟩ := h.row
  unfold keysMu
  rw [hs.cell 0 (.slice A' k c) rfl]

theorem bel_alK2 {a W : World} {o : Obj} (h : Below a.heap.size a W) : Below a.heap.size a (W.alloc o) := h.alloc h.size o
attribute [local go_sem] Oper.semAt_some

set_option maxHeartbeats 4000000 in
set_option maxRecDepth 100000 in
theorem dayProducts_is (w : World) (A : Option Addr) (cap : Nat) (rs : List (ByteArray × ByteArray)) (r q rg : List Nat) (o : ByteArray) (h : Rd w w.heap.size A (rotV rs)) (hc : rs.length ≤ cap) (hv : SetV rs (pT r) (pT rg) (pT q) o) (hr : Prm r) (hri : invP r = r) (hq : Prm q) (hi : invP q = q) (hrg : rg.length = rs.length) (hrl : ∀ x ∈ rg, x < 10) :
    Calls Tryz.prog 99 #[.agg #[.slice A rs.length cap, .string (pT r), .string (pT rg), .string (pT q)], .string o] w fun e w' => ∃ A' c', e = .returned (.slice A' o.size c') ∧ w'.ownsRow w.heap.size 101 10 (.slice A' o.size c') o.size (pF (prodL (keyP q r rs rg o) o.size)) ∧ Below w.heap.size w w' := by
  obtain ⟨iM, hi0, hz1, hz2, hz3⟩ := info_parts Tryz.infoPm
  have HI0 := Lib.hid hi0; have HZ1 := Lib.hid hz1; have HZ2 := Lib.hid hz2; have HZ3 := Lib.hid hz3
  clear hi0 hz1 hz2 hz3
  have hl3 := hv.1.1.1.2.1
  have hl1 := hv.1.1.1.1
  have hrv := hv.1.1.1.2.2.2
  have hz : o.size = rs.length := hv.2.1.trans hv.1.1.2.1
  have hwp : WinV rs (pT r) o := ⟨hv.1.1.1, hz, hv.2.2⟩
  have hwi : ∀ i, i < rs.length → Prm (wirP rs i) := fun i hi => (wir_ok hrv hi).1
  obtain ⟨w0, hw0⟩ : ∃ w0, w0 = ((w.alloc (.cells #[.slice A rs.length cap, .string (pT r), .string (pT rg), .string (pT q)] 29)).alloc (.cells #[.int .i64 (o.size : Int)] 3)).alloc (.cells #[.slice none 0 0] 136) := ⟨_, rfl⟩
  have hb0 : Below w.heap.size w w0 := by rw [hw0]; exact (((Below.refl _ _).alloc (Nat.le_refl _) _).alloc (by simp) _).alloc (by simp; omega) _
  obtain ⟨P, hP⟩ : ∃ P, P = w.heap.size := ⟨_, rfl⟩
  have hs0 : SB w0 P #[.slice A rs.length cap, .string (pT r), .string (pT rg), .string (pT q)] 29 := by
    rw [hw0, hP]; exact ((SB.made w _ _).below ((Below.refl _ _).alloc (Nat.le_refl _) _)).below ((Below.refl _ _).alloc (Nat.le_refl _) _)
  have hh0 : SB w0 (P + 1) #[.int .i64 (o.size : Int)] 3 := by
    rw [hw0, hP, show w.heap.size + 1 = (w.alloc (.cells #[.slice A rs.length cap, .string (pT r), .string (pT rg), .string (pT q)] 29)).heap.size by simp]
    exact (SB.made _ _ _).below ((Below.refl _ _).alloc (Nat.le_refl _) _)
  have hk0 : SB w0 (P + 2) #[.slice none 0 0] 136 := by
    rw [hw0, hP, show w.heap.size + 2 = ((w.alloc (.cells #[.slice A rs.length cap, .string (pT r), .string (pT rg), .string (pT q)] 29)).alloc (.cells #[.int .i64 (o.size : Int)] 3)).heap.size by simp]
    exact SB.made _ _ _
  have hz0 : w0.heap.size = P + 3 := by rw [hw0, hP]; simp
  have hrd0 := (h.below hb0).mono hb0.size
  have hna := newAssembly_is w0 A cap rs (pT rg) q r hrd0 hc hl3 hrv hq hi hr hri
  have HNA := Lib.hid hna; have HB0 := Lib.hid hb0; have HS0 := Lib.hid hs0; have HH0 := Lib.hid hh0; have HK0 := Lib.hid hk0; have HZ0 := Lib.hid hz0; have HR0 := Lib.hid h
  have HQ := Lib.hid (And.intro (And.intro hr hri) (And.intro hq hi)); have HRG := Lib.hid (And.intro hrg hrl); have HC := Lib.hid (And.intro hc (And.intro hl3 hwp)); have HWI := Lib.hid hwi
  have HSZ := Lib.hid (show 1 ≤ o.size ∧ o.size ≤ 3 by omega)
  obtain ⟨⟨c0, c1, c2, c3⟩, _⟩ := hs0.all4
  rw [hw0, hP] at c0 c1 c2 c3
  clear h hb0 hs0 hh0 hk0 hz0 hrd0 hna hv hr hri hq hi hrg hrl hc hl3 hl1 hwp hwi hrv hz
  generalize hT1 : pT r = T1 at *
  generalize hT2 : pT rg = T2 at *
  generalize hT3 : pT q = T3 at *
  have HT := Lib.hid (And.intro hT1 (And.intro hT2 hT3))
  clear hT1 hT2 hT3
  refine (callsIn_wide (n := 3)).1 ?_
  refine callsIn_of_wp_marks Tryz.func99 rfl trivial ?_ rfl
  simp only [Tryz.ntmps99, List.size_toArray, List.length_cons, List.length_nil, Nat.reduceAdd, Nat.reduceSub, Array.replicate_succ, Array.replicate_zero, List.push_toArray, List.append_toArray, List.nil_append, List.cons_append]
  refine wpIn_wide.2 ?_
  go_wp2_with fail
  rw [← hw0]
  refine HNA.out.mono ?_
  rintro _ w3 ⟨XA, rfl, hxl, has, hb3⟩
  go_wp2_with fail
  refine (keys_is _ XA o).mono ?_
  rintro _ w4 ⟨rfl, hw4⟩
  go_wp2_with fail
  rw [← hw4, ← hP]
  rw [show P + 1 + 1 = P + 2 from rfl]
  have HP := Lib.hid hP
  clear hP hw0 c0 c1 c2 c3 HNA
  obtain ⟨Ba, hBa⟩ : ∃ Ba, Ba = w3.heap.size := ⟨_, rfl⟩
  rw [← hBa]
  have hz4 : w4.heap.size = Ba + 2 := by rw [hw4, hBa]; simp
  have hBP : P + 3 ≤ Ba := by have := hb3.size; have := HZ0.out; omega
  have hXP : P + 3 ≤ XA := by have := HZ0.out; omega
  have hb34 : Below w3.heap.size w3 w4 := bel_eq (Below.refl _ _) hw4
  have has4 := has.below hb34
  have hXB : XA < Ba := by
    obtain ⟨v, hv⟩ := Option.isSome_iff_exists.1 (has.th 0 (by decide)).1
    have := World.block_lt_of_cell? _ _ hv
    simp only at this; omega
  have hca : w4.cell? ⟨Ba, 0, none⟩ = some (.pointer (some ⟨XA, 0, none⟩)) := by
    have h1 : SB w4 Ba #[.pointer (some ⟨XA, 0, none⟩)] 166 := by rw [hw4, hBa]; exact block_kept3 (heap_alloc_new' _ _) _
    exact h1.cell 0 _ rfl
  have hsb : SB w4 (Ba + 1) #[.string o] 9 := by
    rw [hw4, show Ba + 1 = (w3.alloc (.cells #[.pointer (some ⟨XA, 0, none⟩)] 166)).heap.size by simp [hBa]]
    exact heap_alloc_new' _ _
  have hx0 : w4.cell? ⟨XA, 0, none⟩ = some (.slice A rs.length cap) := by have h1 := has4.m 0 _ rfl; rw [Nat.zero_add] at h1; exact h1
  have hx1 : w4.cell? ⟨XA, 1, none⟩ = some (.string T1) := by have h1 := has4.m 1 _ rfl; rw [Nat.zero_add] at h1; exact h1
  have hb04 : Below w0.heap.size w0 w4 := hb3.trans (hb34.mono hb3.size)
  have HB4 := Lib.hid (HB0.out.trans (hb04.mono HB0.out.size))
  have hP4 : P ≤ w4.heap.size := by omega
  have hrd4 : Rd w4 P A (rotV rs) := by have h1 := HR0.out.below HB4.out; rw [← HP.out] at h1; exact h1
  have hwo := HC.out.2.2.2.2
  have hoz := HC.out.2.2.2.1
  have hK : ∀ k, Prm (keyP q r rs rg o k) := fun k => keyP_prm HQ.out.2.1 HQ.out.1.1 HWI.out k
  have hn1 := HSZ.out.1
  have hn3 := HSZ.out.2
  obtain ⟨n, hn⟩ : ∃ n, n = o.size := ⟨_, rfl⟩
  have hseq := keys1_seq 2 (2 * n) Ba (Ba + 1) XA P (P + 3) w4 (.slice A rs.length cap) T1 (stepW rs o) (keyP q r rs rg o)
    (fun W => AsmTo W XA [.slice A rs.length cap, .string T1, .string T2, .string T3] q r rs rs.length 0 ∧ Rd W P A (rotV rs) ∧ P ≤ W.heap.size)
    (fun k W => KeysAt w W P w4.heap.size n (keyP q r rs rg o) k ∧ k < 2 * n) (keysMu (2 * n) P)
    (by omega) (by omega) (by omega) (by omega) (by omega) hXP hBP (by omega) hca (by rw [stepW_zero]; exact hsb.cell 0 _ rfl) (hsb.frozen 0) hx0 hx1
    ⟨has4, hrd4, hP4⟩
    (fun A' B h hk => ⟨h.1.keep (hk.block XA (by omega) (.inr hXP) (by omega)), h.2.1.keep (fun j hj => hk.block j (by omega) (.inl hj) (by omega)), Nat.le_trans h.2.2 hk.size⟩)
    (fun W k h => step_at W A cap rs T1 o (WhB.make (h.2.1.mono h.2.2) HC.out.1 HC.out.2.2) k)
    (fun W k h => by
      have h1 := h.1
      rw [← HT.out.2.1] at h1
      have h2 := permAt_is W XA A rs.length cap T1 T3 q r rg (wnd rs o k) rs HC.out.2.1 (by rw [wnd_len]; exact hoz) (wnd_lo hwo k) HRG.out.1 HRG.out.2 HQ.out.2.1 HQ.out.1.1 HWI.out h1
      rw [wnd_pT hwo] at h2
      exact h2)
    (fun k W h => by rw [keysMu_at h.1]; have := h.2; omega)
  have hE0 : KeysAt w w4 P w4.heap.size n (keyP q r rs rg o) 0 :=
    ⟨by rw [hn]; exact HH0.out.below hb04, ⟨none, 0, HK0.out.below hb04, World.ownsRow_nil _ _ _ _⟩, by have h1 := HB4.out; rw [← HP.out] at h1; exact h1⟩
  have HSEQ := Lib.hid hseq; have HE0 := Lib.hid hE0; have HK := Lib.hid hK
  rw [← hn] at hn1 hn3 ⊢
  have HFA := Lib.hid (show P + 3 ≤ Ba ∧ w4.heap.size = Ba + 2 ∧ 1 ≤ n ∧ n ≤ 3 from ⟨hBP, hz4, hn1, hn3⟩)
  have HN := Lib.hid hn
  obtain ⟨S, hS⟩ : ∃ S, S = stepW rs o := ⟨_, rfl⟩
  obtain ⟨K, hKK⟩ : ∃ K, K = keyP q r rs rg o := ⟨_, rfl⟩
  rw [← hS, ← hKK] at HSEQ
  rw [← hKK] at HE0 HK
  have HSS := Lib.hid (And.intro hS hKK)
  obtain ⟨m, hm⟩ : ∃ m, m = w4.heap.size := ⟨_, rfl⟩
  have HM := Lib.hid hm
  clear hS hKK hseq hE0 hK hBP hXP hXB has4 has hca hsb hx0 hx1 hP4 hrd4 hwo hoz hw4 hxl hb3 hb34 hb04 hz4 hBa hn hn1 hn3
  refine (wpIn_wide (n := 3)).1 ?_
  refine wpIn_range_natC rfl (by omega) (gf := 228) (lb := #[.pointer (some ⟨Ba, 0, none⟩), .pointer (some ⟨Ba + 1, 0, none⟩)]) rfl trivial (enters_of Tryz.func228 (by kernel_rfl) rfl) (b := Ba + 1) (by rw [HFA.out.2.1]; omega)
    (fun k W => KeysAt w W P w4.heap.size n K k ∧ k < 2 * n) (fun c k W => c = .exit 0 ∧ KeysAt w W P w4.heap.size n K k ∧ k = 2 * n) HSEQ.out KP.trans
    (fun W l o' hl => KP.put W l o' hl (by rw [HFA.out.2.1]; omega)) (fun _ => rfl)
    (fun k A' B h hb => ⟨h.1.toC hb (by rw [HFA.out.2.1]; have := HFA.out.1; omega) (by have := HFA.out.1; omega) (by rw [HFA.out.2.1]; omega), h.2⟩)
    (fun c k A' B h hb => ⟨h.1, h.2.1.toC hb (by rw [HFA.out.2.1]; have := HFA.out.1; omega) (by have := HFA.out.1; omega) (by rw [HFA.out.2.1]; omega), h.2.2⟩)
    ⟨HE0.out, by have := HFA.out.2.2.1; omega⟩
    (fun k a' W => ∃ Bx, w4.heap.size ≤ Bx ∧ PB W Bx (K (k + 1)) ∧ a' = { tmps := #[.agg #[.slice A rs.length cap, .string T1, .string T2, .string T3], .string o, .pointer (some ⟨P, 0, none⟩), undef, .slice none 0 0, .pointer (some ⟨P + 1, 0, none⟩), .pointer (some ⟨P + 2, 0, none⟩), .slice none 0 0, undef, .pointer (some ⟨Bx, 0, none⟩), undef, .string o, .int .i64 n, .agg #[.slice A rs.length cap, .string T1, .string T2, .string T3], .pointer (some ⟨XA, 0, none⟩), .string o, .func (.func 228) #[] #[.pointer (some ⟨Ba, 0, none⟩), .pointer (some ⟨Ba + 1, 0, none⟩)], .string (S (k + 1)), .agg (pC (K (k + 1))), undef, undef, undef, undef, undef, undef, undef, undef, undef, undef, undef, undef, undef, undef, undef, undef, undef, undef, undef, undef, undef, undef, undef, undef, undef, undef, undef, undef, undef], defers := [] })
    (fun k a' W j o o' h hj hc => by
      obtain ⟨Bx, h1, h2, h3⟩ := h
      refine ⟨Bx, h1, (World.putObj_heap_other ?_).trans h2, h3⟩
      intro e; subst e
      have h4 := h2.symm.trans hj
      injection h4 with h4
      rw [← h4] at hc
      exact absurd hc (by simp [Obj.isCells]))
    ?assign ?body ?stop
  case assign =>
    intro l k W K' hI hlt hK'
    have HI := Lib.hid hI; have HKK := Lib.hid hK'; have HLT := Lib.hid hlt
    clear hI hK' hlt
    have hpm := PB.made W
    have HPM := Lib.hid hpm; clear hpm
    have hql : (K (k + 1)).length = 10 := (HK.out (k + 1)).len
    have HQL := Lib.hid hql; clear hql
    refine region_list_round (by kernel_rfl) (fun _ _ h => h) ?_
    go_wp2_with (first | (refine wpList_store_row rfl 101 _ _ rfl W.heap.size (pC (K (k + 1))) rfl rfl _ _ HPM.out (permSize HQL.out) (by rw [pC_size, pC_size, HQL.out]; rfl) (pC_one _) ?_))
    have hb' : Below W.heap.size W ((W.alloc (.cells #[.int .u8 0, .int .u8 0, .int .u8 0, .int .u8 0, .int .u8 0, .int .u8 0, .int .u8 0, .int .u8 0, .int .u8 0, .int .u8 0] 101)).setRow W.heap.size (pC (K (k + 1)))) := below_setRow ((Below.refl _ _).alloc (Nat.le_refl _) _) (Nat.le_refl _) _
    exact HKK.out _ _ (keeps_below hb') (KP.of_below hb' (Nat.le_of_lt HLT.out) (by rw [HFA.out.2.1]; omega)) ⟨HI.out.1.toC (ButC.of_but (lo := w4.heap.size) (But.of_below (b := Ba + 1) hb') (Nat.le_of_lt HLT.out)) (by rw [HFA.out.2.1]; have := HFA.out.1; omega) (by have := HFA.out.1; omega) (by rw [HFA.out.2.1]; omega), HI.out.2⟩ ⟨W.heap.size, Nat.le_of_lt HLT.out, HPM.out.row _, rfl⟩
  case body =>
    rintro l k a' W hI ⟨Bx, hBx, hPB, rfl⟩ hlt
    have HI := Lib.hid hI; have HBX := Lib.hid hBx; have HLT := Lib.hid hlt; have HPB := Lib.hid hPB
    obtain ⟨Ak, ck, hsk, hok⟩ := hI.1.row
    have hkc : W.cell? ⟨P + 2, 0, none⟩ = some (.slice Ak k ck) := hsk.cell 0 _ rfl
    have hkf := hsk.frozen 0
    have hhc : W.cell? ⟨P + 1, 0, none⟩ = some (.int .i64 n) := hI.1.half.cell 0 _ rfl
    have hql : (K (k + 1)).length = 10 := (HK.out (k + 1)).len
    have HQL := Lib.hid hql; have HOK := Lib.hid hok; have HSK := Lib.hid hsk
    clear hI hBx hlt hPB hok hsk hql
    have hq10 := HQL.out
    have hpv := pV_ten hq10
    have hps := permSize hq10
    rw [pC_ten hq10] at hps
    have hpb := HPB.out
    unfold PB at hpb
    rw [pC_ten hq10] at hpb ⊢
    have hpe : pF (permsTo K k) ++ pV (K (k + 1)) = pF (permsTo K (k + 1)) := by rw [permsTo_succ, pF_snoc]
    rw [hpv] at hpe
    have HPS := Lib.hid hps; have HPT := Lib.hid hpb; have HPE := Lib.hid hpe
    clear hps hpb hpe hpv hq10 HPB HQL
    generalize nth (K (k + 1)) 0 = a0 at *
    generalize nth (K (k + 1)) 1 = a1 at *
    generalize nth (K (k + 1)) 2 = a2 at *
    generalize nth (K (k + 1)) 3 = a3 at *
    generalize nth (K (k + 1)) 4 = a4 at *
    generalize nth (K (k + 1)) 5 = a5 at *
    generalize nth (K (k + 1)) 6 = a6 at *
    generalize nth (K (k + 1)) 7 = a7 at *
    generalize nth (K (k + 1)) 8 = a8 at *
    generalize nth (K (k + 1)) 9 = a9 at *
    have hm2 : w4.heap.size ≤ W.heap.size := Nat.le_of_lt HLT.out
    have hkn := HI.out.2
    have hn3 := HFA.out.2.2.2
    have hPm : P + 2 < w4.heap.size := by rw [HFA.out.2.1]; have := HFA.out.1; omega
    have hnb := ownBlock_ne HOK.out hPm
    refine wpIn_block ?_
    refine wpIn_seq ?_
    refine region_list_round (by kernel_rfl) (fun _ _ h => h) ?_
    go_wp2_with (first | (refine wpList_load_row rfl 101 _ rfl Bx rfl _ _ _ _ HPT.out Tryz.underlying101 rfl HPS.out ?_) | (at_builtin; refine wpList_append_own _ rfl _ _ 136 rfl w4.heap.size 101 iM _ 10 10 Tryz.undPm HI0.out HZ1.out HZ2.out HZ3.out rfl (by decide) _ k _ rfl (HOK.out.alloc _) ⟨W.heap.size, 0, none⟩ 1 1 [.int .u8 (a0 : Int), .int .u8 (a1 : Int), .int .u8 (a2 : Int), .int .u8 (a3 : Int), .int .u8 (a4 : Int), .int .u8 (a5 : Int), .int .u8 (a6 : Int), .int .u8 (a7 : Int), .int .u8 (a8 : Int), .int .u8 (a9 : Int)] rfl rfl (World.news_of_block (fr := (0, 0)) (heap_alloc_new W _)) ten_one (by unfold maxLen; omega) (by omega) (by simp; omega) ?_))
    intro v' w6 ho' hg' _
    rw [HPE.out] at ho'
    obtain ⟨O9, hO9⟩ : ∃ O9 : Obj, O9 = .cells #[.int .u8 (a0 : Int), .int .u8 (a1 : Int), .int .u8 (a2 : Int), .int .u8 (a3 : Int), .int .u8 (a4 : Int), .int .u8 (a5 : Int), .int .u8 (a6 : Int), .int .u8 (a7 : Int), .int .u8 (a8 : Int), .int .u8 (a9 : Int)] 101 := ⟨_, rfl⟩
    rw [← hO9] at hg'
    have hbA : Below W.heap.size W (W.alloc O9) := (Below.refl _ _).alloc (Nat.le_refl _) _
    have hoA := HOK.out.alloc O9
    have hsA := SB.below HSK.out hbA
    have hhA := SB.below HI.out.1.half hbA
    have hnb1 := ownBlock_ne HOK.out (show P + 1 < w4.heap.size by omega)
    have hs6 : SB w6 (P + 2) #[.slice Ak k ck] 136 := SB.own hsA hg' hnb
    have hh6 : SB w6 (P + 1) #[.int .i64 (n : Int)] 3 := SB.own hhA hg' hnb1
    have kc6 : w6.cell? ⟨P + 2, 0, none⟩ = some (.slice Ak k ck) := hs6.cell 0 _ rfl
    have kf6 := hs6.frozen 0
    have hk1 : KeepsOthers W w6 := (keeps_below hbA).trans (keeps_grown hoA hg')
    have hkp : KP P (P + 3) w4.heap.size (Ba + 1) W w6 := (KP.of_below hbA hm2 (by rw [HFA.out.2.1]; omega)).trans (kp_grown hg' (fun j e => (HOK.out.lt j e).1) (Nat.le_trans hm2 hbA.size) (by rw [HFA.out.2.1]; omega))
    have hbl : Below P w w6 := by
      have h1 := HI.out.1.bel.trans (hbA.mono (by omega))
      exact h1.grown hg' (by have := hbA.size; omega) fun j e => by have := (HOK.out.lt j e).1; omega
    obtain ⟨A6, c6, e6⟩ := slot_slice ho'
    subst e6
    have hn6 := ownBlock_ne ho' hPm
    obtain ⟨w7, hw7⟩ : ∃ w7, w7 = w6.setCell ⟨P + 2, 0, none⟩ (.slice A6 (k + 1) c6) := ⟨_, rfl⟩
    have hk7 : KeepsOthers W w7 := by rw [hw7]; exact hk1.trans (KeepsOthers.setCell _ _ _)
    have hp7 : KP P (P + 3) w4.heap.size (Ba + 1) W w7 := by rw [hw7]; exact hkp.trans (KP.own _ _ (by omega) (by omega) (by have := HFA.out.1; omega))
    have hs7 : SB w7 (P + 2) #[.slice A6 (k + 1) c6] 136 := by rw [hw7]; exact hs6.put 0 _
    have hh7 : SB w7 (P + 1) #[.int .i64 (n : Int)] 3 := by rw [hw7]; exact hh6.far (by omega) _ _
    have ho7 : w7.ownsRow w4.heap.size 101 10 (.slice A6 (k + 1) c6) (k + 1) (pF (permsTo K (k + 1))) := by rw [hw7]; exact own_setn ho' (.inr hn6) 0 _
    have hb7 : Below P w w7 := by rw [hw7]; exact hbl.setCell (p := ⟨P + 2, 0, none⟩) (by simp only; omega) _
    have H7 := Lib.hid (show KeysAt w w7 P w4.heap.size n K (k + 1) from ⟨hh7, ⟨A6, c6, hs7, ho7⟩, hb7⟩)
    have HK7 := Lib.hid (And.intro hk7 hp7)
    have sc7 : w7.cell? ⟨P + 2, 0, none⟩ = some (.slice A6 (k + 1) c6) := hs7.cell 0 _ rfl
    have hc7 : w7.cell? ⟨P + 1, 0, none⟩ = some (.int .i64 n) := hh7.cell 0 _ rfl
    have HW7 := Lib.hid hw7
    clear hg' ho' hbA hoA hsA hhA hnb1 hs6 hh6 hk1 hkp hbl hk7 hp7 hs7 hh7 ho7 hb7 hkc hkf hhc hn6 hw7 hO9
    go_wp2_with fail
    rw [← HW7.out]
    have u1 : IntKind.i64.wrap (2 * (n : Int)) = ((2 * n : Nat) : Int) := by rw [IntKind.wrap_i64]; omega
    have u2 : wrap64 (2 * (n : Int)) = ((2 * n : Nat) : Int) := by unfold wrap64; omega
    clear kc6 kf6
    by_cases hend : k + 1 = 2 * n
    · have v5 : (((k : Int) + 1) == ((2 * n : Nat) : Int)) = true := by rw [beq_iff_eq]; omega
      have v6 : (((k + 1 : Nat) : Int) == ((2 * n : Nat) : Int)) = true := by rw [beq_iff_eq]; omega
      have HEND := Lib.hid hend
      clear hend
      gi_wp2_with fail
      exact ⟨HK7.out.1, rfl, H7.out, HEND.out⟩
    · have v5 : (((k : Int) + 1) == ((2 * n : Nat) : Int)) = false := by rw [beq_eq_false_iff_ne]; omega
      have v6 : (((k + 1 : Nat) : Int) == ((2 * n : Nat) : Int)) = false := by rw [beq_eq_false_iff_ne]; omega
      have HEND := Lib.hid hend
      clear hend
      gi_wp2_with fail
      exact ⟨HK7.out.1, HK7.out.2, H7.out, by have h1 := HI.out.2; have h2 := HEND.out; omega⟩
  case stop =>
    rintro D' _ k W ⟨rfl, hE, rfl⟩ hD hK0
    obtain ⟨Ak, ck, hsk, hok⟩ := hE.row
    have hn1 := HFA.out.2.2.1
    have hn3 := HFA.out.2.2.2
    have hPm : P + 2 < w4.heap.size := by rw [HFA.out.2.1]; have := HFA.out.1; omega
    have hD2 : D' < W.heap.size := (Array.getElem?_eq_some_iff.1 hK0).1
    have hl10 : ∀ x ∈ permsTo K (2 * n), x.length = 10 := fun x hx => by
      obtain ⟨j, _, rfl⟩ := List.mem_map.1 hx
      exact (HK.out _).len
    have hrk := own_rd3' hok
    have hne : pF (permsTo K (2 * n)) ≠ [] := by
      intro e
      have h1 := pF_length _ hl10
      rw [e, permsTo_len, List.length_nil] at h1; omega
    obtain ⟨b, off, rfl, hbb, hcell⟩ := hrk hne
    have hkc : W.cell? ⟨P + 2, 0, none⟩ = some (.slice (some ⟨b, off, none⟩) (2 * n) ck) := hsk.cell 0 _ rfl
    have hhc : W.cell? ⟨P + 1, 0, none⟩ = some (.int .i64 n) := hE.half.cell 0 _ rfl
    obtain ⟨L, hL⟩ : ∃ L, L = 2 * n := ⟨_, rfl⟩
    rw [← hL] at hkc
    have HRA := Lib.hid (fun (W' : World) (hb : Below W.heap.size W W') (i : Nat) (hi : i < 2 * n) => (show W'.rangeAt b (off + i * 10) (pV (K (i + 1))) from by
      have h1 := rangeAt_below (pF_range hl10 (fun j hj => (hcell j hj).trans (List.getElem?_eq_getElem hj).symm) (i := i) (by rw [permsTo_len]; exact hi)) hb
      rw [permsTo_at] at h1
      exact h1))
    have HKC := Lib.hid (fun (W' : World) (hb : Below W.heap.size W W') => (hb.cell (World.block_lt_of_cell? _ _ hkc)).trans hkc)
    have HHC := Lib.hid (fun (W' : World) (hb : Below W.heap.size W W') => (hb.cell (World.block_lt_of_cell? _ _ hhc)).trans hhc)
    have HE := Lib.hid hE; have HDD := Lib.hid hK0; have HD := Lib.hid hD; have HD2 := Lib.hid hD2
    clear hE hD hK0 hD2 hsk hok hrk hne hcell hl10
    refine wpIn_wide.2 ?_
    go_wp2_with fail
    go_loopw [7, 29] (fun ov iv wr => ∃ j : Nat, j ≤ n ∧ iv = .int .i64 (j : Int) ∧ Hid (wr.ownsRow W.heap.size 101 10 ov j (pF ((List.range j).map (prodP K n)))) ∧ Hid (Below W.heap.size W wr)) (fun _ iv _ => n - (intOf iv).toNat)
    case atStart => exact ⟨0, Nat.zero_le _, rfl, Lib.hid (World.ownsRow_nil _ _ _ _), Lib.hid (Below.refl _ _)⟩
    case round =>
      obtain ⟨j, hj, rfl, HO, HBL⟩ := hrel
      obtain ⟨A3, c3, e3⟩ := slot_slice HO.out
      subst e3
      by_cases hlt : j < n
      · have v0 : (j : Int) < (n : Int) := by omega
        have hp1 := (HK.out (j + 1))
        have hp2 := (HK.out (j + n + 1))
        have hp3 := prodP_prm HK.out n j
        have hth := fun w' => then_any w' (K (j + 1)) (K (j + n + 1)) hp1.toTen hp2.toTen
        rw [show thenP (K (j + 1)) (K (j + n + 1)) = prodP K n j from rfl, pC_ten hp3.len, pC_ten hp1.len, pC_ten hp2.len] at hth
        have hpe : pF ((List.range j).map (prodP K n)) ++ pV (prodP K n j) = pF ((List.range (j + 1)).map (prodP K n)) := by rw [pF_snoc, List.range_succ, List.map_append]; rfl
        rw [pV_ten hp3.len] at hpe
        have hbW : Below W.heap.size W wr := HBL.out
        have hA : ∀ i, i < 10 → wr.cell? ⟨b, off + j * 10 + i, none⟩ = some (.int .u8 (nth (K (j + 1)) i : Int)) := fun i hi => by
          refine HRA.out _ hbW j (by omega) i _ ?_
          have hq := hp1.len
          rw [List.getElem?_map, List.getElem?_eq_getElem (by omega), nth_eq (by omega)]; rfl
        have hB : ∀ i, i < 10 → wr.cell? ⟨b, off + (j + n) * 10 + i, none⟩ = some (.int .u8 (nth (K (j + n + 1)) i : Int)) := fun i hi => by
          refine HRA.out _ hbW (j + n) (by omega) i _ ?_
          have hq := hp2.len
          rw [List.getElem?_map, List.getElem?_eq_getElem (by omega), nth_eq (by omega)]; rfl
        have p0 := hA 0 (by omega)
        have p1 := hA 1 (by omega)
        have p2 := hA 2 (by omega)
        have p3 := hA 3 (by omega)
        have p4 := hA 4 (by omega)
        have p5 := hA 5 (by omega)
        have p6 := hA 6 (by omega)
        have p7 := hA 7 (by omega)
        have p8 := hA 8 (by omega)
        have p9 := hA 9 (by omega)
        have r0 := hB 0 (by omega)
        have r1 := hB 1 (by omega)
        have r2 := hB 2 (by omega)
        have r3 := hB 3 (by omega)
        have r4 := hB 4 (by omega)
        have r5 := hB 5 (by omega)
        have r6 := hB 6 (by omega)
        have r7 := hB 7 (by omega)
        have r8 := hB 8 (by omega)
        have r9 := hB 9 (by omega)
        rw [Nat.add_zero] at p0 r0
        have hk := HKC.out _ hbW
        have hh := HHC.out _ hbW
        have HTH := Lib.hid hth; have HPE := Lib.hid hpe
        have hbd : Below W.heap.size W wr.drew := hbW.drew
        have hbr : Below wr.heap.size wr wr.drew := (Below.refl _ _).drew
        have hbz := hbW.size
        have x1 : IntKind.i64.wrap ((j : Int) + (n : Int)) = (j : Int) + (n : Int) := by rw [IntKind.wrap_i64]; omega
        have x2 : (0 : Int) ≤ (j : Int) + (n : Int) := by omega
        have x3 : (j : Int) + (n : Int) < (L : Int) := by omega
        have x6 : j + n < L := by omega
        have x7 : j < L := by omega
        have x8 : ((j + n : Nat) : Int) < (L : Int) := by omega
        have x4 : ((j : Int) + (n : Int)).toNat = j + n := by omega
        have x5 : (j : Int) < (L : Int) := by omega
        have HO5 := Lib.hid (fun (w5 : World) (h5 : Below wr.heap.size wr w5) => ownsRow_below HO.out h5)
        clear hth hpe hp1 hp2 hp3 hkc hhc hL hA hB
        generalize nth (K (j + 1)) 0 = e0 at *
        generalize nth (K (j + n + 1)) 0 = f0 at *
        generalize nth (prodP K n j) 0 = a0 at *
        generalize nth (K (j + 1)) 1 = e1 at *
        generalize nth (K (j + n + 1)) 1 = f1 at *
        generalize nth (prodP K n j) 1 = a1 at *
        generalize nth (K (j + 1)) 2 = e2 at *
        generalize nth (K (j + n + 1)) 2 = f2 at *
        generalize nth (prodP K n j) 2 = a2 at *
        generalize nth (K (j + 1)) 3 = e3 at *
        generalize nth (K (j + n + 1)) 3 = f3 at *
        generalize nth (prodP K n j) 3 = a3 at *
        generalize nth (K (j + 1)) 4 = e4 at *
        generalize nth (K (j + n + 1)) 4 = f4 at *
        generalize nth (prodP K n j) 4 = a4 at *
        generalize nth (K (j + 1)) 5 = e5 at *
        generalize nth (K (j + n + 1)) 5 = f5 at *
        generalize nth (prodP K n j) 5 = a5 at *
        generalize nth (K (j + 1)) 6 = e6 at *
        generalize nth (K (j + n + 1)) 6 = f6 at *
        generalize nth (prodP K n j) 6 = a6 at *
        generalize nth (K (j + 1)) 7 = e7 at *
        generalize nth (K (j + n + 1)) 7 = f7 at *
        generalize nth (prodP K n j) 7 = a7 at *
        generalize nth (K (j + 1)) 8 = e8 at *
        generalize nth (K (j + n + 1)) 8 = f8 at *
        generalize nth (prodP K n j) 8 = a8 at *
        generalize nth (K (j + 1)) 9 = e9 at *
        generalize nth (K (j + n + 1)) 9 = f9 at *
        generalize nth (prodP K n j) 9 = a9 at *
        go_wp2_with fail
        refine wp_region_noPanic ?_
        go_region_law (first | (go_simp; go_at_call 122; refine (HTH.out _).mono ?_; rintro _ w5 ⟨rfl, hb5⟩; have b5 := bel_on (a := W) (by with_reducible assumption) hb5; have ho5 := HO5.out _ (bel_on (a := wr) (by with_reducible assumption) hb5); have h5z := b5.size; clear hb5) | (refine step_append_lies _ (by rfl) (.tmp 32) (.tmp 44) 136 (by rfl) W.heap.size 101 iM _ 10 10 Tryz.undPm HI0.out HZ1.out HZ2.out HZ3.out rfl (by decide) (.slice A3 j c3) j _ (by rfl) (ho5.alloc _) ⟨w5.heap.size, 0, none⟩ 1 1 [.int .u8 (a0 : Int), .int .u8 (a1 : Int), .int .u8 (a2 : Int), .int .u8 (a3 : Int), .int .u8 (a4 : Int), .int .u8 (a5 : Int), .int .u8 (a6 : Int), .int .u8 (a7 : Int), .int .u8 (a8 : Int), .int .u8 (a9 : Int)] (by rfl) rfl (World.news_of_block (fr := (0, 0)) (heap_alloc_new w5 _)) ten_one (by decide) (by unfold maxLen; omega) (by omega) (by simp; omega) (w5.heap.size + 1) (by simp) ?_; intro g6 c6 w6 ho6 hg6 hat6 hlt6) | fail)
        all_goals
          refine NoPanic.normal ?_
          rw [HPE.out] at ho6
          have b6 := (bel_alK2 b5).grown hg6 (Nat.le_trans b5.size (by simp)) fun k' e => (ho5.lt k' e).1
          have HO6 := Lib.hid ho6; have HB6 := Lib.hid b6
          clear ho5 ho6 hg6 b6 hat6 hlt6 p0 p1 p2 p3 p4 p5 p6 p7 p8 p9 r0 r1 r2 r3 r4 r5 r6 r7 r8 r9 hk hh
          go_wp2_with fail
          go_roundw
          case rel => exact ⟨j + 1, by omega, by go_num, HO6, HB6⟩
          case measure => simp [intOf]; omega
      · obtain rfl : j = n := by omega
        have hdd : wr.heap[D']? = some (.deferred (some [])) := (HBL.out.block D' HD2.out).trans HDD.out
        have hbw : Below P w wr := HE.out.bel.trans (HBL.out.mono (by have := HD.out; have := HD2.out; omega))
        have HDW := Lib.hid hdd; have HBW := Lib.hid hbw
        have hpw : P ≤ W.heap.size := by have := HD.out; have := HD2.out; omega
        clear hdd hbw
        go_wp2_with fail
        refine ⟨by simp, .inl ⟨_, _, rfl, run_takeDeferred (show wr.heap[D']? = some (.deferred (some [])) from HDW.out), ?_⟩⟩
        refine ⟨.slice A3 j c3, by simp [results, Tryz.results99, go_sem], A3, c3, ?_, ?_, ?_⟩
        · rw [HN.out]
        · rw [← HN.out, ← HSS.out.2]
          exact own_mono3 (own_putObj HO.out HD2.out _) (by rw [← HP.out]; exact hpw)
        · have h1 := HBW.out
          rw [HP.out] at h1
          exact bel_put h1 (by have := HD.out; rw [← HP.out]; omega) _

end

end Go.Proofs.YtipcodebmemkpaaGreatDoor
