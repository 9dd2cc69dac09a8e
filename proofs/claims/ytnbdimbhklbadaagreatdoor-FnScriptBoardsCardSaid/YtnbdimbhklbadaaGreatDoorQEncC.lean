/-
  Contracts of functions and plain laws that the law's proof uses (parts: EncC). Conditions: what each theorem names.
-/
import Derived.RangeFuncNested
import Derived.RangeFuncBound
import Derived.RangeFuncCalls
import Derived.RangeFuncLeaves
import Derived.Shelf.Abstract
import Derived.Shelf.RegionOpen
import Derived.WalkKit
import Derived.OwnWalkIn
import Derived.TacticsInMore
import Derived.LoopNIn
import Derived.LoopIn
import Derived.OrdersHeld
import Derived.OrdersIn
import Derived.Deep.RegionHeld
import Derived.TacticsIn
import Derived.StillTail
import Derived.Deep.RegionHeld3
import Derived.Stop.RegionWithIn
import Derived.StillTailTactics
import Derived.BigQuiet
import Derived.Test.YtnbdimbhklbadaaGreatDoorQPerms
import Derived.Test.YtnbdimbhklbadaaGreatDoorQKeyA
import Derived.Test.YtnbdimbhklbadaaGreatDoorQStepA
import Derived.Test.YtnbdimbhklbadaaGreatDoorQTextF
import Derived.Test.YtnbdimbhklbadaaGreatDoorQRunTw
namespace Go.Proofs.YtnbdimbhklbadaaGreatDoor
open Go Go.RowKit Pl
set_option linter.unusedVariables false
structure But (b : Nat) (A B : World) : Prop where
  os : B.os = A.os
  tape : B.tape = A.tape
  output : B.output = A.output
  size : A.heap.size ≤ B.heap.size
  block : ∀ k, k < A.heap.size → k ≠ b → B.heap[k]? = A.heap[k]?
structure ButTo (lo b : Nat) (A B : World) : Prop where
  os : B.os = A.os
  tape : B.tape = A.tape
  output : B.output = A.output
  size : A.heap.size ≤ B.heap.size
  block : ∀ k, k < lo → k ≠ b → B.heap[k]? = A.heap[k]?
theorem But.to {b lo : Nat} {A B : World} (h : But b A B) (hl : lo ≤ A.heap.size) : ButTo lo b A B := ⟨h.os, h.tape, h.output, h.size, fun k hk hn => h.block k (by omega) hn⟩
theorem But.of_below {b : Nat} {A B : World} (h : Below A.heap.size A B) : But b A B := ⟨h.os, h.tape, h.output, h.size, fun k hk _ => h.block k hk⟩
theorem But.of_set {b : Nat} (A : World) (o : Nat) (v : Value) : But b A (A.setCell ⟨b, o, none⟩ v) :=
  ⟨rfl, rfl, rfl, by show A.heap.size ≤ (A.heap.modify _ _).size; rw [Array.size_modify]; exact Nat.le_refl _, fun k _ hn => Below.heap_setCell _ _ _ _ hn⟩
theorem But.trans {b : Nat} {A B C : World} (h : But b A B) (k : But b B C) : But b A C :=
  ⟨k.os.trans h.os, k.tape.trans h.tape, k.output.trans h.output, Nat.le_trans h.size k.size, fun i hi hn => (k.block i (Nat.lt_of_lt_of_le hi h.size) hn).trans (h.block i hi hn)⟩
theorem ButTo.cell {lo b : Nat} {A B : World} (h : ButTo lo b A B) {p : Addr} (hp : p.block < lo) (hn : p.block ≠ b) : B.cell? p = A.cell? p := World.cell?_of_block (w := A) (h.block p.block hp hn)
theorem ButTo.frozen {lo b : Nat} {A B : World} (h : ButTo lo b A B) {p : Addr} (hp : p.block < lo) (hn : p.block ≠ b) : B.frozen? p = A.frozen? p := World.frozen?_of_block (w := A) (h.block p.block hp hn)
theorem ButTo.below {lo b n : Nat} {A B : World} (h : ButTo lo b A B) (hl : n ≤ lo) (hb : n ≤ b) : Below n A B := ⟨h.os, h.tape, h.output, h.size, fun k hk => h.block k (by omega) (by omega)⟩
theorem butTo_put (W : World) {lo b l : Nat} (o : Obj) (h : lo ≤ l) : ButTo lo b W (W.putObj l o) := ⟨rfl, rfl, rfl, by simp, fun k hk _ => World.putObj_heap_other (by omega)⟩
theorem butTo_alloc (W : World) {lo b : Nat} (o : Obj) (h : lo ≤ W.heap.size) : ButTo lo b W (W.alloc o) := ⟨rfl, rfl, rfl, by simp, fun k hk _ => Below.heap_alloc W o k (by omega)⟩
def ownPostN (Kp : World → World → Prop) (I : Nat → World → Prop) (Ix : Code → Nat → World → Prop) (k : Nat) (W : World) : Exit → Act → World → Prop
  | .normal, _, W' => KeepsOthers W W' ∧ Kp W W' ∧ I k W'
  | .ret, _, W' => KeepsOthers W W' ∧ Ix .ret k W'
  | .exit id, _, W' => KeepsOthers W W' ∧ Ix (.exit id) k W'
  | .goto t, _, W' => KeepsOthers W W' ∧ Ix (.goto t) k W'
  | .panic _, _, _ => False
  | .outgrown, _, _ => False
def SeqN (F : Fence) (n : Nat) (P : Program) (gf : Nat) (lb : Array Value) (encs : Nat → Array Value) (Kp : World → World → Prop) (b : Nat) (I : Nat → World → Prop) (w : World) : Prop :=
  ∀ (l : Nat) (J Jx : Nat → World → Prop) (W : World), Below w.heap.size w W → w.heap.size ≤ W.heap.size →
    (∀ k A B, J k A → But b A B → J k B) → (∀ k A, J k A → I k A ∧ w.heap.size ≤ A.heap.size) →
    (∀ k W1, J k W1 → YieldAt F (n - 1) P l (encs k) W1 fun e W' => (e = .returned (.bool true) ∧ J (k + 1) W' ∧ Kp W1 W') ∨ (e = .returned (.bool false) ∧ Jx (k + 1) W')) →
    J 0 W → CallsIn F n P gf (#[.func (.yield l) #[] #[]] ++ lb) W fun e W' => (∃ v, e = .returned v) ∧ ∃ k, Jx k W'
section
variable {P : Program} {ops : Array Oper} {Q : Exit → Act → World → Prop} {md : Region.Mode} {S : World → Prop} {l n : Nat}
theorem opIn_round {o : Oper} {a : Act} {w : World} {K : Act → World → Prop} (hnd : ∀ c, o.op ≠ .defer c) (h : o.wp P a w K Q) : o.wpIn (Fence.wide.inRound l) n P a w K Q := by
  unfold Oper.wp at h
  unfold Oper.wpIn
  refine ⟨fun _ _ => trivial, ?_⟩
  rw [Fence.inRound_round, Oper.semAt_some _ _ _ hnd]
  generalize (execOp a.eval o).run P w = r at h ⊢
  cases r with
  | ok x w' =>
    cases x <;> simp only [Oper.upon, Oper.uponIn] at h ⊢
    · exact h
    · exact h
    · exact ⟨fun e => by simp [Fence.wide] at e, CallsIn.inRound l (callsIn_wide.2 h)⟩
    · exact h
    · exact ⟨fun e => by simp [Fence.wide] at e, fun c cs _ => let ⟨v, w'', r, s⟩ := h c cs; ⟨v, w'', r, stepsIn_wide.2 s⟩⟩
  | halt x w' => cases x <;> simp only [Oper.upon, Oper.uponIn] at h ⊢ <;> exact h
theorem opAt_round {i : Nat} {a : Act} {w : World} {K : Act → World → Prop} (hnd : ∀ (j : Nat) (o : Oper) c, ops[j]? = some o → o.op ≠ .defer c) (hlo : ∀ a w, ¬ Q .outgrown a w) (h : wpOp P ops Q i K a w) :
    wpOpIn (Fence.wide.inRound l) n P ops Q i K a w := by
  unfold wpOp at h
  unfold wpOpIn
  cases ho : ops[i]? with
  | none => simpa only [ho] using h
  | some o =>
    simp only [ho] at h ⊢
    by_cases hw : Region.wanted o (yielded ops a.tmps) = true
    · rw [if_pos hw] at h ⊢
      rcases h with h | ⟨_, a', w', hq⟩
      · exact opIn_round (fun c => hnd i o c ho) h
      · exact absurd hq (hlo _ _)
    · rw [if_neg hw] at h ⊢
      exact ⟨fun _ _ => trivial, h⟩
theorem anyIn_round (hnd : ∀ (j : Nat) (o : Oper) c, ops[j]? = some o → o.op ≠ .defer c) (hlo : ∀ a w, ¬ Q .outgrown a w) : ∀ (fuel : Nat) (listed : Array Bool) (a : Act) (w : World), wpAny P md ops Q fuel listed a w → wpAnyIn (Fence.wide.inRound l) n P md ops Q fuel listed a w
  | 0, _, _, _, h => h
  | fuel + 1, _, _, _, h => ⟨h.1, fun i hi => opAt_round hnd hlo (wpOp_mono (fun a' w' h' => anyIn_round hnd hlo fuel _ a' w' h') (h.2 i hi))⟩
def noDefer (ops : Array Oper) : Bool := ops.toList.all fun o => match o.op with | .defer _ => false | _ => true
theorem noDefer_spec (h : noDefer ops = true) : ∀ (j : Nat) (o : Oper) c, ops[j]? = some o → o.op ≠ .defer c := fun j o c hj e => by
  have hm : o ∈ ops.toList := by
    obtain ⟨h1, rfl⟩ := Array.getElem?_eq_some_iff.1 hj
    exact Array.getElem_mem_toList h1
  have := List.all_eq_true.1 h o hm
  simp [e] at this
theorem still_tail_round {id : Nat} {a : Act} {w : World} {ol : List Oper} (k : Nat) (hm : P.follows .mixedOrders = true) (hnd : noDefer ol.toArray = true) (hlo : ∀ a w, ¬ Q .outgrown a w) (hB : Region.lexTailB .any ol.toArray k = true)
    (h : wpStill P ol.toArray w.drew (fun a' => wpList P ol.toArray Q (ol.drop k) a' w.drew) (ol.take k) a) : (Code.region id ol.toArray true).wpIn (Fence.wide.inRound l) n P Q a w := by
  refine wpIn_region_any hm (anyIn_round (noDefer_spec hnd) hlo _ _ _ _ ?_)
  simp only [Region.lexTailB, Bool.and_eq_true, decide_eq_true_eq] at hB
  obtain ⟨⟨⟨⟨hsel, hn⟩, hs⟩, hc⟩, hlex⟩ := hB
  have hn' : k < ol.length := by simpa using hn
  have htl : (ol.take k).length = k := by simp; omega
  have hdl : (ol.drop k).length = ol.toArray.size - k := by simp
  have inv0 : HeadInv .any ol.toArray k (Array.replicate ol.toArray.size false) :=
    ⟨by simp, fun j oj _ hl => (by rw [getD_replicate_false] at hl; cases hl), fun t _ ht => getD_in (by simpa using ht) (getD_replicate_false _ _)⟩
  have H := wpAnyL_lex (md := .any) (g := ol.toArray.size - k) hsel hs hc hn (ol.take k) 0 _ a (fun j hj => by
    have hj' : j < k := by rw [htl] at hj; exact hj
    simp [hj']) (by simpa using htl) inv0 (by rw [htl]; exact hlex) h
  have h2 := wpAny_of_head (Q' := Q) (g := ol.toArray.size - k) (fun listed a' hL => by
    have h3 := wpAny_of_seq (md := .any) (Q' := Q) (ol.drop k) k listed a' w.drew (fun j => by simp [List.getElem?_drop]) (by rw [hdl]; exact hL.1) hL.2
    rwa [hdl] at h3) _ _ _ H
  rw [htl, show k + (ol.toArray.size - k) = ol.toArray.size by omega] at h2
  exact h2
theorem list_round (hlo : ∀ a w, ¬ Q .outgrown a w) : ∀ (ol : List Oper) (a : Act) (w : World), (∀ o ∈ ol, ∀ c, o.op ≠ .defer c) → wpList P ops Q ol a w → wpListIn (Fence.wide.inRound l) n P ops Q ol a w
  | [], _, _, _, h => h
  | o :: rest, a, w, hnd, h => by
    unfold wpList at h
    unfold wpListIn
    by_cases hw : Region.wanted o (yielded ops a.tmps) = true
    · rw [if_pos hw] at h ⊢
      rcases h with h | ⟨_, a', w', hq⟩
      · exact opIn_round (hnd o (by simp)) (Oper.wp_mono (fun a' w' h' => list_round hlo rest a' w' (fun o' ho' => hnd o' (by simp [ho'])) h') h)
      · exact absurd hq (hlo _ _)
    · rw [if_neg hw] at h ⊢
      exact ⟨fun _ _ => trivial, list_round hlo rest _ _ (fun o' ho' => hnd o' (by simp [ho'])) h⟩
theorem region_list_round {id : Nat} {a : Act} {w : World} {ol : List Oper} (hnd : noDefer ol.toArray = true) (hlo : ∀ a w, ¬ Q .outgrown a w) (h : wpList P ol.toArray Q ol a w) : (Code.region id ol.toArray false).wpIn (Fence.wide.inRound l) n P Q a w :=
  wpIn_region_lit (list_round hlo ol a w (fun o ho c => by
    obtain ⟨j, hj, e⟩ := List.getElem_of_mem ho
    exact noDefer_spec hnd j o c (by simp [hj, e])) h)
end
def wnd (rs : List (ByteArray × ByteArray)) (o : ByteArray) (k : Nat) : List Nat := (stepN rs (tl o) k).map dg
theorem wnd_lo {rs : List (ByteArray × ByteArray)} {o : ByteArray} (h : wv (tl o) = true) (k : Nat) : ∀ x ∈ wnd rs o k, x < 10 := by
  intro x hx
  unfold wnd at hx
  rw [List.mem_map] at hx
  obtain ⟨c, hc, rfl⟩ := hx
  exact dg_lt (wv_mem (stepN_wv rs h k) hc)
theorem wnd_len (rs : List (ByteArray × ByteArray)) (o : ByteArray) (k : Nat) : (wnd rs o k).length = o.size := by
  unfold wnd; rw [List.length_map, stepN_len, length_tl]
theorem wnd_pT {rs : List (ByteArray × ByteArray)} {o : ByteArray} (h : wv (tl o) = true) (k : Nat) : pT (wnd rs o k) = stepW rs o k := by
  unfold wnd pT stepW
  congr 1
  rw [List.map_map]
  conv => rhs; rw [← List.map_id (stepN rs (tl o) k)]
  exact List.map_congr_left fun c hc => letter_dg (wv_mem (stepN_wv rs h k) hc)
def keyP (q r : List Nat) (rs : List (ByteArray × ByteArray)) (rg : List Nat) (o : ByteArray) (k : Nat) : List Nat := permW (wayC q rs (wnd rs o k) rg rs.length rs.length) r
theorem keyP_prm {q r : List Nat} {rs : List (ByteArray × ByteArray)} {rg : List Nat} {o : ByteArray} (hq : Prm q) (hr : Prm r) (hw : ∀ i, i < rs.length → Prm (wirP rs i)) (k : Nat) : Prm (keyP q r rs rg o k) := by
  have hw := wayC_prm (ws := wnd rs o k) (rg := rg) hq hw rs.length (Nat.le_refl _)
  exact prm_then (prm_then hw hr) (prm_inv hw)
theorem nth_thenP {p q : List Nat} {x : Nat} (hx : x < p.length) : nth (thenP p q) x = nth q (nth p x) := by
  unfold nth thenP
  rw [List.getElem?_map, List.getElem?_eq_getElem hx]
  rfl
theorem permW_back {w r : List Nat} (hw : Prm w) (hr : Prm r) (hi : invP r = r) {x : Nat} (hx : x < 10) : nth (permW w r) (nth (permW w r) x) = x := by
  have hwr := prm_then hw hr
  have h1 : ∀ y, y < 10 → nth (permW w r) y = nth (invP w) (nth r (nth w y)) := fun y hy => by
    unfold permW
    rw [nth_thenP (by rw [hwr.len]; exact hy), nth_thenP (by rw [hw.len]; exact hy)]
  have hl : nth (permW w r) x < 10 := nth_ten (prm_then hwr (prm_inv hw)).toTen
  rw [h1 _ hl, h1 x hx, inv_right hw (nth_ten hr.toTen), inv_nth hr hi (nth_ten hw.toTen), inv_left hw hx]
def encN (Pr : Nat → List Nat) (us : List Nat) : List Nat := us.mapIdx fun i x => nth (Pr (i + 1)) x
def encTo (Pr : Nat → List Nat) (us : List Nat) (k : Nat) : List Nat := (encN Pr us).take k ++ us.drop k
attribute [local go_sem] Oper.semAt_some
structure KB (n0 n1 m b : Nat) (A B : World) : Prop where
  size : A.heap.size ≤ B.heap.size
  block : ∀ j, j < m → (j < n0 ∨ n1 ≤ j) → j ≠ b → B.heap[j]? = A.heap[j]?
theorem KB.refl (n0 n1 m b : Nat) (A : World) : KB n0 n1 m b A A := ⟨Nat.le_refl _, fun _ _ _ _ => rfl⟩
theorem KB.trans {n0 n1 m b : Nat} {A B C : World} (h : KB n0 n1 m b A B) (k : KB n0 n1 m b B C) : KB n0 n1 m b A C := ⟨Nat.le_trans h.size k.size, fun j h1 h2 h3 => (k.block j h1 h2 h3).trans (h.block j h1 h2 h3)⟩
theorem KB.of_below {n0 n1 m b : Nat} {A B : World} (h : Below m A B) : KB n0 n1 m b A B := ⟨h.size, fun j h1 _ _ => h.block j h1⟩
theorem KB.set {n0 n1 m b : Nat} (A : World) (v : Value) : KB n0 n1 m b A (A.setCell ⟨b, 0, none⟩ v) :=
  ⟨by show A.heap.size ≤ (A.heap.modify _ _).size; rw [Array.size_modify]; exact Nat.le_refl _, fun j _ _ hj => Below.heap_setCell A ⟨b, 0, none⟩ v j (by intro e; exact hj e)⟩
theorem KB.own {n0 n1 m b p o : Nat} (A : World) (v : Value) (h0 : n0 ≤ p) (h1 : p < n1) : KB n0 n1 m b A (A.setCell ⟨p, o, none⟩ v) :=
  ⟨by show A.heap.size ≤ (A.heap.modify _ _).size; rw [Array.size_modify]; exact Nat.le_refl _, fun j _ hj _ => Below.heap_setCell A ⟨p, o, none⟩ v j (by intro e; simp only at e; omega)⟩
theorem KB.put {n0 n1 m b : Nat} (A : World) (l : Nat) (o : Obj) (h : m ≤ l) : KB n0 n1 m b A (A.putObj l o) := ⟨by simp, fun j hj _ _ => World.putObj_heap_other (by omega)⟩
theorem KB.cell {n0 n1 m b : Nat} {A B : World} (h : KB n0 n1 m b A B) {p o : Nat} (hp : p < m) (h1 : p < n0 ∨ n1 ≤ p) (h2 : p ≠ b) : B.cell? ⟨p, o, none⟩ = A.cell? ⟨p, o, none⟩ := World.cell?_of_block (w := A) (a := ⟨p, o, none⟩) (h.block p hp h1 h2)
def KP (n0 n1 m b : Nat) (A B : World) : Prop := KB n0 n1 m b A B ∧ B.heap[b]? = A.heap[b]?
theorem KP.trans {n0 n1 m b : Nat} {A B C : World} (h : KP n0 n1 m b A B) (k : KP n0 n1 m b B C) : KP n0 n1 m b A C := ⟨h.1.trans k.1, k.2.trans h.2⟩
theorem keys_is (w : World) (X : Nat) (o : ByteArray) :
    Calls Tryz.prog 49 #[.pointer (some ⟨X, 0, none⟩), .string o] w fun e w' => e = .returned (.func (.func 84) #[] #[.pointer (some ⟨w.heap.size, 0, none⟩), .pointer (some ⟨w.heap.size + 1, 0, none⟩)]) ∧ w' = (w.alloc (.cells #[.pointer (some ⟨X, 0, none⟩)] 92)).alloc (.cells #[.string o] 9) := by
  go_enter Tryz.func49, Tryz.ntmps49
  go_wp2_with fail
  go_ret
  exact ⟨rfl, rfl⟩
set_option maxHeartbeats 4000000 in
set_option maxRecDepth 100000 in
theorem keys1_seq (n L Ba b X n0 n1 : Nat) (w : World) (g0 : Value) (p : ByteArray) (S : Nat → ByteArray) (K : Nat → List Nat) (Rdy : World → Prop) (I : Nat → World → Prop) (mu : World → Nat)
    (hb : b < w.heap.size) (hX : X < w.heap.size) (hBa : Ba < w.heap.size) (hbX : X ≠ b) (hbB : Ba ≠ b) (h1X : n1 ≤ X) (h1B : n1 ≤ Ba) (h1b : n1 ≤ b)
    (hca : w.cell? ⟨Ba, 0, none⟩ = some (.pointer (some ⟨X, 0, none⟩))) (hcb : w.cell? ⟨b, 0, none⟩ = some (.string (S 0))) (hfb : w.frozen? ⟨b, 0, none⟩ = false)
    (hx0 : w.cell? ⟨X, 0, none⟩ = some g0) (hx1 : w.cell? ⟨X, 1, none⟩ = some (.string p))
    (hR0 : Rdy w) (hR : ∀ A B, Rdy A → KB n0 n1 w.heap.size b A B → Rdy B)
    (hst : ∀ W k, Rdy W → Calls Tryz.prog 85 #[.agg #[g0, .string p], .string (S k)] W fun e w' => e = .returned (.string (S (k + 1))) ∧ Below W.heap.size W w')
    (hpm : ∀ W k, Rdy W → Calls Tryz.prog 86 #[.pointer (some ⟨X, 0, none⟩), .string (S k)] W fun e w' => e = .returned (.agg (pC (K k))) ∧ Below W.heap.size W w')
    (hmu : ∀ k W, I k W → k + mu W = L) :
    SeqN Fence.wide n Tryz.prog 84 #[.pointer (some ⟨Ba, 0, none⟩), .pointer (some ⟨b, 0, none⟩)] (fun k => #[.string (S (k + 1)), .agg (pC (K (k + 1)))]) (KP n0 n1 w.heap.size b) b I w := by
  intro l J Jx W hW hWs hJ hJI hY hJ0
  have hkw : KB n0 n1 w.heap.size b w W := KB.of_below hW
  have hcb1 : W.cell? ⟨b, 0, none⟩ = some (.string (S 0)) := (hW.cell (p := ⟨b, 0, none⟩) hb).trans hcb
  have hfb1 : W.frozen? ⟨b, 0, none⟩ = false := (hW.frozen (p := ⟨b, 0, none⟩) hb).trans hfb
  -- what the cells hold in each world that keeps
  have hce : ∀ W', KB n0 n1 w.heap.size b w W' → W'.cell? ⟨Ba, 0, none⟩ = some (.pointer (some ⟨X, 0, none⟩)) ∧ W'.cell? ⟨X, 0, none⟩ = some g0 ∧ W'.cell? ⟨X, 1, none⟩ = some (.string p) := fun W' h =>
    ⟨(h.cell hBa (.inr h1B) hbB).trans hca, (h.cell hX (.inr h1X) hbX).trans hx0, (h.cell hX (.inr h1X) hbX).trans hx1⟩
  have HCE := Lib.hid hce; have HR0 := Lib.hid hR0; have HR := Lib.hid hR; have HST := Lib.hid hst; have HPM := Lib.hid hpm; have HMU := Lib.hid hmu; have HKW := Lib.hid hkw; have HJ := Lib.hid hJ; have HJI := Lib.hid hJI; have HY := Lib.hid hY; have HJ0 := Lib.hid hJ0
  have HN := Lib.hid (show b < w.heap.size ∧ X ≠ b ∧ Ba ≠ b from ⟨hb, hbX, hbB⟩)
  clear hce hR0 hR hst hpm hmu hkw hJ hJI hY hJ0 hW hca hcb hfb hx0 hx1 hb hX hBa hbX hbB h1X h1B h1b
  refine callsIn_of_wp Tryz.func84 rfl trivial ?_ rfl
  simp only [Tryz.ntmps84, List.size_toArray, List.length_cons, List.length_nil, Nat.reduceAdd, Nat.reduceSub, Array.replicate_succ, Array.replicate_zero, List.push_toArray, List.append_toArray, List.nil_append, List.cons_append]
  gi_wp2_with fail
  gi_loopw [4] (fun _ wr => ∃ k : Nat, Hid (J k wr) ∧ Hid (KB n0 n1 w.heap.size b w wr) ∧ wr.cell? ⟨b, 0, none⟩ = some (.string (S k)) ∧ wr.frozen? ⟨b, 0, none⟩ = false) (fun _ wr => mu wr)
  case atStart => exact ⟨0, HJ0, HKW, hcb1, hfb1⟩
  case round =>
    obtain ⟨k, HJk, HKB, cb, fb⟩ := hrel
    clear HJ0 HKW hcb1 hfb1
    obtain ⟨hbl, hnX, hnB⟩ := HN.out
    have hbr : b < wr.heap.size := Nat.lt_of_lt_of_le hbl HKB.out.size
    have hsz := HKB.out.size
    have hrd := HR.out _ _ HR0.out HKB.out
    have hdw : Below wr.heap.size wr wr.drew := (Below.refl _ _).drew
    have HS1 := Lib.hid (HST.out wr.drew k (HR.out _ _ hrd (KB.of_below (hdw.mono hsz))))
    have hs : ∀ W' : World, Below wr.heap.size wr W' → (W'.cell? ⟨Ba, 0, none⟩ = some (.pointer (some ⟨X, 0, none⟩)) ∧ W'.cell? ⟨X, 0, none⟩ = some g0 ∧ W'.cell? ⟨X, 1, none⟩ = some (.string p)) := fun W' h => HCE.out W' (HKB.out.trans (KB.of_below (h.mono hsz)))
    have HS := Lib.hid hs
    have HBR := Lib.hid hbr; have HSZ := Lib.hid hsz; have HNE := Lib.hid (And.intro hnX hnB)
    clear hs hrd hbr hsz hbl hnX hnB
    obtain ⟨ca, cx, cp⟩ := HS.out wr (Below.refl _ _)
    gi_wp2_with fail
    refine wpIn_wide.2 ?_
    refine wp_region_still_tail 6 (by kernel_rfl) (by kernel_rfl) ?_
    simp only [List.take_succ_cons, List.take_zero, List.drop_succ_cons, List.drop_zero]
    change wpStill _ _ wr.drew (fun a' => wpList _ _ _ _ a' wr.drew) _ _
    have CB := Lib.hid cb
    replace ca : wr.drew.cell? ⟨Ba, 0, none⟩ = some (.pointer (some ⟨X, 0, none⟩)) := ca
    replace cx : wr.drew.cell? ⟨X, 0, none⟩ = some g0 := cx
    replace cp : wr.drew.cell? ⟨X, 1, none⟩ = some (.string p) := cp
    replace cb : wr.drew.cell? ⟨b, 0, none⟩ = some (.string (S k)) := cb
    obtain ⟨wq, hwq⟩ : ∃ wq, wq = wr.drew := ⟨_, rfl⟩
    rw [← hwq] at ca cx cp cb HS1 hdw ⊢
    have HWQ := Lib.hid hwq
    clear hwq
    repeat still_step
    refine wpStill_nil ?_
    go_wp2_with fail
    refine HS1.out.mono ?_
    rintro _ w1 ⟨rfl, hb1'⟩
    have hb1 : Below wr.heap.size wr w1 := by rw [HWQ.out] at hb1'; exact below_of_drew hb1'
    have cb1 : w1.cell? ⟨b, 0, none⟩ = some (.string (S k)) := (hb1.cell (p := ⟨b, 0, none⟩) HBR.out).trans CB.out
    have fb1 := (hb1.frozen (p := ⟨b, 0, none⟩) HBR.out).trans fb
    clear hb1'
    go_wp2_with fail
    obtain ⟨hbl, hnX, hnB⟩ := HN.out
    obtain ⟨w2, hw2⟩ : ∃ w2, w2 = w1.setCell ⟨b, 0, none⟩ (.string (S (k + 1))) := ⟨_, rfl⟩
    have hk2 : KB n0 n1 w.heap.size b w w2 := by rw [hw2]; exact (HKB.out.trans (KB.of_below (hb1.mono HSZ.out))).trans (KB.set _ _)
    have hbut : But b wr w2 := by rw [hw2]; exact (But.of_below hb1).trans (But.of_set w1 0 _)
    have cb2 : w2.cell? ⟨b, 0, none⟩ = some (.string (S (k + 1))) := by rw [hw2]; exact World.cell?_setCell_same' _ _ _ (by rw [cb1]; rfl)
    have fb2 : w2.frozen? ⟨b, 0, none⟩ = false := by rw [hw2, World.frozen?_setCell]; exact fb1
    rw [← hw2]
    clear hw2 cb1 fb1 hb1 cb fb hdw HS1 HS ca cx cp HWQ
    have hsz2 := hk2.size
    have hbd : Below w2.heap.size w2 w2.drew := (Below.refl _ _).drew
    have hJ2 : ∀ w3, Below w2.heap.size w2 w3 → J k w3 := fun w3 h3 => HJ.out k wr w3 HJk.out (hbut.trans (But.of_below h3))
    have HP := Lib.hid (HPM.out w2.drew (k + 1) (HR.out _ _ HR0.out (hk2.trans (KB.of_below (hbd.mono hsz2)))))
    have hyy : ∀ w3, Below w2.heap.size w2 w3 → ∃ fn tmps assign body, (Instr.yield l #[.string (S (k + 1)), .agg (pC (K (k + 1)))]).run Tryz.prog w3 = .ok (.round l fn tmps assign body) w3 ∧ RoundIn Fence.wide (n - 1) Tryz.prog l fn tmps assign body w3 (fun e W' => ∃ c : Bool, e = .returned (.bool c) ∧ Hid ((c = true ∧ J (k + 1) W' ∧ KP n0 n1 w.heap.size b w3 W') ∨ (c = false ∧ Jx (k + 1) W'))) := fun w3 h3 => by
      obtain ⟨fn, tmps, assign, body, hy, hr⟩ := HY.out k w3 (hJ2 w3 h3)
      refine ⟨fn, tmps, assign, body, hy, hr.mono ?_⟩
      rintro e W' (⟨rfl, h1, h2⟩ | ⟨rfl, h1⟩)
      · exact ⟨true, rfl, Lib.hid (.inl ⟨rfl, h1, h2⟩)⟩
      · exact ⟨false, rfl, Lib.hid (.inr ⟨rfl, h1⟩)⟩
    have HYY := Lib.hid hyy; have HK2 := Lib.hid hk2; have HB2 := Lib.hid (Nat.lt_of_lt_of_le hbl hsz2); have HZ2 := Lib.hid hsz2
    obtain ⟨ca2, cx2, cp2⟩ := HCE.out w2 hk2
    have HCA := Lib.hid (fun (w3 : World) (h3 : Below w2.heap.size w2 w3) => (HCE.out w3 (hk2.trans (KB.of_below (h3.mono hsz2)))).1)
    clear hyy hk2 hJ2 hbut hbl hnX hnB hsz2 hbd cx2 cp2
    gi_wp2_with fail
    gi_region_with (first | (refine ⟨trivial, fun h => (by simp [Fence.wide] at h), (callsIn_wide.2 HP.out).mono ?_⟩; rintro _ w3 ⟨rfl, hb3'⟩; have hb3 : Below w2.heap.size w2 w3 := below_of_drew hb3'; have cb3 := (hb3.cell (p := ⟨b, 0, none⟩) HB2.out).trans cb2; obtain ⟨fn, tmps, assign, body, hy, hr⟩ := HYY.out w3 hb3; clear hb3') | (refine ⟨fun h => (by simp [Fence.wide] at h), hr.mono ?_⟩; rintro _ W' ⟨c, rfl, hres⟩) | fail)
    all_goals
      cases c with
      | true =>
        have hj := hres.out.elim (fun h => h.2) (fun h => absurd h.1 (by decide))
        have hkb : KB n0 n1 w.heap.size b w W' := (HK2.out.trans (KB.of_below (hb3.mono HZ2.out))).trans hj.2.1
        have hbb := hj.2.2
        have hcc : W'.cell? ⟨b, 0, none⟩ = some (.string (S (k + 1))) := (World.cell?_of_block (w := w3) (a := ⟨b, 0, none⟩) hbb).trans cb3
        have hff : W'.frozen? ⟨b, 0, none⟩ = false := (World.frozen?_of_block (w := w3) (a := ⟨b, 0, none⟩) hbb).trans ((hb3.frozen (p := ⟨b, 0, none⟩) HB2.out).trans fb2)
        have HJN := Lib.hid hj.1; have HKN := Lib.hid hkb
        have hm1 := HMU.out k wr (HJI.out k wr HJk.out).1
        have hm2 := HMU.out (k + 1) W' (HJI.out (k + 1) W' hj.1).1
        have HM := Lib.hid (show mu W' < mu wr by omega)
        clear hj hkb hbb hm1 hm2 hres hr hy
        gi_wp2_with fail
        go_roundw
        case rel => exact ⟨_, _, _, _, _, _, _, _, _, _, _, _, _, _, ⟨k + 1, HJN, HKN, hcc, hff⟩, rfl⟩
        case measure => exact HM.out
      | false =>
        have hj := Lib.hid (hres.out.elim (fun h => absurd h.1 (by decide)) (fun h => h.2))
        clear hres hr hy
        gi_wp2_with fail
        refine bodyPost_ret (results_none rfl _ _ _) rfl ?_
        exact ⟨⟨_, rfl⟩, k + 1, hj.out⟩
attribute [local go_sem] Oper.semAt_some
theorem Buf.keep {W W' : World} {g : Nat} {l : List UInt8} (h : Buf W g l) (e : W'.heap[g]? = W.heap[g]?) : Buf W' g l := by
  obtain ⟨cs, m, hb, r⟩ := h
  exact ⟨cs, m, e.trans hb, r⟩
theorem AsmTo.keep {w w' : World} {X : Nat} {m : List Value} {q r : List Nat} {rs : List (ByteArray × ByteArray)} {k j : Nat} (h : AsmTo w X m q r rs k j) (e : w'.heap[X]? = w.heap[X]?) : AsmTo w' X m q r rs k j := by
  have hc : ∀ i, w'.cell? ⟨X, i, none⟩ = w.cell? ⟨X, i, none⟩ := fun i => World.cell?_of_block (w := w) (a := ⟨X, i, none⟩) e
  have hf : ∀ i, w'.frozen? ⟨X, i, none⟩ = w.frozen? ⟨X, i, none⟩ := fun i => World.frozen?_of_block (w := w) (a := ⟨X, i, none⟩) e
  have hr : ∀ {o : Nat} {cs : List Value}, w.rangeAt X o cs → w'.rangeAt X o cs := fun h j v hv => by rw [hc]; exact h j v hv
  exact ⟨hr h.m, hr h.pl, hr h.re, fun i c h1 h2 => hr (h.tu i c h1 h2), fun j hj => by rw [hc, hf]; exact h.th j hj⟩
structure EncAt (w W : World) (P D XZ cq : Nat) (us : List Nat) (Pr : Nat → List Nat) (S : Nat → ByteArray) (k : Nat) : Prop where
  buf : Buf W D ((encTo Pr us k).map letter)
  out : SB W (D + 1) #[.slice (some ⟨D, 0, none⟩) XZ cq] 22
  ix : SB W (D + 2) #[.int .i64 k] 3
  win : SB W (P + 1) #[.string (S k)] 9
  bel : Below P w W
theorem EncAt.to {w A B : World} {P D XZ cq k m b : Nat} {us : List Nat} {Pr : Nat → List Nat} {S : Nat → ByteArray} (h : EncAt w A P D XZ cq us Pr S k) (hb : ButTo m b A B) (hP : P + 2 ≤ D) (hD : D + 2 < m) (hn : D + 2 < b) : EncAt w B P D XZ cq us Pr S k :=
  ⟨h.buf.keep (hb.block D (by omega) (by omega)), (hb.block (D + 1) (by omega) (by omega)).trans h.out, (hb.block (D + 2) (by omega) (by omega)).trans h.ix, (hb.block (P + 1) (by omega) (by omega)).trans h.win, h.bel.trans (hb.below (by omega) (by omega))⟩
theorem EncAt.below {w A B : World} {P D XZ cq k : Nat} {us : List Nat} {Pr : Nat → List Nat} {S : Nat → ByteArray} (h : EncAt w A P D XZ cq us Pr S k) (hb : Below A.heap.size A B) (hP : P + 2 ≤ D) : EncAt w B P D XZ cq us Pr S k :=
  ⟨h.buf.keep (hb.block D h.buf.lt), h.out.below hb, h.ix.below hb, h.win.below hb, h.bel.trans (hb.mono (by have := h.buf.lt; omega))⟩
theorem keeps_below {W W' : World} (h : Below W.heap.size W W') : KeepsOthers W W' := ⟨h.size, fun k o hk _ => (h.block k (Array.getElem?_eq_some_iff.1 hk).1).trans hk⟩
theorem KP.own {n0 n1 m b p o : Nat} (A : World) (v : Value) (h0 : n0 ≤ p) (h1 : p < n1) (hb : p ≠ b) : KP n0 n1 m b A (A.setCell ⟨p, o, none⟩ v) := ⟨KB.own A v h0 h1, Below.heap_setCell A ⟨p, o, none⟩ v b (by intro e; exact hb e.symm)⟩
theorem KP.of_below {n0 n1 m b : Nat} {A B : World} (h : Below A.heap.size A B) (hm : m ≤ A.heap.size) (hb : b < m) : KP n0 n1 m b A B := ⟨KB.of_below (h.mono hm), h.block b (by omega)⟩
theorem KP.put {n0 n1 m b : Nat} (A : World) (l : Nat) (o : Obj) (h : m ≤ l) (hb : b < m) : KP n0 n1 m b A (A.putObj l o) := ⟨KB.put A l o h, World.putObj_heap_other (by omega)⟩
theorem bel_eq {a W w4 : World} {o1 o2 : Obj} (h : Below a.heap.size a W) (e : w4 = (W.alloc o1).alloc o2) : Below a.heap.size a w4 := by
  rw [e]; exact (h.alloc h.size _).alloc (by have := h.size; simp; omega) _
theorem bel_put {B l : Nat} {a W : World} (h : Below B a W) (hl : B ≤ l) (o : Obj) : Below B a (W.putObj l o) :=
  ⟨h.os, h.tape, h.output, by simp; exact h.size, fun k hk => (World.putObj_heap_other (by omega)).trans (h.block k hk)⟩
theorem heap_alloc_new' (w : World) (o : Obj) : (w.alloc o).heap[w.heap.size]? = some o := World.alloc_heap_new w o
def permsTo (K : Nat → List Nat) (n : Nat) : List (List Nat) := (List.range n).map fun j => K (j + 1)
theorem permsTo_len (K : Nat → List Nat) (n : Nat) : (permsTo K n).length = n := by unfold permsTo; rw [List.length_map, List.length_range]
theorem permsTo_succ (K : Nat → List Nat) (n : Nat) : permsTo K (n + 1) = permsTo K n ++ [K (n + 1)] := by unfold permsTo; rw [List.range_succ, List.map_append]; rfl
set_option maxHeartbeats 8000000 in
set_option maxRecDepth 100000 in
theorem l8Perms_is (w : World) (A : Option Addr) (cap : Nat) (rs : List (ByteArray × ByteArray)) (q rg pl : List Nat) (S : Nat → ByteArray) (K : Nat → List Nat) (n : Nat) (m : Int) (hm : m = (n : Int)) (hn : n ≤ 200) (h : WhA w A cap rs)
    (hst : ∀ (w' : World) (k : Nat), WhA w' A cap rs → Calls Tryz.prog 91 #[.agg (whC (.slice A rs.length cap) (.string (pT q))), .string (S k)] w' fun e w'' => e = .returned (.string (S (k + 1))) ∧ Below w'.heap.size w' w'')
    (hpm : ∀ (w' : World) (k : Nat), WhA w' A cap rs → Calls Tryz.prog 92 #[.agg (macC (.slice A rs.length cap) q rg pl), .string (S k)] w' fun e w'' => e = .returned (.string (pT (K k))) ∧ Below w'.heap.size w' w'') :
    Calls Tryz.prog 52 #[.agg (macC (.slice A rs.length cap) q rg pl), .string (S 0), .int .i64 m] w fun e w' => ∃ v : Value, e = .returned v ∧ w'.ownsRow w.heap.size 9 1 v n (strV (pTs (permsTo K n))) ∧ Below w.heap.size w w' := by
  subst hm
  obtain ⟨iS, hi, hz0, hz1, hz2⟩ := info_parts Tryz.infoS
  have HI := Lib.hid hi; have HZ0 := Lib.hid hz0; have HZ1 := Lib.hid hz1; have HZ2 := Lib.hid hz2
  clear hi hz0 hz1 hz2
  have hsz : (w.alloc (.cells (macC (.slice A rs.length cap) q rg pl) 27)).heap.size = w.heap.size + 1 := by simp
  have how : ((w.alloc (.cells (macC (.slice A rs.length cap) q rg pl) 27)).alloc (.cells #[] 9)).ownsRow (w.heap.size + 1) 9 1 (.slice (some ⟨(w.alloc (.cells (macC (.slice A rs.length cap) q rg pl) 27)).heap.size, 0, none⟩) 0 0) 0 (strV (pTs (permsTo K 0))) := World.ownsRow_made _ #[] 0 (by rw [hsz]; exact Nat.le_refl _) (by decide) rfl
  have hb1 : Below w.heap.size w ((w.alloc (.cells (macC (.slice A rs.length cap) q rg pl) 27)).alloc (.cells #[] 9)) := ((Below.refl _ _).alloc (Nat.le_refl _) _).alloc (by rw [hsz]; omega) _
  have hs1 : SB ((w.alloc (.cells (macC (.slice A rs.length cap) q rg pl) 27)).alloc (.cells #[] 9)) w.heap.size (macC (.slice A rs.length cap) q rg pl) 27 := (SB.made w _ _).below ((Below.refl _ _).alloc (Nat.le_refl _) _)
  rw [hsz] at how
  have HST := Lib.hid hst; have HPM := Lib.hid hpm; have HOW := Lib.hid how; have HB1 := Lib.hid hb1; have HS1 := Lib.hid hs1; have HH := Lib.hid h
  clear hst hpm how hb1 hs1 h hsz
  obtain ⟨P, hP⟩ : ∃ P, P = w.heap.size := ⟨_, rfl⟩
  go_enter Tryz.func52, Tryz.ntmps52
  go_wp2_with fail
  rw [← hP] at HOW HS1 ⊢
  have HPE := Lib.hid hP; clear hP
  go_loopw [1, 7, 8] (fun s o i wr => ∃ k : Nat, s = .string (S k) ∧ i = .int .i64 k ∧ k ≤ n ∧ wr.ownsRow (P + 1) 9 1 o k (strV (pTs (permsTo K k))) ∧ Hid (SB wr P (macC (.slice A rs.length cap) q rg pl) 27) ∧ Below w.heap.size w wr) (fun _ _ i _ => n - (intOf i).toNat)
  case atStart => exact ⟨0, rfl, rfl, by omega, HOW.out, HS1, HB1.out⟩
  case round =>
    clear HOW HS1 HB1
    obtain ⟨k, rfl, rfl, hk, hown, HS, hbl⟩ := hrel
    have HO := Lib.hid hown; have HBL := Lib.hid hbl; clear hown hbl
    obtain ⟨A3, c3, e3⟩ := slot_slice HO.out
    subst e3
    by_cases hlt : k < n
    · obtain ⟨⟨c0, c1, c2, c4⟩, _⟩ := HS.out.all4
      have HT1 := Lib.hid (HST.out wr k (HH.out.below HBL.out))
      generalize S k = T at HT1 ⊢
      go_wp2_with fail
      refine HT1.out.mono ?_
      rintro _ w2 ⟨rfl, hb2⟩
      have HS2 := Lib.hid (HS.out.below hb2); have HO2 := Lib.hid (ownsRow_below HO.out hb2)
      have HB2 := Lib.hid (HBL.out.trans (hb2.mono HBL.out.size))
      clear hb2 c0 c1 c2 c4 HO HS HBL
      obtain ⟨⟨c0, c1, c2, c4⟩, _⟩ := HS2.out.all4
      have HT2 := Lib.hid (HPM.out w2 (k + 1) (HH.out.below HB2.out))
      have hll : k ≤ 200 := by omega
      obtain ⟨U, hU⟩ : ∃ U, U = S (k + 1) := ⟨_, rfl⟩
      obtain ⟨Z, hZ⟩ : ∃ Z, Z = pT (K (k + 1)) := ⟨_, rfl⟩
      rw [← hZ] at HT2
      have HZE := Lib.hid hZ
      clear hZ
      rw [← hU] at HT2 ⊢
      have HUE := Lib.hid hU
      clear hU
      go_wp2_with fail
      refine HT2.out.mono ?_
      rintro _ w3 ⟨rfl, hb3⟩
      have HS3 := Lib.hid (HS2.out.below hb3); have HO3 := Lib.hid (ownsRow_below HO2.out hb3)
      have HB3 := Lib.hid (HB2.out.trans (hb3.mono HB2.out.size))
      have hPs := HS3.out.lt
      clear hb3 c0 c1 c2 c4 HS2 HO2 HB2
      go_wp2_with (at_builtin; refine wpList_append_own _ rfl _ _ 33 rfl (P + 1) 9 iS (.string ByteArray.empty) 1 16 Tryz.undS HI.out HZ0.out HZ1.out HZ2.out rfl (by decide) _ k _ rfl (HO3.out.alloc _) ⟨w3.heap.size, 0, none⟩ 1 1 [.string Z] rfl rfl (one_new w3 (.string Z) 9) one_cell (by unfold maxLen; omega) (by omega) (by simp; omega) ?_)
      intro v' w6 ho' hg' _
      rw [HZE.out, pTs_snoc, ← permsTo_succ] at ho'
      have hs6 : SB w6 P (macC (.slice A rs.length cap) q rg pl) 27 := SB.own (SB.below HS3.out ((Below.refl _ _).alloc (Nat.le_refl _) _)) hg' (ownBlock_ne HO3.out (Nat.lt_succ_self P))
      have hb6 : Below w.heap.size w w6 := (HB3.out.alloc HB3.out.size _).grown hg' (Nat.le_trans HB3.out.size (by simp)) fun k' e => by have := (HO3.out.lt k' e).1; have := HPE.out; omega
      have HO6 := Lib.hid ho'; have HB6 := Lib.hid hb6; have HS6 := Lib.hid hs6; clear ho' hg' hb6 hs6
      go_wp2_with fail
      go_roundw
      case rel => exact ⟨k + 1, by rw [HUE.out], by go_num, by omega, HO6.out, HS6, HB6.out⟩
      case measure => simp [intOf]; omega
    · go_wp2_with fail
      go_ret
      have hkn : k = n := by omega
      subst hkn
      exact ⟨_, rfl, own_mono3 HO.out (by rw [HPE.out]; exact Nat.le_succ _), HBL.out⟩
end Go.Proofs.YtnbdimbhklbadaaGreatDoor
