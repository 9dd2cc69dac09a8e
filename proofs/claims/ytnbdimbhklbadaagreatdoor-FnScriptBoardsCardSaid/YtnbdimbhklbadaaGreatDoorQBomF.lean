/-
  Contracts of functions and plain laws that the law's proof uses (parts: BomF). Conditions: what each theorem names.
-/
import Derived.Deep.LoopGhost
import Derived.Test.YtnbdimbhklbadaaGreatDoorQBomE
namespace Go.Proofs.YtnbdimbhklbadaaGreatDoor
open Go.RowKit Pl
set_option linter.unusedVariables false
theorem nth_set' (s : List Nat) (x v a : Nat) (hx : x < s.length) : nth (s.set x v) a = if a = x then v else nth s a := by
  unfold nth
  rw [List.getElem?_set]
  by_cases e : x = a
  · subst e; rw [if_pos rfl, if_pos hx, if_pos rfl]; rfl
  · rw [if_neg e, if_neg (fun h => e h.symm)]
theorem hasP_set1 {s : List Nat} (h : U10 s) {x y : Nat} (hx : x < 10) (a b : Nat) : hasP (set1 s x y) a b = (hasP s a b || (decide (a = x) && decide (b = y))) := by
  unfold hasP set1
  rw [nth_set' s x _ a (by rw [h.len]; exact hx)]
  by_cases e : a = x
  · subst e
    rw [if_pos rfl, Nat.testBit_or, Nat.testBit_two_pow]
    simp
    by_cases e2 : b = y
    · subst e2; simp
    · simp [e2]; intro h; exact absurd h.symm e2
  · rw [if_neg e]; simp [e]
theorem hasP_setP {s : List Nat} (h : U10 s) {x y : Nat} (hx : x < 10) (hy : y < 10) (a b : Nat) :
    hasP (setP s x y) a b = (hasP s a b || (decide (a = x) && decide (b = y)) || (decide (a = y) && decide (b = x))) := by
  unfold setP
  rw [hasP_set1 (set1_ok h hy) hy, hasP_set1 h hx]
def cardN (s : List Nat) : Nat := (List.range 100).countP fun i => !hasP s (i / 10) (i % 10)
theorem countP_lt {α : Type} {p q : α → Bool} {l : List α} (h : ∀ x ∈ l, q x = true → p x = true) {z : α} (hz : z ∈ l) (h1 : p z = true) (h2 : q z = false) : l.countP q < l.countP p := by
  induction l with
  | nil => cases hz
  | cons a r ih =>
    have hr : r.countP q ≤ r.countP p := List.countP_mono_left fun x hx => h x (List.mem_cons_of_mem _ hx)
    rw [List.countP_cons, List.countP_cons]
    rcases List.mem_cons.1 hz with rfl | hz
    · rw [if_pos h1, h2]; simp; omega
    · have h3 := ih (fun x hx => h x (List.mem_cons_of_mem _ hx)) hz
      have h4 := h a List.mem_cons_self
      by_cases e : q a = true
      · rw [if_pos e, if_pos (h4 e)]; omega
      · rw [if_neg e]; split <;> omega
theorem cardN_setP {s : List Nat} (h : U10 s) {x y : Nat} (hx : x < 10) (hy : y < 10) (hn : hasP s x y = false) : cardN (setP s x y) < cardN s := by
  unfold cardN
  refine countP_lt (z := x * 10 + y) (fun i _ hi => ?_) (List.mem_range.2 (by omega)) ?_ ?_
  · rw [hasP_setP h hx hy] at hi
    simp at hi ⊢
    exact hi.1.1
  · rw [show (x * 10 + y) / 10 = x by omega, show (x * 10 + y) % 10 = y by omega, hn]; rfl
  · rw [show (x * 10 + y) / 10 = x by omega, show (x * 10 + y) % 10 = y by omega, hasP_setP h hx hy]; simp
theorem cardN_le (s : List Nat) : cardN s ≤ 100 := by
  unfold cardN
  have := List.countP_le_length (p := fun i => !hasP s (i / 10) (i % 10)) (l := List.range 100)
  rw [List.length_range] at this; exact this
abbrev Wk := List Nat × List (Nat × Nat)
def impW (y : Nat) (t : Wk) (w : Wir) : Wk := if hasP t.1 w.1 (nth w.2 y) then t else (setP t.1 w.1 (nth w.2 y), t.2 ++ [(w.1, nth w.2 y), (nth w.2 y, w.1)])
def muW (t : Wk) : Nat := 3 * cardN t.1 + t.2.length
structure WkOk (t : Wk) : Prop where
  u : U10 t.1
  lt : ∀ p ∈ t.2, p.1 < 10 ∧ p.2 < 10
def WirOk (w : Wir) : Prop := w.1 < 10 ∧ ∀ y, nth w.2 y < 10
theorem impW_ok {y : Nat} {t : Wk} {w : Wir} (h : WkOk t) (hw : WirOk w) : WkOk (impW y t w) ∧ muW (impW y t w) ≤ muW t := by
  unfold impW
  split
  · exact ⟨h, Nat.le_refl _⟩
  · next e =>
    have hn : hasP t.1 w.1 (nth w.2 y) = false := by simpa using e
    refine ⟨⟨setP_ok h.u hw.1 (hw.2 y), fun p hp => ?_⟩, ?_⟩
    · rcases List.mem_append.1 hp with h1 | h1
      · exact h.lt p h1
      · simp at h1
        rcases h1 with rfl | rfl
        · exact ⟨hw.1, hw.2 y⟩
        · exact ⟨hw.2 y, hw.1⟩
    · have := cardN_setP h.u hw.1 (hw.2 y) hn
      unfold muW; simp; omega
def impF (y : Nat) (ws : List Wir) (t : Wk) : Wk := ws.foldl (impW y) t
theorem impF_snoc (y : Nat) (ws : List Wir) (w : Wir) (t : Wk) : impF y (ws ++ [w]) t = impW y (impF y ws t) w := by simp [impF]
def impS (L : Nat → List Wir) (t : Wk) : Wk := match t.2.getLast? with
  | none => t
  | some p => impF p.2 (L p.1) (t.1, t.2.dropLast)
def impN (L : Nat → List Wir) : Nat → Wk → Wk
  | 0, t => t
  | n + 1, t => impN L n (impS L t)
theorem impN_done (L : Nat → List Wir) (s : List Nat) : ∀ n, impN L n (s, []) = (s, [])
  | 0 => rfl
  | n + 1 => impN_done L s n
theorem impS_snoc (L : Nat → List Wir) (s : List Nat) (wk : List (Nat × Nat)) (p : Nat × Nat) : impS L (s, wk ++ [p]) = impF p.2 (L p.1) (s, wk) := by simp [impS]
theorem pop_ok {s : List Nat} {wk : List (Nat × Nat)} {p : Nat × Nat} (h : WkOk (s, wk ++ [p])) : WkOk (s, wk) ∧ muW (s, wk) < muW (s, wk ++ [p]) ∧ p.1 < 10 ∧ p.2 < 10 :=
  ⟨⟨h.u, fun q hq => h.lt q (List.mem_append_left _ hq)⟩, by simp [muW], h.lt p (by simp)⟩
def zeroS : List Nat := List.replicate 10 0
theorem zeroS_ok : U10 zeroS := ⟨rfl, by decide⟩
theorem zeroS_has (a b : Nat) : hasP zeroS a b = false := by
  have h : nth zeroS a = 0 := by
    unfold nth zeroS
    rw [List.getElem?_replicate]; split <;> rfl
  unfold hasP; rw [h]; exact Nat.zero_testBit b
def impB (x y : Nat) : Wk := (addP zeroS x y, [(x, y), (y, x)])
theorem addP_ok {s : List Nat} (h : U10 s) {x y : Nat} (hx : x < 10) (hy : y < 10) : U10 (addP s x y) := by
  unfold addP; split
  · exact h
  · exact setP_ok h hx hy
theorem impB_ok {x y : Nat} (hx : x < 10) (hy : y < 10) : WkOk (impB x y) := ⟨addP_ok zeroS_ok hx hy, fun p hp => by
  simp [impB] at hp; rcases hp with rfl | rfl
  · exact ⟨hx, hy⟩
  · exact ⟨hy, hx⟩⟩
theorem impB_mu (x y : Nat) : muW (impB x y) ≤ 302 := by
  have := cardN_le (addP zeroS x y)
  unfold muW impB; simp; omega
def impT (L : Nat → List Wir) (x y : Nat) : List Nat := (impN L 302 (impB x y)).1
def SymP (s : List Nat) : Prop := ∀ a b, a < 10 → b < 10 → hasP s a b = true → hasP s b a = true
theorem sym_setP {s : List Nat} (h : U10 s) (hs : SymP s) {x y : Nat} (hx : x < 10) (hy : y < 10) : SymP (setP s x y) := by
  intro a b ha hb hab
  rw [hasP_setP h hx hy] at hab ⊢
  simp at hab ⊢
  rcases hab with (h1 | ⟨rfl, rfl⟩) | ⟨rfl, rfl⟩
  · exact .inl (.inl (hs a b ha hb h1))
  · exact .inr ⟨rfl, rfl⟩
  · exact .inl (.inr ⟨rfl, rfl⟩)
theorem impF_keep {I : Wk → Prop} {y : Nat} : ∀ {ws : List Wir} {t : Wk}, I t → (∀ t w, w ∈ ws → I t → I (impW y t w)) → I (impF y ws t)
  | [], t, h, _ => h
  | w :: r, t, h, hk => impF_keep (ws := r) (hk t w List.mem_cons_self h) (fun t v hv => hk t v (List.mem_cons_of_mem _ hv))
theorem impN_keep {I : Wk → Prop} {L : Nat → List Wir} (hS : ∀ t, I t → I (impS L t)) : ∀ n t, I t → I (impN L n t)
  | 0, t, h => h
  | n + 1, t, h => impN_keep hS n _ (hS t h)
theorem impS_keep {I : Wk → Prop} {L : Nat → List Wir} (hp : ∀ s wk p, I (s, wk ++ [p]) → I (s, wk)) (hW : ∀ s wk p, I (s, wk ++ [p]) → ∀ t w, w ∈ L p.1 → I t → I (impW p.2 t w)) (t : Wk) (h : I t) : I (impS L t) := by
  obtain ⟨s, wk⟩ := t
  rcases List.eq_nil_or_concat wk with rfl | ⟨wk', p, rfl⟩
  · exact h
  · rw [List.concat_eq_append] at h ⊢
    rw [impS_snoc]
    exact impF_keep (hp s wk' p h) (fun t w hw ht => hW s wk' p h t w hw ht)
theorem impT_ok {L : Nat → List Wir} (hL : ∀ x, x < 10 → ∀ w ∈ L x, WirOk w) {x y : Nat} (hx : x < 10) (hy : y < 10) : U10 (impT L x y) ∧ SymP (impT L x y) := by
  have h := impN_keep (I := fun t => WkOk t ∧ SymP t.1) (L := L) (impS_keep (fun s wk p h => ⟨(pop_ok h.1).1, h.2⟩) (fun s wk p h t w hw ht => by
    have hp := pop_ok h.1
    have hwo := hL p.1 hp.2.2.1 w hw
    refine ⟨(impW_ok ht.1 hwo).1, ?_⟩
    unfold impW; split
    · exact ht.2
    · exact sym_setP ht.1.u ht.2 hwo.1 (hwo.2 _))) 302 (impB x y) ⟨impB_ok hx hy, by
      unfold impB addP
      rw [zeroS_has]
      exact sym_setP zeroS_ok (fun a b _ _ h => by rw [zeroS_has] at h; cases h) hx hy⟩
  exact ⟨h.1.u, h.2⟩
theorem oneB_of : ∀ v : Fin 1024, oneB v.val = true ↔ ∀ i j : Fin 10, v.val.testBit i.val = true → v.val.testBit j.val = true → i = j := by decide +kernel
theorem topT_has : ∀ (d v : Nat) (j i : Nat), i < j → v.testBit i = true → v.testBit (topT d v j) = true
  | d, v, 0, i, h, _ => by omega
  | d, v, j + 1, i, h, hb => by
    unfold topT
    split
    · assumption
    · next e =>
      refine topT_has d v j i ?_ hb
      rcases Nat.lt_succ_iff_lt_or_eq.1 h with h1 | rfl
      · exact h1
      · exact absurd hb e
theorem topT_no : ∀ (d v : Nat) (j : Nat), (∀ i, i < j → v.testBit i = false) → topT d v j = d
  | d, v, 0, _ => rfl
  | d, v, j + 1, h => by
    unfold topT
    rw [h j (by omega)]
    exact topT_no d v j fun i hi => h i (by omega)
theorem nth_brdS (s : List Nat) {x : Nat} (hx : x < 10) : nth (brdS s) x = topT x (nth s x) 10 := by
  unfold brdS brdT
  rw [nth_eq (by simpa using hx)]; simp [hx]
theorem brdS_lt (s : List Nat) {x : Nat} (hx : x < 10) : nth (brdS s) x < 10 := by rw [nth_brdS s hx]; exact topT_lt hx _ 10 (Nat.le_refl _)
theorem brdS_back {s : List Nat} (hu : U10 s) (hs : SymP s) (ho : okS s = true) {x : Nat} (hx : x < 10) : nth (brdS s) (nth (brdS s) x) = x := by
  have hone : ∀ a, a < 10 → ∀ b c, b < 10 → c < 10 → hasP s a b = true → hasP s a c = true → b = c := fun a ha b c hb hc h1 h2 => by
    have h3 := List.all_eq_true.1 ho a (List.mem_range.2 ha)
    have h4 := (oneB_of ⟨nth s a, hu.at a⟩).1 h3 ⟨b, hb⟩ ⟨c, hc⟩ h1 h2
    exact Fin.mk.inj h4
  have hl := brdS_lt s hx
  rw [nth_brdS s hx] at hl ⊢
  rw [nth_brdS s hl]
  by_cases hex : ∃ i, i < 10 ∧ hasP s x i = true
  · obtain ⟨i, hi, hb⟩ := hex
    have h1 : hasP s x (topT x (nth s x) 10) = true := topT_has x (nth s x) 10 i hi hb
    have h2 := hs _ _ hx hl h1
    have h3 : hasP s (topT x (nth s x) 10) (topT (topT x (nth s x) 10) (nth s (topT x (nth s x) 10)) 10) = true := topT_has _ _ 10 x hx h2
    exact hone _ hl _ _ (topT_lt hl _ 10 (Nat.le_refl _)) hx h3 h2
  · have h1 : topT x (nth s x) 10 = x := topT_no _ _ _ fun i hi => by
      cases e : (nth s x).testBit i with
      | false => rfl
      | true => exact absurd ⟨i, hi, e⟩ hex
    rw [h1, h1]
theorem okS_of {s P : List Nat} (hu : U10 s) (h : ∀ a b, a < 10 → b < 10 → hasP s a b = true → b = nth P a) : okS s = true := by
  unfold okS
  refine List.all_eq_true.2 fun x hx => ?_
  have hx := List.mem_range.1 hx
  refine (oneB_of ⟨nth s x, hu.at x⟩).2 fun i j hi hj => ?_
  exact Fin.ext ((h x i.val hx i.isLt hi).trans (h x j.val hx j.isLt hj).symm)
theorem impT_board {L : Nat → List Wir} {P : List Nat} (hP : ∀ a, a < 10 → nth P a < 10 ∧ nth P (nth P a) = a) (hL : ∀ x, x < 10 → ∀ w ∈ L x, WirOk w ∧ nth w.2 (nth P x) = nth P w.1) {x : Nat} (hx : x < 10) : okS (impT L x (nth P x)) = true := by
  have h := impN_keep (I := fun t => (WkOk t ∧ ∀ a b, a < 10 → b < 10 → hasP t.1 a b = true → b = nth P a) ∧ ∀ p ∈ t.2, p.2 = nth P p.1) (L := L) (impS_keep (fun s wk p h => ⟨⟨(pop_ok h.1.1).1, h.1.2⟩, fun q hq => h.2 q (List.mem_append_left _ hq)⟩) (fun s wk p h t w hw ht => by
    have hp := pop_ok h.1.1
    have hwo := hL p.1 hp.2.2.1 w hw
    have hpp : p.2 = nth P p.1 := h.2 p (by simp)
    have hz : nth w.2 p.2 = nth P w.1 := by rw [hpp]; exact hwo.2
    refine ⟨⟨(impW_ok ht.1.1 hwo.1).1, ?_⟩, ?_⟩
    · unfold impW; split
      · exact ht.1.2
      · intro a b ha hb hab
        rw [hasP_setP ht.1.1.u hwo.1.1 (hwo.1.2 _)] at hab
        simp at hab
        rcases hab with (h1 | ⟨rfl, rfl⟩) | ⟨rfl, rfl⟩
        · exact ht.1.2 a b ha hb h1
        · exact hz
        · rw [hz]; exact ((hP _ hwo.1.1).2).symm
    · unfold impW; split
      · exact ht.2
      · intro q hq
        rcases List.mem_append.1 hq with h1 | h1
        · exact ht.2 q h1
        · simp at h1
          rcases h1 with rfl | rfl
          · exact hz
          · show w.1 = nth P (nth w.2 p.2)
            rw [hz]; exact ((hP _ hwo.1.1).2).symm)) 302 (impB x (nth P x)) ⟨⟨impB_ok hx (hP x hx).1, by
      intro a b ha hb hab
      unfold impB addP at hab
      rw [zeroS_has] at hab
      simp only [Bool.false_eq_true, if_false] at hab
      rw [hasP_setP zeroS_ok hx (hP x hx).1, zeroS_has] at hab
      simp at hab
      rcases hab with ⟨rfl, rfl⟩ | ⟨rfl, rfl⟩
      · rfl
      · exact ((hP _ hx).2).symm⟩, by
      intro p hp
      simp [impB] at hp
      rcases hp with rfl | rfl
      · rfl
      · exact ((hP _ hx).2).symm⟩
  exact okS_of h.1.1.u h.1.2
theorem wirs_board {es : List Edg} {P : List Nat} (he : ∀ e ∈ es, e.1 < 10 ∧ e.2.1 < 10 ∧ (∀ y, nth e.2.2 y < 10) ∧ nth e.2.2 (nth P e.1) = nth P e.2.1 ∧ nth e.2.2 (nth P e.2.1) = nth P e.1) (x : Nat) : ∀ w ∈ wirs es x, WirOk w ∧ nth w.2 (nth P x) = nth P w.1 := by
  intro w hw
  obtain ⟨e, hem, h1⟩ := List.mem_flatMap.1 hw
  obtain ⟨a, b, c, d, f⟩ := he e hem
  rcases List.mem_append.1 h1 with h2 | h2
  · split at h2
    · next e1 => simp at h2; subst h2; subst e1; exact ⟨⟨b, c⟩, d⟩
    · simp at h2
  · split at h2
    · next e1 => simp at h2; subst h2; subst e1; exact ⟨⟨a, c⟩, f⟩
    · simp at h2
theorem Tryz.infoPr : (Tryz.prog.info? 110).map (fun i => (i.zero, i.size, i.bytes)) = some (some (.agg #[.int .i64 0, .int .i64 0]), 2, 16) := by kernel_rfl
theorem Tryz.undPr : Tryz.prog.underlying 111 = some (.slice 110) := by kernel_rfl
theorem own_cutS {w : World} {base g n cap size : Nat} {e : TypeId} {xs : List Value} (h : w.ownsRow base e size (.slice (some ⟨g, 0, none⟩) n cap) n xs) {k : Nat} (hk : k ≤ n) : w.ownsRow base e size (.slice (some ⟨g, 0, none⟩) k cap) k (xs.take (k * size)) := by
  obtain ⟨h1, h2⟩ := h
  have hks : k * size ≤ n * size := Nat.mul_le_mul_right _ hk
  rcases h2 with ⟨h2, _⟩ | ⟨g', cap', cur, hv, hb, hg, hn, hc, hs, ht⟩
  · cases h2
  · injection hv with e1 e2 e3
    injection e1 with e1
    injection e1 with e1
    subst e1; subst e3
    refine ⟨by rw [List.length_take, h1]; omega, .inr ⟨_, _, cur, rfl, hb, hg, by omega, hc, hs, ?_⟩⟩
    rw [← ht, List.take_take]; congr 1; omega
def prV (p : Nat × Nat) : List Value := [.int .i64 (p.1 : Int), .int .i64 (p.2 : Int)]
def prsV (l : List (Nat × Nat)) : List Value := l.flatMap prV
theorem prsV_append (a b : List (Nat × Nat)) : prsV (a ++ b) = prsV a ++ prsV b := List.flatMap_append
theorem prsV_len : ∀ l : List (Nat × Nat), (prsV l).length = l.length * 2
  | [] => rfl
  | x :: r => by
    show (prV x ++ prsV r).length = _
    rw [List.length_append, prsV_len r, List.length_cons]; simp [prV]; omega
theorem below_but {a w w' : World} {B S : Nat} (h : Below B a w) (hb : But S w w') (hS : B ≤ S) (hB : B ≤ w.heap.size) : Below B a w' :=
  ⟨hb.os.trans h.os, hb.tape.trans h.tape, hb.output.trans h.output, Nat.le_trans h.size hb.size, fun k hk => (hb.block k (by omega) (by omega)).trans (h.block k hk)⟩
theorem pr_one {a b c d : Int} : ∀ u ∈ [Value.int .i64 a, .int .i64 b, .int .i64 c, .int .i64 d], u.oneCell' = true := by
  intro u hu
  simp at hu
  rcases hu with rfl | rfl | rfl | rfl <;> rfl
theorem own_last {w : World} {base g c : Nat} {wk : List (Nat × Nat)} {p : Nat × Nat} {n : Nat} (hn : n = wk.length) (h : w.ownsRow base 110 2 (.slice (some ⟨g, 0, none⟩) (n + 1) c) (n + 1) (prsV (wk ++ [p]))) :
    w.cell? ⟨g, n * 2, none⟩ = some (.int .i64 (p.1 : Int)) ∧ w.cell? ⟨g, n * 2 + 1, none⟩ = some (.int .i64 (p.2 : Int)) ∧ n + 1 ≤ c ∧ w.ownsRow base 110 2 (.slice (some ⟨g, 0, none⟩) n c) n (prsV wk) := by
  have hl := prsV_len wk
  have hc := h.cells (g := g) rfl
  have e : prsV (wk ++ [p]) = prsV wk ++ prV p := by rw [prsV_append]; simp [prsV]
  have hadd : ∀ j, (⟨g, 0, none⟩ : Addr).add j = ⟨g, j, none⟩ := fun j => by unfold Addr.add; split <;> simp_all
  refine ⟨?_, ?_, own_le3 h, ?_⟩
  · rw [← hadd]; refine hc _ _ ?_
    rw [e, List.getElem?_append_right (by omega), hl, hn, Nat.sub_self]; rfl
  · rw [← hadd]; refine hc _ _ ?_
    rw [e, List.getElem?_append_right (by omega), hl, hn, Nat.add_sub_cancel_left]; rfl
  · have h2 := own_cutS h (Nat.le_succ n)
    rw [e, List.take_append_of_le_length (by omega), List.take_of_length_le (by omega)] at h2
    exact h2
theorem wire_cells {w : World} {base : Nat} {ws : List Wir} {A : Option Addr} {c : Nat} (h : w.ownsRow base 103 11 (.slice A ws.length c) ws.length (wireV ws)) (h10 : ∀ v ∈ ws, v.2.length = 10) {j : Nat} (hj : j < ws.length) :
    ∃ g, A = some ⟨g, 0, none⟩ ∧ w.cell? ⟨g, j * 11, none⟩ = some (.int .i64 (ws[j].1 : Int)) ∧ ∀ y, y < 10 → w.cell? ⟨g, j * 11 + (y + 1), none⟩ = some (.int .u8 (nth ws[j].2 y : Int)) := by
  obtain ⟨g, cap, hv⟩ := own_some h (by omega)
  injection hv with e1 _ _
  subst e1
  have hc := h.cells (g := g) rfl
  have hadd : ∀ j, (⟨g, 0, none⟩ : Addr).add j = ⟨g, j, none⟩ := fun j => by unfold Addr.add; split <;> simp_all
  have key : ∀ (l : List Wir), (∀ v ∈ l, v.2.length = 10) → ∀ j (hj : j < l.length) k, k < 11 → (wireV l)[j * 11 + k]? = (wirV l[j])[k]? := by
    intro l
    induction l with
    | nil => intro _ j hj; simp at hj
    | cons v r ih =>
      intro hl j hj k hk
      have hv : (wirV v).length = 11 := by simp [wirV, hl v List.mem_cons_self]
      have e : wireV (v :: r) = wirV v ++ wireV r := rfl
      cases j with
      | zero => rw [e, List.getElem?_append_left (by omega)]; simp
      | succ j =>
        rw [e, List.getElem?_append_right (by omega), hv, show (j + 1) * 11 + k - 11 = j * 11 + k by omega]
        exact ih (fun v hv => hl v (List.mem_cons_of_mem _ hv)) j (by simpa using hj) k hk
  refine ⟨g, rfl, ?_, fun y hy => ?_⟩
  · rw [← hadd]; refine hc _ _ ?_
    have := key ws h10 j hj 0 (by omega)
    rw [Nat.add_zero] at this
    rw [this]; rfl
  · rw [← hadd]; refine hc _ _ ?_
    rw [key ws h10 j hj (y + 1) (by omega)]
    have hl := h10 _ (List.getElem_mem hj)
    show (pV ws[j].2)[y]? = _
    rw [nth_eq (by omega)]
    simp [pV, hl, hy]
theorem uC_zero : uC zeroS = #[.int .u64 0, .int .u64 0, .int .u64 0, .int .u64 0, .int .u64 0, .int .u64 0, .int .u64 0, .int .u64 0, .int .u64 0, .int .u64 0] := rfl
set_option maxHeartbeats 16000000 in
set_option maxRecDepth 100000 in
theorem imply_is (w : World) (X x y : Nat) (L : Nat → List Wir) (f : RowF) (hB : BomR w X L f) (hL : ∀ x, x < 10 → ∀ v ∈ L x, WirOk v ∧ v.2.length = 10) (hn : ∀ x, (L x).length ≤ 100) (hx : x < 10) (hy : y < 10) :
    Calls Tryz.prog 30 #[.pointer (some ⟨X, 0, none⟩), .int .i64 x, .int .i64 y] w fun e w' => ∃ S, e = .returned (.pointer (some ⟨S, 0, none⟩)) ∧ w.heap.size ≤ S ∧ UB w' S (impT L x y) ∧ Below w.heap.size w w' := by
  have hL1 : ∀ x, x < 10 → ∀ v ∈ L x, WirOk v := fun x hx v hv => (hL x hx v hv).1
  have hL2 : ∀ x, x < 10 → ∀ v ∈ L x, v.2.length = 10 := fun x hx v hv => (hL x hx v hv).2
  obtain ⟨T, hT⟩ : ∃ T, T = impT L x y := ⟨_, rfl⟩
  rw [← hT]
  have hTe : (impN L 302 (impB x y)).1 = T := by rw [hT]; rfl
  have hub := SB.made w #[.int .u64 0, .int .u64 0, .int .u64 0, .int .u64 0, .int .u64 0, .int .u64 0, .int .u64 0, .int .u64 0, .int .u64 0, .int .u64 0] 108
  rw [← uC_zero] at hub
  obtain ⟨w0, hw0⟩ : ∃ w0, w0 = w.alloc (.cells #[.int .u64 0, .int .u64 0, .int .u64 0, .int .u64 0, .int .u64 0, .int .u64 0, .int .u64 0, .int .u64 0, .int .u64 0, .int .u64 0] 108) := ⟨_, rfl⟩
  rw [uC_zero, ← hw0, ← uC_zero] at hub
  have hb0 : Below w.heap.size w w0 := by rw [hw0]; exact (Below.refl _ _).alloc (Nat.le_refl _) _
  obtain ⟨S, hS⟩ : ∃ S, S = w.heap.size := ⟨_, rfl⟩
  rw [← hS] at hub
  have hXl : X < w.heap.size := hB.blk.lt
  have HUB := Lib.hid hub; have HB0 := Lib.hid hb0; have HBO := Lib.hid hB; have HL1 := Lib.hid hL1; have HL2 := Lib.hid hL2; have HN := Lib.hid hn; have HTE := Lib.hid hTe; have HSE := Lib.hid hS; have HXL := Lib.hid hXl; have HW0 := Lib.hid hw0
  obtain ⟨iP, hi, hz0, hz1, hz2⟩ := info_parts Tryz.infoPr
  have HI := Lib.hid hi; have HZ0 := Lib.hid hz0; have HZ1 := Lib.hid hz1; have HZ2 := Lib.hid hz2
  clear hi hz0 hz1 hz2 hub hb0 hB hL hL1 hL2 hn hTe hT hXl
  go_enter Tryz.func30, Tryz.ntmps30
  go_wp2_with fail
  rw [← HW0.out, ← HSE.out]
  clear hw0 hS
  refine (addP_is w0 S x y zeroS HUB.out zeroS_ok hx hy).mono ?_
  rintro _ w1 ⟨rfl, hu1, hbt⟩
  have hb1 : Below w.heap.size w w1 := below_but HB0.out hbt (by rw [HSE.out]; exact Nat.le_refl _) HB0.out.size
  have hwk := impB_ok hx hy
  have hS1 : S < w1.heap.size := hu1.lt
  have how : (w1.alloc (.cells #[.int .i64 (x : Int), .int .i64 (y : Int), .int .i64 (y : Int), .int .i64 (x : Int)] 110)).ownsRow (S + 1) 110 2 (.slice (some ⟨w1.heap.size, 0, none⟩) 2 2) 2 (prsV [(x, y), (y, x)]) :=
    ⟨rfl, .inr ⟨w1.heap.size, 2, _, rfl, hS1, heap_alloc_new _ _, Nat.le_refl _, by decide, rfl, rfl⟩⟩
  have HU2 := Lib.hid (show UB (w1.alloc (.cells #[.int .i64 (x : Int), .int .i64 (y : Int), .int .i64 (y : Int), .int .i64 (x : Int)] 110)) S (addP zeroS x y) from hu1.below ((Below.refl _ _).alloc (Nat.le_refl _) _))
  have HB2 := Lib.hid (hb1.alloc hb1.size (.cells #[.int .i64 (x : Int), .int .i64 (y : Int), .int .i64 (y : Int), .int .i64 (x : Int)] 110))
  have HOW := Lib.hid how; have HWK := Lib.hid hwk
  clear hu1 hbt hb1 how hwk hS1 HUB HB0
  go_wp2_with fail
  go_loopg [8] 302 (fun g v wr => ∃ (m : Nat) (s : List Nat) (wk : List (Nat × Nat)) (G c : Nat), g = m ∧ v = .slice (some ⟨G, 0, none⟩) wk.length c ∧ m ≤ 302 ∧ Hid (wr.ownsRow (S + 1) 110 2 (.slice (some ⟨G, 0, none⟩) wk.length c) wk.length (prsV wk)) ∧ Hid (UB wr S s) ∧ Hid (WkOk (s, wk)) ∧ Hid ((impN L m (s, wk)).1 = T) ∧ Hid (muW (s, wk) ≤ m) ∧ Hid (Below w.heap.size w wr))
  case atStart => exact ⟨302, addP zeroS x y, [(x, y), (y, x)], _, _, rfl, rfl, Nat.le_refl _, HOW, HU2, HWK, HTE, Lib.hid (impB_mu x y), HB2⟩
  case round =>
    obtain ⟨m, s, wk, G, c, hgm, rfl, hm, HO, HU, HOK, HT, HM, HB⟩ := hrel
    clear HOW HU2 HWK HTE HB2
    rcases List.eq_nil_or_concat wk with rfl | ⟨wk', p, rfl⟩
    · have HTT := Lib.hid (show s = T from by have h1 := HT.out; rw [impN_done] at h1; exact h1)
      go_wp2_with fail
      go_ret
      refine ⟨S, rfl, by rw [HSE.out]; exact Nat.le_refl _, by rw [← HTT.out]; exact HU.out, HB.out⟩
    · rw [List.concat_eq_append] at HO HOK HT HM ⊢
      obtain ⟨q, z⟩ := p
      obtain ⟨n, hnn⟩ : ∃ n, n = wk'.length := ⟨_, rfl⟩
      have hlen : (wk' ++ [(q, z)]).length = n + 1 := by rw [List.length_append, ← hnn]; rfl
      rw [hlen] at HO ⊢
      obtain ⟨k0, k1, k2, ho⟩ := own_last hnn HO.out
      obtain ⟨hok0, hmu0, hq, hz⟩ := pop_ok HOK.out
      simp only at hq hz k0 k1
      obtain ⟨m', rfl⟩ : ∃ m', m = m' + 1 := ⟨m - 1, by have := HM.out; omega⟩
      have hn302 : n + 1 ≤ 302 := by have h1 := HM.out; unfold muW at h1; rw [hlen] at h1; omega
      have HMU := Lib.hid (show muW (s, wk') ≤ m' from by have := HM.out; omega)
      have HTI := Lib.hid (show (impN L m' (impF z (L q) (s, wk'))).1 = T from by have h1 := HT.out; rw [impN, impS_snoc] at h1; exact h1)
      obtain ⟨W9, hW9⟩ : ∃ W9, W9 = wr.alloc (.cells #[.int .i64 (q : Int), .int .i64 (z : Int)] 110) := ⟨_, rfl⟩
      obtain ⟨B9, hB9⟩ : ∃ B9, B9 = wr.heap.size := ⟨_, rfl⟩
      have hal9 : Below wr.heap.size wr W9 := by rw [hW9]; exact (Below.refl _ _).alloc (Nat.le_refl _) _
      have hs9 : SB W9 B9 #[.int .i64 (q : Int), .int .i64 (z : Int)] 110 := by rw [hW9, hB9]; exact SB.made wr _ _
      have hG9 : G ≠ B9 := by rw [hB9]; exact Nat.ne_of_lt (ho.lt G rfl).2
      have hB9S : B9 ≠ S := by rw [hB9]; exact (Nat.ne_of_lt HU.out.lt).symm
      have HO9 := Lib.hid (ownsRow_below ho hal9); have HU9 := Lib.hid (HU.out.below hal9); have HB9 := Lib.hid (HB.out.trans (hal9.mono HB.out.size)); have HS9 := Lib.hid hs9; have HG9 := Lib.hid hG9; have HBS := Lib.hid hB9S
      have HBX := Lib.hid (HBO.out.below HB9.out)
      obtain ⟨Ax, hAx⟩ : ∃ Ax, Ax = (f q).1 := ⟨_, rfl⟩
      obtain ⟨cx, hcx⟩ : ∃ cx, cx = (f q).2 := ⟨_, rfl⟩
      obtain ⟨nx, hnx⟩ : ∃ nx, nx = (L q).length := ⟨_, rfl⟩
      have hsv : slV f L q = .slice Ax nx cx := by rw [hAx, hcx, hnx]; rfl
      have cX : W9.cell? ⟨X, q, none⟩ = some (.slice Ax nx cx) := by rw [← hsv]; exact HBX.out.blk.cell q _ (slC_get f L hq)
      have hnx1 : nx ≤ 100 := by rw [hnx]; exact HN.out q
      have HSV := Lib.hid (And.intro hsv hnx)
      have e0 : W9.cell? ⟨B9, 0, none⟩ = some (.int .i64 (q : Int)) := hs9.cell 0 _ rfl
      have e1 : W9.cell? ⟨B9, 1, none⟩ = some (.int .i64 (z : Int)) := hs9.cell 1 _ rfl
      have HW9 := Lib.hid hW9; have HBE := Lib.hid hB9; have HNN := Lib.hid hnn; have HK0 := Lib.hid hok0
      have v1 : IntKind.i64.wrap ((n : Int) + 1 - 1) = (n : Int) := by rw [IntKind.wrap_i64]; omega
      have v2 : IntKind.i64.wrap (n : Int) = (n : Int) := by rw [IntKind.wrap_i64]; omega
      have v3 : (0 : Int) < (n : Int) + 1 := by omega
      have v4 : (n : Int) ≤ (c : Int) := by omega
      have v5 : (q : Int) < 10 := by omega
      clear hlen ho hmu0 hn302 hW9 hB9 hal9 hs9 hG9 hB9S hAx hcx hnx hsv hnn hok0 HO HU HB HT HM HOK
      go_upto_region 7 with fail
      rw [← HW9.out, ← HBE.out]
      clear k0 k1 v1 v2 v3 v4
      go_quiet (fail)
      obtain ⟨W10, hW10⟩ : ∃ W10, W10 = W9.drewN nq := ⟨_, rfl⟩
      have HO10 := Lib.hid (show W10.ownsRow (S + 1) 110 2 (.slice (some ⟨G, 0, none⟩) n c) n (prsV wk') from by rw [hW10]; exact HO9.out)
      have HU10 := Lib.hid (show UB W10 S s from by rw [hW10]; exact HU9.out)
      have HB10 := Lib.hid (show Below w.heap.size w W10 from by rw [hW10]; exact below_drewN' HB9.out _)
      have HS10 := Lib.hid (show SB W10 B9 #[.int .i64 (q : Int), .int .i64 (z : Int)] 110 from by rw [hW10]; exact HS9.out)
      rw [← hW10]
      clear hW10 e0 e1 cX v5
      go_wp2_with fail
      go_loopw [8, 47] (fun v i wr2 => ∃ (j : Nat) (s2 : List Nat) (wk2 : List (Nat × Nat)) (G2 c2 n2 : Nat), j ≤ nx ∧ i = .int .i64 j ∧ v = .slice (some ⟨G2, 0, none⟩) n2 c2 ∧ Hid (n2 = wk2.length) ∧ Hid (G2 ≠ B9) ∧ Hid (wr2.ownsRow (S + 1) 110 2 (.slice (some ⟨G2, 0, none⟩) n2 c2) n2 (prsV wk2)) ∧ Hid (UB wr2 S s2) ∧ Hid ((s2, wk2) = impF z ((L q).take j) (s, wk')) ∧ Hid (WkOk (s2, wk2)) ∧ Hid (muW (s2, wk2) ≤ m') ∧ Hid (SB wr2 B9 #[.int .i64 (q : Int), .int .i64 (z : Int)] 110) ∧ Hid (Below w.heap.size w wr2)) (fun _ i _ => nx - (intOf i).toNat)
      case atStart => exact ⟨0, s, wk', G, c, n, Nat.zero_le _, rfl, rfl, HNN, HG9, HO10, HU10, Lib.hid rfl, HK0, HMU, HS10, HB10⟩
      case round =>
        clear HO9 HU9 HB9 HS9 HG9 HBX HO10 HU10 HB10 HS10 HW9 HBE HNN HK0
        obtain ⟨j, s2, wk2, G2, c2, n2, hj, rfl, rfl, HN2, HG2, HO2, HU2, HF2, HK2, HM2, HS2, HB2⟩ := hrel
        by_cases hlt : j < nx
        · have hjl : j < (L q).length := by rw [← HSV.out.2]; exact hlt
          have hrow := ownsRow_below (HBO.out.row q hq) (HB2.out.mono (Nat.le_of_eq rfl))
          rw [HSV.out.1, HSV.out.2] at hrow
          obtain ⟨g, hg, p0, pc⟩ := wire_cells hrow (HL2.out q hq) hjl
          subst hg
          have hwo := HL1.out q hq _ (List.getElem_mem hjl)
          have hwl := HL2.out q hq _ (List.getElem_mem hjl)
          have hts : (L q).take (j + 1) = (L q).take j ++ [(L q)[j]] := List.take_succ_eq_append_getElem hjl
          have hfn : impF z ((L q).take (j + 1)) (s, wk') = impW z (s2, wk2) (L q)[j] := by rw [hts, impF_snoc, ← HF2.out]
          obtain ⟨hokn, hmun⟩ := impW_ok (y := z) HK2.out hwo
          have HUS := Lib.hid HK2.out.u
          have hn2 : n2 ≤ 302 := by have h1 := HM2.out; unfold muW at h1; simp only at h1; have h2 := HN2.out; omega
          have HFN := Lib.hid hfn; have HKN := Lib.hid hokn; have HMN := Lib.hid (Nat.le_trans hmun HM2.out)
          clear hrow hts hfn hokn hmun
          generalize (L q)[j] = wi at *
          obtain ⟨tz, qk⟩ := wi
          simp only at p0 pc hwl
          have hto : tz < 10 := hwo.1
          have hzz : nth qk z < 10 := hwo.2 z
          have p1 : wr.cell? ⟨g, j * 11 + 1, none⟩ = some (.int .u8 (nth qk 0 : Int)) := pc 0 (by omega)
          have p2 : wr.cell? ⟨g, j * 11 + 2, none⟩ = some (.int .u8 (nth qk 1 : Int)) := pc 1 (by omega)
          have p3 : wr.cell? ⟨g, j * 11 + 3, none⟩ = some (.int .u8 (nth qk 2 : Int)) := pc 2 (by omega)
          have p4 : wr.cell? ⟨g, j * 11 + 4, none⟩ = some (.int .u8 (nth qk 3 : Int)) := pc 3 (by omega)
          have p5 : wr.cell? ⟨g, j * 11 + 5, none⟩ = some (.int .u8 (nth qk 4 : Int)) := pc 4 (by omega)
          have p6 : wr.cell? ⟨g, j * 11 + 6, none⟩ = some (.int .u8 (nth qk 5 : Int)) := pc 5 (by omega)
          have p7 : wr.cell? ⟨g, j * 11 + 7, none⟩ = some (.int .u8 (nth qk 6 : Int)) := pc 6 (by omega)
          have p8 : wr.cell? ⟨g, j * 11 + 8, none⟩ = some (.int .u8 (nth qk 7 : Int)) := pc 7 (by omega)
          have p9 : wr.cell? ⟨g, j * 11 + 9, none⟩ = some (.int .u8 (nth qk 8 : Int)) := pc 8 (by omega)
          have p10 : wr.cell? ⟨g, j * 11 + 10, none⟩ = some (.int .u8 (nth qk 9 : Int)) := pc 9 (by omega)
          obtain ⟨W11, hW11⟩ : ∃ W11, W11 = wr.alloc (.cells #[.int .i64 (tz : Int), .int .u8 (nth qk 0 : Int), .int .u8 (nth qk 1 : Int), .int .u8 (nth qk 2 : Int), .int .u8 (nth qk 3 : Int), .int .u8 (nth qk 4 : Int), .int .u8 (nth qk 5 : Int), .int .u8 (nth qk 6 : Int), .int .u8 (nth qk 7 : Int), .int .u8 (nth qk 8 : Int), .int .u8 (nth qk 9 : Int)] 103) := ⟨_, rfl⟩
          obtain ⟨B11, hB11⟩ : ∃ B11, B11 = wr.heap.size := ⟨_, rfl⟩
          have hal11 : Below wr.heap.size wr W11 := by rw [hW11]; exact (Below.refl _ _).alloc (Nat.le_refl _) _
          have hs11 : SB W11 B11 #[.int .i64 (tz : Int), .int .u8 (nth qk 0 : Int), .int .u8 (nth qk 1 : Int), .int .u8 (nth qk 2 : Int), .int .u8 (nth qk 3 : Int), .int .u8 (nth qk 4 : Int), .int .u8 (nth qk 5 : Int), .int .u8 (nth qk 6 : Int), .int .u8 (nth qk 7 : Int), .int .u8 (nth qk 8 : Int), .int .u8 (nth qk 9 : Int)] 103 := by rw [hW11, hB11]; exact SB.made wr _ _
          have hB11S : B11 ≠ S := by rw [hB11]; exact (Nat.ne_of_lt HU2.out.lt).symm
          have d0 : W11.cell? ⟨B11, 0, none⟩ = some (.int .i64 (tz : Int)) := hs11.cell 0 _ rfl
          have d1 : W11.cell? ⟨B11, 1 + z, none⟩ = some (.int .u8 (nth qk z : Int)) := by
            refine hs11.cell (1 + z) _ ?_
            rcases (show z = 0 ∨ z = 1 ∨ z = 2 ∨ z = 3 ∨ z = 4 ∨ z = 5 ∨ z = 6 ∨ z = 7 ∨ z = 8 ∨ z = 9 by omega) with rfl | rfl | rfl | rfl | rfl | rfl | rfl | rfl | rfl | rfl <;> rfl
          have HS3 := Lib.hid (HS2.out.below hal11); have HO3 := Lib.hid (ownsRow_below HO2.out hal11); have HU3 := Lib.hid (HU2.out.below hal11); have HB3 := Lib.hid (HB2.out.trans (hal11.mono HB2.out.size))
          have d2 : W11.cell? ⟨B9, 1, none⟩ = some (.int .i64 (z : Int)) := HS3.out.cell 1 _ rfl
          have HW11 := Lib.hid hW11; have HE11 := Lib.hid hB11; have HS11 := Lib.hid hs11
          have v1 : IntKind.i64.wrap (nth qk z : Int) = (nth qk z : Int) := by rw [IntKind.wrap_i64]; omega
          have v2 : (z : Int) < 10 := by omega
          obtain ⟨zz, hze⟩ : ∃ zz, zz = nth qk z := ⟨_, rfl⟩
          rw [← hze] at d1 v1 hzz
          have HZE := Lib.hid hze
          clear pc hal11 hs11 hW11 hB11 hze HS2 HO2 HU2 HB2 HF2 HK2 HM2 hwl hwo
          generalize nth qk 0 = a0 at *
          generalize nth qk 1 = a1 at *
          generalize nth qk 2 = a2 at *
          generalize nth qk 3 = a3 at *
          generalize nth qk 4 = a4 at *
          generalize nth qk 5 = a5 at *
          generalize nth qk 6 = a6 at *
          generalize nth qk 7 = a7 at *
          generalize nth qk 8 = a8 at *
          generalize nth qk 9 = a9 at *
          go_upto_region 10 with fail
          rw [← HW11.out, ← HE11.out]
          clear p0 p1 p2 p3 p4 p5 p6 p7 p8 p9 p10
          go_wp2_with fail
          have hcall := addP_is W11 S tz zz s2 HU3.out HUS.out hto hzz
          have HSL := Lib.hid (show w.heap.size ≤ S from by rw [HSE.out]; exact Nat.le_refl _)
          by_cases hb : hasP s2 tz zz = true
          · have he1 : addP s2 tz zz = s2 := if_pos hb
            rw [he1, hb] at hcall
            have hstep : impW z (s2, wk2) (tz, qk) = (s2, wk2) := if_pos (show hasP s2 tz (nth qk z) = true from by rw [← HZE.out]; exact hb)
            rw [hstep] at HFN HKN HMN
            clear he1 hb hstep
            refine hcall.mono ?_
            rintro _ w5 ⟨rfl, hu5, hbt5⟩
            have HU5 := Lib.hid hu5
            have HO5 := Lib.hid (own_at HO3.out (fun k hk => hbt5.block k (HO3.out.lt k hk).2 (by have := (HO3.out.lt k hk).1; omega)))
            have HS5 := Lib.hid (show SB w5 B9 #[.int .i64 (q : Int), .int .i64 (z : Int)] 110 from (hbt5.block B9 HS3.out.lt HBS.out).trans HS3.out)
            have HB5 := Lib.hid (below_but HB3.out hbt5 HSL.out HB3.out.size)
            clear hcall hu5 hbt5 d0 d1 d2 v1 v2
            go_wp2_with fail
            go_roundw
            case rel => exact ⟨j + 1, s2, wk2, G2, c2, n2, by omega, by go_num, rfl, HN2, HG2, HO5, HU5, Lib.hid HFN.out.symm, HKN, HMN, HS5, HB5⟩
            case measure => simp [intOf]; omega
          · have hb' : hasP s2 tz zz = false := by simpa using hb
            have he1 : addP s2 tz zz = setP s2 tz zz := if_neg hb
            rw [he1, hb'] at hcall
            have hstep : impW z (s2, wk2) (tz, qk) = (setP s2 tz zz, wk2 ++ [(tz, zz), (zz, tz)]) := by
              have h1 : ¬ hasP s2 tz (nth qk z) = true := by rw [← HZE.out]; exact hb
              show (if hasP s2 tz (nth qk z) then _ else _) = _
              rw [if_neg h1, ← HZE.out]
            rw [hstep] at HFN HKN HMN
            clear he1 hb hb' hstep
            refine hcall.mono ?_
            rintro _ w5 ⟨rfl, hu5, hbt5⟩
            have hs11' := (hbt5.block B11 HS11.out.lt hB11S).trans HS11.out
            have d0' : w5.cell? ⟨B11, 0, none⟩ = some (.int .i64 (tz : Int)) := SB.cell hs11' 0 _ rfl
            have ho5 := own_at HO3.out (fun k hk => hbt5.block k (HO3.out.lt k hk).2 (by have := (HO3.out.lt k hk).1; omega))
            have hs5 : SB w5 B9 #[.int .i64 (q : Int), .int .i64 (z : Int)] 110 := (hbt5.block B9 HS3.out.lt HBS.out).trans HS3.out
            have hb5 := below_but HB3.out hbt5 HSL.out HB3.out.size
            have hS5 : S < w5.heap.size := hu5.lt
            have HU5 := Lib.hid hu5; have HO5 := Lib.hid ho5; have HS5 := Lib.hid hs5; have HB5 := Lib.hid hb5
            clear hcall hu5 hbt5 d0 d1 d2 v1 v2 hs11' ho5 hs5 hb5
            go_wp2_with (at_builtin; refine wpList_append_own_at _ rfl _ _ 111 rfl (S + 1) 110 iP _ 2 16 Tryz.undPr HI.out HZ0.out HZ1.out HZ2.out rfl (by decide) _ n2 _ rfl (HO5.out.alloc _) ⟨w5.heap.size, 0, none⟩ 2 2 [.int .i64 (tz : Int), .int .i64 (zz : Int), .int .i64 (zz : Int), .int .i64 (tz : Int)] rfl rfl (World.news_of_block (fr := (0, 0)) (heap_alloc_new w5 _)) pr_one (by unfold maxLen; omega) (by omega) (by simp; omega) ?_)
            intro v' w6 ho' hg' _ hblk
            have hpe : prsV wk2 ++ [.int .i64 (tz : Int), .int .i64 (zz : Int), .int .i64 (zz : Int), .int .i64 (tz : Int)] = prsV (wk2 ++ [(tz, zz), (zz, tz)]) := by rw [prsV_append]; rfl
            rw [hpe] at ho'
            obtain ⟨G6, c6, e6⟩ := own_some ho' (by omega)
            subst e6
            have hG2S : G2 ≠ S := by have := (HO5.out.lt G2 rfl).1; omega
            have hal : Below w5.heap.size w5 (w5.alloc (.cells #[.int .i64 (tz : Int), .int .i64 (zz : Int), .int .i64 (zz : Int), .int .i64 (tz : Int)] 110)) := (Below.refl _ _).alloc (Nat.le_refl _) _
            have hu6 : UB w6 S (setP s2 tz zz) := SB.own (v := .slice (some ⟨G2, 0, none⟩) n2 c2) (HU5.out.below hal) hg' (by intro e; injection e with e; exact hG2S e)
            have hs6 : SB w6 B9 #[.int .i64 (q : Int), .int .i64 (z : Int)] 110 := SB.own (v := .slice (some ⟨G2, 0, none⟩) n2 c2) (HS5.out.below hal) hg' (by intro e; injection e with e; exact HG2.out e)
            have hb6 : Below w.heap.size w w6 := (HB5.out.alloc HB5.out.size _).grown hg' (Nat.le_trans HB5.out.size (by simp)) fun k e => by have := (HO5.out.lt k e).1; have := HSL.out; omega
            have hG6 : G6 ≠ B9 := by
              have h9 := HS5.out.lt
              rcases hblk with h | h
              · have e : G6 = G2 := by simpa [Value.ownBlock] using h
                rw [e]; exact HG2.out
              · have e : G6 = w5.heap.size + 1 := by simpa [Value.ownBlock] using h
                omega
            have HO6 := Lib.hid ho'; have HU6 := Lib.hid hu6; have HS6 := Lib.hid hs6; have HB6 := Lib.hid hb6; have HG6 := Lib.hid hG6
            have HN6 := Lib.hid (show n2 + 2 = (wk2 ++ [(tz, zz), (zz, tz)]).length from by rw [List.length_append, ← HN2.out]; rfl)
            clear ho' hg' hblk hpe hG2S hal hu6 hs6 hb6 hG6 d0'
            go_wp2_with fail
            go_roundw
            case rel => exact ⟨j + 1, setP s2 tz zz, wk2 ++ [(tz, zz), (zz, tz)], G6, c6, n2 + 2, by omega, by go_num, rfl, HN6, HG6, HO6, HU6, Lib.hid HFN.out.symm, HKN, HMN, HS6, HB6⟩
            case measure => simp [intOf]; omega
        · have hje : j = nx := by omega
          subst hje
          have HFF := Lib.hid (show (impN L m' (s2, wk2)).1 = T from by have h1 := HF2.out; rw [HSV.out.2, List.take_length] at h1; rw [h1]; exact HTI.out)
          go_wp2_with fail
          go_roundg m'
          case measure => omega
          case rel => exact ⟨m', s2, wk2, G2, c2, rfl, by rw [HN2.out], by omega, by rw [← HN2.out]; exact HO2, HU2, HK2, HFF, HM2, HB2⟩
end Go.Proofs.YtnbdimbhklbadaaGreatDoor
