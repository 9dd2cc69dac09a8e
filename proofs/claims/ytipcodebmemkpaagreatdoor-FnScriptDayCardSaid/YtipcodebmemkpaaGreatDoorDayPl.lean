/-
  Plugboards by number, words and orders by value, the number of a plugboard. Nothing of the program. Conditions: what each theorem names.
-/
import Derived.Test.YtipcodebmemkpaaGreatDoorPlainR
namespace Go.Proofs.YtipcodebmemkpaaGreatDoor
set_option linter.unusedVariables false

namespace Pl
def fct : Nat → Nat
  | 0 => 1
  | n + 1 => (n + 1) * fct n
def bo (L : Nat) : Nat → Nat
  | 0 => 1
  | k + 1 => bo L k * ((L - 2 * k) * (L - 2 * k - 1) / 2) / (k + 1)
/-- how many plugboards with P pairs there are for L letters -/
def cnt (L P : Nat) : Nat := if L < 2 * P then 0 else bo L P

theorem cnt_zero (L : Nat) : cnt L 0 = 1 := by simp [cnt, bo]
theorem cnt_spec0 : ∀ L : Fin 11, ∀ P : Fin 6, 2 * P.val ≤ L.val → fct L.val / fct (L.val - 2 * P.val) / fct P.val / 2 ^ P.val = cnt L.val P.val := by decide +kernel
theorem cnt_spec {L P : Nat} (hL : L ≤ 10) (hP : P ≤ 5) (h : 2 * P ≤ L) : fct L / fct (L - 2 * P) / fct P / 2 ^ P = cnt L P := cnt_spec0 ⟨L, by omega⟩ ⟨P, by omega⟩ h
theorem cnt_step0 : ∀ m : Fin 10, ∀ P : Fin 5, cnt (m.val + 1) (P.val + 1) = cnt m.val (P.val + 1) + m.val * cnt (m.val - 1) P.val := by decide +kernel
theorem cnt_step {m P : Nat} (hm : m ≤ 9) (hP : P ≤ 4) : cnt (m + 1) (P + 1) = cnt m (P + 1) + m * cnt (m - 1) P := cnt_step0 ⟨m, by omega⟩ ⟨P, by omega⟩
theorem cnt_le0 : ∀ m : Fin 11, ∀ P : Fin 6, cnt m.val P.val ≤ 4725 := by decide +kernel
theorem cnt_le {m P : Nat} (hm : m ≤ 10) (hP : P ≤ 5) : cnt m P ≤ 4725 := cnt_le0 ⟨m, by omega⟩ ⟨P, by omega⟩
theorem bo_le0 : ∀ m : Fin 11, ∀ P : Fin 6, 2 * P.val ≤ m.val + 2 → bo m.val P.val ≤ 4725 := by decide +kernel

/-- what holds while a board with a number is being made -/
structure Bst (left : List Nat) (P n : Nat) (p : List Nat) : Prop where
  ten : p.length = 10
  lt : ∀ j, j < 10 → nth p j < 10
  inv : ∀ j, j < 10 → nth p (nth p j) = j
  small : ∀ x ∈ left, x < 10 ∧ nth p x = x
  nod : left.Nodup
  len : left.length ≤ 10
  hP : P ≤ 5
  hn : n < cnt left.length P

def brd : Nat → List Nat → Nat → Nat → List Nat → List Nat
  | 0, _, _, _, p => p
  | f + 1, left, P, n, p => match left with
    | [] => p
    | x :: rest =>
      if n < cnt rest.length P then brd f rest P n p
      else brd f (rest.eraseIdx ((n - cnt rest.length P) / cnt (rest.length - 1) (P - 1))) (P - 1) ((n - cnt rest.length P) % cnt (rest.length - 1) (P - 1))
        (swpP p x (nth rest ((n - cnt rest.length P) / cnt (rest.length - 1) (P - 1))))

theorem nod_inj {l : List Nat} (h : l.Nodup) {i j : Nat} (hi : i < l.length) (hj : j < l.length) (e : l[i] = l[j]) : i = j := by
  rcases Nat.lt_trichotomy i j with hij | hij | hij
  · exact absurd e (List.pairwise_iff_getElem.1 h i j hi hj hij)
  · exact hij
  · exact absurd e.symm (List.pairwise_iff_getElem.1 h j i hj hi hij)
theorem nth_swp {p : List Nat} {x y : Nat} (hl : p.length = 10) (hx : x < 10) (hy : y < 10) (fx : nth p x = x) (fy : nth p y = y) (j : Nat) :
    nth (swpP p x y) j = if j = y then x else if j = x then y else nth p j := by
  have ex : p[x]?.getD 0 = x := fx
  have ey : p[y]?.getD 0 = y := fy
  unfold swpP nth
  rw [ex, ey, List.getElem?_set, List.getElem?_set]
  simp only [List.length_set]
  by_cases h1 : j = y
  · subst h1
    rw [if_pos rfl, if_pos (by omega), if_pos rfl]; rfl
  · rw [if_neg (fun e => h1 e.symm), if_neg h1]
    by_cases h2 : j = x
    · subst h2
      rw [if_pos rfl, if_pos (by omega), if_pos rfl]; rfl
    · rw [if_neg (fun e => h2 e.symm), if_neg h2]
theorem withP_swp {p : List Nat} {x y : Nat} (hl : p.length = 10) (hx : x < 10) (hy : y < 10) (fx : nth p x = x) (fy : nth p y = y) : withP p x y = swpP p x y := by
  have ex : p[x]?.getD 0 = x := fx
  have ey : p[y]?.getD 0 = y := fy
  unfold withP swpP
  rw [ex, ey]

/-- the first letter that is left stays alone -/
theorem Bst.alone {x : Nat} {rest : List Nat} {P n : Nat} {p : List Nat} (h : Bst (x :: rest) P n p) (hn : n < cnt rest.length P) : Bst rest P n p :=
  ⟨h.ten, h.lt, h.inv, fun z hz => h.small z (List.mem_cons_of_mem _ hz), (List.nodup_cons.1 h.nod).2, by have := h.len; simp at this; omega, h.hP, hn⟩
/-- the first letter that is left has a partner -/
theorem Bst.part {x : Nat} {rest : List Nat} {P n : Nat} {p : List Nat} (h : Bst (x :: rest) P n p) (hn : ¬ n < cnt rest.length P) :
    1 ≤ P ∧ 1 ≤ rest.length ∧ 0 < cnt (rest.length - 1) (P - 1) ∧ (n - cnt rest.length P) / cnt (rest.length - 1) (P - 1) < rest.length ∧ n - cnt rest.length P < rest.length * cnt (rest.length - 1) (P - 1) := by
  have hl := h.len
  have h0 := h.hn
  have hP := h.hP
  rw [List.length_cons] at hl h0
  have h1 : 1 ≤ P := by
    rcases Nat.eq_zero_or_pos P with e | e
    · subst e
      rw [cnt_zero] at h0 hn; omega
    · exact e
  obtain ⟨P', rfl⟩ : ∃ P', P = P' + 1 := ⟨P - 1, by omega⟩
  rw [cnt_step (by omega) (by omega)] at h0
  rw [Nat.add_sub_cancel]
  have h2 : n - cnt rest.length (P' + 1) < rest.length * cnt (rest.length - 1) P' := by omega
  have h3 : 0 < rest.length := by
    rcases Nat.eq_zero_or_pos rest.length with e | e
    · rw [e] at h2; simp at h2
    · exact e
  have h4 : 0 < cnt (rest.length - 1) P' := by
    rcases Nat.eq_zero_or_pos (cnt (rest.length - 1) P') with e | e
    · rw [e] at h2; simp at h2
    · exact e
  exact ⟨h1, h3, h4, Nat.div_lt_of_lt_mul (by rw [Nat.mul_comm]; exact h2), h2⟩
theorem mem_erase {l : List Nat} {k z : Nat} (h : z ∈ l.eraseIdx k) : z ∈ l := (List.eraseIdx_sublist l k).subset h
theorem Bst.pair {x : Nat} {rest : List Nat} {P n k m : Nat} {p : List Nat} (h : Bst (x :: rest) P n p) (hP : 1 ≤ P) (hk : k < rest.length) (hm : m < cnt (rest.length - 1) (P - 1)) :
    Bst (rest.eraseIdx k) (P - 1) m (swpP p x (nth rest k)) := by
  have hy : nth rest k ∈ rest := by rw [nth_eq hk]; exact List.getElem_mem hk
  have sx := h.small x (by simp)
  have sy := h.small _ (List.mem_cons_of_mem _ hy)
  have hne : nth rest k ≠ x := fun e => (List.nodup_cons.1 h.nod).1 (e ▸ hy)
  have hsw := nth_swp h.ten sx.1 sy.1 sx.2 sy.2
  have hnd := (List.nodup_cons.1 h.nod).2
  generalize hyy : nth rest k = y at *
  refine ⟨by rw [length_swpP]; exact h.ten, fun j hj => ?_, fun j hj => ?_, fun z hz => ?_, List.Nodup.sublist (List.eraseIdx_sublist _ _) hnd, ?_, by have := h.hP; omega, ?_⟩
  · rw [hsw]; split
    · exact sx.1
    · split
      · exact sy.1
      · exact h.lt j hj
  · rw [hsw j]
    by_cases e1 : j = y
    · rw [if_pos e1, hsw x, if_neg (fun e => hne e.symm), if_pos rfl]; exact e1.symm
    · rw [if_neg e1]
      by_cases e2 : j = x
      · rw [if_pos e2, hsw y, if_pos rfl]; exact e2.symm
      · rw [if_neg e2, hsw (nth p j), if_neg, if_neg, h.inv j hj]
        · intro e; have := h.inv j hj; rw [e, sx.2] at this; exact e2 this.symm
        · intro e; have := h.inv j hj; rw [e, sy.2] at this; exact e1 this.symm
  · have hz2 := h.small z (List.mem_cons_of_mem _ (mem_erase hz))
    refine ⟨hz2.1, ?_⟩
    rw [hsw z, if_neg, if_neg]
    · exact hz2.2
    · intro e; subst e; exact (List.nodup_cons.1 h.nod).1 (mem_erase hz)
    · intro e
      subst e
      obtain ⟨i, hi, hie⟩ := List.getElem_of_mem hz
      rw [List.getElem_eraseIdx] at hie
      rw [nth_eq hk] at hyy
      split at hie
      · rename_i hik
        have := nod_inj hnd _ _ (hie.trans hyy.symm); omega
      · rename_i hik
        have := nod_inj hnd _ _ (hie.trans hyy.symm); omega
  · rw [List.length_eraseIdx]; have := h.len; simp at this; split <;> omega
  · rw [List.length_eraseIdx, if_pos hk]; exact hm

theorem brd_ok : ∀ (f : Nat) (left : List Nat) (P n : Nat) (p : List Nat), Bst left P n p → ∃ l2 P2 n2, Bst l2 P2 n2 (brd f left P n p)
  | 0, left, P, n, p, h => ⟨left, P, n, h⟩
  | f + 1, [], P, n, p, h => ⟨_, _, _, h⟩
  | f + 1, x :: rest, P, n, p, h => by
    show ∃ l2 P2 n2, Bst l2 P2 n2 (if n < cnt rest.length P then brd f rest P n p
      else brd f (rest.eraseIdx ((n - cnt rest.length P) / cnt (rest.length - 1) (P - 1))) (P - 1) ((n - cnt rest.length P) % cnt (rest.length - 1) (P - 1)) (swpP p x (nth rest ((n - cnt rest.length P) / cnt (rest.length - 1) (P - 1)))))
    by_cases hn : n < cnt rest.length P
    · rw [if_pos hn]; exact brd_ok f rest P n p (h.alone hn)
    · rw [if_neg hn]
      obtain ⟨h1, h2, h3, h4, _⟩ := h.part hn
      exact brd_ok f _ _ _ _ (h.pair h1 h4 (Nat.mod_lt _ h3))
theorem Bst.prm {left : List Nat} {P n : Nat} {p : List Nat} (h : Bst left P n p) : Prm p ∧ invP p = p := by
  have hp : Prm p := {
    len := h.ten
    lt := fun m hm => by
      obtain ⟨i, hi, rfl⟩ := List.getElem_of_mem hm
      rw [← nth_eq hi]; exact h.lt i (by have := h.ten; omega)
    nodup := by
      refine List.pairwise_iff_getElem.2 fun i k hi hk hik e => ?_
      have e' : nth p i = nth p k := by rw [nth_eq hi, nth_eq hk]; exact e
      have hi2 := h.inv i (by have := h.ten; omega)
      have hk2 := h.inv k (by have := h.ten; omega)
      rw [e', hk2] at hi2
      omega }
  refine ⟨hp, (invP_is hp h.ten fun j hj => ?_).symm⟩
  have hj' : j < 10 := by have := h.ten; omega
  have := h.inv j hj'
  have hl := h.lt j hj'
  rw [nth_eq hj] at this hl
  have h2 : p[j] < p.length := by rw [h.ten]; exact hl
  rw [nth_eq h2] at this
  rw [List.getElem?_eq_getElem h2, this]
/-- the board with number n of those with P pairs -/
def boardP (P n : Nat) : List Nat := brd 10 (List.range 10) P n (List.range 10)
theorem bst_start {P n : Nat} (hP : P ≤ 5) (hn : n < cnt 10 P) : Bst (List.range 10) P n (List.range 10) := by
  have hid : ∀ j, j < 10 → nth (List.range 10) j = j := fun j hj => by rw [nth_eq (by simpa using hj), List.getElem_range]
  exact ⟨by simp, fun j hj => by rw [hid j hj]; exact hj, fun j hj => by rw [hid j hj, hid j hj], fun x hx => ⟨by simpa using hx, hid x (by simpa using hx)⟩, List.nodup_range, by simp, hP, by simpa using hn⟩
theorem boardP_ok {P n : Nat} (hP : P ≤ 5) (hn : n < cnt 10 P) : Prm (boardP P n) ∧ invP (boardP P n) = boardP P n := by
  obtain ⟨_, _, _, h⟩ := brd_ok 10 _ _ _ _ (bst_start hP hn)
  exact h.prm

end Pl

namespace Pl
/-- the last k digits of n -/
def valD : Nat → Nat → List Nat
  | 0, _ => []
  | k + 1, n => valD k (n / 10) ++ [n % 10]
theorem valD_len : ∀ k n, (valD k n).length = k
  | 0, _ => rfl
  | k + 1, n => by rw [valD, List.length_append, valD_len k]; rfl
theorem valD_lt : ∀ k n, ∀ x ∈ valD k n, x < 10
  | 0, _, x, h => by simp [valD] at h
  | k + 1, n, x, h => by
    rw [valD, List.mem_append] at h
    rcases h with h | h
    · exact valD_lt k _ x h
    · simp at h; omega
theorem valD_cons : ∀ k n, valD (k + 1) n = (n / 10 ^ k) % 10 :: valD k n
  | 0, n => by simp [valD]
  | k + 1, n => by
    rw [show valD (k + 1 + 1) n = valD (k + 1) (n / 10) ++ [n % 10] from rfl, valD_cons k (n / 10), Nat.div_div_eq_div_mul, List.cons_append, show (10 : Nat) * 10 ^ k = 10 ^ (k + 1) by rw [Nat.pow_succ, Nat.mul_comm], show valD (k + 1) n = valD k (n / 10) ++ [n % 10] from rfl]
/-- the value of digits -/
def valN (ds : List Nat) : Nat := ds.foldl (fun n d => n * 10 + d) 0
theorem valN_snoc (ds : List Nat) (d : Nat) : valN (ds ++ [d]) = valN ds * 10 + d := by simp [valN]
theorem valN_take {ds : List Nat} {k : Nat} (hk : k < ds.length) : valN (ds.take (k + 1)) = valN (ds.take k) * 10 + nth ds k := by
  rw [List.take_succ_eq_append_getElem hk, valN_snoc, nth_eq hk]
theorem valN_lt {ds : List Nat} (h : ∀ n ∈ ds, n < 10) : ∀ k, k ≤ ds.length → valN (ds.take k) < 10 ^ k
  | 0, _ => by simp [valN]
  | k + 1, hk => by
    rw [valN_take (by omega), Nat.pow_succ]
    have h1 := valN_lt h k (by omega)
    have h2 := nth_lt h k
    omega

/-- the order with a number of what is left -/
def ordG : Nat → List Nat → Nat → List Nat
  | 0, _, _ => []
  | f + 1, rest, at_ => nth rest (at_ / fct (rest.length - 1)) :: ordG f (rest.eraseIdx (at_ / fct (rest.length - 1))) (at_ % fct (rest.length - 1))
def ordP (n at_ : Nat) : List Nat := ordG n (List.range n) at_
theorem ord0 : ∀ n : Fin 4, ∀ a : Fin 6, a.val < fct n.val → (ordP n.val a.val).Nodup ∧ (ordP n.val a.val).length = n.val ∧ ∀ x ∈ ordP n.val a.val, x < n.val := by decide +kernel
theorem fct_le3 : ∀ n : Fin 4, 1 ≤ fct n.val ∧ fct n.val ≤ 6 := by decide
theorem ordP_ok {n a : Nat} (hn : n ≤ 3) (ha : a < fct n) : (ordP n a).Nodup ∧ (ordP n a).length = n ∧ ∀ x ∈ ordP n a, x < n :=
  ord0 ⟨n, by omega⟩ ⟨a, by have := (fct_le3 ⟨n, by omega⟩).2; simp only at this; omega⟩ ha
theorem ordP_zero0 : ∀ n : Fin 4, ordP n.val 0 = List.range n.val := by decide +kernel
theorem ordP_zero {n : Nat} (hn : n ≤ 3) : ordP n 0 = List.range n := ordP_zero0 ⟨n, by omega⟩
theorem ord_lists : ordP 1 0 = [0] ∧ ordP 2 0 = [0, 1] ∧ ordP 2 1 = [1, 0] ∧ ordP 3 0 = [0, 1, 2] ∧ ordP 3 1 = [0, 2, 1] ∧ ordP 3 2 = [1, 0, 2] ∧ ordP 3 3 = [1, 2, 0] ∧ ordP 3 4 = [2, 0, 1] ∧ ordP 3 5 = [2, 1, 0] := by decide +kernel
/-- rotors in an order -/
def ordR (rs : List (ByteArray × ByteArray)) (l : List Nat) : List (ByteArray × ByteArray) := l.map fun i => rs.getD i (⟨#[]⟩, ⟨#[]⟩)
theorem ordR_range (rs : List (ByteArray × ByteArray)) : ordR rs (List.range rs.length) = rs := by
  apply List.ext_getElem (by simp [ordR])
  intro i h1 h2
  simp [ordR, List.getD_eq_getElem?_getD, h2]
theorem ordR_len (rs : List (ByteArray × ByteArray)) (l : List Nat) : (ordR rs l).length = l.length := by simp [ordR]
theorem ordR_mem {rs : List (ByteArray × ByteArray)} {l : List Nat} (hl : ∀ x ∈ l, x < rs.length) : ∀ r ∈ ordR rs l, r ∈ rs := by
  intro r hr
  obtain ⟨i, hi, rfl⟩ := List.mem_map.1 hr
  rw [List.getD_eq_getElem?_getD, List.getElem?_eq_getElem (hl i hi), Option.getD_some]
  exact List.getElem_mem _

/-- what a plugboard's letters that are left add to its number -/
def bnm (q : List Nat) : Nat → List Nat → Nat → Nat → Nat
  | 0, _, _, acc => acc
  | f + 1, left, P, acc => match left with
    | [] => acc
    | x :: rest => if nth q x = x then bnm q f rest P acc else bnm q f (rest.erase (nth q x)) (P - 1) (acc + cnt rest.length P + rest.idxOf (nth q x) * cnt (rest.length - 1) (P - 1))
def movedN (q : List Nat) : Nat := ((List.range 10).filter fun x => decide (nth q x ≠ x)).length
def boardN (q : List Nat) : Nat := bnm q 10 (List.range 10) (movedN q / 2) 0
theorem bnm_le (q : List Nat) (M : Nat) (hM : 60000 ≤ M) : ∀ f left P acc, left.length ≤ 10 → P ≤ 5 → bnm q f left P acc ≤ acc + f * M
  | 0, _, _, acc, _, _ => Nat.le_add_right _ _
  | f + 1, [], P, acc, _, _ => Nat.le_add_right _ _
  | f + 1, x :: rest, P, acc, hl, hP => by
    show (if nth q x = x then bnm q f rest P acc else bnm q f (rest.erase (nth q x)) (P - 1) (acc + cnt rest.length P + rest.idxOf (nth q x) * cnt (rest.length - 1) (P - 1))) ≤ acc + (f + 1) * M
    rw [List.length_cons] at hl
    rw [Nat.add_mul, Nat.one_mul]
    split
    · exact Nat.le_trans (bnm_le q M hM f rest P acc (by omega) hP) (Nat.add_le_add_left (Nat.le_add_right _ _) _)
    · have h1 := bnm_le q M hM f (rest.erase (nth q x)) (P - 1) (acc + cnt rest.length P + rest.idxOf (nth q x) * cnt (rest.length - 1) (P - 1)) (by have := List.length_erase_le (a := nth q x) (l := rest); omega) (by omega)
      have h2 := cnt_le (m := rest.length) (P := P) (by omega) hP
      have h3 := cnt_le (m := rest.length - 1) (P := P - 1) (by omega) (by omega)
      have h4 : rest.idxOf (nth q x) ≤ 10 := Nat.le_trans List.idxOf_le_length (by omega)
      have h5 : rest.idxOf (nth q x) * cnt (rest.length - 1) (P - 1) ≤ 10 * 4725 := Nat.mul_le_mul h4 h3
      refine Nat.le_trans h1 ?_
      generalize rest.idxOf (nth q x) * cnt (rest.length - 1) (P - 1) = A at h5 ⊢
      generalize cnt rest.length P = B at h2 ⊢
      clear h1 h3 h4
      omega
theorem movedN_le (q : List Nat) : movedN q ≤ 10 := by
  have := List.length_filter_le (fun x => decide (nth q x ≠ x)) (List.range 10)
  rw [List.length_range] at this; exact this
theorem boardN_le (q : List Nat) : boardN q ≤ 600000 := by
  have := bnm_le q 60000 (Nat.le_refl _) 10 (List.range 10) (movedN q / 2) 0 (by simp) (by have := movedN_le q; omega)
  unfold boardN; omega

end Pl

namespace Pl
/-- the letters from y on that are not in l -/
def fr (l : List Nat) (y : Nat) : List Nat := (List.range' y (10 - y)).filter fun j => decide (j ∉ l)
theorem fr_cons (l : List Nat) {y : Nat} (h : y < 10) : fr l y = if y ∈ l then fr l (y + 1) else y :: fr l (y + 1) := by
  unfold fr
  rw [show 10 - y = (10 - (y + 1)) + 1 by omega, List.range'_succ, List.filter_cons]
  by_cases e : y ∈ l
  · rw [if_pos e, if_neg (by simpa using e)]
  · rw [if_neg e, if_pos (by simpa using e)]
theorem fr_in {l : List Nat} {y : Nat} (h : y < 10) (hy : y ∈ l) : fr l y = fr l (y + 1) := by rw [fr_cons l h, if_pos hy]
theorem fr_out {l : List Nat} {y : Nat} (h : y < 10) (hy : y ∉ l) : fr l y = y :: fr l (y + 1) := by rw [fr_cons l h, if_neg hy]
theorem fr_end (l : List Nat) : fr l 10 = [] := by simp [fr]
theorem fr_nil : fr [] 0 = List.range 10 := by decide
theorem fr_nodup (l : List Nat) (y : Nat) : (fr l y).Nodup := List.Nodup.sublist List.filter_sublist List.nodup_range'
theorem fr_lt {l : List Nat} {y z : Nat} (h : z ∈ fr l y) : z < 10 ∧ z ∉ l := by
  unfold fr at h
  rw [List.mem_filter, List.mem_range'_1] at h
  exact ⟨by omega, by simpa using h.2⟩
theorem filter_ne_erase {l : List Nat} (h : l.Nodup) {c z : Nat} (hc : c < l.length) (hz : nth l c = z) : l.filter (fun j => decide (j ≠ z)) = l.eraseIdx c := by
  induction l generalizing c with
  | nil => simp at hc
  | cons a l ih =>
    have hn := List.nodup_cons.1 h
    cases c with
    | zero =>
      have ha : a = z := hz
      subst ha
      rw [List.eraseIdx_zero, List.tail_cons, List.filter_cons, if_neg (by simp)]
      refine List.filter_eq_self.2 fun x hx => ?_
      simp only [decide_eq_true_eq]
      intro e; subst e; exact hn.1 hx
    | succ c =>
      have hc' : c < l.length := by simpa using hc
      have hz' : nth l c = z := hz
      have hne : a ≠ z := by
        intro e; subst e
        exact hn.1 (by rw [← hz', nth_eq hc']; exact List.getElem_mem hc')
      rw [List.eraseIdx_cons_succ, List.filter_cons, if_pos (by simpa using hne), ih hn.2 hc' hz']
theorem fr_put {l : List Nat} {y c z : Nat} (hc : c < (fr l y).length) (hz : nth (fr l y) c = z) : fr (l ++ [z]) y = (fr l y).eraseIdx c := by
  rw [← filter_ne_erase (fr_nodup l y) hc hz]
  unfold fr
  rw [List.filter_filter]
  congr 1
  funext j
  simp only [List.mem_append, List.mem_singleton, not_or]
  by_cases h1 : j = z <;> by_cases h2 : j ∈ l <;> simp [h1, h2]
theorem brd_nil (f P n : Nat) (p : List Nat) : brd f [] P n p = p := by cases f <;> rfl
theorem brd_lt {f x P n : Nat} {rest p : List Nat} (h : n < cnt rest.length P) : brd (f + 1) (x :: rest) P n p = brd f rest P n p := by
  show (if n < cnt rest.length P then brd f rest P n p else _) = _
  rw [if_pos h]
theorem brd_ge {f x P n : Nat} {rest p : List Nat} (h : ¬ n < cnt rest.length P) : brd (f + 1) (x :: rest) P n p = brd f (rest.eraseIdx ((n - cnt rest.length P) / cnt (rest.length - 1) (P - 1))) (P - 1) ((n - cnt rest.length P) % cnt (rest.length - 1) (P - 1)) (swpP p x (nth rest ((n - cnt rest.length P) / cnt (rest.length - 1) (P - 1)))) := by
  show (if n < cnt rest.length P then _ else _) = _
  rw [if_neg h]

end Pl

namespace Pl
/-- E for each letter of m ones from j on that is not in l -/
def iS (l : List Nat) (E : Nat) : Nat → Nat → Nat
  | _, 0 => 0
  | j, m + 1 => (if j ∈ l then 0 else E) + iS l E (j + 1) m
theorem iS_le (l : List Nat) (E : Nat) : ∀ m j, iS l E j m ≤ m * E
  | 0, _ => by simp [iS]
  | m + 1, j => by
    rw [iS, Nat.add_mul, Nat.one_mul]
    have := iS_le l E m (j + 1)
    split <;> omega
theorem iS_in {l : List Nat} {E j m : Nat} (h : j ∈ l) : iS l E j (m + 1) = iS l E (j + 1) m := by rw [iS, if_pos h, Nat.zero_add]
theorem iS_out {l : List Nat} {E j m : Nat} (h : j ∉ l) : iS l E j (m + 1) = E + iS l E (j + 1) m := by rw [iS, if_neg h]

structure BN where
  n : Nat
  f : Nat
  P : Nat
  l : List Nat
/-- one letter -/
def bnS (q : List Nat) (k : Nat) (s : BN) : BN :=
  if k ∈ s.l then s
  else if nth q k = k then ⟨s.n, s.f - 1, s.P, (s.l ++ [k]) ++ [k]⟩
  else ⟨s.n + cnt (s.f - 1) s.P + iS ((s.l ++ [k]) ++ [nth q k]) (cnt (s.f - 2) (s.P - 1)) (k + 1) (nth q k - (k + 1)), s.f - 2, s.P - 1, (s.l ++ [k]) ++ [nth q k]⟩
def bnR (q : List Nat) : Nat → BN
  | 0 => ⟨0, 10, movedN q / 2, []⟩
  | k + 1 => bnS q k (bnR q k)
def boardK (q : List Nat) : Nat := (bnR q 10).n

/-- what holds after k letters -/
structure BnI (q : List Nat) (k : Nat) (s : BN) : Prop where
  cl : ∀ j ∈ s.l, nth q j ∈ s.l
  lo : ∀ j, j < k → j ∈ s.l
  f : s.f = (fr s.l k).length
  P : s.P = (fr s.l k).countP (fun x => decide (nth q x ≠ x)) / 2
  n : s.n ≤ k * 60000

theorem fr_skip {l : List Nat} {z y : Nat} (h : z < y) : fr (l ++ [z]) y = fr l y := by
  unfold fr
  refine List.filter_congr fun j hj => ?_
  rw [List.mem_range'_1] at hj
  have : j ≠ z := by omega
  simp [this]
theorem fr_perm {l : List Nat} {z y : Nat} (h : z ∈ fr l y) : (fr l y).Perm (z :: fr (l ++ [z]) y) := by
  have e : fr (l ++ [z]) y = (fr l y).erase z := by
    rw [List.Nodup.erase_eq_filter (fr_nodup l y)]
    unfold fr
    rw [List.filter_filter]
    congr 1
    funext j
    by_cases h1 : j = z <;> by_cases h2 : j ∈ l <;> simp [h1, h2]
  rw [e]
  exact List.perm_cons_erase h
theorem fr_len (l : List Nat) (k : Nat) : (fr l k).length ≤ 10 - k := by
  unfold fr
  have := List.length_filter_le (fun j => decide (j ∉ l)) (List.range' k (10 - k))
  rwa [List.length_range'] at this

/-- the facts of a letter that is left -/
theorem BnI.one {q : List Nat} {k : Nat} {s : BN} (h : BnI q k s) (hk : k < 10) (hkl : k ∉ s.l) : 1 ≤ s.f ∧ s.f ≤ 10 ∧ s.P ≤ 5 := by
  have hf := h.f
  have hl := fr_len s.l k
  rw [fr_out hk hkl] at hf hl
  rw [List.length_cons] at hf hl
  refine ⟨by omega, by omega, ?_⟩
  have hP := h.P
  have := List.countP_le_length (p := fun x => decide (nth q x ≠ x)) (l := fr s.l k)
  have := fr_len s.l k
  omega
theorem BnI.two {q : List Nat} (hq : ∀ j, j < 10 → nth q j < 10) (hi : ∀ j, j < 10 → nth q (nth q j) = j) {k : Nat} {s : BN} (h : BnI q k s) (hk : k < 10) (hkl : k ∉ s.l) (hy : ¬ nth q k = k) :
    nth q k ∈ fr s.l (k + 1) ∧ k < nth q k ∧ 2 ≤ s.f ∧ 1 ≤ s.P ∧
    s.f = 2 + (fr ((s.l ++ [k]) ++ [nth q k]) (k + 1)).length ∧ s.P = 1 + (fr ((s.l ++ [k]) ++ [nth q k]) (k + 1)).countP (fun x => decide (nth q x ≠ x)) / 2 := by
  have hyl : nth q k ∉ s.l := fun h1 => hkl (by have := h.cl _ h1; rwa [hi k hk] at this)
  have hyk : k < nth q k := by
    rcases Nat.lt_trichotomy (nth q k) k with h1 | h1 | h1
    · exact absurd (h.lo _ h1) hyl
    · exact absurd h1 hy
    · exact h1
  have hym : nth q k ∈ fr s.l (k + 1) := by
    unfold fr
    rw [List.mem_filter, List.mem_range'_1]
    exact ⟨by have := hq k hk; omega, by simpa using hyl⟩
  have hp := fr_perm hym
  have e : fr ((s.l ++ [k]) ++ [nth q k]) (k + 1) = fr (s.l ++ [nth q k]) (k + 1) := by
    unfold fr
    refine List.filter_congr fun j hj => ?_
    rw [List.mem_range'_1] at hj
    have : j ≠ k := by omega
    simp [this]
  have hf := h.f
  have hP := h.P
  rw [fr_out hk hkl] at hf hP
  rw [e]
  have h1 := hp.length_eq
  have h2 := hp.countP_eq (fun x => decide (nth q x ≠ x))
  have m1 : decide (nth q k ≠ k) = true := by simpa using hy
  have m2 : decide (nth q (nth q k) ≠ nth q k) = true := by rw [hi k hk]; simpa using fun e => hy e.symm
  rw [List.length_cons] at hf h1
  rw [List.countP_cons_of_pos (p := fun x => decide (nth q x ≠ x)) m1] at hP
  rw [List.countP_cons_of_pos (p := fun x => decide (nth q x ≠ x)) m2] at h2
  refine ⟨hym, hyk, by omega, by omega, by omega, by omega⟩

theorem BnI.step {q : List Nat} (hq : ∀ j, j < 10 → nth q j < 10) (hi : ∀ j, j < 10 → nth q (nth q j) = j) {k : Nat} {s : BN} (h : BnI q k s) (hk : k < 10) : BnI q (k + 1) (bnS q k s) := by
  unfold bnS
  by_cases hkl : k ∈ s.l
  · rw [if_pos hkl]
    exact ⟨h.cl, fun j hj => (by
      rcases Nat.lt_or_ge j k with h1 | h1
      · exact h.lo j h1
      · have : j = k := by omega
        rw [this]; exact hkl), by rw [h.f, fr_in hk hkl], by rw [h.P, fr_in hk hkl], Nat.le_trans h.n (Nat.mul_le_mul_right _ (Nat.le_succ k))⟩
  · rw [if_neg hkl]
    obtain ⟨b1, b2, b3⟩ := h.one hk hkl
    by_cases hy : nth q k = k
    · rw [if_pos hy]
      have e : fr ((s.l ++ [k]) ++ [k]) (k + 1) = fr s.l (k + 1) := by rw [fr_skip (by omega), fr_skip (by omega)]
      have m1 : ¬ decide (nth q k ≠ k) = true := by simpa using hy
      refine ⟨fun j hj => ?_, fun j hj => ?_, ?_, ?_, ?_⟩
      · simp only [List.mem_append, List.mem_singleton] at hj ⊢
        rcases hj with (hj | hj) | hj
        · exact .inl (.inl (h.cl j hj))
        · subst hj; exact .inr hy
        · subst hj; exact .inr hy
      · simp only [List.mem_append, List.mem_singleton]
        rcases Nat.lt_or_ge j k with h1 | h1
        · exact .inl (.inl (h.lo j h1))
        · exact .inr (by omega)
      · show s.f - 1 = _
        rw [e]
        have hf := h.f
        rw [fr_out hk hkl, List.length_cons] at hf
        omega
      · show s.P = _
        rw [e, h.P, fr_out hk hkl, List.countP_cons_of_neg (p := fun x => decide (nth q x ≠ x)) m1]
      · exact Nat.le_trans h.n (Nat.mul_le_mul_right _ (Nat.le_succ k))
    · rw [if_neg hy]
      obtain ⟨c1, c2, c3, c4, c5, c6⟩ := h.two hq hi hk hkl hy
      refine ⟨fun j hj => ?_, fun j hj => ?_, ?_, ?_, ?_⟩
      · simp only [List.mem_append, List.mem_singleton] at hj ⊢
        rcases hj with (hj | hj) | hj
        · exact .inl (.inl (h.cl j hj))
        · subst hj; exact .inr rfl
        · subst hj; exact .inl (.inr (hi k hk))
      · simp only [List.mem_append, List.mem_singleton]
        rcases Nat.lt_or_ge j k with h1 | h1
        · exact .inl (.inl (h.lo j h1))
        · exact .inl (.inr (by omega))
      · show s.f - 2 = (fr ((s.l ++ [k]) ++ [nth q k]) (k + 1)).length
        omega
      · show s.P - 1 = (fr ((s.l ++ [k]) ++ [nth q k]) (k + 1)).countP (fun x => decide (nth q x ≠ x)) / 2
        omega
      · show s.n + cnt (s.f - 1) s.P + iS ((s.l ++ [k]) ++ [nth q k]) (cnt (s.f - 2) (s.P - 1)) (k + 1) (nth q k - (k + 1)) ≤ (k + 1) * 60000
        rw [Nat.add_mul, Nat.one_mul]
        have g1 := cnt_le (m := s.f - 1) (P := s.P) (by omega) b3
        have g2 := cnt_le (m := s.f - 2) (P := s.P - 1) (by omega) (by omega)
        have g3 := iS_le ((s.l ++ [k]) ++ [nth q k]) (cnt (s.f - 2) (s.P - 1)) (nth q k - (k + 1)) (k + 1)
        have g4 : (nth q k - (k + 1)) * cnt (s.f - 2) (s.P - 1) ≤ 10 * 4725 := Nat.mul_le_mul (by have := hq k hk; omega) g2
        have g5 := h.n
        clear c1 c2 c3 c4 c5 c6 g2
        generalize iS ((s.l ++ [k]) ++ [nth q k]) (cnt (s.f - 2) (s.P - 1)) (k + 1) (nth q k - (k + 1)) = A at g3 ⊢
        generalize (nth q k - (k + 1)) * cnt (s.f - 2) (s.P - 1) = B at g3 g4
        generalize cnt (s.f - 1) s.P = C at g1 ⊢
        omega
theorem movedN_count (q : List Nat) : movedN q = (List.range 10).countP (fun x => decide (nth q x ≠ x)) := by
  unfold movedN; rw [List.countP_eq_length_filter]
theorem bnR_ok {q : List Nat} (hq : ∀ j, j < 10 → nth q j < 10) (hi : ∀ j, j < 10 → nth q (nth q j) = j) : ∀ k, k ≤ 10 → BnI q k (bnR q k)
  | 0, _ => ⟨fun j hj => absurd hj List.not_mem_nil, fun j hj => absurd hj (Nat.not_lt_zero j), (by show 10 = (fr [] 0).length; rw [fr_nil]; rfl), (by show movedN q / 2 = (fr [] 0).countP (fun x => decide (nth q x ≠ x)) / 2; rw [movedN_count, fr_nil]), Nat.zero_le _⟩
  | k + 1, hk => (bnR_ok hq hi k (by omega)).step hq hi (by omega)
theorem boardK_le {q : List Nat} (hq : ∀ j, j < 10 → nth q j < 10) (hi : ∀ j, j < 10 → nth q (nth q j) = j) : boardK q ≤ 600000 :=
  (bnR_ok hq hi 10 (Nat.le_refl _)).n

end Pl

end Go.Proofs.YtipcodebmemkpaaGreatDoor
