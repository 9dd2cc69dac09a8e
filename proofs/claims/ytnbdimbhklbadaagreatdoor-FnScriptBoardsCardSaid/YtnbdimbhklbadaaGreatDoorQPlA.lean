/-
  Contracts of functions and plain laws that the law's proof uses (parts: Plain, PlainQ, PlainU, PlainN). Conditions: what each theorem names.
-/
import Derived.Laws.Strings
import Derived.Laws.Strings2
import Derived.Laws.Concat
import Derived.Lib.SplitLaws
import Derived.Lib.Join
import Derived.Lib.ItoaNum
import Derived.Lib.Atoi
namespace Go.Proofs.YtnbdimbhklbadaaGreatDoor
namespace Pl
abbrev Ent := ByteArray × ByteArray
def tl (s : ByteArray) : List UInt8 := s.data.toList
def mk (l : List UInt8) : ByteArray := ⟨l.toArray⟩
theorem tl_mk (l : List UInt8) : tl (mk l) = l := rfl
theorem mk_tl (s : ByteArray) : mk (tl s) = s := rfl
theorem size_mk (l : List UInt8) : (mk l).size = l.length := rfl
theorem length_tl (s : ByteArray) : (tl s).length = s.size := rfl
theorem toList_tl (s : ByteArray) : s.toList = tl s := ByteArray.toList_eq s
theorem tl_inj {s t : ByteArray} (h : tl s = tl t) : s = t := by rw [← mk_tl s, ← mk_tl t, h]
theorem getElem_tl (s : ByteArray) (i : Nat) (h : i < s.size) : s[i] = (tl s)[i]'(by rw [length_tl]; exact h) := rfl
theorem take_succ_tl (s : ByteArray) (k : Nat) (h : k < s.size) : (tl s).take (k + 1) = (tl s).take k ++ [s[k]] := by
  rw [List.take_succ_eq_append_getElem (by rw [length_tl]; exact h)]; rfl
theorem mk_append (a b : List UInt8) : mk a ++ mk b = mk (a ++ b) := ByteArray.mk_append_mk a b
theorem append_tl (a b : ByteArray) : a ++ b = mk (tl a ++ tl b) := by rw [← mk_append, mk_tl, mk_tl]
def isL (c : UInt8) : Bool := decide (97 ≤ c.toNat) && decide (c.toNat < 107)
def wv (l : List UInt8) : Bool := decide (l.length ≤ 200) && l.all isL
theorem wv_long {l : List UInt8} (h : 200 < l.length) : wv l = false := by
  unfold wv; have : ¬ l.length ≤ 200 := by omega
  simp [this]
theorem wv_all {l : List UInt8} (h : l.length ≤ 200) : wv l = l.all isL := by simp [wv, h]
theorem wv_bad {l : List UInt8} {c : UInt8} (h : c ∈ l) (hc : isL c = false) : wv l = false := by
  unfold wv
  have : l.all isL = false := by
    rw [List.all_eq_false]; exact ⟨c, h, by simp [hc]⟩
  simp [this]
theorem wv_length {l : List UInt8} (h : wv l = true) : l.length ≤ 200 := by simp [wv] at h; exact h.1
theorem wv_mem {l : List UInt8} (h : wv l = true) {c : UInt8} (hc : c ∈ l) : isL c = true := by simp [wv] at h; exact h.2 c hc
theorem isL_bounds {c : UInt8} (h : isL c = true) : 97 ≤ c.toNat ∧ c.toNat < 107 := by simpa [isL] using h
def letter (n : Nat) : UInt8 := UInt8.ofNat (97 + n)
theorem toNat_letter {n : Nat} (h : n < 10) : (letter n).toNat = 97 + n := by simp [letter, UInt8.toNat_ofNat']; omega
theorem isL_letter {n : Nat} (h : n < 10) : isL (letter n) = true := by simp [isL, toNat_letter h]; omega
def dg (c : UInt8) : Nat := c.toNat - 97
theorem dg_lt {c : UInt8} (h : isL c = true) : dg c < 10 := by have := isL_bounds h; unfold dg; omega
theorem dg_letter {n : Nat} (h : n < 10) : dg (letter n) = n := by unfold dg; rw [toNat_letter h]; omega
theorem letter_dg {c : UInt8} (h : isL c = true) : letter (dg c) = c := by
  have := isL_bounds h
  apply UInt8.toNat_inj.1
  rw [toNat_letter (dg_lt h)]; unfold dg; omega
def isP (c : UInt8) : Bool := (c.toNat == 45) || isL c
def pv (l : List UInt8) : Bool := decide (l.length ≤ 200) && l.all isP
theorem extract_mk' (s : ByteArray) (a b : Nat) : s.extract a b = mk (((tl s).drop a).take (b - a)) := by
  conv => lhs; rw [← mk_tl s]
  exact ByteArray.extract_mk _ _ _
end Pl
end Go.Proofs.YtnbdimbhklbadaaGreatDoor
namespace Go.Proofs.YtnbdimbhklbadaaGreatDoor
open Pl
set_option linter.unusedVariables false
def spl (c : UInt8) : List UInt8 → List (List UInt8)
  | [] => [[]]
  | x :: l => if x = c then [] :: spl c l else match spl c l with | [] => [[x]] | p :: ps => (x :: p) :: ps
theorem spl_ne (c : UInt8) (l : List UInt8) : spl c l ≠ [] := by
  cases l with
  | nil => simp [spl]
  | cons x l =>
    rw [spl]
    split
    · simp
    · split <;> simp
theorem spl_none {c : UInt8} : ∀ {l : List UInt8}, c ∉ l → spl c l = [l]
  | [], _ => rfl
  | x :: l, h => by
    simp only [List.mem_cons, not_or] at h
    rw [spl, if_neg (fun e => h.1 e.symm), spl_none h.2]
theorem spl_cons {c : UInt8} : ∀ {p : List UInt8} (l : List UInt8), c ∉ p → spl c (p ++ c :: l) = p :: spl c l
  | [], l, _ => by rw [List.nil_append, spl, if_pos rfl]
  | x :: p, l, h => by
    simp only [List.mem_cons, not_or] at h
    rw [List.cons_append, spl, if_neg (fun e => h.1 e.symm), spl_cons l h.2]
theorem length_spl (c : UInt8) : ∀ l : List UInt8, (spl c l).length = l.count c + 1
  | [] => rfl
  | x :: l => by
    have ih := length_spl c l
    rw [spl]
    by_cases h : x = c
    · subst h; rw [if_pos rfl, List.length_cons, ih, List.count_cons_self]
    · rw [if_neg h, List.count_cons_of_ne (by simpa using h), ← ih]
      split
      · rename_i e; exact absurd e (spl_ne c l)
      · rename_i e; rw [e]; rfl
theorem index_one_hit {s : List UInt8} {c : UInt8} {i : Nat} (h : Lib.index s [c] = i) : i < s.length ∧ s[i]? = some c ∧ ∀ j, j < i → s[j]? ≠ some c := by
  rcases Lib.index_spec s [c] with ⟨h1, _⟩ | ⟨i', h1, h2, h3, h4⟩
  · omega
  · obtain rfl : i' = i := by omega
    have hh := Lib.occAt_head rfl h3
    refine ⟨(List.getElem?_eq_some_iff.1 hh).1, hh, fun j hj e => ?_⟩
    have hn := h4 j hj
    have hl := (List.getElem?_eq_some_iff.1 e).1
    rw [Lib.occAt_iff_take _ _ _ (by simp; omega)] at hn
    have : (s.drop j).take 1 = [c] := by
      rw [List.drop_eq_getElem_cons hl]
      have := (List.getElem?_eq_some_iff.1 e).2
      rw [this]; rfl
    simp [this] at hn
theorem index_one_miss {s : List UInt8} {c : UInt8} (h : Lib.index s [c] = -1) : c ∉ s := by
  intro hm
  obtain ⟨j, hj, e⟩ := List.mem_iff_getElem.1 hm
  rcases Lib.index_spec s [c] with ⟨h1, h2⟩ | ⟨i', h1, _⟩
  · have hn := h2 j (by omega)
    rw [Lib.occAt_iff_take _ _ _ (by simp; omega)] at hn
    have : (s.drop j).take 1 = [c] := by rw [List.drop_eq_getElem_cons hj, e]; rfl
    simp [this] at hn
  · omega
theorem at_split {s : List UInt8} {c : UInt8} {i : Nat} (h1 : s[i]? = some c) (h2 : ∀ j, j < i → s[j]? ≠ some c) : s = s.take i ++ c :: s.drop (i + 1) ∧ c ∉ s.take i := by
  obtain ⟨hi, e⟩ := List.getElem?_eq_some_iff.1 h1
  refine ⟨?_, fun hm => ?_⟩
  · conv => lhs; rw [← List.take_append_drop i s, List.drop_eq_getElem_cons hi, e]
  · obtain ⟨j, hj, ej⟩ := List.mem_iff_getElem.1 hm
    have hj' : j < i := by rw [List.length_take] at hj; omega
    refine h2 j hj' ?_
    rw [List.getElem?_eq_getElem (by omega)]
    rw [List.getElem_take] at ej
    rw [ej]
theorem splitB_spl (c : UInt8) : ∀ (k : Nat) (s : ByteArray), Lib.countB s (mk [c]) = k → (Lib.splitB (mk [c]) 0 k s).map tl = spl c (tl s) := by
  intro k
  induction k with
  | zero =>
    intro s hk
    rcases Lib.indexB_cases s (mk [c]) with hix | ⟨i, hix, _⟩
    · rw [Lib.splitB_zero, spl_none (l := tl s) (index_one_miss hix)]; rfl
    · rw [Lib.countB_hit s (mk [c]) i (Nat.le_refl 1) hix] at hk; omega
  | succ k ih =>
    intro s hk
    rcases Lib.indexB_cases s (mk [c]) with hix | ⟨i, hix, _⟩
    · rw [Lib.countB_miss s _ hix] at hk; omega
    · rw [Lib.splitB_hit _ 0 k s i hix, List.map_cons, ih _ (by have := Lib.countB_hit s (mk [c]) i (Nat.le_refl 1) hix; omega)]
      obtain ⟨h1, h2, h3⟩ := index_one_hit hix
      obtain ⟨h4, h5⟩ := at_split h2 h3
      have e1 : tl (s.extract 0 (i + 0)) = (tl s).take i := by rw [extract_mk', tl_mk]; simp
      have e2 : tl (s.extract (i + (mk [c]).size) s.size) = (tl s).drop (i + 1) := by
        rw [extract_mk', tl_mk, show (mk [c]).size = 1 from rfl, List.take_of_length_le (by rw [List.length_drop, length_tl]; omega)]
      rw [e1, e2]
      have h4' : tl s = (tl s).take i ++ c :: (tl s).drop (i + 1) := h4
      conv => rhs; rw [h4']
      rw [spl_cons (p := (tl s).take i) _ h5]
def bef (c : UInt8) (l : List UInt8) : List UInt8 := l.take (l.idxOf c)
def aft (c : UInt8) (l : List UInt8) : List UInt8 := l.drop (l.idxOf c + 1)
theorem idxOf_hit {c : UInt8} : ∀ {l : List UInt8} {i : Nat}, l[i]? = some c → (∀ j, j < i → l[j]? ≠ some c) → l.idxOf c = i
  | [], i, h, _ => by simp at h
  | x :: l, 0, h, _ => by simp at h; subst h; simp
  | x :: l, i + 1, h, h2 => by
    have hx : x ≠ c := fun e => h2 0 (by omega) (by simp [e])
    have hi := @idxOf_hit c l i (by simpa using h) (fun j hj => by have := h2 (j + 1) (by omega); simpa using this)
    have hxb : (x == c) = false := by rw [beq_eq_false_iff_ne]; exact hx
    rw [List.idxOf_cons, hi, hxb]
    rfl
theorem cut_bef (c : UInt8) (l : List UInt8) : Lib.cut l [c] = (bef c l, aft c l, decide (c ∈ l)) := by
  unfold Lib.cut
  rcases Lib.index_spec l [c] with ⟨h1, _⟩ | ⟨i, h1, _⟩
  · have hn := index_one_miss h1
    have : l.idxOf c = l.length := List.idxOf_eq_length hn
    rw [h1, if_neg (by omega)]
    simp [bef, aft, this, hn]
  · obtain ⟨h2, h3, h4⟩ := index_one_hit h1
    have := idxOf_hit h3 h4
    have hm : c ∈ l := List.mem_of_getElem? h3
    rw [h1, if_pos (by omega)]
    simp [bef, aft, this, hm]
theorem bef_of {c : UInt8} {p q : List UInt8} (h : c ∉ p) : bef c (p ++ c :: q) = p ∧ aft c (p ++ c :: q) = q := by
  have : (p ++ c :: q).idxOf c = p.length := by
    apply idxOf_hit
    · simp
    · intro j hj e
      rw [List.getElem?_append_left hj] at e
      exact h (List.mem_of_getElem? e)
  unfold bef aft
  rw [this]
  simp
theorem spl_join {c : UInt8} : ∀ (l : List (List UInt8)), l ≠ [] → (∀ p ∈ l, c ∉ p) → spl c (Lib.join l [c]) = l
  | [], h, _ => absurd rfl h
  | [p], _, h => by rw [Lib.join_one, spl_none (h p (by simp))]
  | p :: q :: r, _, h => by
    have ih := spl_join (c := c) (q :: r) (by simp) (fun x hx => h x (List.mem_cons_of_mem _ hx))
    have e : Lib.join (p :: q :: r) [c] = p ++ c :: Lib.join (q :: r) [c] := by
      rw [Lib.join_cons, Lib.join_cons]; simp [Lib.joinTail]
    rw [e, spl_cons _ (h p (by simp)), ih]
def mkl (l : List (List UInt8)) : List ByteArray := l.map mk
theorem length_mkl (l : List (List UInt8)) : (mkl l).length = l.length := by simp [mkl]
theorem wv_not {l : List UInt8} {x : UInt8} (hl : wv l = true) (hx : x.toNat < 97) : x ∉ l := fun hm => by
  have := isL_bounds (wv_mem hl hm); omega
end Go.Proofs.YtnbdimbhklbadaaGreatDoor
namespace Go.Proofs.YtnbdimbhklbadaaGreatDoor
open Pl
set_option linter.unusedVariables false
abbrev Lnk := ByteArray × ByteArray × Nat
def menuV (m : List Lnk) : Prop := 1 ≤ m.length ∧ m.length ≤ 12 ∧ (∀ x ∈ m, x.1.size = 1 ∧ x.2.1.size = 1 ∧ wv (tl x.1 ++ tl x.2.1) = true ∧ x.1 ≠ x.2.1 ∧ 1 ≤ x.2.2 ∧ x.2.2 ≤ 60) ∧ m.Pairwise fun x y => x.2.2 < y.2.2
def lnkT (x : Lnk) : List UInt8 := tl x.1 ++ tl x.2.1 ++ Go.Lib.itoa x.2.2
def menuT (m : List Lnk) : List UInt8 := Go.Lib.join (m.map lnkT) [32]
end Go.Proofs.YtnbdimbhklbadaaGreatDoor
namespace Go.Proofs.YtnbdimbhklbadaaGreatDoor
open Pl
set_option linter.unusedVariables false
theorem dec_bounds : ∀ (f u : Nat), u < 10 ^ f → ∀ c ∈ Go.Lib.decDigits u, 48 ≤ c.toNat ∧ c.toNat ≤ 57 := by
  have one : ∀ u : Nat, u < 10 → 48 ≤ (UInt8.ofNat (48 + u)).toNat ∧ (UInt8.ofNat (48 + u)).toNat ≤ 57 := fun u hu => by
    rw [UInt8.toNat_ofNat', Nat.mod_eq_of_lt (by omega)]; omega
  intro f
  induction f with
  | zero => intro u hu c hc; rw [Go.Lib.decDigits, dif_pos (by simp at hu; omega)] at hc; rw [List.mem_singleton.1 hc]; exact one u (by simp at hu; omega)
  | succ f ih =>
    intro u hu c hc
    rw [Go.Lib.decDigits] at hc
    split at hc
    · rw [List.mem_singleton.1 hc]; exact one u (by assumption)
    · rcases List.mem_append.1 hc with h | h
      · exact ih (u / 10) (by rw [Nat.pow_succ] at hu; omega) c h
      · rw [List.mem_singleton.1 h]; exact one (u % 10) (Nat.mod_lt _ (by decide))
theorem decFrom_append : ∀ (l : List UInt8) (acc n : Nat) (b : UInt8) (d : Nat), Go.Lib.decFrom acc l = some n → Go.Lib.digitVal b = some d → Go.Lib.decFrom acc (l ++ [b]) = some (n * 10 + d)
  | [], acc, n, b, d, h, hb => by
    simp only [Go.Lib.decFrom, Option.some.injEq] at h
    subst h
    simp [Go.Lib.decFrom, hb]
  | a :: r, acc, n, b, d, h, hb => by
    rw [List.cons_append]
    unfold Go.Lib.decFrom at h ⊢
    cases hd : Go.Lib.digitVal a with
    | none => rw [hd] at h; cases h
    | some x =>
      rw [hd] at h
      exact decFrom_append r _ n b d h hb
theorem decFrom_dec : ∀ (f u : Nat), u < 10 ^ f → Go.Lib.decFrom 0 (Go.Lib.decDigits u) = some u := by
  have one : ∀ u : Nat, u < 10 → Go.Lib.digitVal (UInt8.ofNat (48 + u)) = some u := fun u hu => by
    unfold Go.Lib.digitVal
    rw [UInt8.toNat_ofNat', Nat.mod_eq_of_lt (by omega), if_pos (by omega)]
    congr 1; omega
  intro f
  induction f with
  | zero => intro u hu; rw [Go.Lib.decDigits, dif_pos (by simp at hu; omega)]; have := decFrom_append [] 0 0 _ u rfl (one u (by simp at hu; omega)); rw [List.nil_append, Nat.zero_mul, Nat.zero_add] at this; exact this
  | succ f ih =>
    intro u hu
    rw [Go.Lib.decDigits]
    split
    · rename_i h; have := decFrom_append [] 0 0 _ u rfl (one u h); rw [List.nil_append, Nat.zero_mul, Nat.zero_add] at this; exact this
    · rw [decFrom_append _ _ _ _ _ (ih (u / 10) (by rw [Nat.pow_succ] at hu; omega)) (one (u % 10) (Nat.mod_lt _ (by decide)))]
      congr 1; omega
theorem dec_ne (u : Nat) : Go.Lib.decDigits u ≠ [] := by
  rw [Go.Lib.decDigits]; split <;> simp
theorem atoi_dec (u : Nat) (hu : u ≤ 1000000000000) : Go.Lib.atoi (Go.Lib.itoa u) = some (u : Int) := by
  have hb := dec_bounds 13 u (by omega)
  have hd := decFrom_dec 13 u (by omega)
  have he : Go.Lib.itoa u = Go.Lib.decDigits u := by unfold Go.Lib.itoa; rw [if_neg (by omega), Int.toNat_natCast]
  rw [he]
  have hne := dec_ne u
  cases hl : Go.Lib.decDigits u with
  | nil => exact absurd hl hne
  | cons b r =>
    rw [hl] at hb hd
    have h0 := hb b (by simp)
    have h45 : (b == 45) = false := by rw [beq_eq_false_iff_ne]; intro e; subst e; simp at h0
    have h43 : (b == 43) = false := by rw [beq_eq_false_iff_ne]; intro e; subst e; simp at h0
    show (if (b == 45) = true then (Go.Lib.decNat r).map fun (m : Nat) => -(m : Int) else if (b == 43) = true then (Go.Lib.decNat r).map fun (m : Nat) => (m : Int) else (Go.Lib.decNat (b :: r)).map fun (m : Nat) => (m : Int)) = _
    rw [if_neg (by rw [h45]; simp), if_neg (by rw [h43]; simp)]
    simp [Go.Lib.decNat, hd]
end Go.Proofs.YtnbdimbhklbadaaGreatDoor
