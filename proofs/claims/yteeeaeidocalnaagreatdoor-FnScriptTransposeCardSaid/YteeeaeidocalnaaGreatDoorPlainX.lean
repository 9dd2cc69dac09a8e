/-
  Plain laws of keys, of their order, and of the places in which a word is read by columns. No program in sight.
-/
import Derived.Test.YteeeaeidocalnaaGreatDoorPlain
namespace Go.Proofs.YteeeaeidocalnaaGreatDoor
open Pl
set_option linter.unusedVariables false

/-- the number of the letter of a key at a place -/
def kd (k : List UInt8) (i : Nat) : Nat := dg (k[i]?.getD 97)
def keyV (k : List UInt8) : Bool := wv k && decide (1 ≤ k.length) && decide (k.length ≤ 12)
theorem keyV_iff {k : List UInt8} : keyV k = true ↔ wv k = true ∧ 1 ≤ k.length ∧ k.length ≤ 12 := by simp [keyV, and_assoc]
/-- the places of a key's letters, letter by letter -/
def kord (k : List UInt8) : List Nat := (List.range 10).flatMap fun x => (List.range k.length).filter fun i => kd k i == x
/-- the order in which the columns are read -/
def klt (k : List UInt8) (a b : Nat) : Prop := kd k a < kd k b ∨ (kd k a = kd k b ∧ a < b)
theorem klt_irrefl (k : List UInt8) (a : Nat) : ¬ klt k a a := by unfold klt; omega
theorem klt_asymm {k : List UInt8} {a b : Nat} (h : klt k a b) : ¬ klt k b a := by unfold klt at *; omega
theorem klt_trans {k : List UInt8} {a b c : Nat} (h : klt k a b) (h2 : klt k b c) : klt k a c := by unfold klt at *; omega
theorem kd_lt {k : List UInt8} (h : wv k = true) (i : Nat) : kd k i < 10 := by
  unfold kd
  cases hi : k[i]? with
  | none => decide
  | some c =>
    have := isL_bounds (wv_mem h (List.mem_of_getElem? hi))
    simp only [Option.getD_some, dg]; omega
theorem kord_sorted (k : List UInt8) : (kord k).Pairwise (klt k) := by
  unfold kord
  rw [List.pairwise_flatMap]
  refine ⟨fun x _ => ?_, ?_⟩
  · have h1 : ((List.range k.length).filter fun i => kd k i == x).Pairwise (· < ·) := List.Pairwise.filter _ List.pairwise_lt_range
    refine List.Pairwise.imp_of_mem ?_ h1
    intro a b ha hb hab
    have ha2 := (List.mem_filter.1 ha).2
    have hb2 := (List.mem_filter.1 hb).2
    rw [beq_iff_eq] at ha2 hb2
    exact Or.inr ⟨by omega, hab⟩
  · refine List.Pairwise.imp ?_ (List.pairwise_lt_range (n := 10))
    intro a b hab x hx y hy
    have hx2 := (List.mem_filter.1 hx).2
    have hy2 := (List.mem_filter.1 hy).2
    rw [beq_iff_eq] at hx2 hy2
    exact Or.inl (by omega)
theorem nodup_of_klt {k : List UInt8} {l : List Nat} (h : l.Pairwise (klt k)) : l.Nodup := by
  unfold List.Nodup
  exact List.Pairwise.imp (fun {a b} hab (e : a = b) => klt_irrefl k b (by subst e; exact hab)) h
theorem kord_mem {k : List UInt8} (h : wv k = true) (i : Nat) : i ∈ kord k ↔ i < k.length := by
  unfold kord
  rw [List.mem_flatMap]
  constructor
  · rintro ⟨x, _, hx⟩
    exact List.mem_range.1 (List.mem_filter.1 hx).1
  · intro hi
    exact ⟨kd k i, List.mem_range.2 (kd_lt h i), List.mem_filter.2 ⟨List.mem_range.2 hi, by simp⟩⟩
theorem perm_of_mem {l m : List Nat} (h1 : l.Nodup) (h2 : m.Nodup) (h : ∀ a, a ∈ l ↔ a ∈ m) : l.Perm m := (List.perm_ext_iff_of_nodup h1 h2).2 h
theorem kord_perm {k : List UInt8} (h : wv k = true) : (kord k).Perm (List.range k.length) :=
  perm_of_mem (nodup_of_klt (kord_sorted k)) List.nodup_range fun a => by rw [kord_mem h, List.mem_range]
theorem kord_length {k : List UInt8} (h : wv k = true) : (kord k).length = k.length := by rw [(kord_perm h).length_eq, List.length_range]
/-- there is one list of these places in order -/
theorem sorted_uniq {k : List UInt8} : ∀ {l m : List Nat}, l.Perm m → l.Pairwise (klt k) → m.Pairwise (klt k) → l = m
  | [], m, h, _, _ => by rw [List.nil_perm.1 h]
  | a :: l, [], h, _, _ => by cases List.perm_nil.1 h
  | a :: l, b :: m, h, h1, h2 => by
    have h1' := List.pairwise_cons.1 h1
    have h2' := List.pairwise_cons.1 h2
    have hab : a = b := by
      have ha : a ∈ b :: m := h.subset (by simp)
      have hb : b ∈ a :: l := h.symm.subset (by simp)
      rcases List.mem_cons.1 ha with e | e
      · exact e
      · rcases List.mem_cons.1 hb with e2 | e2
        · exact e2.symm
        · exact absurd (h2'.1 a e) (klt_asymm (h1'.1 b e2))
    subst hab
    rw [sorted_uniq ((List.perm_cons a).1 h) h1'.2 h2'.2]
theorem kord_uniq {k : List UInt8} (h : wv k = true) {l : List Nat} (hp : l.Perm (List.range k.length)) (hs : l.Pairwise (klt k)) : l = kord k := sorted_uniq (hp.trans (kord_perm h).symm) hs (kord_sorted k)

/-- the places of a column -/
def colP (c n m : Nat) : List Nat := (List.range ((n + (m - 1) - c) / m)).map fun j => c + j * m
theorem colP_mem {c n m : Nat} (hc : c < m) (t : Nat) : t ∈ colP c n m ↔ t < n ∧ t % m = c := by
  unfold colP
  rw [List.mem_map]
  have hm : 0 < m := by omega
  constructor
  · rintro ⟨j, hj, rfl⟩
    rw [List.mem_range, Nat.lt_div_iff_mul_lt hm] at hj
    refine ⟨?_, by rw [Nat.add_mul_mod_self_right, Nat.mod_eq_of_lt hc]⟩
    omega
  · rintro ⟨ht, hr⟩
    refine ⟨t / m, ?_, ?_⟩
    · rw [List.mem_range, Nat.lt_div_iff_mul_lt hm]
      have := Nat.div_add_mod t m
      rw [Nat.mul_comm] at this
      omega
    · have := Nat.div_add_mod t m
      rw [Nat.mul_comm] at this
      omega
theorem colP_sorted {c n m : Nat} (hc : c < m) : (colP c n m).Pairwise (· < ·) := by
  unfold colP
  rw [List.pairwise_map]
  refine List.Pairwise.imp ?_ List.pairwise_lt_range
  intro a b hab
  have := Nat.mul_lt_mul_of_pos_right hab (show 0 < m by omega)
  omega
/-- all places, by columns -/
def cols (k : List UInt8) (n : Nat) : List Nat := (kord k).flatMap fun c => colP c n k.length
theorem cols_nodup {k : List UInt8} (h : keyV k = true) (n : Nat) : (cols k n).Nodup := by
  obtain ⟨hw, h1, h2⟩ := keyV_iff.1 h
  unfold cols List.Nodup
  rw [List.pairwise_flatMap]
  have hlt : ∀ c ∈ kord k, c < k.length := fun c hc => (kord_mem hw c).1 hc
  refine ⟨fun c hc => List.Pairwise.imp (fun {a b} h e => by omega) (colP_sorted (n := n) (hlt c hc)), ?_⟩
  refine List.Pairwise.imp_of_mem ?_ (nodup_of_klt (kord_sorted k))
  intro a b ha hb hab x hx y hy e
  have hx2 := ((colP_mem (hlt a ha) x).1 hx).2
  have hy2 := ((colP_mem (hlt b hb) y).1 hy).2
  subst e
  exact hab (hx2.symm.trans hy2)
theorem cols_mem {k : List UInt8} (h : keyV k = true) (n t : Nat) : t ∈ cols k n ↔ t < n := by
  obtain ⟨hw, h1, h2⟩ := keyV_iff.1 h
  unfold cols
  rw [List.mem_flatMap]
  constructor
  · rintro ⟨c, hc, hx⟩
    exact ((colP_mem ((kord_mem hw c).1 hc) t).1 hx).1
  · intro ht
    have hlt : t % k.length < k.length := Nat.mod_lt _ (by omega)
    exact ⟨t % k.length, (kord_mem hw _).2 hlt, (colP_mem hlt t).2 ⟨ht, rfl⟩⟩
theorem cols_perm {k : List UInt8} (h : keyV k = true) (n : Nat) : (cols k n).Perm (List.range n) :=
  perm_of_mem (cols_nodup h n) List.nodup_range fun a => by rw [cols_mem h, List.mem_range]
theorem cols_length {k : List UInt8} (h : keyV k = true) (n : Nat) : (cols k n).length = n := by rw [(cols_perm h n).length_eq, List.length_range]

/-- an order of places -/
def Places (p : List Nat) : Prop := p.Perm (List.range p.length)
theorem places_cols {k : List UInt8} (h : keyV k = true) (n : Nat) : Places (cols k n) := by
  unfold Places; rw [cols_length h]; exact cols_perm h n
theorem Places.nodup {p : List Nat} (h : Places p) : p.Nodup := (List.Perm.nodup_iff h).2 List.nodup_range
theorem Places.lt {p : List Nat} (h : Places p) {t : Nat} (ht : t ∈ p) : t < p.length := List.mem_range.1 (List.Perm.subset h ht)
theorem Places.mem {p : List Nat} (h : Places p) {t : Nat} (ht : t < p.length) : t ∈ p := List.Perm.subset (List.Perm.symm h) (List.mem_range.2 ht)
/-- the letters of a word in an order -/
def readP (w : List UInt8) (p : List Nat) : List UInt8 := p.map fun i => w[i]?.getD 0
theorem length_readP (w : List UInt8) (p : List Nat) : (readP w p).length = p.length := by simp [readP]
theorem readP_get {w : List UInt8} {p : List Nat} {i : Nat} (hi : i < p.length) (hp : p[i] < w.length) : (readP w p)[i]? = some w[p[i]] := by
  simp [readP, hi, hp]
/-- an order undoes another one -/
def Undoes (p u : List Nat) : Prop := u.length = p.length ∧ ∀ j (h : j < p.length), u[p[j]]? = some j
theorem Undoes.read {p u : List Nat} (h : Undoes p u) (hp : Places p) {w : List UInt8} (hw : w.length = p.length) : readP (readP w p) u = w := by
  apply List.ext_getElem?
  intro t
  by_cases ht : t < p.length
  · obtain ⟨j, hj, hjt⟩ := List.mem_iff_getElem.1 (hp.mem ht)
    have hu := h.2 j hj
    rw [hjt] at hu
    have htu : t < u.length := by rw [h.1]; exact ht
    have hut : u[t] = j := by rw [List.getElem?_eq_getElem htu] at hu; injection hu
    rw [readP_get htu (by rw [length_readP, hut]; exact hj)]
    have h2 := readP_get (w := w) hj (by rw [hjt, hw]; exact ht)
    have hjl : j < (readP w p).length := by rw [length_readP]; exact hj
    rw [List.getElem?_eq_getElem hjl] at h2
    injection h2 with h2
    simp only [hut]
    rw [h2, List.getElem?_eq_getElem (by rw [hw]; exact ht)]
    simp only [hjt]
  · rw [List.getElem?_eq_none (by rw [length_readP, h.1]; omega), List.getElem?_eq_none (by omega)]
theorem Undoes.places {p u : List Nat} (h : Undoes p u) (hp : Places p) : Places u := by
  have hat : ∀ t (ht : t < p.length), ∃ j, ∃ hj : j < p.length, p[j] = t ∧ u[t]? = some j := by
    intro t ht
    obtain ⟨j, hj, hjt⟩ := List.mem_iff_getElem.1 (hp.mem ht)
    exact ⟨j, hj, hjt, by rw [← hjt]; exact h.2 j hj⟩
  refine perm_of_mem ?_ List.nodup_range fun t => ?_
  · unfold List.Nodup
    rw [List.pairwise_iff_getElem]
    intro i j hi hj hij e
    obtain ⟨x, hx, hxi, hux⟩ := hat i (by rw [← h.1]; exact hi)
    obtain ⟨y, hy, hyj, huy⟩ := hat j (by rw [← h.1]; exact hj)
    rw [List.getElem?_eq_getElem hi] at hux
    rw [List.getElem?_eq_getElem hj] at huy
    injection hux with hux
    injection huy with huy
    have hxy : x = y := by rw [← hux, ← huy, e]
    subst hxy
    omega
  · rw [List.mem_range]
    constructor
    · intro ht
      obtain ⟨i, hi, hit⟩ := List.mem_iff_getElem.1 ht
      obtain ⟨x, hx, hxi, hux⟩ := hat i (by rw [← h.1]; exact hi)
      rw [List.getElem?_eq_getElem hi] at hux
      injection hux with hux
      rw [h.1]; omega
    · intro ht
      exact List.mem_of_getElem? (h.2 t (by rw [← h.1]; exact ht))

/-- a key that is written again and again -/
def repP (k : List UInt8) (n : Nat) : List UInt8 := (List.range n).map fun i => k[i % k.length]?.getD 97
theorem length_repP (k : List UInt8) (n : Nat) : (repP k n).length = n := by simp [repP]
theorem repP_wv {k : List UInt8} (h : keyV k = true) {n : Nat} (hn : n ≤ 200) : wv (repP k n) = true := by
  obtain ⟨hw, h1, h2⟩ := keyV_iff.1 h
  unfold wv
  rw [length_repP, Bool.and_eq_true, decide_eq_true_eq, List.all_eq_true]
  refine ⟨hn, fun c hc => ?_⟩
  obtain ⟨i, _, rfl⟩ := List.mem_map.1 hc
  have hlt : i % k.length < k.length := Nat.mod_lt _ (by omega)
  rw [List.getElem?_eq_getElem hlt, Option.getD_some]
  exact wv_mem hw (List.getElem_mem hlt)
theorem readP_wv {w : List UInt8} (h : wv w = true) {p : List Nat} (hp : Places p) (hl : p.length = w.length) : wv (readP w p) = true := by
  have h200 := wv_length h
  unfold wv
  rw [length_readP, Bool.and_eq_true, decide_eq_true_eq, List.all_eq_true]
  refine ⟨by omega, fun c hc => ?_⟩
  obtain ⟨i, hi, rfl⟩ := List.mem_map.1 hc
  have hlt : i < w.length := by rw [← hl]; exact hp.lt hi
  rw [List.getElem?_eq_getElem hlt, Option.getD_some]
  exact wv_mem h (List.getElem_mem hlt)

end Go.Proofs.YteeeaeidocalnaaGreatDoor
