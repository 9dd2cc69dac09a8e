/-
  Plain laws of sorted books. No conditions but those that each theorem names.
-/
import Derived.Test.YteeeaeidocalnaaGreatDoorPlainL
import Derived.Lib.Bytealg
namespace Go.Proofs.YteeeaeidocalnaaGreatDoor
open Go.RowKit Pl
set_option linter.unusedVariables false

/-- alphabetical order -/
def ltE (a b : ByteArray) : Bool := decide (tl a < tl b)
theorem cmp_lt : ∀ a b : List UInt8, Lib.compareBytes a b < 0 ↔ a < b
  | [], [] => by simp [Lib.compareBytes]
  | [], b :: ys => by simp [Lib.compareBytes]
  | a :: xs, [] => by simp [Lib.compareBytes]
  | a :: xs, b :: ys => by
    rw [List.cons_lt_cons_iff]
    unfold Lib.compareBytes
    by_cases h1 : a < b
    · simp [h1]
    · by_cases h2 : b < a
      · have h3 : a ≠ b := by rintro rfl; exact h1 h2
        simp [h1, h2, h3]
      · have h3 : a = b := UInt8.le_antisymm (UInt8.not_lt.1 h2) (UInt8.not_lt.1 h1)
        subst h3
        simp [h1, cmp_lt xs ys]
theorem less_lt : ∀ a b : List UInt8, Op.bytesLess a b = decide (a < b)
  | [], [] => by simp [Op.bytesLess]
  | [], b :: ys => by simp [Op.bytesLess]
  | a :: xs, [] => by simp [Op.bytesLess]
  | a :: xs, b :: ys => by
    have ih := less_lt xs ys
    by_cases h1 : a < b
    · simp [Op.bytesLess, List.cons_lt_cons_iff, h1]
    · by_cases h2 : b < a
      · have h3 : a ≠ b := by rintro rfl; exact h1 h2
        simp [Op.bytesLess, List.cons_lt_cons_iff, h1, h3]
      · have h3 : a = b := UInt8.le_antisymm (UInt8.not_lt.1 h2) (UInt8.not_lt.1 h1)
        subst h3
        simp [Op.bytesLess, ih]
theorem less_ltE (a b : ByteArray) : Op.bytesLess a.toList b.toList = ltE a b := by rw [less_lt, toList_tl, toList_tl]; rfl
theorem ltE_irrefl (a : ByteArray) : ltE a a = false := by simp [ltE, List.lt_irrefl]
theorem ltE_trans {a b c : ByteArray} (h1 : ltE a b = true) (h2 : ltE b c = true) : ltE a c = true := by
  simp only [ltE, decide_eq_true_eq] at *; exact List.lt_trans h1 h2
theorem ltE_asymm {a b : ByteArray} (h1 : ltE a b = true) : ltE b a = false := by
  cases h : ltE b a with
  | false => rfl
  | true => have := ltE_trans h1 h; rw [ltE_irrefl] at this; cases this
theorem ltE_anti {a b : ByteArray} (h1 : ltE a b = false) (h2 : ltE b a = false) : a = b := by
  simp only [ltE, decide_eq_false_iff_not, List.not_lt] at *; exact tl_inj (List.le_antisymm h2 h1)
theorem ltE_ntrans {a b c : ByteArray} (h1 : ltE a b = false) (h2 : ltE b c = false) : ltE a c = false := by
  simp only [ltE, decide_eq_false_iff_not, List.not_lt] at *; exact List.le_trans h2 h1
theorem ltE_ne {a b : ByteArray} (h : ltE a b = false) (hn : b ≠ a) : ltE b a = true := by
  cases h2 : ltE b a with
  | true => rfl
  | false => exact absurd (ltE_anti h2 h) hn

abbrev Ent := ByteArray × ByteArray
/-- an entry put into a sorted book -/
def insE (e : Ent) : List Ent → List Ent
  | [] => [e]
  | x :: r => if ltE e.1 x.1 = true then e :: x :: r else x :: insE e r
/-- the entries, sorted by their words -/
def sortE (es : List Ent) : List Ent := es.foldl (fun acc e => insE e acc) []
theorem insE_perm (e : Ent) (l : List Ent) : (insE e l).Perm (e :: l) := by
  induction l with
  | nil => exact List.Perm.refl _
  | cons x r ih =>
    unfold insE
    split
    · exact List.Perm.refl _
    · exact (List.Perm.cons x ih).trans (List.Perm.swap e x r)
theorem insE_sorted (e : Ent) (l : List Ent) (h : l.Pairwise fun x y => ltE y.1 x.1 = false) : (insE e l).Pairwise fun x y => ltE y.1 x.1 = false := by
  induction l with
  | nil => simp [insE]
  | cons x r ih =>
    rw [List.pairwise_cons] at h
    unfold insE
    split
    · rename_i hlt
      rw [List.pairwise_cons, List.pairwise_cons]
      refine ⟨fun y hy => ?_, h⟩
      rcases List.mem_cons.1 hy with rfl | hy
      · exact ltE_asymm hlt
      · exact ltE_ntrans (h.1 y hy) (ltE_asymm hlt)
    · rename_i hlt
      rw [List.pairwise_cons]
      refine ⟨fun y hy => ?_, ih h.2⟩
      rcases List.mem_cons.1 ((insE_perm e r).mem_iff.1 hy) with rfl | hy
      · simpa using hlt
      · exact h.1 y hy
theorem fold_perm (es : List Ent) : ∀ acc : List Ent, (es.foldl (fun acc e => insE e acc) acc).Perm (es ++ acc) := by
  induction es with
  | nil => intro acc; exact List.Perm.refl _
  | cons e es ih =>
    intro acc
    rw [List.foldl_cons]
    refine (ih _).trans ?_
    refine (List.Perm.append_left es (insE_perm e acc)).trans ?_
    exact List.perm_middle
theorem sortE_perm (es : List Ent) : (sortE es).Perm es := by have := fold_perm es []; rwa [List.append_nil] at this
theorem fold_sorted (es : List Ent) : ∀ acc : List Ent, (acc.Pairwise fun x y => ltE y.1 x.1 = false) → (es.foldl (fun acc e => insE e acc) acc).Pairwise fun x y => ltE y.1 x.1 = false := by
  induction es with
  | nil => intro acc h; exact h
  | cons e es ih => intro acc h; rw [List.foldl_cons]; exact ih _ (insE_sorted e acc h)
theorem sortE_sorted (es : List Ent) : (sortE es).Pairwise fun x y => ltE y.1 x.1 = false := fold_sorted es [] List.Pairwise.nil
theorem sortE_snoc (es : List Ent) (k : Nat) (hk : k < es.length) : sortE (es.take (k + 1)) = insE es[k] (sortE (es.take k)) := by
  unfold sortE; rw [List.take_succ_eq_append_getElem hk, List.foldl_append]; rfl
theorem length_sortE (es : List Ent) : (sortE es).length = es.length := (sortE_perm es).length_eq
theorem mem_sortE {es : List Ent} {e : Ent} : e ∈ sortE es ↔ e ∈ es := (sortE_perm es).mem_iff

theorem bookP_perm {a b : List Ent} (h : a.Perm b) (hb : bookP b) : bookP a :=
  ⟨fun e he => hb.1 e (h.mem_iff.1 he), (h.pairwise_iff (fun {x y} hxy => ⟨fun e => hxy.1 e.symm, fun e => hxy.2 e.symm⟩)).2 hb.2⟩
theorem bookV_perm {a b : List Ent} (h : a.Perm b) : bookV a ↔ bookV b :=
  ⟨fun hv => ⟨by rw [← h.length_eq]; exact hv.1, bookP_perm h.symm hv.2⟩, fun hv => ⟨by rw [h.length_eq]; exact hv.1, bookP_perm h hv.2⟩⟩
/-- at different words there is one sorted book -/
theorem sorted_one {es l m : List Ent} (hv : bookP es) (h1 : l.Perm es) (h2 : m.Perm es) (s1 : l.Pairwise fun x y => ltE y.1 x.1 = false) (s2 : m.Pairwise fun x y => ltE y.1 x.1 = false) : l = m := by
  refine List.Perm.eq_of_pairwise (le := fun x y : Ent => ltE y.1 x.1 = false) ?_ s1 s2 (h1.trans h2.symm)
  intro a b ha hb hab hba
  exact bookP_uniq1 hv (h1.mem_iff.1 ha) (h2.mem_iff.1 hb) (ltE_anti hba hab)
theorem sorted_is {es l : List Ent} (hv : bookP es) (h1 : l.Perm es) (s1 : l.Pairwise fun x y => ltE y.1 x.1 = false) : l = sortE es := sorted_one hv h1 (sortE_perm es) s1 (sortE_sorted es)
theorem sortE_strict {es : List Ent} (hv : bookP es) : (sortE es).Pairwise fun x y => ltE x.1 y.1 = true := by
  have h1 := sortE_sorted es
  have h2 := (bookP_perm (sortE_perm es) hv).2
  exact (h1.and h2).imp fun {x y} ⟨h, hn⟩ => ltE_ne h hn.1
theorem sortE_sortE {es : List Ent} (hv : bookP es) : sortE (sortE es) = sortE es :=
  sorted_one hv ((sortE_perm _).trans (sortE_perm es)) (sortE_perm es) (sortE_sorted _) (sortE_sorted _)
theorem sortE_congr {a b : List Ent} (hv : bookP a) (h : a.Perm b) : sortE a = sortE b := sorted_one hv (sortE_perm a) ((sortE_perm b).trans h.symm) (sortE_sorted _) (sortE_sorted _)

theorem codeOf_perm {a b : List Ent} (h : a.Perm b) (s : ByteArray) : codeOf a s = codeOf b s := by
  have key : ∀ {a b : List Ent}, a.Perm b → ∀ c, codeOf a s = some c → codeOf b s = some c := fun h c hc => by
    rw [codeOf_iff] at hc ⊢; exact ⟨(bookV_perm h).1 hc.1, h.mem_iff.1 hc.2⟩
  cases ha : codeOf a s with
  | some c => exact (key h c ha).symm
  | none =>
    cases hb : codeOf b s with
    | none => rfl
    | some c => rw [key h.symm c hb] at ha; cases ha
theorem encW_perm {a b : List Ent} (h : a.Perm b) (ws : List ByteArray) : encW a ws = encW b ws := by
  unfold encW
  have e : (fun s => tl (strO (codeOf a s))) = fun s => tl (strO (codeOf b s)) := by funext s; rw [codeOf_perm h]
  have e2 : (bookV a ∧ 3 * ws.length ≤ 200 ∧ ∀ s ∈ ws, (codeOf a s).isSome = true) ↔ (bookV b ∧ 3 * ws.length ≤ 200 ∧ ∀ s ∈ ws, (codeOf b s).isSome = true) := by
    rw [bookV_perm h]; simp only [codeOf_perm h]
  by_cases hh : bookV a ∧ 3 * ws.length ≤ 200 ∧ ∀ s ∈ ws, (codeOf a s).isSome = true
  · rw [if_pos hh, if_pos (e2.1 hh), e]
  · rw [if_neg hh, if_neg (fun k => hh (e2.2 k))]

/-- the codes ascend with the words -/
def oneP (es : List Ent) : Prop := bookV es ∧ (sortE es).Pairwise fun x y => ltE y.2 x.2 = false
theorem oneP_perm {a b : List Ent} (h : a.Perm b) : oneP a ↔ oneP b := by
  have key : ∀ {a b : List Ent}, a.Perm b → oneP a → oneP b := fun h hv => ⟨(bookV_perm h).1 hv.1, by rw [← sortE_congr hv.1.2 h]; exact hv.2⟩
  exact ⟨key h, key h.symm⟩
/-- neighbours are enough -/
theorem sorted_near {f : Ent → ByteArray} {l : List Ent} (h : ∀ i (hi : i + 1 < l.length), ltE (f l[i + 1]) (f (l[i]'(by omega))) = false) : l.Pairwise fun x y => ltE (f y) (f x) = false := by
  rw [List.pairwise_iff_getElem]
  intro i j hi hj hij
  induction j with
  | zero => omega
  | succ j ih =>
    by_cases e : i = j
    · subst e; exact h i hj
    · exact ltE_ntrans (h j hj) (ih (by omega) (by omega))

end Go.Proofs.YteeeaeidocalnaaGreatDoor
