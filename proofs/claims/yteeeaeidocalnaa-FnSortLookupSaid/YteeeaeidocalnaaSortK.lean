/-
  Contracts of sortedBook and SortBook, of the program. No conditions but those that each theorem names.
-/
import Derived.Test.YteeeaeidocalnaaPlainS
import Derived.Test.YteeeaeidocalnaaShelf
import Derived.BigCall
import Derived.Test.YteeeaeidocalnaaCopyE
import Derived.Test.YteeeaeidocalnaaShelfG
import Derived.Laws.AppendOwnNone
import Derived.Shelf.SlSortCmp.WholeK
import Derived.Shelf.SlSortCmp.NoneTotal
namespace Go.Proofs.Yteeeaeidocalnaa
open Go.RowKit Pl Go.Sort
set_option linter.unusedVariables false

def encE (x : Ent) : List Value := [.string x.1, .string x.2]
theorem flat_entV (d : Array Ent) : (flatK encE 2 d).toList = entV d.toList := by
  refine entV_of (by simp) fun j hj => ?_
  have hj' : j < d.size := by simpa using hj
  have k0 := get_flatK encE 2 d (2 * j) (by omega)
  have k1 := get_flatK encE 2 d (2 * j + 1) (by omega)
  have e0 : 2 * j / 2 = j := by omega
  have e1 : (2 * j + 1) / 2 = j := by omega
  have m0 : 2 * j % 2 = 0 := by omega
  have m1 : (2 * j + 1) % 2 = 1 := by omega
  rw [e0, m0] at k0
  rw [e1, m1] at k1
  have s0 : 2 * j < (flatK encE 2 d).size := by simp; omega
  have s1 : 2 * j + 1 < (flatK encE 2 d).size := by simp; omega
  rw [getElem!_pos (flatK encE 2 d) (2 * j) s0, getElem!_pos d j hj'] at k0
  rw [getElem!_pos (flatK encE 2 d) (2 * j + 1) s1, getElem!_pos d j hj'] at k1
  rw [Array.getElem?_toList, Array.getElem?_toList, Array.getElem?_eq_getElem s0, Array.getElem?_eq_getElem s1, k0, k1]
  simp [encE]
theorem own_holds {w : World} {B g cap : Nat} {es : List Ent} (h : w.ownsRow B 42 2 (.slice (some ⟨g, 0, none⟩) es.length cap) es.length (entV es)) : HoldsK encE 2 w g 0 es.toArray := by
  intro j hj
  have hl := length_entV es
  have hj' : j < es.length * 2 := by simpa using hj
  have hf := flat_entV es.toArray
  refine ⟨?_, h.frozenAt _⟩
  rw [Nat.zero_add, h.cellAt _ (by omega)]
  rw [getElem!_pos (flatK encE 2 es.toArray) j hj]
  show (entV es)[j]? = some ((flatK encE 2 es.toArray)[j])
  rw [show entV es = (flatK encE 2 es.toArray).toList from hf.symm, Array.getElem?_toList, Array.getElem?_eq_getElem hj]
theorem own_sorted {w : World} {B g cap : Nat} {es : List Ent} {d' : Array Ent} (h : w.ownsRow B 42 2 (.slice (some ⟨g, 0, none⟩) es.length cap) es.length (entV es)) (hs : d'.size = es.length) (n : Nat) (os : Array Obj) :
    (sortWorldK encE 2 w g 0 n d' os).ownsRow B 42 2 (.slice (some ⟨g, 0, none⟩) es.length cap) es.length (entV d'.toList) ∧ w.grownBy (sortWorldK encE 2 w g 0 n d' os) (some g) := by
  obtain ⟨hl, ⟨h1, _⟩ | ⟨g', cap', cur, hv, hg, hb, hnc, hcm, hsz, htake⟩⟩ := h
  · cases h1
  simp only [Value.slice.injEq, Option.some.injEq, Addr.mk.injEq] at hv
  obtain ⟨⟨rfl, _⟩, _, rfl⟩ := hv
  have hlt : g < w.heap.size := (Array.getElem?_eq_some_iff.1 hb).1
  have hblk : (sortWorldK encE 2 w g 0 n d' os).heap[g]? = some (.cells (putCells id 0 (flatK encE 2 d') cur) 42 (0, 0)) := by
    simp only [sortWorldK, grow, putRowK, putRow, mapBlock, Sort.ahead]
    rw [Array.getElem?_append_left (by simpa using hlt), Array.getElem?_modify, if_pos rfl, hb]
    rfl
  refine ⟨⟨by rw [length_entV]; simp [hs, Nat.mul_comm], .inr ⟨g, cap, _, rfl, hg, hblk, hnc, hcm, by simp [putCells, hsz], ?_⟩⟩, ⟨rfl, rfl, rfl, ?_, ?_⟩⟩
  · rw [← flat_entV]
    have hfs : (flatK encE 2 d').size = es.length * 2 := by simp [hs]
    apply List.ext_getElem?
    intro i
    by_cases hi : i < es.length * 2
    · rw [List.getElem?_take_of_lt hi, Array.getElem?_toList, Array.getElem?_toList]
      have hc : i < cur.size := by rw [hsz]; have := Nat.mul_le_mul_right 2 hnc; omega
      have h2 : i < (flatK encE 2 d').size := by omega
      simp [putCells, hc, hfs, hi]
    · rw [List.getElem?_eq_none (by rw [List.length_take]; omega), List.getElem?_eq_none (by rw [Array.length_toList]; omega)]
  · simp [sortWorldK, grow, putRowK, putRow, mapBlock, Sort.ahead]
  · intro i hi hne
    have hne' : g ≠ i := fun e => hne (by rw [e])
    simp only [sortWorldK, grow, putRowK, putRow, mapBlock, Sort.ahead]
    rw [Array.getElem?_append_left (by simpa using hi), Array.getElem?_modify, if_neg hne']

theorem ltOf_word (x y : Ent) : ltOf (fun x y : Ent => Lib.compareBytes x.1.data.toList y.1.data.toList) x y = ltE x.1 y.1 := by
  unfold ltOf ltE
  rw [Bool.eq_iff_iff, decide_eq_true_eq, decide_eq_true_eq]
  exact cmp_lt _ _
theorem swo_word : SWO (ltOf fun x y : Ent => Lib.compareBytes x.1.data.toList y.1.data.toList) where
  irrefl x := by rw [ltOf_word]; exact ltE_irrefl _
  trans x y z h1 h2 := by rw [ltOf_word] at *; exact ltE_trans h1 h2
  ntrans x y z h1 h2 := by rw [ltOf_word] at *; exact ltE_ntrans h1 h2

set_option maxHeartbeats 1000000 in
theorem cmpWord (x y : Ent) (W : World) : Calls Try.prog 44 #[.agg #[.string x.1, .string x.2], .agg #[.string y.1, .string y.2]] W fun e w' => e = .returned (.int .i64 (Lib.compareBytes x.1.data.toList y.1.data.toList)) ∧ ∃ q os', w' = grow (W.drewN q) os' := by
  have hcon := fun W' => Try.strings_Compare x.1 y.1 W'
  generalize Lib.compareBytes x.1.data.toList y.1.data.toList = r at hcon ⊢
  go_enter Try.func44, Try.ntmps44
  go_wp2_with (go_at_call 32; refine (hcon _).mono ?_; rintro e w' ⟨rfl, rfl⟩)
  go_ret
  exact ⟨rfl, 0, _, by rw [alloc_eq_grow, alloc_eq_grow, grow_grow]; rfl⟩

set_option maxHeartbeats 4000000 in
set_option maxRecDepth 100000 in
theorem sortedBook_any (w : World) (A : Option Addr) (cap : Nat) (es : List Ent) (h : Rd w w.heap.size A (entV es)) (hA : A = none → cap = 0) (hl : es.length ≤ 1000) (hv : bookP es) :
    Calls Try.prog 29 #[.slice A es.length cap] w fun e w' => ∃ v, e = .returned v ∧ w'.ownsRow w.heap.size 42 2 v es.length (entV (sortE es)) ∧ Below w.heap.size w w' := by
  obtain ⟨iE, hi, hz0, hz1, hz2⟩ := info_parts Try.infoE
  have HI := Lib.hid hi; have HZ0 := Lib.hid hz0; have HZ1 := Lib.hid hz1; have HZ2 := Lib.hid hz2
  clear hi hz0 hz1 hz2
  have hm0 : (w.alloc (.cells #[] 42)).ownsRow w.heap.size 42 2 (.slice (some ⟨w.heap.size, 0, none⟩) 0 0) 0 [] := World.ownsRow_made w #[] 0 (Nat.le_refl _) (by decide) rfl
  have hb0 : Below w.heap.size w (w.alloc (.cells #[] 42)) := (Below.refl _ _).alloc (Nat.le_refl _) _
  have HM0 := Lib.hid hm0; have HB0 := Lib.hid hb0; have HV := Lib.hid hv; clear hm0 hb0 hv
  have eg : ∀ args w, (callFunc 44 args).run Try.prog w = .ok (.enter 44 args) w := enters_of Try.func44 (by kernel_rfl) rfl
  have EG := Lib.hid eg; clear eg
  have fin0 : ∀ (v : Value) (w1 : World), w1.ownsRow w.heap.size 42 2 v es.length (entV es) → (w.alloc (.cells #[] 42)).grownBy w1 (some w.heap.size) → Below w.heap.size w w1 := by
    intro v w1 _ hg
    exact HB0.out.grown hg HB0.out.size fun k e => by injection e with e; omega
  have FIN0 := Lib.hid fin0; clear fin0
  go_enter Try.func29, Try.ntmps29
  go_wp2_with (at_builtin; refine wpList_copyE rfl _ _ rfl iE HI.out HZ0.out HZ1.out HZ2.out w.heap.size w.heap.size rfl HM0.out A cap es w.heap.size rfl (h.below HB0.out) hA (by omega) HB0.out.size ?_)
  intro v1 w1 ho1 hg1
  have hb1 := FIN0.out v1 w1 ho1 hg1
  clear hg1 h
  obtain ⟨A1, cap1, e1, hc1, hm1, hr1⟩ := ownsRow_rd ho1
  subst e1
  by_cases he : es = []
  · subst he
    have hnone := AnyF.slices_SortFunc_none (P := Try.prog) (ρ := Try.sortE_ren) { Try.sortE with } A1 cap1 (.func (.func 44) #[] #[]) w1
    have HN := Lib.hid hnone; have HO1 := Lib.hid ho1; have HB1 := Lib.hid hb1; clear hnone ho1 hb1 hr1
    go_wp2_with fail
    refine Calls.mono HN.out ?_
    rintro _ _ ⟨rfl, rfl⟩
    go_wp2_with fail
    go_ret
    exact ⟨_, rfl, HO1.out, HB1.out⟩
  · have hn : entV es ≠ [] := by
      intro e
      have h1 := congrArg List.length e
      rw [length_entV, List.length_nil] at h1
      exact he (List.length_eq_zero_iff.1 (by omega))
    obtain ⟨g, hgA, hgB⟩ : ∃ g, A1 = some ⟨g, 0, none⟩ ∧ w.heap.size ≤ g := by
      obtain ⟨_, ⟨h1, h2⟩ | ⟨g, c, cur, h1, h2, _⟩⟩ := ho1
      · exact absurd (List.length_eq_zero_iff.1 h2) he
      · simp only [Value.slice.injEq] at h1; exact ⟨g, h1.1, h2⟩
    subst hgA
    have hglt : g < w1.heap.size := (ho1.lt g rfl).2
    have hcon := AnyQ.slices_SortFunc (P := Try.prog) (ρ := Try.sortE_ren) Try.sortE 2 Try.isAgg42 Try.sizeOf42 encE (fun _ => rfl) (fun x v hv => by simp [encE] at hv; rcases hv with rfl | rfl <;> rfl)
      (fun x y : Ent => Lib.compareBytes x.1.data.toList y.1.data.toList) swo_word 44 #[] g 0 cap1 es.toArray w1 EG.out (fun _ _ _ _ x y => cmpWord x y _) (own_holds ho1) hglt (by simp; omega)
    have HC := Lib.hid hcon; have HO1 := Lib.hid ho1; have HB1 := Lib.hid hb1; clear hcon ho1 hb1 hr1 hn
    go_wp2_with fail
    refine Calls.mono HC.out ?_
    rintro _ _ ⟨rfl, d', n, os, hp, hsd, rfl⟩
    have hds : d'.size = es.length := by simpa using hp.1
    have hfin := own_sorted HO1.out hds n os
    have hperm : d'.toList.Perm es := by
      have := hp.2.2
      rw [show es.toArray.size = d'.size by simp [hds], Array.extract_size] at this
      rw [show d'.size = es.toArray.size by simp [hds], Array.extract_size] at this
      simpa using this
    have hsrt : d'.toList = sortE es := by
      refine sorted_is HV.out hperm ?_
      rw [List.pairwise_iff_getElem]
      intro i j hi hj hij
      have hi' : i < d'.size := by simpa using hi
      have hj' : j < d'.size := by simpa using hj
      have := hsd i j (Nat.zero_le _) hij (by simp; omega)
      rw [getElem!_pos d' j hj', getElem!_pos d' i hi', ltOf_word] at this
      simpa using this
    rw [hsrt] at hfin
    have hbf : Below w.heap.size w (sortWorldK encE 2 w1 g 0 n d' os) := HB1.out.grown hfin.2 HB1.out.size fun k e => by injection e with e; omega
    obtain ⟨w2, hw2⟩ : ∃ w2, w2 = sortWorldK encE 2 w1 g 0 n d' os := ⟨_, rfl⟩
    rw [← hw2] at hfin hbf ⊢
    have HF := Lib.hid hfin.1; have HBF := Lib.hid hbf; clear hfin hbf hw2 hsrt hperm hsd hp hds
    go_wp2_with fail
    go_ret
    exact ⟨_, rfl, HF.out, HBF.out⟩

end Go.Proofs.Yteeeaeidocalnaa
