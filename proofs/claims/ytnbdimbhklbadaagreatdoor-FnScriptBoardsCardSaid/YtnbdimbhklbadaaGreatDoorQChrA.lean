/-
  Contracts of functions and plain laws that the law's proof uses (parts: ChrA). Conditions: what each theorem names.
-/
import Derived.Deep.MidRow
import Derived.Deep.AppendLies
import Derived.Deep.RegionHeld3
import Derived.OwnWalk
import Derived.Sort.OwnSortedInts
import Derived.BigQuiet
import Derived.Shelf.Strings.Builder1
import Derived.Shelf.Strings.Builder2
import Derived.Shelf.Strings.OnBuilder
import Derived.Shelf.Small.Bits
import Derived.Shelf.Small.Strs
import Derived.Shelf.Small.Wraps
import Derived.Shelf.Strings.BuilderF
import Derived.Shelf.Strings.BuilderK
import Derived.Shelf.Utf8.RuneCount
import Derived.Shelf.Strings.Builder2Cap
import Derived.Shelf.Strconv.Atoi
import Derived.Shelf.Strconv.Itoa0
import Derived.Shelf.Strconv.Itoa1
import Derived.Shelf.LaysM
import Derived.Shelf.Strconv.Itoa2
import Derived.Shelf.Strconv.Itoa3
import Derived.Shelf.Strconv.AtoiErrFast
import Derived.Shelf.Strconv.ParseIntEmpty
import Derived.Shelf.Strconv.AtoiFail
import Derived.Shelf.Strconv.Clone
import Derived.Shelf.Strconv.SyntaxError
import Derived.Shelf.LaysC
import Derived.Shelf.Strconv.ToError
import Derived.Shelf.Strconv.AtoiErr
import Derived.Shelf.Strconv.ErrVar
import Derived.Shelf.Strconv.Lower
import Derived.Shelf.Strconv.ParseUint10
import Derived.Shelf.Strconv.ParseUint10Empty
import Derived.Shelf.Strconv.ParseUint10Any
import Derived.Shelf.Strconv.ParseInt10
import Derived.Shelf.Strconv.AtoiLong
import Derived.Shelf.Strconv.AtoiInnerAll
import Derived.Shelf.Strconv.RangeError
import Derived.Shelf.Strconv.ToErrorRange
import Derived.Shelf.Strconv.AtoiAll
import Derived.Shelf.Strconv.ErrVarAll
import Derived.Shelf.Strconv.ParseUintEmpty
import Derived.Shelf.Strconv.ParseUint10b64
import Derived.Shelf.Strconv.ParseUint10b32
import Derived.Shelf.Strconv.ParseUint10b16
import Derived.Shelf.Strconv.ParseUint10b8
import Derived.Shelf.Strconv.ParseUint10At
import Derived.Shelf.Strconv.ParseInt10At64
import Derived.Shelf.Strconv.ParseInt10At32
import Derived.Shelf.Strconv.ParseInt10At16
import Derived.Shelf.Strconv.ParseInt10At8
import Derived.Shelf.Strconv.ParseInt10All
import Derived.Shelf.Strings.Search1
import Derived.Shelf.Strings.Search2
import Derived.Shelf.Strings.Search3
import Derived.Shelf.Strings.Cut
import Derived.Shelf.Strings.Count
import Derived.Shelf.Strings.Shaped
import Derived.Shelf.Sort.Plain
import Derived.Shelf.Strings.Prefix
import Derived.Shelf.Strings.Split
import Derived.Shelf.Strings.Replace
import Derived.Shelf.Strings.SplitShaped
import Derived.Shelf.Unicode.Decode
import Derived.Shelf.Strings.RuneCount
import Derived.Shelf.Strings.Explode
import Derived.Shelf.Bits.Mul64
import Derived.Shelf.Strings.Repeat
import Derived.Shelf.Unicode.DecodeSlow
import Derived.Shelf.Unicode.DecodeAny
import Derived.Shelf.Strings.BuilderCap
import Derived.Shelf.Slices.Reverse
import Derived.Ground.Names2Prog
import Derived.Shelf.Slices.SearchI
import Derived.Shelf.Slices.Cells
import Derived.Shelf.Slices.In.SortNone
import Derived.Ground.SlsfProg
import Derived.Shelf.SlSortCmp.Insertion
import Derived.Shelf.SlSortCmp.Insertion1
import Derived.Test.YtnbdimbhklbadaaGreatDoorQEncC
import Derived.Test.YtnbdimbhklbadaaGreatDoorQMachB
import Derived.Test.YtnbdimbhklbadaaGreatDoorQRunL
import Derived.Test.YtnbdimbhklbadaaGreatDoorQMachP
import Derived.Test.YtnbdimbhklbadaaGreatDoorProg
import Derived.Test.YtnbdimbhklbadaaGreatDoorQBsA
import Derived.Test.YtnbdimbhklbadaaGreatDoorQPlA
import Derived.Test.YtnbdimbhklbadaaGreatDoorQMnA
import Derived.Test.YtnbdimbhklbadaaGreatDoorQDoA
import Derived.Test.YtnbdimbhklbadaaGreatDoorQTextF
namespace Go.Proofs.YtnbdimbhklbadaaGreatDoor
set_option linter.unusedVariables false
section
open Go.RowKit Pl
theorem nth_id10 {j : Nat} (hj : j < 10) : nth (List.range 10) j = j := by rw [nth_eq (by simpa using hj), List.getElem_range]
theorem prm_id10 : Prm (List.range 10) := ⟨⟨rfl, fun n hn => List.mem_range.1 hn⟩, List.nodup_range⟩
theorem wayC_conj {q : List Nat} {rs : List (ByteArray × ByteArray)} {ws rg : List Nat} {n : Nat} (hq : Prm q) (hw : ∀ i, i < n → Prm (wirP rs i)) : ∀ c, c ≤ n → ∀ x, x < 10 → nth (wayC q rs ws rg n c) x = nth (wayC (List.range 10) rs ws rg n c) (nth q x)
  | 0, _, x, hx => (nth_id10 (nth_ten hq.toTen)).symm
  | c + 1, h, x, hx => by
    have h1 := wayC_prm (ws := ws) (rg := rg) hq hw c (by omega)
    have h2 := wayC_prm (ws := ws) (rg := rg) prm_id10 hw c (by omega)
    show nth (thenP (wayC q rs ws rg n c) _) x = nth (thenP (wayC (List.range 10) rs ws rg n c) _) (nth q x)
    rw [nth_thenP (by rw [h1.len]; exact hx), nth_thenP (by rw [h2.len]; exact nth_ten hq.toTen), wayC_conj hq hw c (by omega) x hx]
theorem nth_permW {w r : List Nat} (hw : Prm w) (hr : Prm r) {y : Nat} (hy : y < 10) : nth (permW w r) y = nth (invP w) (nth r (nth w y)) := by
  unfold permW
  rw [nth_thenP (by rw [(prm_then hw hr).len]; exact hy), nth_thenP (by rw [hw.len]; exact hy)]
theorem keyP_conj {q r : List Nat} {rs : List (ByteArray × ByteArray)} {rg : List Nat} {o : ByteArray} (hq : Prm q) (hi : invP q = q) (hr : Prm r) (hw : ∀ i, i < rs.length → Prm (wirP rs i)) (k : Nat) {x : Nat} (hx : x < 10) :
    nth (keyP q r rs rg o k) (nth q x) = nth q (nth (keyP (List.range 10) r rs rg o k) x) := by
  unfold keyP
  have h1 := wayC_prm (ws := wnd rs o k) (rg := rg) hq hw rs.length (Nat.le_refl _)
  have h2 := wayC_prm (ws := wnd rs o k) (rg := rg) prm_id10 hw rs.length (Nat.le_refl _)
  have hc := fun y (hy : y < 10) => wayC_conj (ws := wnd rs o k) (rg := rg) hq hw rs.length (Nat.le_refl _) y hy
  generalize wayC q rs (wnd rs o k) rg rs.length rs.length = Wq at h1 hc ⊢
  generalize wayC (List.range 10) rs (wnd rs o k) rg rs.length rs.length = W at h2 hc ⊢
  have hqx : nth q x < 10 := nth_ten hq.toTen
  rw [nth_permW h1 hr hqx, nth_permW h2 hr hx, hc _ hqx, inv_nth hq hi hx]
  have hz : nth r (nth W x) < 10 := nth_ten hr.toTen
  generalize nth r (nth W x) = z at hz ⊢
  have hv : nth (invP W) z < 10 := nth_ten (prm_inv h2).toTen
  have e : nth Wq (nth q (nth (invP W) z)) = z := by rw [hc _ (nth_ten hq.toTen), inv_nth hq hi hv, inv_right h2 hz]
  have h3 := inv_left h1 (x := nth q (nth (invP W) z)) (nth_ten hq.toTen)
  rw [e] at h3
  exact h3
end
section
open Go Go.RowKit Pl
theorem Tryz.infoPm : (Tryz.prog.info? 52).map (fun i => (i.zero, i.size, i.bytes)) = some (some (.agg #[.int .u8 0, .int .u8 0, .int .u8 0, .int .u8 0, .int .u8 0, .int .u8 0, .int .u8 0, .int .u8 0, .int .u8 0, .int .u8 0]), 10, 10) := by kernel_rfl
theorem Tryz.undPm : Tryz.prog.underlying 47 = some (.slice 52) := by kernel_rfl
theorem pV_ten {q : List Nat} (h : q.length = 10) : pV q = [.int .u8 (nth q 0 : Int), .int .u8 (nth q 1 : Int), .int .u8 (nth q 2 : Int), .int .u8 (nth q 3 : Int), .int .u8 (nth q 4 : Int), .int .u8 (nth q 5 : Int), .int .u8 (nth q 6 : Int), .int .u8 (nth q 7 : Int), .int .u8 (nth q 8 : Int), .int .u8 (nth q 9 : Int)] := by
  rw [← pC_list, pC_ten h]
theorem ten_one {a0 a1 a2 a3 a4 a5 a6 a7 a8 a9 : Int} : ∀ u ∈ [Value.int .u8 a0, .int .u8 a1, .int .u8 a2, .int .u8 a3, .int .u8 a4, .int .u8 a5, .int .u8 a6, .int .u8 a7, .int .u8 a8, .int .u8 a9], u.oneCell' = true := by
  intro u hu
  simp only [List.mem_cons, List.not_mem_nil, or_false] at hu
  rcases hu with rfl | rfl | rfl | rfl | rfl | rfl | rfl | rfl | rfl | rfl <;> rfl
def pF (l : List (List Nat)) : List Value := l.flatMap pV
theorem pF_snoc (l : List (List Nat)) (q : List Nat) : pF l ++ pV q = pF (l ++ [q]) := by unfold pF; rw [List.flatMap_append]; simp
theorem pF_length : ∀ (l : List (List Nat)), (∀ q ∈ l, q.length = 10) → (pF l).length = l.length * 10
  | [], _ => rfl
  | q :: l, h => by
    have h1 := pF_length l fun x hx => h x (List.mem_cons_of_mem _ hx)
    have h2 := h q (by simp)
    unfold pF at h1 ⊢
    rw [List.flatMap_cons, List.length_append, pV_len, h1, h2, List.length_cons]; omega
theorem pF_split {l : List (List Nat)} {i : Nat} (hi : i < l.length) : pF l = pF (l.take i) ++ pV l[i] ++ pF (l.drop (i + 1)) := by
  conv => lhs; rw [← List.take_append_drop i l, List.drop_eq_getElem_cons hi]
  unfold pF
  rw [List.flatMap_append, List.flatMap_cons, List.append_assoc]
theorem pF_range {W : World} {b off i : Nat} {l : List (List Nat)} (hl : ∀ q ∈ l, q.length = 10) (h : ∀ j, j < (pF l).length → W.cell? ⟨b, off + j, none⟩ = (pF l)[j]?) (hi : i < l.length) : W.rangeAt b (off + i * 10) (pV l[i]) := by
  intro j v hv
  have hq := hl _ (List.getElem_mem hi)
  have ht : (pF (l.take i)).length = i * 10 := by rw [pF_length _ fun x hx => hl x (List.mem_of_mem_take hx), List.length_take]; rw [Nat.min_eq_left (by omega)]
  have hj : j < (pV l[i]).length := by
    rcases Nat.lt_or_ge j (pV l[i]).length with h1 | h1
    · exact h1
    · rw [List.getElem?_eq_none h1] at hv; cases hv
  have hs := pF_split hi
  have hlt : i * 10 + j < (pF l).length := by rw [hs, List.length_append, List.length_append, ht]; omega
  rw [Nat.add_assoc, h _ hlt, hs, List.append_assoc, List.getElem?_append_right (by rw [ht]; omega), ht, Nat.add_sub_cancel_left, List.getElem?_append_left hj]
  exact hv
end
section
open Go.RowKit Pl
theorem bel_alS {a W : World} {o : Obj} (h : Below a.heap.size a W) : Below a.heap.size a (W.alloc o) := h.alloc h.size o
theorem bel_onS {a W W' : World} (h : Below a.heap.size a W) (hb : Below W.heap.size W W') : Below a.heap.size a W' := h.trans (hb.mono h.size)
end
section
open Go.RowKit Pl
structure TxAt (w : World) (G : Nat) (ls : List ByteArray) : Prop where
  block : ∃ cs, w.heap[G]? = some (.cells cs 9 (0, 0))
  cells : ∀ k (h : k < ls.length), w.cell? ⟨G, k, none⟩ = some (.string ls[k])
theorem TxAt.lt {w : World} {G : Nat} {ls : List ByteArray} (h : TxAt w G ls) : G < w.heap.size := by
  obtain ⟨cs, hb⟩ := h.block
  exact (Array.getElem?_eq_some_iff.1 hb).1
theorem TxAt.below {w w' : World} {G : Nat} {ls : List ByteArray} (h : TxAt w G ls) (hb : Below w.heap.size w w') : TxAt w' G ls := by
  obtain ⟨cs, hc⟩ := h.block
  exact ⟨⟨cs, (hb.block G h.lt).trans hc⟩, fun k hk => (hb.cell (p := ⟨G, k, none⟩) h.lt).trans (h.cells k hk)⟩
theorem TxAt.frozen {w : World} {G : Nat} {ls : List ByteArray} (h : TxAt w G ls) (k : Nat) : w.frozen? ⟨G, k, none⟩ = false := by
  obtain ⟨cs, hc⟩ := h.block
  exact frozen_cells hc k
theorem TxAt.put {w : World} {G : Nat} {ls : List ByteArray} (h : TxAt w G ls) {k : Nat} (hk : k < ls.length) (x : ByteArray) : TxAt (w.setCell ⟨G, k, none⟩ (.string x)) G (ls.set k x) := by
  obtain ⟨cs, hc⟩ := h.block
  refine ⟨⟨_, set_block2 hc k (.string x)⟩, fun i hi => ?_⟩
  rw [List.length_set] at hi
  by_cases e : k = i
  · subst e
    rw [World.cell?_setCell_same' _ _ _ (by rw [h.cells k hk]; rfl), List.getElem_set_self]
  · rw [List.getElem_set_ne e, World.cell?_setCell_other w ⟨G, k, none⟩ ⟨G, i, none⟩ (.string x) (by intro e2; injection e2 with _ e2 _; exact e e2)]
    exact h.cells i hi
theorem TxAt.rd {w : World} {G : Nat} {ls : List ByteArray} (h : TxAt w G ls) : Rd w w.heap.size (some ⟨G, 0, none⟩) (strV ls) := fun _ => ⟨G, 0, rfl, h.lt, fun k hk => by
  rw [length_strV] at hk
  rw [Nat.zero_add, h.cells k hk]; simp [strV]⟩
end
end Go.Proofs.YtnbdimbhklbadaaGreatDoor
