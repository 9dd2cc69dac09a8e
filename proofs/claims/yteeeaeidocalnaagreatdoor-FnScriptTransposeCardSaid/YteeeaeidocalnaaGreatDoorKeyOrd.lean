/-
  Contract of KeyOrder, of the program: the places of a key's letters, letter by letter. Conditions: what each theorem names.
-/
import Derived.Test.YteeeaeidocalnaaGreatDoorPlainY
import Derived.Test.YteeeaeidocalnaaGreatDoorInts
import Derived.Test.YteeeaeidocalnaaGreatDoorKey
import Derived.Test.YteeeaeidocalnaaGreatDoorShelfI
import Derived.Shelf.SlSortCmp.Insertion
import Derived.BigCall
namespace Go.Proofs.YteeeaeidocalnaaGreatDoor
open Go.RowKit Pl Go.Sort
set_option linter.unusedVariables false

def cmpC (a b : UInt8) : Int := if a.toNat < b.toNat then -1 else if b.toNat < a.toNat then 1 else 0
theorem isNaN_byte (a : UInt8) (w : World) : Calls Tryz.prog 112 #[.int .u8 a.toNat] w fun e w' => e = .returned (.bool false) ∧ w = w' := by
  go_enter Tryz.func112, Tryz.ntmps112
  go_wp2_with fail
  go_ret
  exact ⟨by simp, rfl⟩
theorem cmpByte (a b : UInt8) (w : World) : Calls Tryz.prog 71 #[.int .u8 a.toNat, .int .u8 b.toNat] w fun e w' => e = .returned (.int .i64 (cmpC a b)) ∧ w = w' := by
  have ha := a.toNat_lt
  have hb := b.toNat_lt
  by_cases h1 : a.toNat < b.toNat
  · have e1 : cmpC a b = -1 := if_pos h1
    rw [e1]
    clear e1
    go_enter Tryz.func71, Tryz.ntmps71
    go_wp2_with (go_at_call 112; refine (isNaN_byte _ _).mono ?_; rintro _ _ ⟨rfl, rfl⟩)
    go_ret
    exact ⟨rfl, rfl⟩
  · by_cases h2 : b.toNat < a.toNat
    · have e1 : cmpC a b = 1 := by unfold cmpC; rw [if_neg h1, if_pos h2]
      rw [e1]
      clear e1
      go_enter Tryz.func71, Tryz.ntmps71
      go_wp2_with (go_at_call 112; refine (isNaN_byte _ _).mono ?_; rintro _ _ ⟨rfl, rfl⟩)
      go_ret
      exact ⟨rfl, rfl⟩
    · have e1 : cmpC a b = 0 := by unfold cmpC; rw [if_neg h1, if_neg h2]
      rw [e1]
      clear e1
      go_enter Tryz.func71, Tryz.ntmps71
      go_wp2_with (go_at_call 112; refine (isNaN_byte _ _).mono ?_; rintro _ _ ⟨rfl, rfl⟩)
      go_ret
      exact ⟨rfl, rfl⟩

theorem cmpKey (k : ByteArray) (B x y : Nat) (hk : k.size ≤ 1000) (hx : x < k.size) (hy : y < k.size) (W : World) (hB : W.cell? ⟨B, 0, none⟩ = some (.string k)) :
    Calls Tryz.prog 70 #[.int .i64 x, .int .i64 y, .pointer (some ⟨B, 0, none⟩)] W fun e w' => e = .returned (.int .i64 (cmpC k[x] k[y])) ∧ ∃ q, w' = W.drewN q := by
  go_enter Tryz.func70, Tryz.ntmps70
  go_wp2_with fail
  go_region_with (go_at_call 71; refine (cmpByte _ _ _).mono ?_; rintro _ _ ⟨rfl, rfl⟩)
  all_goals
    go_wp2_with fail
    go_ret
    exact ⟨rfl, _, rfl⟩

theorem sortWorld_cell {α : Type} [Inhabited α] (enc : α → Value) (w : World) (blk m : Nat) (dk : Array α) (os : Array Obj) (b o : Nat) (h1 : b ≠ blk) (h2 : b < w.heap.size) : (sortWorld enc w blk 0 m dk os).cell? ⟨b, o, none⟩ = w.cell? ⟨b, o, none⟩ := by
  refine World.cell?_of_block (a := ⟨b, o, none⟩) ?_
  simp only [sortWorld, grow, putRow, mapBlock, Sort.ahead]
  rw [Array.getElem?_append_left (by simpa using h2), Array.getElem?_modify, if_neg (Ne.symm h1)]
def encN {n : Nat} (x : Fin n) : Value := .int .i64 (x.val : Int)
theorem own_put {n : Nat} [Inhabited (Fin n)] {w : World} {B g cap m : Nat} {xs : List Value} (h : w.ownsRow B 3 1 (.slice (some ⟨g, 0, none⟩) m cap) m xs) (D : Array (Fin n)) (hs : D.size = m) (q : Nat) :
    ((putRow encN w g 0 D).drewN q).ownsRow B 3 1 (.slice (some ⟨g, 0, none⟩) m cap) m (natV (D.toList.map Fin.val)) ∧ w.grownBy ((putRow encN w g 0 D).drewN q) (some g) := by
  obtain ⟨hl, ⟨h1, _⟩ | ⟨g', cap', cur, hv, hg, hb, hnc, hcm, hsz, htake⟩⟩ := h
  · cases h1
  simp only [Value.slice.injEq, Option.some.injEq, Addr.mk.injEq] at hv
  obtain ⟨⟨rfl, _⟩, _, rfl⟩ := hv
  have hlt : g < w.heap.size := (Array.getElem?_eq_some_iff.1 hb).1
  have hblk : ((putRow encN w g 0 D).drewN q).heap[g]? = some (.cells (putCells encN 0 D cur) 3 (0, 0)) := by
    show (putRow encN w g 0 D).heap[g]? = _
    simp only [putRow, mapBlock]
    rw [Array.getElem?_modify, if_pos rfl, hb]
    rfl
  refine ⟨⟨by rw [length_natV]; simp [hs], .inr ⟨g, cap, _, rfl, hg, hblk, hnc, hcm, by simp [putCells, hsz], ?_⟩⟩, ⟨rfl, rfl, rfl, ?_, ?_⟩⟩
  · apply List.ext_getElem?
    intro i
    by_cases hi : i < m
    · rw [List.getElem?_take_of_lt (by omega), Array.getElem?_toList]
      have hc : i < cur.size := by omega
      have h2 : i < D.size := by omega
      simp [putCells, hc, hs, hi, natV, encN]
    · rw [List.getElem?_eq_none (by rw [List.length_take]; omega), List.getElem?_eq_none (by rw [length_natV, List.length_map, Array.length_toList]; omega)]
  · show w.heap.size ≤ (putRow encN w g 0 D).heap.size
    simp [putRow, mapBlock]
  · intro i hi hne
    have hne' : g ≠ i := fun e => hne (by rw [e])
    show (putRow encN w g 0 D).heap[i]? = _
    simp only [putRow, mapBlock]
    rw [Array.getElem?_modify, if_neg hne']

theorem insKey (k : ByteArray) (hv : keyV (tl k) = true) (B g base : Nat) (w : World) (hB : w.cell? ⟨B, 0, none⟩ = some (.string k)) (hne : B ≠ g)
    (ho : w.ownsRow base 3 1 (.slice (some ⟨g, 0, none⟩) k.size k.size) k.size (natV (List.range k.size))) :
    Calls Tryz.prog 163 #[.slice (some ⟨g, 0, none⟩) k.size k.size, .int .i64 0, .int .i64 k.size, .func (.func 70) #[] #[.pointer (some ⟨B, 0, none⟩)]] w
      fun e w' => e = .returned (.tuple #[]) ∧ w'.ownsRow base 3 1 (.slice (some ⟨g, 0, none⟩) k.size k.size) k.size (natV (kord (tl k))) ∧ w.grownBy w' (some g) := by
  obtain ⟨hw, h1, h2⟩ := keyV_iff.1 hv
  rw [length_tl] at h1 h2
  haveI : Inhabited (Fin k.size) := ⟨⟨0, by omega⟩⟩
  have hds : (Array.ofFn (fun i : Fin k.size => i)).size = k.size := by simp
  have hdl : (Array.ofFn (fun i : Fin k.size => i)).toList.map Fin.val = List.range k.size := by
    apply List.ext_getElem <;> simp
  obtain ⟨d, hd⟩ : ∃ d, d = Array.ofFn (fun i : Fin k.size => i) := ⟨_, rfl⟩
  rw [← hd] at hds hdl
  have hat : ∀ j (hj : j < d.size), (d[j]!).val = j := fun j hj => by
    rw [getElem!_pos d j hj]; subst hd; simp
  have hH : Holds encN w g 0 d := by
    intro j hj
    rw [Nat.zero_add]
    refine ⟨?_, ho.frozenAt _⟩
    rw [ho.cellAt j (by omega)]
    unfold encN
    rw [hat j hj]
    simp [natV, show j < k.size by omega]
  have hcell : ∀ m os (dk : Array (Fin k.size)), (sortWorld encN w g 0 m dk os).cell? ⟨B, 0, none⟩ = some (.string k) := fun m os dk => by
    rw [sortWorld_cell encN w g m dk os B 0 hne (World.block_lt_of_cell? _ _ hB)]; exact hB
  have hcmp : CmpReads Tryz.prog 70 #[.pointer (some ⟨B, 0, none⟩)] encN (fun x y : Fin k.size => cmpC k[x.val] k[y.val]) g 0 d.size w := fun m os dk _ x y =>
    cmpKey k B x.val y.val (by omega) x.isLt y.isLt _ (hcell m os dk)
  have hlt : ltOf (fun x y : Fin k.size => cmpC k[x.val] k[y.val]) = ltK (tl k) := by
    funext x y
    unfold ltOf ltK kd cmpC
    rw [Bool.eq_iff_iff, decide_eq_true_eq, decide_eq_true_eq]
    have hx := isL_bounds (wv_mem hw (show k[x.val] ∈ tl k by rw [getElem_tl]; exact List.getElem_mem _))
    have hy := isL_bounds (wv_mem hw (show k[y.val] ∈ tl k by rw [getElem_tl]; exact List.getElem_mem _))
    have ex : (tl k)[x.val]? = some k[x.val] := by rw [getElem_tl]; exact List.getElem?_eq_getElem _
    have ey : (tl k)[y.val]? = some k[y.val] := by rw [getElem_tl]; exact List.getElem?_eq_getElem _
    rw [ex, ey, Option.getD_some, Option.getD_some]
    unfold dg
    dsimp only
    split
    · omega
    · split <;> omega
  have eg : ∀ args w, (callFunc 70 args).run Tryz.prog w = .ok (.enter 70 args) w := enters_of Tryz.func70 (by kernel_rfl) rfl
  have hcon := Any.insertionSortCmpFunc_one (P := Tryz.prog) (ρ := Tryz.insS_ren) Tryz.insS encN (fun _ => rfl) _ 70 #[.pointer (some ⟨B, 0, none⟩)] g 0 k.size 0 k.size d w eg hcmp hH (Nat.zero_le _) (by omega) (by omega)
  rw [hlt, hds] at hcon
  refine hcon.mono ?_
  rintro e w' ⟨rfl, q, rfl⟩
  have hks := kord_sorts (tl k) hw (by rw [length_tl]) h1 d hdl
  obtain ⟨r1, r2⟩ := own_put ho (insertionSort (ltK (tl k)) d 0 k.size) hks.2 q
  rw [hks.1] at r1
  exact ⟨rfl, r1, r2⟩

end Go.Proofs.YteeeaeidocalnaaGreatDoor
