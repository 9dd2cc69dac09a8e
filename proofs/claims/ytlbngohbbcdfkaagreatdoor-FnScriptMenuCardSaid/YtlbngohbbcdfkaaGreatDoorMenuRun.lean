/-
  What the commands crib and menu answer. Conditions: what each theorem names.
-/
import Derived.Test.YtlbngohbbcdfkaaGreatDoorNumb
import Derived.Test.YtlbngohbbcdfkaaGreatDoorExecH
namespace Go.Proofs.YtlbngohbbcdfkaaGreatDoor
open Go.RowKit Pl
set_option linter.unusedVariables false

theorem orAbsent_is (w : World) (s : ByteArray) (h : tl s ≠ []) :
    Calls Tryz.prog 152 #[.string s, .bool true] w fun e w' => e = .returned (.string s) ∧ w = w' := by
  have hq : s.toList.isEmpty = false := by rw [List.isEmpty_eq_false_iff, toList_tl]; exact h
  clear h
  go_enter Tryz.func152, Tryz.ntmps152
  go_wp2_with fail
  go_ret
  exact ⟨rfl, rfl⟩

theorem own_rd2 {w : World} {base : Nat} {e : TypeId} {size n cap : Nat} {A : Option Addr} {xs : List Value} (h : w.ownsRow base e size (.slice A n cap) n xs) : Rd w w.heap.size A xs := by
  obtain ⟨A', cap', he, _, _, hr⟩ := ownsRow_rd h
  simp only [Value.slice.injEq] at he
  rw [he.1]; exact hr
theorem own_le2 {w : World} {base : Nat} {e : TypeId} {size n cap : Nat} {A : Option Addr} {xs : List Value} (h : w.ownsRow base e size (.slice A n cap) n xs) : n ≤ cap := by
  obtain ⟨A', cap', he, h1, _, hr⟩ := ownsRow_rd h
  simp only [Value.slice.injEq] at he
  omega

set_option maxHeartbeats 8000000 in
set_option maxRecDepth 100000 in
theorem runMenu_ok (w : World) (hg : GW w) (d : Dk) (a : At) (B : Nat) (c k : ByteArray) (t : Nat) (s : ByteArray) (hf : cribF (tl c) (tl k) t = true) (h1 : k.size ≤ 12) (h2 : t + k.size ≤ 60)
    (ho : Own d a w) (hr : Rd w (B + 1) (some ⟨B, 0, none⟩) (strV [c, k, mk (Lib.itoa (t : Int))])) (hB : B + 1 ≤ w.heap.size) (hne : menuT (menuL (tl c) (tl k) t) ≠ []) :
    Calls Tryz.prog 96 #[dkV d a, .string s, .slice (some ⟨B, 0, none⟩) 3 3] w (Answered d (mk (menuT (menuL (tl c) (tl k) t))) w) := by
  obtain ⟨b0, o0, e0, _, c0⟩ := hr.str (k := 0) (by simp)
  obtain ⟨b1, o1, e1, _, c1⟩ := hr.str (k := 1) (by simp)
  obtain ⟨b2, o2, e2, _, c2⟩ := hr.str (k := 2) (by simp)
  simp only [Option.some.injEq, Addr.mk.injEq, and_true] at e0 e1 e2
  obtain ⟨rfl, rfl⟩ := e0
  obtain ⟨rfl, rfl⟩ := e1
  obtain ⟨rfl, rfl⟩ := e2
  simp only [Nat.zero_add, List.getElem_cons_zero, List.getElem_cons_succ] at c0 c1 c2
  have hb := bel_two (w := w) (.cells (dkC d a) 57) (.cells #[.slice none 0 0, .string ⟨#[]⟩, .string ⟨#[]⟩, .string ⟨#[]⟩, .string ⟨#[]⟩, .slice none 0 0] 57)
  have hdk := heap_alloc_new (w.alloc (.cells (dkC d a) 57)) (.cells #[.slice none 0 0, .string ⟨#[]⟩, .string ⟨#[]⟩, .string ⟨#[]⟩, .string ⟨#[]⟩, .slice none 0 0] 57)
  rw [szalloc] at hdk
  have hpa : ((w.alloc (.cells (dkC d a) 57)).alloc (.cells #[.slice none 0 0, .string ⟨#[]⟩, .string ⟨#[]⟩, .string ⟨#[]⟩, .string ⟨#[]⟩, .slice none 0 0] 57)).heap[w.heap.size]? = some (.cells (dkC d a) 57 (0, 0)) := block_below (heap_alloc_new w _) ((Below.refl _ _).alloc (Nat.le_refl _) _)
  have HPA := Lib.hid hpa; clear hpa
  replace c0 := cell_alloc2 (cell_alloc2 c0 (.cells (dkC d a) 57)) (.cells #[.slice none 0 0, .string ⟨#[]⟩, .string ⟨#[]⟩, .string ⟨#[]⟩, .string ⟨#[]⟩, .slice none 0 0] 57)
  replace c1 := cell_alloc2 (cell_alloc2 c1 (.cells (dkC d a) 57)) (.cells #[.slice none 0 0, .string ⟨#[]⟩, .string ⟨#[]⟩, .string ⟨#[]⟩, .string ⟨#[]⟩, .slice none 0 0] 57)
  replace c2 := cell_alloc2 (cell_alloc2 c2 (.cells (dkC d a) 57)) (.cells #[.slice none 0 0, .string ⟨#[]⟩, .string ⟨#[]⟩, .string ⟨#[]⟩, .string ⟨#[]⟩, .slice none 0 0] 57)
  obtain ⟨T, hT⟩ : ∃ T, T = mk (Lib.itoa (t : Int)) := ⟨_, rfl⟩
  have hrn := fun w' (h' : GW w') => readNumber_ok w' h' t (by omega)
  rw [← hT] at hrn c2
  have hmv := menuL_valid hf (by rw [length_tl]; exact h1) (by rw [length_tl]; exact h2)
  have hmo := fun w' => menuOf_some c k t w' hf h1 h2
  obtain ⟨m, hm⟩ : ∃ m, m = menuL (tl c) (tl k) t := ⟨_, rfl⟩
  rw [← hm] at hmv hmo hne ⊢
  obtain ⟨X, hX⟩ : ∃ X, X = mk (menuT m) := ⟨_, rfl⟩
  have hXn : tl X ≠ [] := by rw [hX, tl_mk]; exact hne
  have hfm := fun w' (h' : GW w') A cap (hr' : Rd w' w'.heap.size A (linkV m)) hc' => formatMenu_any w' h' A cap m hr' hc' hmv
  rw [← hX] at hfm ⊢
  have HB := Lib.hid hb; have HDK := Lib.hid hdk; have HO := Lib.hid ho; have HRN := Lib.hid hrn; have HMO := Lib.hid hmo; have HFM := Lib.hid hfm; have HXN := Lib.hid hXn
  have HG := Lib.hid (hg.below hb (Nat.le_refl _))
  clear hb hdk ho hrn hmo hfm hXn hX hne hmv hm hT hg hf hr h1 h2
  go_enter Tryz.func96, Tryz.ntmps96
  go_wp2_with fail
  refine (HRN.out _ HG.out).mono ?_
  rintro _ w1 ⟨rfl, hb1⟩
  obtain ⟨hcl, hfr⟩ := bcell hb1
  have q0 := (hcl B 0 (World.block_lt_of_cell? _ _ c0)).trans c0
  have q1 := (hcl B 1 (World.block_lt_of_cell? _ _ c0)).trans c1
  have HG1 := Lib.hid (HG.out.below hb1 (Nat.le_refl _)); have HB1 := Lib.hid (HB.out.trans (hb1.mono HB.out.size)); have HDK1 := Lib.hid (block_below HDK.out hb1); have HPA1 := Lib.hid (block_below HPA.out hb1)
  clear hb1 c0 c1 c2 HRN HG HB HDK hcl hfr
  have hbm : Below w1.heap.size w1 w1.drew := (Below.refl _ _).drew
  have hm3 := HMO.out w1.drew
  have HM3 := Lib.hid hm3; clear hm3 hbm
  go_wp2_with fail
  go_region_with (go_at_call 7; refine HM3.out.mono ?_; rintro _ w3 ⟨v3, rfl, ho3, hb3⟩; obtain ⟨A3, c3, rfl⟩ := slot_slice ho3)
  all_goals
    have hb3' : Below w1.heap.size w1 w3 := below_of_drew hb3
    obtain ⟨hcl, hfr⟩ := bcell hb3'
    have HB3 := Lib.hid (HB1.out.trans (hb3'.mono HB1.out.size)); have HG3 := Lib.hid (HG1.out.below hb3' (Nat.le_refl _)); have HDK3 := Lib.hid (block_below HDK1.out hb3')
    have hpa3 := block_below HPA1.out hb3'
    obtain ⟨k0, k1, k2, k3, k4, k5⟩ := row_six hpa3
    obtain ⟨z0, z1, z2, z3, z4, z5⟩ := row_six HDK3.out
    have f0 := frozen_cells HDK3.out 0; have f1 := frozen_cells HDK3.out 1; have f2 := frozen_cells HDK3.out 2; have f3 := frozen_cells HDK3.out 3; have f4 := frozen_cells HDK3.out 4; have f5 := frozen_cells HDK3.out 5
    have hzz := (Array.getElem?_eq_some_iff.1 HDK3.out).1
    have hz0 : w.heap.size < w3.heap.size := by omega
    have hfm3 := HFM.out w3.drew (HG3.out.below (Below.refl _ _).drew (Nat.le_refl _)) A3 c3 (own_rd2 ho3) (own_le2 ho3)
    have HF3 := Lib.hid hfm3
    have HO3 := Lib.hid (HO.out.below HB3.out)
    clear ho3 hb3 hb3' q0 q1 hcl hfr hfm3 hpa3
    go_wp2_with fail
    go_region_with (first | (go_at_call 152; refine (orAbsent_is _ _ HXN.out).mono ?_; rintro _ _ ⟨rfl, rfl⟩) | (go_at_call 14; refine HF3.out.mono ?_; rintro _ w5 ⟨rfl, hb5⟩; have hb5' : Below w3.heap.size w3 w5 := below_of_drew hb5; obtain ⟨hcl2, hfr2⟩ := bcell hb5'; have HB5 := Lib.hid hb5'; clear hb5 hb5') | fail)
    all_goals
      have hdk5 := block_below HDK3.out HB5.out
      have ho5 := HO3.out.below HB5.out
      have HBF := Lib.hid (HB3.out.trans (HB5.out.mono HB3.out.size)); have HDK5 := Lib.hid hdk5; have HO5 := Lib.hid ho5
      clear hdk5 ho5
      go_wp2_with fail
      refine bodyPost_ret (v := .tuple #[dkV d a, .string X]) (by simp [results, Tryz.results96, go_sem, hcl2, hzz, z0, z1, z2, z3, z4, z5]) rfl ⟨a, rfl, ⟨?_, ?_⟩, ?_⟩
      · exact World.ownsRow.kept HO5.out.r (only_six _ (w.heap.size + 1) _ _ _ _ _ _) (own_ne HO5.out.r HDK5.out (by decide))
      · exact World.ownsRow.kept HO5.out.b (only_six _ (w.heap.size + 1) _ _ _ _ _ _) (own_ne HO5.out.b HDK5.out (by decide))
      · exact bel_six HBF.out (by omega) _ _ _ _ _ _

end Go.Proofs.YtlbngohbbcdfkaaGreatDoor
