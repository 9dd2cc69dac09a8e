/-
  What the command crib answers. Conditions: what each theorem names.
-/
import Derived.Test.YtlbngohbbcdfkaaGreatDoorMenuRun
namespace Go.Proofs.YtlbngohbbcdfkaaGreatDoor
open Go.RowKit Pl
set_option linter.unusedVariables false

/-- the text of numbers -/
def numsT (l : List Nat) : List UInt8 := Lib.join (l.map fun n : Nat => Lib.itoa (n : Int)) [32]
theorem numsT_ne {l : List Nat} (h : l ≠ []) : numsT l ≠ [] := by
  cases l with
  | nil => exact absurd rfl h
  | cons n r =>
    unfold numsT
    rw [List.map_cons, Lib.join_cons]
    have : Lib.itoa (n : Int) ≠ [] := by rw [itoa_nat]; exact dec_ne n
    simp [this]

set_option maxHeartbeats 8000000 in
set_option maxRecDepth 100000 in
theorem runCrib_ok (w : World) (hg : GW w) (d : Dk) (a : At) (B : Nat) (c k s : ByteArray) (hcz : c.size ≤ 200) (hne : cribP (tl c) (tl k) ≠ [])
    (ho : Own d a w) (hr : Rd w (B + 1) (some ⟨B, 0, none⟩) (strV [c, k])) (hB : B + 1 ≤ w.heap.size) :
    Calls Tryz.prog 95 #[dkV d a, .string s, .slice (some ⟨B, 0, none⟩) 2 2] w (Answered d (mk (numsT (cribP (tl c) (tl k)))) w) := by
  obtain ⟨iS, hi, hz0, hz1, hz2⟩ := info_parts Tryz.infoS
  have HI := Lib.hid hi; have HZ0 := Lib.hid hz0; have HZ1 := Lib.hid hz1; have HZ2 := Lib.hid hz2
  clear hi hz0 hz1 hz2
  obtain ⟨b0, o0, e0, _, c0⟩ := hr.str (k := 0) (by simp)
  obtain ⟨b1, o1, e1, _, c1⟩ := hr.str (k := 1) (by simp)
  simp only [Option.some.injEq, Addr.mk.injEq, and_true] at e0 e1
  obtain ⟨rfl, rfl⟩ := e0
  obtain ⟨rfl, rfl⟩ := e1
  simp only [Nat.zero_add, List.getElem_cons_zero, List.getElem_cons_succ] at c0 c1
  have hb := bel_two (w := w) (.cells (dkC d a) 57) (.cells #[.slice none 0 0, .string ⟨#[]⟩, .string ⟨#[]⟩, .string ⟨#[]⟩, .string ⟨#[]⟩, .slice none 0 0] 57)
  have hdk := heap_alloc_new (w.alloc (.cells (dkC d a) 57)) (.cells #[.slice none 0 0, .string ⟨#[]⟩, .string ⟨#[]⟩, .string ⟨#[]⟩, .string ⟨#[]⟩, .slice none 0 0] 57)
  rw [szalloc] at hdk
  have hpa : ((w.alloc (.cells (dkC d a) 57)).alloc (.cells #[.slice none 0 0, .string ⟨#[]⟩, .string ⟨#[]⟩, .string ⟨#[]⟩, .string ⟨#[]⟩, .slice none 0 0] 57)).heap[w.heap.size]? = some (.cells (dkC d a) 57 (0, 0)) := block_below (heap_alloc_new w _) ((Below.refl _ _).alloc (Nat.le_refl _) _)
  have HPA := Lib.hid hpa; clear hpa
  replace c0 := cell_alloc2 (cell_alloc2 c0 (.cells (dkC d a) 57)) (.cells #[.slice none 0 0, .string ⟨#[]⟩, .string ⟨#[]⟩, .string ⟨#[]⟩, .string ⟨#[]⟩, .slice none 0 0] 57)
  replace c1 := cell_alloc2 (cell_alloc2 c1 (.cells (dkC d a) 57)) (.cells #[.slice none 0 0, .string ⟨#[]⟩, .string ⟨#[]⟩, .string ⟨#[]⟩, .string ⟨#[]⟩, .slice none 0 0] 57)
  have hcp := cribPlaces_any c k ((w.alloc (.cells (dkC d a) 57)).alloc (.cells #[.slice none 0 0, .string ⟨#[]⟩, .string ⟨#[]⟩, .string ⟨#[]⟩, .string ⟨#[]⟩, .slice none 0 0] 57)).drew (by omega)
  have hpm : ∀ n ∈ cribP (tl c) (tl k), n < 200 := fun n hn => by
    have := List.mem_range.1 (List.mem_filter.1 hn).1
    rw [length_tl] at this; omega
  have hpl : (cribP (tl c) (tl k)).length ≤ 200 := by
    unfold cribP
    exact Nat.le_trans (List.length_filter_le _ _) (by rw [List.length_range, length_tl]; exact hcz)
  obtain ⟨P, hP⟩ : ∃ P, P = cribP (tl c) (tl k) := ⟨_, rfl⟩
  rw [← hP] at hcp hpm hpl hne ⊢
  obtain ⟨X, hX⟩ : ∃ X, X = mk (numsT P) := ⟨_, rfl⟩
  have hXn : tl X ≠ [] := by rw [hX, tl_mk]; exact numsT_ne hne
  have hpos : P.length ≠ 0 := fun e => hne (List.length_eq_zero_iff.1 e)
  obtain ⟨M, hM⟩ : ∃ M : Nat → List ByteArray, M = fun j => (P.take j).map fun n : Nat => mk (Lib.itoa (n : Int)) := ⟨_, rfl⟩
  have hMl : ∀ j, j ≤ P.length → (M j).length = j := fun j hj => by rw [hM]; simp [hj]
  have hMs : ∀ j (hj : j < P.length), M j ++ [mk (Lib.itoa (P[j] : Int))] = M (j + 1) := fun j hj => by
    rw [hM]; simp only [List.take_succ_eq_append_getElem hj, List.map_append, List.map_cons, List.map_nil]
  have hM0 : M 0 = [] := by rw [hM]; rfl
  have hMj : mk (Lib.join ((M P.length).map tl) [32]) = X := by
    rw [hM, hX]; unfold numsT; simp only [List.take_length, List.map_map]
    congr 2
  have hjz : (Lib.join ((M P.length).map tl) [32]).length ≤ 100000 := by
    rw [hM]
    refine Nat.le_trans (join_le _ _ 40 ?_) ?_
    · intro s hs
      simp only [List.take_length, List.map_map, List.mem_map] at hs
      obtain ⟨x, hx, rfl⟩ := hs
      have := hpm x hx
      have := itoa_size x (by omega)
      rw [size_mk] at this
      show (tl (mk (Lib.itoa (x : Int)))).length ≤ 40
      rw [tl_mk]; omega
    · simp only [List.length_map, List.take_length, List.length_singleton]; omega
  rw [← hX]
  have HML := Lib.hid hMl; have HMS := Lib.hid hMs; have HM0 := Lib.hid hM0; have HMJ := Lib.hid hMj; have HJZ := Lib.hid hjz; have HPM := Lib.hid hpm; have HXN := Lib.hid hXn; have HPOS := Lib.hid hpos
  have HB := Lib.hid hb; have HDK := Lib.hid hdk; have HO := Lib.hid ho; have HCP := Lib.hid hcp
  have HG := Lib.hid (hg.below hb (Nat.le_refl _))
  clear hb hdk ho hcp hXn hX hne hP hg hr hMl hMs hM0 hMj hjz hM hpm hpos
  go_enter Tryz.func95, Tryz.ntmps95
  go_wp2_with fail
  go_region_with (go_at_call 10; refine HCP.out.mono ?_; rintro _ w1 ⟨v1, rfl, ho1, hb1⟩; obtain ⟨A1, q1, rfl⟩ := slot_slice ho1)
  all_goals
    have HB1 := Lib.hid (HB.out.trans ((below_of_drew hb1).mono HB.out.size))
    have HG1 := Lib.hid (HG.out.below (below_of_drew hb1) (Nat.le_refl _))
    have hdk1 := block_below HDK.out (below_of_drew hb1)
    have hpa1 := block_below HPA.out (below_of_drew hb1)
    have HDK1 := Lib.hid hdk1; have HPA1 := Lib.hid hpa1
    have HO1 := Lib.hid (HO.out.below HB1.out)
    have HRP := Lib.hid (own_rd2 ho1)
    have hcp1 := own_le2 ho1
    clear ho1 hb1 hdk1 hpa1 c0 c1 HB HG HDK HPA HO HCP
    go_wp2_with fail
    go_simp
    go_loopw [8, 19] (fun o i wr => ∃ j : Nat, j ≤ P.length ∧ i = .int .i64 j ∧ wr.ownsRow w1.heap.size 9 1 o j (strV (M j)) ∧ Below w1.heap.size w1 wr) (fun _ i _ => P.length - (intOf i).toNat)
    case atStart => exact ⟨0, Nat.zero_le _, rfl, by rw [HM0.out]; exact World.ownsRow_nil _ _ _ _, Below.refl _ _⟩
    case round =>
      obtain ⟨j, hj, rfl, hown, hbl⟩ := hrel
      have HW := Lib.hid hown; have HBL := Lib.hid hbl; clear hown hbl
      obtain ⟨A3, c3, e3⟩ := slot_slice HW.out
      subst e3
      by_cases hlt : j < P.length
      · obtain ⟨b, off, rfl, hbb, r0⟩ := (HRP.out.below HBL.out).nat hlt
        have hn2 := HPM.out _ (List.getElem_mem hlt)
        have hms := HMS.out j hlt
        generalize P[j] = n at r0 hn2 hms
        have hit := itoa_any wr (HG1.out.below HBL.out (Nat.le_refl _)) n (by omega)
        have HIT := Lib.hid hit; have HMSX := Lib.hid hms; clear hit hms
        go_wp2_with fail
        refine HIT.out.mono ?_
        rintro _ w2 ⟨rfl, hb2⟩
        generalize mk (Lib.itoa (n : Int)) = I at HMSX ⊢
        have ho2 := ownsRow_below HW.out hb2
        have hb3 := HBL.out.trans (hb2.mono HBL.out.size)
        have HO2 := Lib.hid ho2; have HB2 := Lib.hid hb3
        have hbw := hb3.size
        clear ho2 hb2 hb3 HIT
        go_wp2_with (at_builtin; refine wpList_append_own _ rfl _ _ 31 rfl w1.heap.size 9 iS (.string ByteArray.empty) 1 16 Tryz.undS HI.out HZ0.out HZ1.out HZ2.out rfl (by decide) _ j _ rfl (HO2.out.alloc _) ⟨w2.heap.size, 0, none⟩ 1 1 [.string I] rfl rfl (one_new w2 _ _) one_cell (by unfold maxLen; omega) (by omega) (by simp; omega) ?_)
        intro v' w6 ho' hg' _
        rw [strV_snoc2, HMSX.out] at ho'
        have hb6 := (HB2.out.alloc HB2.out.size _).grown hg' (Nat.le_trans HB2.out.size (by simp)) fun k' e => (HO2.out.lt k' e).1
        have HO6 := Lib.hid ho'; have HB6 := Lib.hid hb6; clear ho' hg' hb6
        go_wp2_with fail
        go_roundw
        case rel => exact ⟨j + 1, by omega, by go_num, HO6.out, HB6.out⟩
        case measure => simp [intOf]; omega
      · have hje : j = P.length := by omega
        subst hje
        have hMl := HML.out P.length (Nat.le_refl _)
        obtain ⟨ws, hws⟩ : ∃ ws, ws = M P.length := ⟨_, rfl⟩
        have hmj := HMJ.out
        have hjz := HJZ.out
        have ho := HW.out
        rw [← hws] at hMl hmj hjz ho
        have hjn := join_own wr.drew w1.heap.size A3 c3 ws (mk [32]) (by rw [hMl]; exact ho) (by intro e; rw [e] at hMl; exact HPOS.out hMl.symm) (by omega) (by rw [tl_mk]; omega)
        rw [hMl, tl_mk, hmj] at hjn
        have HJN := Lib.hid hjn
        obtain ⟨k0, k1, k2, k3, k4, k5⟩ := row_six (block_below HPA1.out HBL.out)
        have hdw := block_below HDK1.out HBL.out
        have HDW := Lib.hid hdw
        obtain ⟨z0, z1, z2, z3, z4, z5⟩ := row_six hdw
        have f0 := frozen_cells hdw 0; have f1 := frozen_cells hdw 1; have f2 := frozen_cells hdw 2; have f3 := frozen_cells hdw 3; have f4 := frozen_cells hdw 4; have f5 := frozen_cells hdw 5
        have hzz := (Array.getElem?_eq_some_iff.1 hdw).1
        have hz0 : w.heap.size < wr.heap.size := by omega
        have HO3 := Lib.hid (HO1.out.below (HBL.out.mono (Nat.le_refl _)))
        have HBW := Lib.hid (HB1.out.trans (HBL.out.mono HB1.out.size))
        clear hjn ho hmj hjz hws hMl hdw
        go_wp2_with fail
        go_region_with (first | (go_at_call 152; refine (orAbsent_is _ _ HXN.out).mono ?_; rintro _ _ ⟨rfl, rfl⟩) | (go_at_call 32; refine HJN.out.mono ?_; rintro _ w5 ⟨rfl, hb5⟩; have hb5' : Below wr.heap.size wr w5 := below_of_drew hb5; obtain ⟨hcl2, hfr2⟩ := bcell hb5'; have HB5 := Lib.hid hb5'; clear hb5 hb5') | fail)
        all_goals
          have hdk5 := block_below HDW.out HB5.out
          have ho5 := HO3.out.below HB5.out
          have HBF := Lib.hid (HBW.out.trans (HB5.out.mono HBW.out.size)); have HDK5 := Lib.hid hdk5; have HO5 := Lib.hid ho5
          clear hdk5 ho5
          go_wp2_with fail
          refine bodyPost_ret (v := .tuple #[dkV d a, .string X]) (by simp [results, Tryz.results95, go_sem, hcl2, hzz, z0, z1, z2, z3, z4, z5]) rfl ⟨a, rfl, ⟨?_, ?_⟩, ?_⟩
          · exact World.ownsRow.kept HO5.out.r (only_six _ (w.heap.size + 1) _ _ _ _ _ _) (own_ne HO5.out.r HDK5.out (by decide))
          · exact World.ownsRow.kept HO5.out.b (only_six _ (w.heap.size + 1) _ _ _ _ _ _) (own_ne HO5.out.b HDK5.out (by decide))
          · exact bel_six HBF.out (by omega) _ _ _ _ _ _

end Go.Proofs.YtlbngohbbcdfkaaGreatDoor
