/-
  What the command show answers with a machine and no book. Conditions: what each theorem names.
-/
import Derived.Test.YtoakpacpkkmgnaaGreatDoorIndex
import Derived.Test.YtoakpacpkkmgnaaGreatDoorRunMac
namespace Go.Proofs.YtoakpacpkkmgnaaGreatDoor
open Go.RowKit Pl
set_option linter.unusedVariables false

set_option maxHeartbeats 4000000 in
set_option maxRecDepth 100000 in
theorem bookValid_none (w : World) (A : Option Addr) (cap n : Nat) (hn : n = 0) :
    Calls Tryz.prog 261 #[.slice A n cap] w fun e w' => e = .returned (.bool true) ∧ Below w.heap.size w w' := by
  subst hn
  have hix := index_any w A cap [] (fun h => absurd rfl h) (Nat.zero_le _) (by simp)
  go_enter Tryz.func261, Tryz.ntmps261
  go_wp2_with fail
  refine hix.mono ?_
  rintro e w1 ⟨hb1, ⟨hv, rfl⟩ | ⟨hv, b1, b2, rfl, hm1, hm2⟩⟩
  · exact absurd ⟨Nat.zero_le _, bookP_nil⟩ hv
  · clear hix hv hm1 hm2
    go_wp2_with fail
    go_ret
    exact ⟨rfl, hb1.alloc hb1.size _⟩

set_option maxHeartbeats 4000000 in
set_option maxRecDepth 100000 in
theorem formatBook_none (w : World) (A : Option Addr) (cap n : Nat) (hn : n = 0) :
    Calls Tryz.prog 199 #[.slice A n cap] w fun e w' => e = .returned (.string ⟨#[45]⟩) ∧ Below w.heap.size w w' := by
  have hbv := bookValid_none w A cap n hn
  subst hn
  go_enter Tryz.func199, Tryz.ntmps199
  go_wp2_with fail
  refine hbv.mono ?_
  rintro _ w1 ⟨rfl, hb1⟩
  clear hbv
  go_wp2_with fail
  go_ret
  exact ⟨rfl, hb1⟩

/-- what show answers with a machine and no book -/
def showT (rs : List (ByteArray × ByteArray)) (p g : ByteArray) (q : List Nat) (o : ByteArray) : List UInt8 := [109, 97, 99, 104, 105, 110, 101, 32] ++ (machT rs p g q ++ ([10, 119, 105, 110, 100, 111, 119, 115, 32] ++ (tl o ++ [10, 98, 111, 111, 107, 32, 45])))
theorem showT_is (rs : List (ByteArray × ByteArray)) (p g : ByteArray) (q : List Nat) (o : ByteArray) : (⟨#[109, 97, 99, 104, 105, 110, 101, 32]⟩ : ByteArray) ++ mk (machT rs p g q) ++ ⟨#[10, 119, 105, 110, 100, 111, 119, 115, 32]⟩ ++ o ++ ⟨#[10]⟩ ++ (⟨#[98, 111, 111, 107, 32]⟩ ++ ⟨#[45]⟩) = mk (showT rs p g q o) := by
  unfold showT
  simp only [append_tl, tl_mk]
  rw [show tl (⟨#[109, 97, 99, 104, 105, 110, 101, 32]⟩ : ByteArray) = [109, 97, 99, 104, 105, 110, 101, 32] from rfl, show tl (⟨#[10, 119, 105, 110, 100, 111, 119, 115, 32]⟩ : ByteArray) = [10, 119, 105, 110, 100, 111, 119, 115, 32] from rfl, show tl (⟨#[10]⟩ : ByteArray) = [10] from rfl, show tl (⟨#[98, 111, 111, 107, 32]⟩ : ByteArray) = [98, 111, 111, 107, 32] from rfl, show tl (⟨#[45]⟩ : ByteArray) = [45] from rfl]
  simp

set_option maxHeartbeats 8000000 in
set_option maxRecDepth 100000 in
theorem runShow_ok (w : World) (d : Dk) (a : At) (q : List Nat) (s : ByteArray) (F : Value) (hv : WinV d.rs d.rf d.ri) (hq : Prm q) (hi : invP q = q) (hp : d.pl = pT q) (hz : d.wi.size ≤ 3) (hwn : tl d.wi ≠ []) (hbk : d.bk.length = 0) (ho : Own d a w) :
    Calls Tryz.prog 133 #[dkV d a, .string s, F] w (Answered d (mk (showT d.rs d.rf d.ri q d.wi)) w) := by
  have hb := bel_two (w := w) (.cells (dkC d a) 54) (.cells #[.slice none 0 0, .string ⟨#[]⟩, .string ⟨#[]⟩, .string ⟨#[]⟩, .string ⟨#[]⟩, .slice none 0 0] 54)
  have hdk := heap_alloc_new (w.alloc (.cells (dkC d a) 54)) (.cells #[.slice none 0 0, .string ⟨#[]⟩, .string ⟨#[]⟩, .string ⟨#[]⟩, .string ⟨#[]⟩, .slice none 0 0] 54)
  rw [szalloc] at hdk
  have hpa : ((w.alloc (.cells (dkC d a) 54)).alloc (.cells #[.slice none 0 0, .string ⟨#[]⟩, .string ⟨#[]⟩, .string ⟨#[]⟩, .string ⟨#[]⟩, .slice none 0 0] 54)).heap[w.heap.size]? = some (.cells (dkC d a) 54 (0, 0)) := block_below (heap_alloc_new w _) ((Below.refl _ _).alloc (Nat.le_refl _) _)
  obtain ⟨w1, hw1⟩ : ∃ w1, w1 = (w.alloc (.cells (dkC d a) 54)).alloc (.cells #[.slice none 0 0, .string ⟨#[]⟩, .string ⟨#[]⟩, .string ⟨#[]⟩, .string ⟨#[]⟩, .slice none 0 0] 54) := ⟨_, rfl⟩
  rw [← hw1] at hb hdk hpa
  have ho1 := ho.below hb
  have hfb := formatBook_none w1 a.Ab a.cb d.bk.length hbk
  have hfm := fun (w' : World) (h' : Own d a w') => formatMachine_yes w' a.Ar a.cr d.rs d.rf d.ri q (own_rd3' h'.r) (own_le3 h'.r) hv hq hi
  have zm := @machT_len d.rs d.rf d.ri q hv
  have zw : (mk (machT d.rs d.rf d.ri q)).size ≤ 110 := by rw [size_mk]; exact zm
  have hend := showT_is d.rs d.rf d.ri q d.wi
  obtain ⟨R, hR⟩ : ∃ R, R = mk (showT d.rs d.rf d.ri q d.wi) := ⟨_, rfl⟩
  rw [← hR] at hend ⊢
  generalize mk (machT d.rs d.rf d.ri q) = T1 at hfm zw hend
  rw [← hp] at hfm
  have hqe : d.wi.toList.isEmpty = false := by rw [List.isEmpty_eq_false_iff, toList_tl]; exact hwn
  have HB := Lib.hid hb; have HDK := Lib.hid hdk; have HPA := Lib.hid hpa; have HO := Lib.hid ho1; have HFB := Lib.hid hfb; have HFM := Lib.hid hfm; have HEND := Lib.hid hend
  obtain ⟨k0, k1, k2, k3, k4, k5⟩ := row_six hpa
  clear hb hdk hpa ho1 hfb hfm hend hR hv hq hi hp hbk ho zm hwn
  go_enter Tryz.func133, Tryz.ntmps133
  go_wp2_with fail
  rw [← hw1]
  clear hw1
  go_wp2_with fail
  refine HFB.out.mono ?_
  rintro _ w2 ⟨rfl, hb2⟩
  have HDK2 := Lib.hid (block_below HDK.out hb2); have HPA2 := Lib.hid (block_below HPA.out hb2); have HB2 := Lib.hid (HB.out.trans (hb2.mono HB.out.size)); have HO2 := Lib.hid (HO.out.below hb2)
  obtain ⟨r0, r1, r2, r3, r4, r5⟩ := row_six HPA2.out
  clear hb2 HB HDK HPA HO HFB k0 k1 k2 k3 k4 k5
  have hdw := HDK2.out
  have hbd : Below w2.heap.size w2 w2.drew := (Below.refl _ _).drew
  have f0 := frozen_cells hdw 0; have f1 := frozen_cells hdw 1; have f2 := frozen_cells hdw 2; have f3 := frozen_cells hdw 3; have f4 := frozen_cells hdw 4; have f5 := frozen_cells hdw 5
  have hcw := HFM.out w2.drew (HO2.out.below hbd)
  have HCW := Lib.hid hcw
  have y1 : ¬ 9223372036854775807 < 8 + T1.size := by omega
  have y2 : ¬ 9223372036854775807 < 8 + T1.size + 9 := by omega
  have y3 : ¬ 9223372036854775807 < 8 + T1.size + 9 + d.wi.size := by omega
  have y4 : ¬ 9223372036854775807 < 8 + T1.size + 9 + d.wi.size + 1 := by omega
  have y5 : ¬ 9223372036854775807 < 8 + T1.size + 9 + d.wi.size + 1 + 6 := by omega
  clear hdw hcw hbd
  go_wp2_with fail
  go_region_law (first | (go_simp; go_at_call 15; refine HCW.out.mono ?_; rintro _ w4 ⟨rfl, hb4⟩; have hb4' : Below w2.heap.size w2 w4 := below_of_drew hb4; have HB4 := Lib.hid hb4'; have hpa4 := block_below HPA2.out hb4'; obtain ⟨s0, s1, s2, s3, s4, s5⟩ := row_six hpa4; have hdk4 := block_below HDK2.out hb4'; have HDK4 := Lib.hid hdk4; have e0 := frozen_cells hdk4 0; have e1 := frozen_cells hdk4 1; have e2 := frozen_cells hdk4 2; have e3 := frozen_cells hdk4 3; have e4 := frozen_cells hdk4 4; have e5 := frozen_cells hdk4 5; obtain ⟨z0, z1, z2, z3, z4, z5⟩ := row_six hdk4; clear hb4 hb4' hpa4 hdk4) | fail)
  all_goals
    have HBF := Lib.hid (HB2.out.trans (HB4.out.mono HB2.out.size))
    have HO4 := Lib.hid (HO2.out.below HB4.out)
    clear r0 r1 r2 r3 r4 r5 f0 f1 f2 f3 f4 f5
    go_wp2_with fail
    rw [HEND.out]
    refine bodyPost_ret (v := .tuple #[dkV d a, .string R]) (by simp [results, Tryz.results133, go_sem, z0, z1, z2, z3, z4, z5]) rfl ⟨a, rfl, ⟨?_, ?_⟩, ?_⟩
    · exact World.ownsRow.kept HO4.out.r (only_six _ (w.heap.size + 1) _ _ _ _ _ _) (own_ne HO4.out.r HDK4.out (by decide))
    · exact World.ownsRow.kept HO4.out.b (only_six _ (w.heap.size + 1) _ _ _ _ _ _) (own_ne HO4.out.b HDK4.out (by decide))
    · exact bel_six HBF.out (by omega) _ _ _ _ _ _

end Go.Proofs.YtoakpacpkkmgnaaGreatDoor
