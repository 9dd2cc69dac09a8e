/-
  What parsers and the functions of commands answer at wrong texts. Conditions: what each theorem names.
-/
import Derived.Test.YtoakpacpkkmgnaaGreatDoorRunMac
import Derived.Test.YtoakpacpkkmgnaaGreatDoorNumb
import Derived.Test.YtoakpacpkkmgnaaGreatDoorIndex
namespace Go.Proofs.YtoakpacpkkmgnaaGreatDoor
open Go.RowKit Pl
set_option linter.unusedVariables false

set_option maxHeartbeats 4000000 in
set_option maxRecDepth 100000 in
theorem settingValid_no (w : World) (A : Option Addr) (cap : Nat) (rs : List (ByteArray × ByteArray)) (p g o : ByteArray) (q : List Nat) (h : Rd w w.heap.size A (rotV rs)) (hc : rs.length ≤ cap) (hv : WinV rs p g) (hq : Prm q) (hi : invP q = q) (hoz : o.size ≤ 1000) (hn : o.size ≠ g.size ∨ wv (tl o) = false) :
    Calls Tryz.prog 40 #[.agg #[.slice A rs.length cap, .string p, .string g, .string (pT q)], .string o] w fun e w' => e = .returned (.bool false) ∧ Below w.heap.size w w' := by
  have hl : rs.length ≤ 100 := by have := hv.1.2.1; omega
  obtain ⟨w0, hw0⟩ : ∃ w0, w0 = w.alloc (.cells #[.slice A rs.length cap, .string p, .string g, .string (pT q)] 27) := ⟨_, rfl⟩
  have hb0 : Below w.heap.size w w0 := by rw [hw0]; exact (Below.refl _ _).alloc (Nat.le_refl _) _
  have hs0 := SB.made w #[.slice A rs.length cap, .string p, .string g, .string (pT q)] 27
  rw [← hw0] at hs0
  have h0 := (h.below hb0).mono hb0.size
  obtain ⟨M, hM⟩ : ∃ M, M = rs.length := ⟨_, rfl⟩
  have hcon := machineValid_any w0 A cap rs p g (pT q) true h0 hc hl (Iff.intro (fun _ => ⟨hv, q, hq, hi, rfl⟩) (fun _ => rfl))
  generalize pT q = l at hw0 hs0 hcon ⊢
  have HB0 := Lib.hid hb0; have HCON := Lib.hid hcon
  rw [← hM] at hw0 HCON hs0 ⊢
  obtain ⟨P, hP⟩ : ∃ P, P = w.heap.size := ⟨_, rfl⟩
  rw [← hP] at hs0
  have HS0 := Lib.hid hs0
  obtain ⟨⟨c0, c1, c2, c3⟩, _⟩ := hs0.all4
  clear h h0 hb0 hcon hM hc hl hq hi hv hs0
  go_enter Tryz.func40, Tryz.ntmps40
  go_wp2_with fail
  rw [← hw0]
  rw [← hP]
  clear hw0 hP
  go_wp2_with fail
  refine HCON.out.mono ?_
  rintro _ w1 ⟨rfl, hb1⟩
  have HB1 := Lib.hid (HB0.out.trans (hb1.mono HB0.out.size))
  obtain ⟨⟨d0, d1, d2, d3⟩, _⟩ := (HS0.out.below hb1).all4
  clear hb1 HB0 HS0 c0 c1 c2 c3 HCON
  by_cases hz : o.size = g.size
  · have hze : (((o.size : Nat) : Int) == ((g.size : Nat) : Int)) = true := by simp; omega
    have hwo : wv (tl o) = false := hn.resolve_left (fun e => e hz)
    have HWO := Lib.hid hwo
    clear hn hwo hz
    go_wp2_with fail
    refine (wordValid_is _ false _ HWO.out).mono ?_
    rintro _ _ ⟨rfl, rfl⟩
    go_wp2_with fail
    go_ret
    exact ⟨rfl, HB1.out⟩
  · have hze : (((o.size : Nat) : Int) == ((g.size : Nat) : Int)) = false := by rw [beq_eq_false_iff_ne]; omega
    clear hn hz
    go_wp2_with fail
    go_ret
    exact ⟨rfl, HB1.out⟩

set_option maxHeartbeats 4000000 in
set_option maxRecDepth 100000 in
theorem runWindows_no (w : World) (d : Dk) (a : At) (q : List Nat) (o : ByteArray) (F : Value) (hv : WinV d.rs d.rf d.ri) (hq : Prm q) (hi : invP q = q) (hp : d.pl = pT q) (hoz : o.size ≤ 1000) (hn : o.size ≠ d.ri.size ∨ wv (tl o) = false) (ho : Own d a w) :
    Calls Tryz.prog 105 #[dkV d a, .string o, F] w (Answered d (mk [119, 104, 97, 116]) w) := by
  have hb := bel_two (w := w) (.cells (dkC d a) 54) (.cells #[.slice none 0 0, .string ⟨#[]⟩, .string ⟨#[]⟩, .string ⟨#[]⟩, .string ⟨#[]⟩, .slice none 0 0] 54)
  have hdk := heap_alloc_new (w.alloc (.cells (dkC d a) 54)) (.cells #[.slice none 0 0, .string ⟨#[]⟩, .string ⟨#[]⟩, .string ⟨#[]⟩, .string ⟨#[]⟩, .slice none 0 0] 54)
  rw [szalloc] at hdk
  have hpa : ((w.alloc (.cells (dkC d a) 54)).alloc (.cells #[.slice none 0 0, .string ⟨#[]⟩, .string ⟨#[]⟩, .string ⟨#[]⟩, .string ⟨#[]⟩, .slice none 0 0] 54)).heap[w.heap.size]? = some (.cells (dkC d a) 54 (0, 0)) := block_below (heap_alloc_new w _) ((Below.refl _ _).alloc (Nat.le_refl _) _)
  obtain ⟨w1, hw1⟩ : ∃ w1, w1 = (w.alloc (.cells (dkC d a) 54)).alloc (.cells #[.slice none 0 0, .string ⟨#[]⟩, .string ⟨#[]⟩, .string ⟨#[]⟩, .string ⟨#[]⟩, .slice none 0 0] 54) := ⟨_, rfl⟩
  rw [← hw1] at hb hdk hpa
  have ho1 := ho.below hb
  have hrd : Rd w1 w1.heap.size a.Ar (rotV d.rs) := own_rd3' ho1.r
  have hcp : d.rs.length ≤ a.cr := own_le3 ho1.r
  have hset := settingValid_no w1 a.Ar a.cr d.rs d.rf d.ri o q hrd hcp hv hq hi hoz hn
  rw [← hp] at hset
  have HB := Lib.hid hb; have HDK := Lib.hid hdk; have HPA := Lib.hid hpa; have HO := Lib.hid ho1; have HSET := Lib.hid hset
  obtain ⟨k0, k1, k2, k3, k4, k5⟩ := row_six hpa
  clear hb hdk hpa ho1 hset hrd hcp hv hq hi hp hn hoz ho
  go_enter Tryz.func105, Tryz.ntmps105
  go_wp2_with fail
  rw [← hw1]
  clear hw1
  go_wp2_with fail
  refine HSET.out.mono ?_
  rintro _ w2 ⟨rfl, hb2⟩
  have HDK2 := Lib.hid (block_below HDK.out hb2); have HPA2 := Lib.hid (block_below HPA.out hb2); have HB2 := Lib.hid (HB.out.trans (hb2.mono HB.out.size)); have HO2 := Lib.hid (HO.out.below hb2)
  obtain ⟨r0, r1, r2, r3, r4, r5⟩ := row_six HPA2.out
  have hdw := HDK2.out
  obtain ⟨z0, z1, z2, z3, z4, z5⟩ := row_six hdw
  have f0 := frozen_cells hdw 0; have f1 := frozen_cells hdw 1; have f2 := frozen_cells hdw 2; have f3 := frozen_cells hdw 3; have f4' := frozen_cells hdw 4; have f5 := frozen_cells hdw 5
  clear hb2 k0 k1 k2 k3 k4 k5 hdw
  go_wp2_with fail
  refine bodyPost_ret (v := .tuple #[dkV d a, .string (mk [119, 104, 97, 116])]) (by simp [results, Tryz.results105, go_sem, z0, z1, z2, z3, z4, z5]; rfl) rfl ⟨a, rfl, ⟨?_, ?_⟩, ?_⟩
  · exact World.ownsRow.kept HO2.out.r (only_six _ (w.heap.size + 1) _ _ _ _ _ _) (own_ne HO2.out.r HDK2.out (by decide))
  · exact World.ownsRow.kept HO2.out.b (only_six _ (w.heap.size + 1) _ _ _ _ _ _) (own_ne HO2.out.b HDK2.out (by decide))
  · exact bel_six HB2.out (by omega) _ _ _ _ _ _

set_option maxHeartbeats 4000000 in
set_option maxRecDepth 100000 in
theorem readNumber_x (w : World) (hg : GW w) :
    Calls Tryz.prog 163 #[.string (mk [120])] w fun e w' => e = .returned (.tuple #[.int .i64 0, .bool false]) ∧ Below w.heap.size w w' := by
  obtain ⟨s, hs⟩ : ∃ s, s = mk [120] := ⟨_, rfl⟩
  have hz : s.size = 1 := by rw [hs]; rfl
  have htr := fun w' => Tryz.strings_TrimPrefix s (mk [45]) w'
  have hte : (⟨(Lib.trimPrefix s.data.toList (mk [45]).data.toList).toArray⟩ : ByteArray) = s := by rw [hs]; rfl
  rw [hte] at htr
  obtain ⟨ev, he, hev⟩ := hg.es
  have hat := Tryz.strconv_Atoi_err s (by omega) (by rw [hs]; rfl) ev w he hev
  rw [← hs]
  have HT := Lib.hid htr; have HAT := Lib.hid hat
  clear htr hte hat hg he hev hs
  go_enter Tryz.func163, Tryz.ntmps163
  go_wp2_with fail
  refine (HT.out w).mono ?_
  rintro _ w0 ⟨rfl, hw0⟩
  rw [hw0]
  clear hw0
  go_wp2_with fail
  refine HAT.out.mono ?_
  rintro _ w1 ⟨N, rfl, _, _, hb1⟩
  go_wp2_with fail
  go_ret2
  exact ⟨rfl, hb1⟩

set_option maxHeartbeats 4000000 in
set_option maxRecDepth 100000 in
theorem stepMany_far (w : World) (A : Option Addr) (cap : Nat) (rs : List (ByteArray × ByteArray)) (p o : ByteArray) (h : Rd w w.heap.size A (rotV rs)) (hc : rs.length ≤ cap) (hv : WinV rs p o) :
    Calls Tryz.prog 8 #[.agg #[.slice A rs.length cap, .string p], .string o, .int .i64 2001] w fun e w' => e = .returned (.tuple #[.string ⟨#[]⟩, .bool false]) ∧ Below w.heap.size w w' := by
  obtain ⟨w0, hw0⟩ : ∃ w0, w0 = w.alloc (.cells #[.slice A rs.length cap, .string p] 25) := ⟨_, rfl⟩
  have hb0 : Below w.heap.size w w0 := by rw [hw0]; exact (Below.refl _ _).alloc (Nat.le_refl _) _
  have h01 : w0.cell? ⟨w.heap.size, 0, none⟩ = some (.slice A rs.length cap) ∧ w0.cell? ⟨w.heap.size, 1, none⟩ = some (.string p) := by rw [hw0]; exact ⟨by simp, by simp⟩
  have hcon := windowsValid_any w0 A cap rs p o true ((h.below hb0).mono hb0.size) hc (by have := hv.1.2.1; omega) (Iff.intro (fun _ => hv) (fun _ => rfl))
  obtain ⟨M, hM⟩ : ∃ M, M = rs.length := ⟨_, rfl⟩
  rw [← hM] at hw0 hcon h01 ⊢
  have HB0 := Lib.hid hb0; have HCON := Lib.hid hcon
  obtain ⟨P, hP⟩ : ∃ P, P = w.heap.size := ⟨_, rfl⟩
  rw [← hP] at h01
  obtain ⟨c0, c1⟩ := h01
  clear h hb0 hcon hM hc hv
  go_enter Tryz.func8, Tryz.ntmps8
  go_wp2_with fail
  rw [← hw0]
  rw [← hP]
  clear hw0 hP
  go_wp2_with fail
  refine HCON.out.mono ?_
  rintro _ w1 ⟨rfl, hb1⟩
  have HB1 := Lib.hid (HB0.out.trans (hb1.mono HB0.out.size))
  clear hb1 c0 c1
  go_wp2_with fail
  go_ret2
  exact ⟨rfl, HB1.out⟩

set_option maxHeartbeats 4000000 in
set_option maxRecDepth 100000 in
theorem stepMany_zero (w : World) (A : Option Addr) (cap : Nat) (rs : List (ByteArray × ByteArray)) (p o : ByteArray) (h : Rd w w.heap.size A (rotV rs)) (hc : rs.length ≤ cap) (hv : WinV rs p o) :
    Calls Tryz.prog 8 #[.agg #[.slice A rs.length cap, .string p], .string o, .int .i64 0] w fun e w' => e = .returned (.tuple #[.string o, .bool true]) ∧ Below w.heap.size w w' := by
  obtain ⟨w0, hw0⟩ : ∃ w0, w0 = w.alloc (.cells #[.slice A rs.length cap, .string p] 25) := ⟨_, rfl⟩
  have hb0 : Below w.heap.size w w0 := by rw [hw0]; exact (Below.refl _ _).alloc (Nat.le_refl _) _
  have h01 : w0.cell? ⟨w.heap.size, 0, none⟩ = some (.slice A rs.length cap) ∧ w0.cell? ⟨w.heap.size, 1, none⟩ = some (.string p) := by rw [hw0]; exact ⟨by simp, by simp⟩
  have hcon := windowsValid_any w0 A cap rs p o true ((h.below hb0).mono hb0.size) hc (by have := hv.1.2.1; omega) (Iff.intro (fun _ => hv) (fun _ => rfl))
  obtain ⟨M, hM⟩ : ∃ M, M = rs.length := ⟨_, rfl⟩
  rw [← hM] at hw0 hcon h01 ⊢
  have HB0 := Lib.hid hb0; have HCON := Lib.hid hcon
  obtain ⟨P, hP⟩ : ∃ P, P = w.heap.size := ⟨_, rfl⟩
  rw [← hP] at h01
  obtain ⟨c0, c1⟩ := h01
  clear h hb0 hcon hM hc hv
  go_enter Tryz.func8, Tryz.ntmps8
  go_wp2_with fail
  rw [← hw0]
  rw [← hP]
  clear hw0 hP
  go_wp2_with fail
  refine HCON.out.mono ?_
  rintro _ w1 ⟨rfl, hb1⟩
  have HB1 := Lib.hid (HB0.out.trans (hb1.mono HB0.out.size))
  clear hb1 c0 c1
  go_wp2_with fail
  go_loopw [1, 21] (fun o' i wr => o' = .string o ∧ i = .int .i64 0 ∧ Hid (Below w.heap.size w wr)) (fun _ _ _ => 0)
  case atStart => exact ⟨rfl, rfl, HB1⟩
  case round =>
    obtain ⟨rfl, rfl, HBL⟩ := hrel
    clear HB1
    go_wp2_with fail
    go_ret2
    exact ⟨rfl, HBL.out⟩

set_option maxHeartbeats 4000000 in
set_option maxRecDepth 100000 in
theorem runStep_no (w : World) (hg : GW w) (d : Dk) (a : At) (R : ByteArray) (F : Value) (n : Int) (s : ByteArray) (one two : Bool) (hrn : ∀ w', GW w' → Calls Tryz.prog 163 #[.string R] w' fun e w'' => e = .returned (.tuple #[.int .i64 n, .bool one]) ∧ Below w'.heap.size w' w'') (hsm : ∀ (w' : World) (A : Option Addr) (cap : Nat), Rd w' w'.heap.size A (rotV d.rs) → d.rs.length ≤ cap → Calls Tryz.prog 8 #[.agg #[.slice A d.rs.length cap, .string d.rf], .string d.wi, .int .i64 n] w' fun e w'' => e = .returned (.tuple #[.string s, .bool two]) ∧ Below w'.heap.size w' w'') (hno : one = false ∨ one = true ∧ two = false) (ho : Own d a w) :
    Calls Tryz.prog 107 #[dkV d a, .string R, F] w (Answered d (mk [119, 104, 97, 116]) w) := by
  have hb := bel_two (w := w) (.cells (dkC d a) 54) (.cells #[.slice none 0 0, .string ⟨#[]⟩, .string ⟨#[]⟩, .string ⟨#[]⟩, .string ⟨#[]⟩, .slice none 0 0] 54)
  have hdk := heap_alloc_new (w.alloc (.cells (dkC d a) 54)) (.cells #[.slice none 0 0, .string ⟨#[]⟩, .string ⟨#[]⟩, .string ⟨#[]⟩, .string ⟨#[]⟩, .slice none 0 0] 54)
  rw [szalloc] at hdk
  have hpa : ((w.alloc (.cells (dkC d a) 54)).alloc (.cells #[.slice none 0 0, .string ⟨#[]⟩, .string ⟨#[]⟩, .string ⟨#[]⟩, .string ⟨#[]⟩, .slice none 0 0] 54)).heap[w.heap.size]? = some (.cells (dkC d a) 54 (0, 0)) := block_below (heap_alloc_new w _) ((Below.refl _ _).alloc (Nat.le_refl _) _)
  obtain ⟨w1, hw1⟩ : ∃ w1, w1 = ((w.alloc (.cells (dkC d a) 54)).alloc (.cells #[.slice none 0 0, .string ⟨#[]⟩, .string ⟨#[]⟩, .string ⟨#[]⟩, .string ⟨#[]⟩, .slice none 0 0] 54)) := ⟨_, rfl⟩
  rw [← hw1] at hb hdk hpa
  have ho1 := ho.below hb
  have HG := Lib.hid (hg.below hb (Nat.le_refl _)); have HB := Lib.hid hb; have HDK := Lib.hid hdk; have HPA := Lib.hid hpa; have HO := Lib.hid ho1
  obtain ⟨k0, k1, k2, k3, k4, k5⟩ := row_six hpa
  clear hb hdk hpa ho1 ho hg
  have HRN := Lib.hid hrn; have HSM := Lib.hid hsm; have HNO := Lib.hid hno
  clear hrn hsm hno
  go_enter Tryz.func107, Tryz.ntmps107
  go_wp2_with fail
  rw [← hw1]
  clear hw1
  go_wp2_with fail
  refine (HRN.out w1 HG.out).mono ?_
  rintro _ w2 ⟨rfl, hb⟩
  have HDK2 := Lib.hid (block_below HDK.out hb); have HPA2 := Lib.hid (block_below HPA.out hb); have HB2 := Lib.hid (HB.out.trans (hb.mono HB.out.size)); have HO2 := Lib.hid (HO.out.below hb); have HG2 := Lib.hid (HG.out.below hb (Nat.le_refl _))
  obtain ⟨r0, r1, r2, r3, r4, r5⟩ := row_six HPA2.out
  clear hb k0 k1 k2 k3 k4 k5
  go_wp2_with fail
  refine (HSM.out w2 a.Ar a.cr (own_rd3' HO2.out.r) (own_le3 HO2.out.r)).mono ?_
  rintro _ w3 ⟨rfl, hb⟩
  clear r0 r1 r2 r3 r4 r5
  have HDK3 := Lib.hid (block_below HDK2.out hb); have HPA3 := Lib.hid (block_below HPA2.out hb); have HB3 := Lib.hid (HB2.out.trans (hb.mono HB2.out.size)); have HO3 := Lib.hid (HO2.out.below hb); have HG3 := Lib.hid (HG2.out.below hb (Nat.le_refl _))
  obtain ⟨r0, r1, r2, r3, r4, r5⟩ := row_six HPA3.out
  rcases HNO.out with rfl | ⟨rfl, rfl⟩
  all_goals
    have hdw := HDK3.out
    obtain ⟨z0, z1, z2, z3, z4, z5⟩ := row_six hdw
    have f0 := frozen_cells hdw 0; have f1 := frozen_cells hdw 1; have f2 := frozen_cells hdw 2; have f3 := frozen_cells hdw 3; have f4' := frozen_cells hdw 4; have f5 := frozen_cells hdw 5
    clear hb hdw
    go_wp2_with fail
    refine bodyPost_ret (v := .tuple #[dkV d a, .string (mk [119, 104, 97, 116])]) (by simp [results, Tryz.results107, go_sem, z0, z1, z2, z3, z4, z5]; rfl) rfl ⟨a, rfl, ⟨?_, ?_⟩, ?_⟩
    · exact World.ownsRow.kept HO3.out.r (only_six _ (w.heap.size + 1) _ _ _ _ _ _) (own_ne HO3.out.r HDK3.out (by decide))
    · exact World.ownsRow.kept HO3.out.b (only_six _ (w.heap.size + 1) _ _ _ _ _ _) (own_ne HO3.out.b HDK3.out (by decide))
    · exact bel_six HB3.out (by omega) _ _ _ _ _ _

set_option maxHeartbeats 4000000 in
set_option maxRecDepth 100000 in
theorem runMachine_no (w : World) (hg : GW w) (d : Dk) (a : At) (R : ByteArray) (F : Value) (hrn : ∀ w', GW w' → Calls Tryz.prog 160 #[.string R] w' fun e w'' => e = .returned (.tuple #[.agg #[.slice none 0 0, .string ⟨#[]⟩, .string ⟨#[]⟩, .string ⟨#[]⟩], .bool false]) ∧ Below w'.heap.size w' w'') (ho : Own d a w) :
    Calls Tryz.prog 104 #[dkV d a, .string R, F] w (Answered d (mk [119, 104, 97, 116]) w) := by
  have hb := bel_two (w := w) (.cells (dkC d a) 54) (.cells #[.slice none 0 0, .string ⟨#[]⟩, .string ⟨#[]⟩, .string ⟨#[]⟩, .string ⟨#[]⟩, .slice none 0 0] 54)
  have hdk := heap_alloc_new (w.alloc (.cells (dkC d a) 54)) (.cells #[.slice none 0 0, .string ⟨#[]⟩, .string ⟨#[]⟩, .string ⟨#[]⟩, .string ⟨#[]⟩, .slice none 0 0] 54)
  rw [szalloc] at hdk
  have hpa : ((w.alloc (.cells (dkC d a) 54)).alloc (.cells #[.slice none 0 0, .string ⟨#[]⟩, .string ⟨#[]⟩, .string ⟨#[]⟩, .string ⟨#[]⟩, .slice none 0 0] 54)).heap[w.heap.size]? = some (.cells (dkC d a) 54 (0, 0)) := block_below (heap_alloc_new w _) ((Below.refl _ _).alloc (Nat.le_refl _) _)
  obtain ⟨w1, hw1⟩ : ∃ w1, w1 = ((w.alloc (.cells (dkC d a) 54)).alloc (.cells #[.slice none 0 0, .string ⟨#[]⟩, .string ⟨#[]⟩, .string ⟨#[]⟩, .string ⟨#[]⟩, .slice none 0 0] 54)) := ⟨_, rfl⟩
  rw [← hw1] at hb hdk hpa
  have ho1 := ho.below hb
  have HG := Lib.hid (hg.below hb (Nat.le_refl _)); have HB := Lib.hid hb; have HDK := Lib.hid hdk; have HPA := Lib.hid hpa; have HO := Lib.hid ho1
  obtain ⟨k0, k1, k2, k3, k4, k5⟩ := row_six hpa
  clear hb hdk hpa ho1 ho hg
  have HRN := Lib.hid hrn
  clear hrn
  go_enter Tryz.func104, Tryz.ntmps104
  go_wp2_with fail
  rw [← hw1]
  clear hw1
  go_wp2_with fail
  refine (HRN.out w1 HG.out).mono ?_
  rintro _ w2 ⟨rfl, hb0⟩
  have hb := hb0.alloc hb0.size (.cells #[.slice none 0 0, .string ⟨#[]⟩, .string ⟨#[]⟩, .string ⟨#[]⟩] 27)
  have HDK2 := Lib.hid (block_below HDK.out hb); have HPA2 := Lib.hid (block_below HPA.out hb); have HB2 := Lib.hid (HB.out.trans (hb.mono HB.out.size)); have HO2 := Lib.hid (HO.out.below hb); have HG2 := Lib.hid (HG.out.below hb (Nat.le_refl _))
  obtain ⟨r0, r1, r2, r3, r4, r5⟩ := row_six HPA2.out
  clear hb0 k0 k1 k2 k3 k4 k5
  have hdw := HDK2.out
  obtain ⟨z0, z1, z2, z3, z4, z5⟩ := row_six hdw
  have f0 := frozen_cells hdw 0; have f1 := frozen_cells hdw 1; have f2 := frozen_cells hdw 2; have f3 := frozen_cells hdw 3; have f4' := frozen_cells hdw 4; have f5 := frozen_cells hdw 5
  clear hb hdw
  go_wp2_with fail
  refine bodyPost_ret (v := .tuple #[dkV d a, .string (mk [119, 104, 97, 116])]) (by simp [results, Tryz.results104, go_sem, z0, z1, z2, z3, z4, z5]; rfl) rfl ⟨a, rfl, ⟨?_, ?_⟩, ?_⟩
  · exact World.ownsRow.kept HO2.out.r (only_six _ (w.heap.size + 1) _ _ _ _ _ _) (own_ne HO2.out.r HDK2.out (by decide))
  · exact World.ownsRow.kept HO2.out.b (only_six _ (w.heap.size + 1) _ _ _ _ _ _) (own_ne HO2.out.b HDK2.out (by decide))
  · exact bel_six HB2.out (by omega) _ _ _ _ _ _

set_option maxHeartbeats 4000000 in
set_option maxRecDepth 100000 in
theorem runPlugs_no (w : World) (hg : GW w) (d : Dk) (a : At) (R : ByteArray) (F : Value) (hrn : ∀ w', GW w' → Calls Tryz.prog 162 #[.string R] w' fun e w'' => e = .returned (.tuple #[.string ⟨#[]⟩, .bool false]) ∧ Below w'.heap.size w' w'') (ho : Own d a w) :
    Calls Tryz.prog 106 #[dkV d a, .string R, F] w (Answered d (mk [119, 104, 97, 116]) w) := by
  have hb := bel_two (w := w) (.cells (dkC d a) 54) (.cells #[.slice none 0 0, .string ⟨#[]⟩, .string ⟨#[]⟩, .string ⟨#[]⟩, .string ⟨#[]⟩, .slice none 0 0] 54)
  have hdk := heap_alloc_new (w.alloc (.cells (dkC d a) 54)) (.cells #[.slice none 0 0, .string ⟨#[]⟩, .string ⟨#[]⟩, .string ⟨#[]⟩, .string ⟨#[]⟩, .slice none 0 0] 54)
  rw [szalloc] at hdk
  have hpa : ((w.alloc (.cells (dkC d a) 54)).alloc (.cells #[.slice none 0 0, .string ⟨#[]⟩, .string ⟨#[]⟩, .string ⟨#[]⟩, .string ⟨#[]⟩, .slice none 0 0] 54)).heap[w.heap.size]? = some (.cells (dkC d a) 54 (0, 0)) := block_below (heap_alloc_new w _) ((Below.refl _ _).alloc (Nat.le_refl _) _)
  obtain ⟨w1, hw1⟩ : ∃ w1, w1 = ((w.alloc (.cells (dkC d a) 54)).alloc (.cells #[.slice none 0 0, .string ⟨#[]⟩, .string ⟨#[]⟩, .string ⟨#[]⟩, .string ⟨#[]⟩, .slice none 0 0] 54)) := ⟨_, rfl⟩
  rw [← hw1] at hb hdk hpa
  have ho1 := ho.below hb
  have HG := Lib.hid (hg.below hb (Nat.le_refl _)); have HB := Lib.hid hb; have HDK := Lib.hid hdk; have HPA := Lib.hid hpa; have HO := Lib.hid ho1
  obtain ⟨k0, k1, k2, k3, k4, k5⟩ := row_six hpa
  clear hb hdk hpa ho1 ho hg
  have HRN := Lib.hid hrn
  clear hrn
  go_enter Tryz.func106, Tryz.ntmps106
  go_wp2_with fail
  rw [← hw1]
  clear hw1
  go_wp2_with fail
  refine (HRN.out w1 HG.out).mono ?_
  rintro _ w2 ⟨rfl, hb⟩
  have HDK2 := Lib.hid (block_below HDK.out hb); have HPA2 := Lib.hid (block_below HPA.out hb); have HB2 := Lib.hid (HB.out.trans (hb.mono HB.out.size)); have HO2 := Lib.hid (HO.out.below hb); have HG2 := Lib.hid (HG.out.below hb (Nat.le_refl _))
  obtain ⟨r0, r1, r2, r3, r4, r5⟩ := row_six HPA2.out
  clear k0 k1 k2 k3 k4 k5
  have hdw := HDK2.out
  obtain ⟨z0, z1, z2, z3, z4, z5⟩ := row_six hdw
  have f0 := frozen_cells hdw 0; have f1 := frozen_cells hdw 1; have f2 := frozen_cells hdw 2; have f3 := frozen_cells hdw 3; have f4' := frozen_cells hdw 4; have f5 := frozen_cells hdw 5
  clear hb hdw
  go_wp2_with fail
  refine bodyPost_ret (v := .tuple #[dkV d a, .string (mk [119, 104, 97, 116])]) (by simp [results, Tryz.results106, go_sem, z0, z1, z2, z3, z4, z5]; rfl) rfl ⟨a, rfl, ⟨?_, ?_⟩, ?_⟩
  · exact World.ownsRow.kept HO2.out.r (only_six _ (w.heap.size + 1) _ _ _ _ _ _) (own_ne HO2.out.r HDK2.out (by decide))
  · exact World.ownsRow.kept HO2.out.b (only_six _ (w.heap.size + 1) _ _ _ _ _ _) (own_ne HO2.out.b HDK2.out (by decide))
  · exact bel_six HB2.out (by omega) _ _ _ _ _ _

set_option maxHeartbeats 4000000 in
set_option maxRecDepth 100000 in
theorem runBook_no (w : World) (hg : GW w) (d : Dk) (a : At) (R : ByteArray) (F : Value) (hrn : ∀ w', GW w' → Calls Tryz.prog 196 #[.string R] w' fun e w'' => e = .returned (.tuple #[.slice none 0 0, .bool false]) ∧ Below w'.heap.size w' w'') (ho : Own d a w) :
    Calls Tryz.prog 130 #[dkV d a, .string R, F] w (Answered d (mk [119, 104, 97, 116]) w) := by
  have hb := bel_two (w := w) (.cells (dkC d a) 54) (.cells #[.slice none 0 0, .string ⟨#[]⟩, .string ⟨#[]⟩, .string ⟨#[]⟩, .string ⟨#[]⟩, .slice none 0 0] 54)
  have hdk := heap_alloc_new (w.alloc (.cells (dkC d a) 54)) (.cells #[.slice none 0 0, .string ⟨#[]⟩, .string ⟨#[]⟩, .string ⟨#[]⟩, .string ⟨#[]⟩, .slice none 0 0] 54)
  rw [szalloc] at hdk
  have hpa : ((w.alloc (.cells (dkC d a) 54)).alloc (.cells #[.slice none 0 0, .string ⟨#[]⟩, .string ⟨#[]⟩, .string ⟨#[]⟩, .string ⟨#[]⟩, .slice none 0 0] 54)).heap[w.heap.size]? = some (.cells (dkC d a) 54 (0, 0)) := block_below (heap_alloc_new w _) ((Below.refl _ _).alloc (Nat.le_refl _) _)
  obtain ⟨w1, hw1⟩ : ∃ w1, w1 = ((w.alloc (.cells (dkC d a) 54)).alloc (.cells #[.slice none 0 0, .string ⟨#[]⟩, .string ⟨#[]⟩, .string ⟨#[]⟩, .string ⟨#[]⟩, .slice none 0 0] 54)) := ⟨_, rfl⟩
  rw [← hw1] at hb hdk hpa
  have ho1 := ho.below hb
  have HG := Lib.hid (hg.below hb (Nat.le_refl _)); have HB := Lib.hid hb; have HDK := Lib.hid hdk; have HPA := Lib.hid hpa; have HO := Lib.hid ho1
  obtain ⟨k0, k1, k2, k3, k4, k5⟩ := row_six hpa
  clear hb hdk hpa ho1 ho hg
  have HRN := Lib.hid hrn
  clear hrn
  go_enter Tryz.func130, Tryz.ntmps130
  go_wp2_with fail
  rw [← hw1]
  clear hw1
  go_wp2_with fail
  refine (HRN.out w1 HG.out).mono ?_
  rintro _ w2 ⟨rfl, hb⟩
  have HDK2 := Lib.hid (block_below HDK.out hb); have HPA2 := Lib.hid (block_below HPA.out hb); have HB2 := Lib.hid (HB.out.trans (hb.mono HB.out.size)); have HO2 := Lib.hid (HO.out.below hb); have HG2 := Lib.hid (HG.out.below hb (Nat.le_refl _))
  obtain ⟨r0, r1, r2, r3, r4, r5⟩ := row_six HPA2.out
  clear k0 k1 k2 k3 k4 k5
  have hdw := HDK2.out
  obtain ⟨z0, z1, z2, z3, z4, z5⟩ := row_six hdw
  have f0 := frozen_cells hdw 0; have f1 := frozen_cells hdw 1; have f2 := frozen_cells hdw 2; have f3 := frozen_cells hdw 3; have f4' := frozen_cells hdw 4; have f5 := frozen_cells hdw 5
  clear hb hdw
  go_wp2_with fail
  refine bodyPost_ret (v := .tuple #[dkV d a, .string (mk [119, 104, 97, 116])]) (by simp [results, Tryz.results130, go_sem, z0, z1, z2, z3, z4, z5]; rfl) rfl ⟨a, rfl, ⟨?_, ?_⟩, ?_⟩
  · exact World.ownsRow.kept HO2.out.r (only_six _ (w.heap.size + 1) _ _ _ _ _ _) (own_ne HO2.out.r HDK2.out (by decide))
  · exact World.ownsRow.kept HO2.out.b (only_six _ (w.heap.size + 1) _ _ _ _ _ _) (own_ne HO2.out.b HDK2.out (by decide))
  · exact bel_six HB2.out (by omega) _ _ _ _ _ _

set_option maxHeartbeats 4000000 in
set_option maxRecDepth 100000 in
theorem runEncipher_no (w : World) (hg : GW w) (d : Dk) (a : At) (R : ByteArray) (F : Value) (hrn : ∀ w', GW w' → Calls Tryz.prog 164 #[.string R] w' fun e w'' => e = .returned (.tuple #[.string R, .bool false]) ∧ Below w'.heap.size w' w'') (ho : Own d a w) :
    Calls Tryz.prog 108 #[dkV d a, .string R, F] w (Answered d (mk [119, 104, 97, 116]) w) := by
  have hb := bel_two (w := w) (.cells (dkC d a) 54) (.cells #[.slice none 0 0, .string ⟨#[]⟩, .string ⟨#[]⟩, .string ⟨#[]⟩, .string ⟨#[]⟩, .slice none 0 0] 54)
  have hdk := heap_alloc_new (w.alloc (.cells (dkC d a) 54)) (.cells #[.slice none 0 0, .string ⟨#[]⟩, .string ⟨#[]⟩, .string ⟨#[]⟩, .string ⟨#[]⟩, .slice none 0 0] 54)
  rw [szalloc] at hdk
  have hpa : ((w.alloc (.cells (dkC d a) 54)).alloc (.cells #[.slice none 0 0, .string ⟨#[]⟩, .string ⟨#[]⟩, .string ⟨#[]⟩, .string ⟨#[]⟩, .slice none 0 0] 54)).heap[w.heap.size]? = some (.cells (dkC d a) 54 (0, 0)) := block_below (heap_alloc_new w _) ((Below.refl _ _).alloc (Nat.le_refl _) _)
  obtain ⟨w1, hw1⟩ : ∃ w1, w1 = ((w.alloc (.cells (dkC d a) 54)).alloc (.cells #[.slice none 0 0, .string ⟨#[]⟩, .string ⟨#[]⟩, .string ⟨#[]⟩, .string ⟨#[]⟩, .slice none 0 0] 54)) := ⟨_, rfl⟩
  rw [← hw1] at hb hdk hpa
  have ho1 := ho.below hb
  have HG := Lib.hid (hg.below hb (Nat.le_refl _)); have HB := Lib.hid hb; have HDK := Lib.hid hdk; have HPA := Lib.hid hpa; have HO := Lib.hid ho1
  obtain ⟨k0, k1, k2, k3, k4, k5⟩ := row_six hpa
  clear hb hdk hpa ho1 ho hg
  have HRN := Lib.hid hrn
  clear hrn
  go_enter Tryz.func108, Tryz.ntmps108
  go_wp2_with fail
  rw [← hw1]
  clear hw1
  go_wp2_with fail
  refine (HRN.out w1 HG.out).mono ?_
  rintro _ w2 ⟨rfl, hb⟩
  have HDK2 := Lib.hid (block_below HDK.out hb); have HPA2 := Lib.hid (block_below HPA.out hb); have HB2 := Lib.hid (HB.out.trans (hb.mono HB.out.size)); have HO2 := Lib.hid (HO.out.below hb); have HG2 := Lib.hid (HG.out.below hb (Nat.le_refl _))
  obtain ⟨r0, r1, r2, r3, r4, r5⟩ := row_six HPA2.out
  clear k0 k1 k2 k3 k4 k5
  have hdw := HDK2.out
  obtain ⟨z0, z1, z2, z3, z4, z5⟩ := row_six hdw
  have f0 := frozen_cells hdw 0; have f1 := frozen_cells hdw 1; have f2 := frozen_cells hdw 2; have f3 := frozen_cells hdw 3; have f4' := frozen_cells hdw 4; have f5 := frozen_cells hdw 5
  clear hb hdw
  go_wp2_with fail
  refine bodyPost_ret (v := .tuple #[dkV d a, .string (mk [119, 104, 97, 116])]) (by simp [results, Tryz.results108, go_sem, z0, z1, z2, z3, z4, z5]; rfl) rfl ⟨a, rfl, ⟨?_, ?_⟩, ?_⟩
  · exact World.ownsRow.kept HO2.out.r (only_six _ (w.heap.size + 1) _ _ _ _ _ _) (own_ne HO2.out.r HDK2.out (by decide))
  · exact World.ownsRow.kept HO2.out.b (only_six _ (w.heap.size + 1) _ _ _ _ _ _) (own_ne HO2.out.b HDK2.out (by decide))
  · exact bel_six HB2.out (by omega) _ _ _ _ _ _

theorem readWord_no (w : World) (R : ByteArray) (h : tl R = [] ∨ (tl R ≠ [] ∧ tl R ≠ [45] ∧ wv (tl R) = false)) :
    Calls Tryz.prog 164 #[.string R] w fun e w' => e = .returned (.tuple #[.string R, .bool false]) ∧ Below w.heap.size w w' := by
  rcases h with h | ⟨h1, h2, h3⟩
  · have hd : (R.toList == [45]) = false := by rw [toList_tl, h]; rfl
    have he : R.toList.isEmpty = true := by rw [toList_tl, h]; rfl
    clear h
    go_enter Tryz.func164, Tryz.ntmps164
    go_wp2_with fail
    go_ret2
    exact ⟨rfl, Below.refl _ _⟩
  · have hd : (R.toList == [45]) = false := by rw [beq_eq_false_iff_ne, toList_tl]; exact h2
    have he : R.toList.isEmpty = false := by rw [List.isEmpty_eq_false_iff, toList_tl]; exact h1
    have HW := Lib.hid h3
    clear h1 h2 h3
    go_enter Tryz.func164, Tryz.ntmps164
    go_wp2_with fail
    refine (wordValid_is _ false _ HW.out).mono ?_
    rintro _ _ ⟨rfl, rfl⟩
    go_wp2_with fail
    go_ret2
    exact ⟨rfl, Below.refl _ _⟩

set_option maxHeartbeats 4000000 in
set_option maxRecDepth 100000 in
theorem newDays_no (w : World) (A : Option Addr) (cap : Nat) (rs : List (ByteArray × ByteArray)) (p : ByteArray) (h : Rd w w.heap.size A (rotV rs)) (hc : rs.length ≤ cap) (hv : WheelsV rs p) :
    Calls Tryz.prog 237 #[.agg #[.slice A rs.length cap, .string p], .int .i64 6] w fun e w' => e = .returned (.tuple #[.agg #[.int .i64 0, .int .i64 0, .int .i64 0], .bool false]) ∧ Below w.heap.size w w' := by
  have hb0 := bel_two (w := w) (.cells #[.slice A rs.length cap, .string p] 25) (.cells #[.int .i64 0, .int .i64 0, .int .i64 0] 214)
  have hr0 := SB.made (w.alloc (.cells #[.slice A rs.length cap, .string p] 25)) #[.int .i64 0, .int .i64 0, .int .i64 0] 214
  have hp0 := (SB.made w #[.slice A rs.length cap, .string p] 25).below ((Below.refl _ _).alloc (Nat.le_refl _) (.cells #[.int .i64 0, .int .i64 0, .int .i64 0] 214))
  rw [szalloc] at hr0
  obtain ⟨w0, hw0⟩ : ∃ w0, w0 = (w.alloc (.cells #[.slice A rs.length cap, .string p] 25)).alloc (.cells #[.int .i64 0, .int .i64 0, .int .i64 0] 214) := ⟨_, rfl⟩
  rw [← hw0] at hb0 hr0 hp0
  have hcon := wheelsValid_any w0 A cap rs p true ((h.below hb0).mono hb0.size) hc (by have := hv.2.1; omega) (Iff.intro (fun _ => hv) (fun _ => rfl))
  obtain ⟨M, hM⟩ : ∃ M, M = rs.length := ⟨_, rfl⟩
  rw [← hM] at hw0 hcon hp0 ⊢
  have HB0 := Lib.hid hb0; have HCON := Lib.hid hcon; have HR0 := Lib.hid hr0
  obtain ⟨c0, c1⟩ := hp0.two_cells
  clear h hb0 hcon hM hc hv hr0 hp0
  go_enter Tryz.func237, Tryz.ntmps237
  go_wp2_with fail
  rw [← hw0]
  clear hw0
  go_wp2_with fail
  refine HCON.out.mono ?_
  rintro _ w1 ⟨rfl, hb1⟩
  have hr1 := HR0.out.below hb1
  have HB1 := Lib.hid (HB0.out.trans (hb1.mono HB0.out.size))
  have z0 := hr1.cell 0 _ rfl; have z1 := hr1.cell 1 _ rfl; have z2 := hr1.cell 2 _ rfl
  have f0 := hr1.frozen 0; have f1 := hr1.frozen 1; have f2 := hr1.frozen 2
  clear hb1 hr1 c0 c1
  go_wp2_with fail
  refine bodyPost_ret (v := .tuple #[.agg #[.int .i64 0, .int .i64 0, .int .i64 0], .bool false]) (by simp [results, Tryz.results237, go_sem, z0, z1, z2]; try rfl) rfl ⟨rfl, ?_⟩
  exact ((HB1.out.setCell (Nat.le_succ _) _).setCell (Nat.le_succ _) _).setCell (Nat.le_succ _) _

set_option maxHeartbeats 4000000 in
set_option maxRecDepth 100000 in
theorem dayKey_no (w : World) (A : Option Addr) (cap : Nat) (rs : List (ByteArray × ByteArray)) (p : ByteArray) (h : Rd w w.heap.size A (rotV rs)) (hc : rs.length ≤ cap) (hv : WheelsV rs p) :
    Calls Tryz.prog 176 #[.agg #[.slice A rs.length cap, .string p], .int .i64 6, .int .i64 0] w fun e w' => e = .returned (.tuple #[.agg #[.slice none 0 0, .string ⟨#[]⟩, .string ⟨#[]⟩, .string ⟨#[]⟩], .string ⟨#[]⟩, .bool false]) ∧ Below w.heap.size w w' := by
  have hb0 := bel_two (w := w) (.cells #[.slice A rs.length cap, .string p] 25) (.cells #[.slice none 0 0, .string ⟨#[]⟩, .string ⟨#[]⟩, .string ⟨#[]⟩] 27)
  have hr0 := SB.made (w.alloc (.cells #[.slice A rs.length cap, .string p] 25)) #[.slice none 0 0, .string ⟨#[]⟩, .string ⟨#[]⟩, .string ⟨#[]⟩] 27
  have hp0 := (SB.made w #[.slice A rs.length cap, .string p] 25).below ((Below.refl _ _).alloc (Nat.le_refl _) (.cells #[.slice none 0 0, .string ⟨#[]⟩, .string ⟨#[]⟩, .string ⟨#[]⟩] 27))
  rw [szalloc] at hr0
  obtain ⟨w0, hw0⟩ : ∃ w0, w0 = (w.alloc (.cells #[.slice A rs.length cap, .string p] 25)).alloc (.cells #[.slice none 0 0, .string ⟨#[]⟩, .string ⟨#[]⟩, .string ⟨#[]⟩] 27) := ⟨_, rfl⟩
  rw [← hw0] at hb0 hr0 hp0
  have hcon := newDays_no w0 A cap rs p ((h.below hb0).mono hb0.size) hc hv
  obtain ⟨M, hM⟩ : ∃ M, M = rs.length := ⟨_, rfl⟩
  rw [← hM] at hw0 hcon hp0 ⊢
  have HB0 := Lib.hid hb0; have HCON := Lib.hid hcon; have HR0 := Lib.hid hr0
  obtain ⟨c0, c1⟩ := hp0.two_cells
  clear h hb0 hcon hM hc hv hr0 hp0
  go_enter Tryz.func176, Tryz.ntmps176
  go_wp2_with fail
  rw [← hw0]
  clear hw0
  go_wp2_with fail
  refine HCON.out.mono ?_
  rintro _ w1 ⟨rfl, hb1⟩
  have hal : Below w1.heap.size w1 (w1.alloc (.cells #[.int .i64 0, .int .i64 0, .int .i64 0] 214)) := (Below.refl _ _).alloc (Nat.le_refl _) _
  have hr1 := (HR0.out.below hb1).below hal
  have HB1 := Lib.hid ((HB0.out.trans (hb1.mono HB0.out.size)).trans (hal.mono (HB0.out.trans (hb1.mono HB0.out.size)).size))
  have z0 := hr1.cell 0 _ rfl; have z1 := hr1.cell 1 _ rfl; have z2 := hr1.cell 2 _ rfl; have z3 := hr1.cell 3 _ rfl
  have f0 := hr1.frozen 0; have f1 := hr1.frozen 1; have f2 := hr1.frozen 2; have f3 := hr1.frozen 3
  clear hb1 hr1 c0 c1
  go_wp2_with fail
  clear hal
  refine bodyPost_ret (v := .tuple #[.agg #[.slice none 0 0, .string ⟨#[]⟩, .string ⟨#[]⟩, .string ⟨#[]⟩], .string ⟨#[]⟩, .bool false]) (by simp [results, Tryz.results176, go_sem, z0, z1, z2, z3]; try rfl) rfl ⟨rfl, ?_⟩
  exact (((HB1.out.setCell (Nat.le_succ _) _).setCell (Nat.le_succ _) _).setCell (Nat.le_succ _) _).setCell (Nat.le_succ _) _

set_option maxHeartbeats 4000000 in
set_option maxRecDepth 100000 in
theorem runDay_no (w : World) (hg : GW w) (d : Dk) (a : At) (B : Nat) (R1 R2 R : ByteArray) (hvw : WheelsV d.rs d.rf) (h6 : ∀ w', GW w' → Calls Tryz.prog 163 #[.string R1] w' fun e w'' => e = .returned (.tuple #[.int .i64 6, .bool true]) ∧ Below w'.heap.size w' w'') (h0 : ∀ w', GW w' → Calls Tryz.prog 163 #[.string R2] w' fun e w'' => e = .returned (.tuple #[.int .i64 0, .bool true]) ∧ Below w'.heap.size w' w'') (hr : Rd w (B + 1) (some ⟨B, 0, none⟩) (strV [R1, R2])) (hB : B + 1 ≤ w.heap.size) (ho : Own d a w) :
    Calls Tryz.prog 115 #[dkV d a, .string R, .slice (some ⟨B, 0, none⟩) 2 2] w (Answered d (mk [119, 104, 97, 116]) w) := by
  have hb := bel_two (w := w) (.cells (dkC d a) 54) (.cells #[.slice none 0 0, .string ⟨#[]⟩, .string ⟨#[]⟩, .string ⟨#[]⟩, .string ⟨#[]⟩, .slice none 0 0] 54)
  have hdk := heap_alloc_new (w.alloc (.cells (dkC d a) 54)) (.cells #[.slice none 0 0, .string ⟨#[]⟩, .string ⟨#[]⟩, .string ⟨#[]⟩, .string ⟨#[]⟩, .slice none 0 0] 54)
  rw [szalloc] at hdk
  have hpa : ((w.alloc (.cells (dkC d a) 54)).alloc (.cells #[.slice none 0 0, .string ⟨#[]⟩, .string ⟨#[]⟩, .string ⟨#[]⟩, .string ⟨#[]⟩, .slice none 0 0] 54)).heap[w.heap.size]? = some (.cells (dkC d a) 54 (0, 0)) := block_below (heap_alloc_new w _) ((Below.refl _ _).alloc (Nat.le_refl _) _)
  obtain ⟨w1, hw1⟩ : ∃ w1, w1 = ((w.alloc (.cells (dkC d a) 54)).alloc (.cells #[.slice none 0 0, .string ⟨#[]⟩, .string ⟨#[]⟩, .string ⟨#[]⟩, .string ⟨#[]⟩, .slice none 0 0] 54)) := ⟨_, rfl⟩
  rw [← hw1] at hb hdk hpa
  have ho1 := ho.below hb
  have HG := Lib.hid (hg.below hb (Nat.le_refl _)); have HB := Lib.hid hb; have HDK := Lib.hid hdk; have HPA := Lib.hid hpa; have HO := Lib.hid ho1
  obtain ⟨k0, k1, k2, k3, k4, k5⟩ := row_six hpa
  have HR := Lib.hid ((hr.mono hB).below hb)
  clear hb hdk hpa ho1 ho hg hr
  have HDN := Lib.hid (fun (w' : World) (A : Option Addr) (cap : Nat) (h' : Rd w' w'.heap.size A (rotV d.rs)) (hc' : d.rs.length ≤ cap) => dayKey_no w' A cap d.rs d.rf h' hc' hvw)
  have H6 := Lib.hid h6; have H0 := Lib.hid h0
  clear h6 h0 hvw
  have q0 : w1.cell? ⟨B, 0, none⟩ = some (.string R1) := by
    obtain ⟨b, off, e, _, c⟩ := HR.out.str (show 0 < [R1, R2].length by simp)
    simp only [Option.some.injEq, Addr.mk.injEq, and_true] at e
    obtain ⟨rfl, rfl⟩ := e
    exact c
  have q1 : w1.cell? ⟨B, 1, none⟩ = some (.string R2) := by
    obtain ⟨b, off, e, _, c⟩ := HR.out.str (show 1 < [R1, R2].length by simp)
    simp only [Option.some.injEq, Addr.mk.injEq, and_true] at e
    obtain ⟨rfl, rfl⟩ := e
    exact c
  have q0r := q0
  rw [hw1] at q0r
  go_enter Tryz.func115, Tryz.ntmps115
  go_wp2_with fail
  rw [← hw1]
  clear hw1 q0r
  go_wp2_with fail
  refine (H6.out w1 HG.out).mono ?_
  rintro _ w2 ⟨rfl, hb⟩
  have HDK2 := Lib.hid (block_below HDK.out hb); have HPA2 := Lib.hid (block_below HPA.out hb); have HB2 := Lib.hid (HB.out.trans (hb.mono HB.out.size)); have HO2 := Lib.hid (HO.out.below hb); have HG2 := Lib.hid (HG.out.below hb (Nat.le_refl _))
  obtain ⟨r0, r1, r2, r3, r4, r5⟩ := row_six HPA2.out
  have p1 := (hb.cell (World.block_lt_of_cell? _ _ q1)).trans q1
  clear hb k0 k1 k2 k3 k4 k5 q0 q1
  go_wp2_with fail
  refine (H0.out w2 HG2.out).mono ?_
  rintro _ w3 ⟨rfl, hb⟩
  clear r0 r1 r2 r3 r4 r5 p1
  have HDK3 := Lib.hid (block_below HDK2.out hb); have HPA3 := Lib.hid (block_below HPA2.out hb); have HB3 := Lib.hid (HB2.out.trans (hb.mono HB2.out.size)); have HO3 := Lib.hid (HO2.out.below hb); have HG3 := Lib.hid (HG2.out.below hb (Nat.le_refl _))
  obtain ⟨r0, r1, r2, r3, r4, r5⟩ := row_six HPA3.out
  clear hb
  go_wp2_with fail
  refine (HDN.out w3 a.Ar a.cr (own_rd3' HO3.out.r) (own_le3 HO3.out.r)).mono ?_
  rintro _ w4 ⟨rfl, hb0⟩
  clear r0 r1 r2 r3 r4 r5
  have hb := hb0.alloc hb0.size (.cells #[.slice none 0 0, .string ⟨#[]⟩, .string ⟨#[]⟩, .string ⟨#[]⟩] 27)
  have HDK4 := Lib.hid (block_below HDK3.out hb); have HPA4 := Lib.hid (block_below HPA3.out hb); have HB4 := Lib.hid (HB3.out.trans (hb.mono HB3.out.size)); have HO4 := Lib.hid (HO3.out.below hb); have HG4 := Lib.hid (HG3.out.below hb (Nat.le_refl _))
  obtain ⟨r0, r1, r2, r3, r4, r5⟩ := row_six HPA4.out
  clear hb0
  have hdw := HDK4.out
  obtain ⟨z0, z1, z2, z3, z4, z5⟩ := row_six hdw
  have f0 := frozen_cells hdw 0; have f1 := frozen_cells hdw 1; have f2 := frozen_cells hdw 2; have f3 := frozen_cells hdw 3; have f4' := frozen_cells hdw 4; have f5 := frozen_cells hdw 5
  clear hb hdw
  go_wp2_with fail
  refine bodyPost_ret (v := .tuple #[dkV d a, .string (mk [119, 104, 97, 116])]) (by simp [results, Tryz.results115, go_sem, z0, z1, z2, z3, z4, z5]; rfl) rfl ⟨a, rfl, ⟨?_, ?_⟩, ?_⟩
  · exact World.ownsRow.kept HO4.out.r (only_six _ (w.heap.size + 1) _ _ _ _ _ _) (own_ne HO4.out.r HDK4.out (by decide))
  · exact World.ownsRow.kept HO4.out.b (only_six _ (w.heap.size + 1) _ _ _ _ _ _) (own_ne HO4.out.b HDK4.out (by decide))
  · exact bel_six HB4.out (by omega) _ _ _ _ _ _

theorem plugT_id : plugT (List.range 10) = [45] := by
  unfold plugT; rw [if_pos (by decide +kernel)]
theorem inv_id : invP (List.range 10) = List.range 10 := by decide +kernel

set_option maxHeartbeats 4000000 in
set_option maxRecDepth 100000 in
theorem parseMachine_x (w : World) (hml : ML w) :
    Calls Tryz.prog 160 #[.string (mk [120])] w fun e w' => e = .returned (.tuple #[.agg #[.slice none 0 0, .string ⟨#[]⟩, .string ⟨#[]⟩, .string ⟨#[]⟩], .bool false]) ∧ Below w.heap.size w w' := by
  have hb0 : Below w.heap.size w (w.alloc (.cells #[.slice none 0 0, .string ⟨#[]⟩, .string ⟨#[]⟩, .string ⟨#[]⟩] 27)) := (Below.refl _ _).alloc (Nat.le_refl _) _
  have hs0 := SB.made w #[.slice none 0 0, .string ⟨#[]⟩, .string ⟨#[]⟩, .string ⟨#[]⟩] 27
  obtain ⟨w0, hw0⟩ : ∃ w0, w0 = w.alloc (.cells #[.slice none 0 0, .string ⟨#[]⟩, .string ⟨#[]⟩, .string ⟨#[]⟩] 27) := ⟨_, rfl⟩
  rw [← hw0] at hb0 hs0
  have hspl := split_any w0 (mk [120]) 59 (hml.below hb0 (Nat.le_refl _)) (by decide)
  have hss : spl 59 (tl (mk [120])) = [[120]] := by rw [tl_mk]; exact spl_none (by decide)
  rw [hss] at hspl
  generalize mk [120] = T at hspl ⊢
  obtain ⟨P, hP⟩ : ∃ P, P = w.heap.size := ⟨_, rfl⟩
  have hpw0 : w.heap.size ≤ P := by omega
  rw [← hP] at hs0
  have HB0 := Lib.hid hb0; have HS0 := Lib.hid hs0; have HSPL := Lib.hid hspl
  clear hb0 hs0 hspl hml hss
  go_enter Tryz.func160, Tryz.ntmps160
  go_wp2_with fail
  rw [← hw0, ← hP]
  have HPE := Lib.hid hP
  clear hw0 hP
  refine HSPL.out.mono ?_
  rintro _ w1 ⟨rfl, hw1⟩
  have hp1 : SB w1 P #[.slice none 0 0, .string ⟨#[]⟩, .string ⟨#[]⟩, .string ⟨#[]⟩] 27 := by rw [hw1]; exact SB.below HS0.out ((Below.refl _ _).alloc (Nat.le_refl _) _)
  have hb1 : Below w.heap.size w w1 := by rw [hw1]; exact HB0.out.alloc HB0.out.size _
  obtain ⟨⟨d0, d1, d2, d3⟩, f0, f1, f2, f3⟩ := hp1.all4
  have HPF := Lib.hid (SB.four hp1 (.slice none 0 0) (.string ⟨#[]⟩) (.string ⟨#[]⟩) (.string ⟨#[]⟩))
  have HBF := Lib.hid ((((hb1.setCell hpw0 (p := ⟨P, 0, none⟩) (.slice none 0 0)).setCell hpw0 (p := ⟨P, 1, none⟩) (.string ⟨#[]⟩)).setCell hpw0 (p := ⟨P, 2, none⟩) (.string ⟨#[]⟩)).setCell hpw0 (p := ⟨P, 3, none⟩) (.string ⟨#[]⟩))
  clear hw1 hp1 hb1 HS0 HB0 HSPL
  go_wp2_with fail
  exact bodyPost_ret (results_st_tmp rfl _ _ P _ #[.slice none 0 0, .string ⟨#[]⟩, .string ⟨#[]⟩, .string ⟨#[]⟩] _ _ rfl HPF.out Tryz.underlying27 ⟨_, rfl⟩ macSize) rfl ⟨rfl, HBF.out⟩

set_option maxHeartbeats 4000000 in
set_option maxRecDepth 100000 in
theorem parsePlugs_aa (w : World) (hml : ML w) :
    Calls Tryz.prog 162 #[.string (mk [97, 97])] w fun e w' => e = .returned (.tuple #[.string ⟨#[]⟩, .bool false]) ∧ Below w.heap.size w w' := by
  obtain ⟨r0, hr0⟩ : ∃ r0, r0 = List.range 10 := ⟨_, rfl⟩
  have hq : Prm r0 := by rw [hr0]; exact prm_range
  have hi : invP r0 = r0 := by rw [hr0]; exact inv_id
  have hfp := fun w' => formatPlugs_yes w' r0 hq hi
  have hpt : plugT r0 = [45] := by rw [hr0]; exact plugT_id
  rw [hpt] at hfp
  have hps := fun w' => permStr_any w' r0 hq.toTen
  have hpq : mk (r0.map letter) = pT r0 := rfl
  rw [hpq] at hps
  have hidn := fun w' => identity_any w'
  rw [← hr0] at hidn
  have hw0 : withP r0 0 0 = r0 := by rw [hr0]; rfl
  have hwp := fun w' (x y : Nat) (ex : x = 0) (ey : y = 0) => withPair_any w' r0 hq.toTen x y (by omega) (by omega)
  obtain ⟨T, hT⟩ : ∃ T, T = mk [97, 97] := ⟨_, rfl⟩
  have hTz : T.size = 2 := by rw [hT]; rfl
  have hne : (T.toList == [45]) = false := by rw [hT, toList_tl, tl_mk]; rfl
  have hnf : ((mk [45]).toList == T.toList) = false := by rw [hT, toList_tl, toList_tl, tl_mk, tl_mk]; rfl
  have hsp : spl 32 (tl T) = [[97, 97]] := by rw [hT, tl_mk]; exact spl_none (by decide)
  have hwv : wv (tl T) = true := by rw [hT]; rfl
  have y0 : 0 < T.size := by omega
  have y1 : 1 < T.size := by omega
  have x0 : isL T[0] = true := by subst hT; rfl
  have x1 : isL T[1] = true := by subst hT; rfl
  have z0 : dg T[0] = 0 := by subst hT; rfl
  have z1 : dg T[1] = 0 := by subst hT; rfl
  have hwp := fun w' => hwp w' _ _ z0 z1
  have hwe : withP r0 (dg T[0]) (dg T[1]) = r0 := by rw [z0, z1]; exact hw0
  rw [hwe] at hwp
  rw [pC_ten hq.len] at hwp
  rw [← hT]
  have HFP := Lib.hid hfp; have HPS := Lib.hid hps; have HID := Lib.hid hidn; have HT0 := Lib.hid hq.len; have HSP := Lib.hid hsp; have HWP := Lib.hid hwp; have HWV := Lib.hid hwv; have HML := Lib.hid hml; have HTT := Lib.hid (show mkl [[97, 97]] = [T] by rw [hT]; rfl)
  clear hfp hps hidn hsp hwp hwv hml hq hi hpt hpq hw0 hT z0 z1 hwe
  obtain ⟨S, hS⟩ : ∃ S, S = pT r0 := ⟨_, rfl⟩
  rw [← hS] at HFP HPS
  clear hS hr0
  obtain ⟨Fm, hFm⟩ : ∃ Fm, Fm = mk [45] := ⟨_, rfl⟩
  rw [← hFm] at HFP hnf
  clear hFm
  go_enter Tryz.func162, Tryz.ntmps162
  go_wp2_with fail
  refine (HID.out _).mono ?_
  rintro _ w1 ⟨rfl, hb1⟩
  have HG1 := Lib.hid (PB.made w1)
  have HS3 := Lib.hid (HG1.out.row r0)
  have HB3 := Lib.hid (below_setRow (hb1.alloc hb1.size (.cells #[.int .u8 0, .int .u8 0, .int .u8 0, .int .u8 0, .int .u8 0, .int .u8 0, .int .u8 0, .int .u8 0, .int .u8 0, .int .u8 0] 66)) hb1.size (pC r0))
  obtain ⟨Q, hQ⟩ : ∃ Q, Q = w1.heap.size := ⟨_, rfl⟩
  have hwQ : w.heap.size ≤ Q := by rw [hQ]; exact hb1.size
  clear hb1
  go_wp2_with (first | (refine wpList_store_row rfl 66 _ _ rfl w1.heap.size (pC r0) rfl rfl _ _ HG1.out (permSize HT0.out) (by rw [pC_size, pC_size, HT0.out]; rfl) (pC_one _) ?_))
  obtain ⟨w3, hw3⟩ : ∃ w3, w3 = (w1.alloc (.cells #[.int .u8 0, .int .u8 0, .int .u8 0, .int .u8 0, .int .u8 0, .int .u8 0, .int .u8 0, .int .u8 0, .int .u8 0, .int .u8 0] 66)).setRow w1.heap.size (pC r0) := ⟨_, rfl⟩
  rw [← hw3] at HS3 HB3 ⊢
  rw [← hQ] at HS3 ⊢
  clear hw3 HG1 hQ
  have hspl := split_any w3 T 32 (HML.out.below HB3.out (Nat.le_refl _)) (by omega)
  rw [HSP.out, HTT.out] at hspl
  have HSPL := Lib.hid hspl; clear hspl
  refine HSPL.out.mono ?_
  rintro _ w4 ⟨rfl, hw4⟩
  have HS4 := Lib.hid (show PB w4 Q r0 by rw [hw4]; exact block_kept3 HS3.out _)
  have HB4 := Lib.hid (show Below w.heap.size w w4 by rw [hw4]; exact HB3.out.alloc HB3.out.size _)
  have HRD := Lib.hid (show Rd w4 (w3.heap.size + 1) (some ⟨w3.heap.size, 0, none⟩) (strV [T]) by rw [hw4]; exact split_rd w3 [T])
  have hQ3 : Q < w3.heap.size := (Array.getElem?_eq_some_iff.1 HS3.out).1
  have hsz4 : w4.heap.size = w3.heap.size + 1 := by rw [hw4]; simp
  have HZ4 := Lib.hid hsz4
  clear hw4 hsz4 HSPL HS3 HB3
  obtain ⟨N, hN⟩ : ∃ N, N = w3.heap.size := ⟨_, rfl⟩
  rw [← hN] at HRD hQ3 HZ4 ⊢
  clear hN
  go_wp2_with fail
  go_loopw [14] (fun i wr => ∃ k : Nat, k ≤ 1 ∧ i = .int .i64 k ∧ Hid (PB wr Q r0) ∧ Hid (Rd wr (N + 1) (some ⟨N, 0, none⟩) (strV [T])) ∧ N + 1 ≤ wr.heap.size ∧ Below w.heap.size w wr) (fun i _ => 1 - (intOf i).toNat)
  case atStart => exact ⟨0, Nat.zero_le _, rfl, HS4, HRD, by have := HZ4.out; omega, HB4.out⟩
  case round =>
    obtain ⟨k, hk, rfl, HPB, HR, hN1, hbl⟩ := hrel
    have HBL := Lib.hid hbl; clear hbl HS4 HRD HB4
    by_cases hlt : k < 1
    · obtain rfl : k = 0 := by omega
      obtain ⟨b0, off, ee, _, c0⟩ := HR.out.str (show 0 < [T].length by simp)
      simp only [Option.some.injEq, Addr.mk.injEq, and_true] at ee
      obtain ⟨rfl, rfl⟩ := ee
      have c0 : wr.cell? ⟨N, 0, none⟩ = some (.string T) := c0
      have hb2 : (((T.size : Nat) : Int) != 2) = false := by simp; omega
      have v0 : (0 : Int) < (T.size : Int) := by omega
      have v1 : (1 : Int) < (T.size : Int) := by omega
      obtain ⟨⟨d0, d1, d2, d3, d4, d5, d6, d7, d8, d9⟩, _⟩ := HPB.out.all HT0.out
      go_wp2_with fail
      refine (wordValid_is _ true _ HWV.out).mono ?_
      rintro _ _ ⟨rfl, rfl⟩
      go_wp2_with fail
      clear c0
      go_region_law (first | (go_simp; go_at_call 82; refine (number_any _ _ (by first | exact x0 | exact x1)).mono ?_; rintro _ w6 ⟨rfl, rfl⟩) | (go_simp; go_at_call 229; refine (HWP.out _).mono ?_; rintro _ w7 ⟨rfl, hb7⟩; obtain ⟨⟨k0, k1, k2, k3, k4, k5, k6, k7, k8, k9⟩, f0, f1, f2, f3, f4, f5, f6, f7, f8, f9⟩ := (HPB.out.below (below_of_drew2 hb7)).all HT0.out) | fail)
      all_goals
        have hb8 := below_of_drew2 hb7
        have HP8 := Lib.hid ((HPB.out.below hb8).ten HT0.out HT0.out)
        have HR8 := Lib.hid (rd_ten (p := Q) (HR.out.below (hb8.mono hN1)) (fun x e => by injection e with e; subst e; show N ≠ Q; omega) r0)
        have HB8 := Lib.hid (below_ten (p := Q) (HBL.out.trans (hb8.mono HBL.out.size)) hwQ r0)
        have HZ8 := Lib.hid (show N + 1 ≤ _ from Nat.le_trans (Nat.le_trans hN1 hb8.size) (Nat.le_of_eq (size_ten w7 Q r0).symm))
        clear hb7 hb8 d0 d1 d2 d3 d4 d5 d6 d7 d8 d9 k0 k1 k2 k3 k4 k5 k6 k7 k8 k9 f0 f1 f2 f3 f4 f5 f6 f7 f8 f9
        go_wp2_with fail
        go_roundw
        case rel => exact ⟨1, by omega, by go_num, HP8, HR8, HZ8.out, HB8.out⟩
        case measure => simp [intOf]
    · obtain rfl : k = 1 := by omega
      have HPF := Lib.hid HPB.out
      go_wp2_with (refine wpList_load_row rfl 66 _ rfl Q rfl _ _ _ _ HPF.out Tryz.underlying66 rfl (permSize HT0.out) ?_)
      refine (HPS.out _).mono ?_
      rintro _ w5 ⟨rfl, hb5⟩
      have HB5 := Lib.hid (HBL.out.trans (hb5.mono HBL.out.size)); clear hb5
      go_wp2_with fail
      refine (HFP.out _).mono ?_
      rintro _ w6 ⟨rfl, hb6⟩
      have HB6 := Lib.hid (HB5.out.trans (hb6.mono HB5.out.size)); clear hb6
      go_wp2_with fail
      go_ret2
      exact ⟨rfl, HB6.out⟩

set_option maxHeartbeats 4000000 in
set_option maxRecDepth 100000 in
theorem formatBook_bad (w : World) (A : Option Addr) (cap : Nat) (es : List (ByteArray × ByteArray)) (h : Rd w w.heap.size A (entV es)) (hc : es.length ≤ cap) (hz : ∀ e ∈ es, e.1.size ≤ maxLen ∧ e.2.size ≤ maxLen) (hn : ¬ bookV es) :
    Calls Tryz.prog 199 #[.slice A es.length cap] w fun e w' => e = .returned (.string ⟨#[]⟩) ∧ Below w.heap.size w w' := by
  have hbv : Calls Tryz.prog 261 #[.slice A es.length cap] w fun e w' => e = .returned (.bool false) ∧ Below w.heap.size w w' := by
    have HIX := Lib.hid (index_any w A cap es h hc hz)
    have HN := Lib.hid hn
    clear h hc hz hn
    go_enter Tryz.func261, Tryz.ntmps261
    go_wp2_with fail
    refine HIX.out.mono ?_
    rintro e w1 ⟨hb1, ⟨hv, rfl⟩ | ⟨hv, b1, b2, rfl, hm1, hm2⟩⟩
    · clear hv
      go_wp2_with fail
      go_ret
      exact ⟨rfl, hb1.alloc hb1.size _⟩
    · exact absurd hv HN.out
  have HBV := Lib.hid hbv
  clear h hc hz hn hbv
  go_enter Tryz.func199, Tryz.ntmps199
  go_wp2_with fail
  refine HBV.out.mono ?_
  rintro _ w1 ⟨rfl, hb1⟩
  go_wp2_with fail
  go_ret
  exact ⟨rfl, hb1⟩

theorem infoEw : (Tryz.prog.info? 237).map (fun i => (i.zero, i.size, i.bytes)) = some (some (.agg #[.string ByteArray.empty, .string ByteArray.empty]), 2, 32) := by kernel_rfl
theorem undEw : Tryz.prog.underlying 52 = some (.slice 237) := by kernel_rfl
theorem cell_twoW (w : World) (a b : ByteArray) (t : TypeId) : ∀ (j : Nat) u, [Value.string a, Value.string b][j]? = some u → (w.alloc (.cells #[.string a, .string b] t)).cell? ((⟨w.heap.size, 0, none⟩ : Addr).add j) = some u :=
  World.news_of_block (cs := #[.string a, .string b]) (t := t) (fr := (0, 0)) (heap_alloc_new w _)
theorem two_oneW (a b : ByteArray) : ∀ u ∈ [Value.string a, Value.string b], u.oneCell' = true := by
  intro u hu
  simp at hu
  rcases hu with rfl | rfl <;> rfl

set_option maxHeartbeats 4000000 in
set_option maxRecDepth 100000 in
theorem parseBook_a (w : World) (hml : ML w) :
    Calls Tryz.prog 196 #[.string (mk [97])] w fun e w' => e = .returned (.tuple #[.slice none 0 0, .bool false]) ∧ Below w.heap.size w w' := by
  obtain ⟨s, hs⟩ : ∃ s, s = mk [97] := ⟨_, rfl⟩
  rw [← hs]
  have HML := Lib.hid hml; clear hml
  obtain ⟨iE, hi, hz0, hz1, hz2⟩ := info_parts infoEw
  have HI := Lib.hid hi; have HZ0 := Lib.hid hz0; have HZ1 := Lib.hid hz1; have HZ2 := Lib.hid hz2
  clear hi hz0 hz1 hz2
  have hdb : (s.toList == [45]) = false := by rw [hs, toList_tl, tl_mk]; rfl
  have hq : s.toList.isEmpty = false := by rw [hs, toList_tl, tl_mk]; rfl
  have hnf : ((⟨#[]⟩ : ByteArray).toList == s.toList) = false := by rw [hs, toList_tl, toList_tl, tl_mk]; rfl
  have hz : s.size = 1 := by rw [hs]; rfl
  have hcnt := fun w' => count_any w' s 32
  have hc0 : (tl s).count 32 = 0 := by rw [hs, tl_mk]; rfl
  rw [hc0] at hcnt
  have hspl := split_any w s 32 HML.out (by omega)
  have hsp : spl 32 (tl s) = [[97]] := by rw [hs, tl_mk]; exact spl_none (by decide)
  have hmk : mkl [[97]] = [s] := by rw [hs]; rfl
  rw [hsp, hmk] at hspl
  have hcut := fun w' (hm : ML w') => cut_any w' s 61 hm (by omega)
  have e1 : mk (bef 61 (tl s)) = s := by rw [hs, tl_mk]; rfl
  have e2 : mk (aft 61 (tl s)) = ⟨#[]⟩ := by rw [hs, tl_mk]; rfl
  have e3 : decide (61 ∈ tl s) = false := by rw [hs, tl_mk]; rfl
  rw [e1, e2, e3] at hcut
  have hnv : ¬ bookV [(s, ⟨#[]⟩)] := by
    intro h
    have h1 := h.2.1 _ (List.mem_singleton.2 rfl)
    rw [hs] at h1
    revert h1; decide
  have hez : ∀ e ∈ [(s, (⟨#[]⟩ : ByteArray))], e.1.size ≤ maxLen ∧ e.2.size ≤ maxLen := fun e he => by
    rw [List.mem_singleton.1 he]; exact ⟨by show s.size ≤ maxLen; unfold maxLen; omega, Nat.zero_le _⟩
  have hsr := split_rd w [s]
  have hbb : Below w.heap.size w (w.alloc (.cells (strV [s]).toArray 9)) := (Below.refl _ _).alloc (Nat.le_refl _) _
  have HCNT := Lib.hid hcnt; have HSPL := Lib.hid hspl; have HCUT := Lib.hid hcut; have HNV := Lib.hid hnv; have HEZ := Lib.hid hez; have HSP := Lib.hid hsr; have HBB := Lib.hid hbb
  clear hcnt hc0 hspl hsp hmk hcut e1 e2 e3 hnv hez hs hsr hbb
  go_enter Tryz.func196, Tryz.ntmps196
  go_wp2_with fail
  refine (HCNT.out _).mono ?_
  rintro _ _ ⟨rfl, rfl⟩
  go_wp2_with fail
  refine HSPL.out.mono ?_
  rintro _ w1 ⟨rfl, rfl⟩
  obtain ⟨w1, hw1⟩ : ∃ w1, w1 = w.alloc (.cells (strV [s]).toArray 9) := ⟨_, rfl⟩
  rw [← hw1] at HSP HBB ⊢
  have hsz1 : w1.heap.size = w.heap.size + 1 := by rw [hw1]; simp
  have HW1 := Lib.hid hsz1; clear hw1 hsz1
  obtain ⟨b1, hb1⟩ : ∃ b1, b1 = w.heap.size := ⟨_, rfl⟩
  rw [← hb1] at HSP HW1 ⊢
  have HB1 := Lib.hid hb1; clear hb1
  go_wp2_with fail
  go_loopw [4, 18] (fun v i wr => ∃ k : Nat, k ≤ 1 ∧ i = .int .i64 k ∧ wr.ownsRow w1.heap.size 237 2 v k (entV ([(s, (⟨#[]⟩ : ByteArray))].take k)) ∧ Below w1.heap.size w1 wr) (fun _ i _ => 1 - (intOf i).toNat)
  case atStart => exact ⟨0, Nat.zero_le _, rfl, World.ownsRow_nil _ _ _ _, Below.refl _ _⟩
  case round =>
    obtain ⟨k, hk, rfl, hown, hbl⟩ := hrel
    have HO := Lib.hid hown; have HBL := Lib.hid hbl; clear hown hbl
    obtain ⟨A5, cap5, e5⟩ := slot_slice HO.out
    subst e5
    have hbw := HBB.out.size
    have hbw2 := HBL.out.size
    by_cases hlt : k < 1
    · obtain rfl : k = 0 := by omega
      obtain ⟨b, off, hA, _, c0⟩ := ((HSP.out.mono (show b1 + 1 ≤ w1.heap.size by have := HW1.out; omega)).below HBL.out).str (show 0 < [s].length by simp)
      simp only [Option.some.injEq, Addr.mk.injEq, and_true] at hA
      obtain ⟨rfl, rfl⟩ := hA
      have c0 : wr.cell? ⟨b1, 0, none⟩ = some (.string s) := c0
      have hml2 := (HML.out.below (HBB.out.trans (HBL.out.mono HBB.out.size)) (Nat.le_refl _))
      have hsn : entV ([(s, (⟨#[]⟩ : ByteArray))].take 0) ++ [.string s, .string ⟨#[]⟩] = entV ([(s, (⟨#[]⟩ : ByteArray))].take (0 + 1)) := rfl
      have HSN := Lib.hid hsn; have HML2 := Lib.hid hml2; clear hsn hml2
      go_wp2_with fail
      refine (HCUT.out _ HML2.out).mono ?_
      rintro _ w3 ⟨rfl, n3, rfl⟩
      clear c0
      have HOW := Lib.hid (show (wr.drewN n3).ownsRow w1.heap.size 237 2 (.slice A5 0 cap5) 0 (entV ([(s, (⟨#[]⟩ : ByteArray))].take 0)) from HO.out)
      have HBW := Lib.hid (below_drewN' HBL.out n3)
      clear HO HBL
      obtain ⟨w3, hw3⟩ : ∃ w3, w3 = wr.drewN n3 := ⟨_, rfl⟩
      rw [← hw3] at HOW HBW ⊢
      clear hw3
      have hbw3 := HBW.out.size
      go_wp2_with (at_builtin; refine wpList_append_own _ rfl _ _ 52 rfl w1.heap.size 237 iE (.agg #[.string ByteArray.empty, .string ByteArray.empty]) 2 32 undEw HI.out HZ0.out HZ1.out HZ2.out rfl (by decide) _ 0 _ rfl (HOW.out.alloc _) ⟨w3.heap.size, 0, none⟩ 1 1 [.string s, .string ⟨#[]⟩] rfl rfl (cell_twoW w3 s ⟨#[]⟩ _) (two_oneW s ⟨#[]⟩) (by unfold maxLen; omega) (by omega) (by simp; omega) ?_)
      intro v' w6 ho' hg' _
      have ho' : w6.ownsRow w1.heap.size 237 2 v' 1 (entV ([(s, (⟨#[]⟩ : ByteArray))].take 1)) := ho'
      have hb6 : Below w1.heap.size w1 w6 := (HBW.out.alloc hbw3 _).grown hg' (by simp; omega) fun k' e' => (HOW.out.lt k' e').1
      have HO6 := Lib.hid ho'; have HB6 := Lib.hid hb6; clear ho' hg' hb6
      go_wp2_with fail
      go_roundw
      case rel => exact ⟨1, by omega, by go_num, HO6.out, HB6.out⟩
      case measure => simp [intOf]
    · obtain rfl : k = 1 := by omega
      have HBL2 := Lib.hid (HBB.out.trans (HBL.out.mono HBB.out.size))
      have hfm := formatBook_bad wr A5 cap5 [(s, ⟨#[]⟩)] (own_rd3' HO.out) (own_le3 HO.out) HEZ.out HNV.out
      have HFM := Lib.hid hfm; clear hfm
      go_wp2_with fail
      refine HFM.out.mono ?_
      rintro _ w7 ⟨rfl, hb7⟩
      have HB7 := Lib.hid (HBL2.out.trans (hb7.mono HBL2.out.size))
      clear hb7 HO HBL HBL2
      go_wp2_with fail
      go_ret2
      exact ⟨rfl, HB7.out⟩

end Go.Proofs.YtoakpacpkkmgnaaGreatDoor
