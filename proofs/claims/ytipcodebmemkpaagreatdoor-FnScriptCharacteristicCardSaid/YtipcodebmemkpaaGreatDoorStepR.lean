/-
  What the commands step and period answer. Conditions: what each theorem names.
-/
import Derived.Test.YtipcodebmemkpaaGreatDoorStepA
import Derived.Test.YtipcodebmemkpaaGreatDoorScriptS
import Derived.Test.YtipcodebmemkpaaGreatDoorNumb
namespace Go.Proofs.YtipcodebmemkpaaGreatDoor
open Go.RowKit Pl
set_option linter.unusedVariables false

/-- what cycleFrom returns, in whatever world -/
def CycAt (rs : List Rot) (p o : ByteArray) (a b : Nat) : Prop :=
  ∀ (w : World) (A : Option Addr) (cap : Nat), Rd w w.heap.size A (rotV rs) → rs.length ≤ cap → Calls Tryz.prog 254 #[.agg #[.slice A rs.length cap, .string p], .string o] w fun e w' => e = .returned (.tuple #[.int .i64 a, .int .i64 b]) ∧ Below w.heap.size w w'
theorem cyc_exists {rs : List Rot} {p o : ByteArray} (hv : WinV rs p o) : ∃ a b : Nat, a ≤ 1000 ∧ b ≤ 2000 ∧ CycAt rs p o a b := by
  have hl : (tl o).length ≤ 3 := by rw [length_tl, hv.2.1]; exact hv.1.2.1
  obtain ⟨K, a, b, k1, k2, k3, k4, a1, a2, a3, b1, b2, b3, b4⟩ := cycle_exists rs hv.2.2 hl
  refine ⟨a, b, by omega, by omega, fun w A cap h hc => ?_⟩
  have hw := WhB.make h hc hv
  have eqF : ∀ {i j}, stepN rs (tl o) i = stepN rs (tl o) j → stepW rs o i = stepW rs o j := fun e => by unfold stepW; rw [e]
  exact cycleFrom_at w A cap rs.length p o (fun u => mk (stepB rs (tl u))) (fun u => u.size = rs.length ∧ wv (tl u) = true) (stepW rs o) K a b (fun w' => WhB w' A cap rs o) (fun w w' h hb => h.below hb)
    (stepW_zero rs o) (fun k => by unfold stepW; simp only [tl_mk]; rfl) (fun k => ⟨by rw [stepW_size]; exact hv.2.1, stepW_wv rs hv.2.2 k⟩) (fun u hu => ⟨by rw [size_mk, stepB_len, length_tl]; exact hu.1, by rw [tl_mk]; exact stepB_wv rs hu.2⟩)
    (fun w' u hw' hu => step_is w' A cap rs p u (hw'.word u hu.1 hu.2))
    ⟨k1, k2⟩ (eqF k3) (fun j h1 h2 => stepW_ne (k4 j h1 h2)) a1 (eqF a2) (fun j h1 => stepW_ne (a3 j h1)) ⟨b1, b2⟩ (eqF b3) (fun j h1 h2 => stepW_ne (b4 j h1 h2)) hw

set_option maxHeartbeats 4000000 in
set_option maxRecDepth 100000 in
theorem periodOf_at (w : World) (A : Option Addr) (cap : Nat) (rs : List Rot) (p o : ByteArray) (a b : Nat) (hcy : CycAt rs p o a b) (h : Rd w w.heap.size A (rotV rs)) (hc : rs.length ≤ cap) (hv : WinV rs p o) :
    Calls Tryz.prog 196 #[.agg #[.slice A rs.length cap, .string p], .string o] w fun e w' => e = .returned (.int .i64 b) ∧ Below w.heap.size w w' := by
  obtain ⟨w0, hw0⟩ : ∃ w0, w0 = w.alloc (.cells #[.slice A rs.length cap, .string p] 25) := ⟨_, rfl⟩
  have hb0 : Below w.heap.size w w0 := by rw [hw0]; exact (Below.refl _ _).alloc (Nat.le_refl _) _
  have h01 : SB w0 w.heap.size #[.slice A rs.length cap, .string p] 25 := by rw [hw0]; exact SB.made w _ _
  have h0 := (h.below hb0).mono hb0.size
  have hcon := windowsValid_any w0 A cap rs p o true h0 hc (by have := hv.1.2.1; omega) (Iff.intro (fun _ => hv) (fun _ => rfl))
  have hcy' := fun (w' : World) (h' : Rd w' w'.heap.size A (rotV rs)) => hcy w' A cap h' hc
  obtain ⟨M, hM⟩ : ∃ M, M = rs.length := ⟨_, rfl⟩
  rw [← hM] at hw0 hcon h01 hcy' ⊢
  have HB0 := Lib.hid hb0; have HCON := Lib.hid hcon; have HCY := Lib.hid hcy'; have HRD := Lib.hid h0
  obtain ⟨P, hP⟩ : ∃ P, P = w.heap.size := ⟨_, rfl⟩
  rw [← hP] at h01
  have HSB := Lib.hid h01
  obtain ⟨c0, c1⟩ := sb_two h01
  clear h hb0 hcon hM hc hv hcy hcy' h0 h01
  go_enter Tryz.func196, Tryz.ntmps196
  go_wp2_with fail
  rw [← hw0]
  rw [← hP]
  clear hw0 hP
  go_wp2_with fail
  refine HCON.out.mono ?_
  rintro _ w1 ⟨rfl, hb1⟩
  have HB1 := Lib.hid (HB0.out.trans (hb1.mono HB0.out.size)); have HRD1 := Lib.hid ((HRD.out.below hb1).mono hb1.size)
  obtain ⟨d0, d1⟩ := sb_two (SB.below HSB.out hb1)
  clear hb1 c0 c1
  go_wp2_with fail
  refine (HCY.out _ HRD1.out).mono ?_
  rintro _ w2 ⟨rfl, hb2⟩
  have HB2 := Lib.hid (HB1.out.trans (hb2.mono HB1.out.size))
  clear hb2
  go_wp2_with fail
  go_ret
  exact ⟨rfl, HB2.out⟩

set_option maxHeartbeats 4000000 in
set_option maxRecDepth 100000 in
theorem leadIn_at (w : World) (A : Option Addr) (cap : Nat) (rs : List Rot) (p o : ByteArray) (a b : Nat) (hcy : CycAt rs p o a b) (h : Rd w w.heap.size A (rotV rs)) (hc : rs.length ≤ cap) (hv : WinV rs p o) :
    Calls Tryz.prog 197 #[.agg #[.slice A rs.length cap, .string p], .string o] w fun e w' => e = .returned (.int .i64 a) ∧ Below w.heap.size w w' := by
  obtain ⟨w0, hw0⟩ : ∃ w0, w0 = w.alloc (.cells #[.slice A rs.length cap, .string p] 25) := ⟨_, rfl⟩
  have hb0 : Below w.heap.size w w0 := by rw [hw0]; exact (Below.refl _ _).alloc (Nat.le_refl _) _
  have h01 : SB w0 w.heap.size #[.slice A rs.length cap, .string p] 25 := by rw [hw0]; exact SB.made w _ _
  have h0 := (h.below hb0).mono hb0.size
  have hcon := windowsValid_any w0 A cap rs p o true h0 hc (by have := hv.1.2.1; omega) (Iff.intro (fun _ => hv) (fun _ => rfl))
  have hcy' := fun (w' : World) (h' : Rd w' w'.heap.size A (rotV rs)) => hcy w' A cap h' hc
  obtain ⟨M, hM⟩ : ∃ M, M = rs.length := ⟨_, rfl⟩
  rw [← hM] at hw0 hcon h01 hcy' ⊢
  have HB0 := Lib.hid hb0; have HCON := Lib.hid hcon; have HCY := Lib.hid hcy'; have HRD := Lib.hid h0
  obtain ⟨P, hP⟩ : ∃ P, P = w.heap.size := ⟨_, rfl⟩
  rw [← hP] at h01
  have HSB := Lib.hid h01
  obtain ⟨c0, c1⟩ := sb_two h01
  clear h hb0 hcon hM hc hv hcy hcy' h0 h01
  go_enter Tryz.func197, Tryz.ntmps197
  go_wp2_with fail
  rw [← hw0]
  rw [← hP]
  clear hw0 hP
  go_wp2_with fail
  refine HCON.out.mono ?_
  rintro _ w1 ⟨rfl, hb1⟩
  have HB1 := Lib.hid (HB0.out.trans (hb1.mono HB0.out.size)); have HRD1 := Lib.hid ((HRD.out.below hb1).mono hb1.size)
  obtain ⟨d0, d1⟩ := sb_two (SB.below HSB.out hb1)
  clear hb1 c0 c1
  go_wp2_with fail
  refine (HCY.out _ HRD1.out).mono ?_
  rintro _ w2 ⟨rfl, hb2⟩
  have HB2 := Lib.hid (HB1.out.trans (hb2.mono HB1.out.size))
  clear hb2
  go_wp2_with fail
  go_ret
  exact ⟨rfl, HB2.out⟩

set_option maxHeartbeats 4000000 in
set_option maxRecDepth 100000 in
theorem runStep_ok (w : World) (hg : GW w) (d : Dk) (a : At) (R : ByteArray) (F : Value) (n : Int) (s : ByteArray) (hrn : ∀ w', GW w' → Calls Tryz.prog 188 #[.string R] w' fun e w'' => e = .returned (.tuple #[.int .i64 n, .bool true]) ∧ Below w'.heap.size w' w'') (hsm : ∀ (w' : World) (A : Option Addr) (cap : Nat), Rd w' w'.heap.size A (rotV d.rs) → d.rs.length ≤ cap → Calls Tryz.prog 189 #[.agg #[.slice A d.rs.length cap, .string d.rf], .string d.wi, .int .i64 n] w' fun e w'' => e = .returned (.tuple #[.string s, .bool true]) ∧ Below w'.heap.size w' w'') (ho : Own d a w) :
    Calls Tryz.prog 132 #[dkV d a, .string R, F] w (Answered ⟨d.rs, d.rf, d.ri, d.pl, s, d.bk⟩ s w) := by
  have hb := bel_two (w := w) (.cells (dkC d a) 85) (.cells #[.slice none 0 0, .string ⟨#[]⟩, .string ⟨#[]⟩, .string ⟨#[]⟩, .string ⟨#[]⟩, .slice none 0 0] 85)
  have hdk := heap_alloc_new (w.alloc (.cells (dkC d a) 85)) (.cells #[.slice none 0 0, .string ⟨#[]⟩, .string ⟨#[]⟩, .string ⟨#[]⟩, .string ⟨#[]⟩, .slice none 0 0] 85)
  rw [szalloc] at hdk
  have hpa : ((w.alloc (.cells (dkC d a) 85)).alloc (.cells #[.slice none 0 0, .string ⟨#[]⟩, .string ⟨#[]⟩, .string ⟨#[]⟩, .string ⟨#[]⟩, .slice none 0 0] 85)).heap[w.heap.size]? = some (.cells (dkC d a) 85 (0, 0)) := block_below (heap_alloc_new w _) ((Below.refl _ _).alloc (Nat.le_refl _) _)
  obtain ⟨w1, hw1⟩ : ∃ w1, w1 = ((w.alloc (.cells (dkC d a) 85)).alloc (.cells #[.slice none 0 0, .string ⟨#[]⟩, .string ⟨#[]⟩, .string ⟨#[]⟩, .string ⟨#[]⟩, .slice none 0 0] 85)) := ⟨_, rfl⟩
  rw [← hw1] at hb hdk hpa
  have ho1 := ho.below hb
  have HG := Lib.hid (hg.below hb (Nat.le_refl _)); have HB := Lib.hid hb; have HDK := Lib.hid hdk; have HPA := Lib.hid hpa; have HO := Lib.hid ho1
  obtain ⟨k0, k1, k2, k3, k4, k5⟩ := row_six hpa
  clear hb hdk hpa ho1 ho hg
  have HRN := Lib.hid hrn; have HSM := Lib.hid hsm
  clear hrn hsm
  go_enter Tryz.func132, Tryz.ntmps132
  go_wp2_with fail
  rw [← hw1]
  clear hw1
  go_wp2_with fail
  refine (HRN.out w1 HG.out).mono ?_
  rintro _ w2 ⟨rfl, hb⟩
  have HDK2 := Lib.hid (block_below HDK.out hb); have HPA2 := Lib.hid (block_below HPA.out hb); have HB2 := Lib.hid (HB.out.trans (hb.mono HB.out.size)); have HO2 := Lib.hid (HO.out.below hb); have HG2 := Lib.hid (HG.out.below hb (Nat.le_refl _))
  obtain ⟨r0, r1, r2, r3, r4, r5⟩ := row_six HPA2.out
  clear hb k0 k1 k2 k3 k4 k5
  go_wp2_with fail
  refine (HSM.out w2 a.Ar a.cr (own_rd3' HO2.out.r) (own_le3 HO2.out.r)).mono ?_
  rintro _ w3 ⟨rfl, hb⟩
  clear r0 r1 r2 r3 r4 r5
  have HDK3 := Lib.hid (block_below HDK2.out hb); have HPA3 := Lib.hid (block_below HPA2.out hb); have HB3 := Lib.hid (HB2.out.trans (hb.mono HB2.out.size)); have HO3 := Lib.hid (HO2.out.below hb); have HG3 := Lib.hid (HG2.out.below hb (Nat.le_refl _))
  obtain ⟨r0, r1, r2, r3, r4, r5⟩ := row_six HPA3.out
  have f4 := frozen_cells HPA3.out 4
  have hdw := HDK3.out
  obtain ⟨z0, z1, z2, z3, z4, z5⟩ := row_six hdw
  have f0 := frozen_cells hdw 0; have f1 := frozen_cells hdw 1; have f2 := frozen_cells hdw 2; have f3 := frozen_cells hdw 3; have f4' := frozen_cells hdw 4; have f5 := frozen_cells hdw 5
  have hzz := (Array.getElem?_eq_some_iff.1 hdw).1
  clear hb hdw
  have hnr : (Value.slice a.Ar d.rs.length a.cr).ownBlock = none ∨ (Value.slice a.Ar d.rs.length a.cr).ownBlock ≠ some w.heap.size := own_ne HO3.out.r HPA3.out (by decide)
  have hnb : (Value.slice a.Ab d.bk.length a.cb).ownBlock = none ∨ (Value.slice a.Ab d.bk.length a.cb).ownBlock ≠ some w.heap.size := own_ne HO3.out.b HPA3.out (by decide)
  have HOF := Lib.hid (Own.mk (d := ⟨d.rs, d.rf, d.ri, d.pl, s, d.bk⟩) (a := a) (own_setn HO3.out.r hnr 4 (.string s)) (own_setn HO3.out.b hnb 4 (.string s)))
  have HBF := Lib.hid (HB3.out.setCell (Nat.le_refl _) (p := ⟨w.heap.size, 4, none⟩) (.string s))
  have hne : (w.heap.size + 1) ≠ w.heap.size := by omega
  have HDF := Lib.hid (block_set_other HDK3.out hne 4 (.string s))
  clear hnr hnb hne
  go_wp2_with fail
  refine bodyPost_ret (v := .tuple #[dkV ⟨d.rs, d.rf, d.ri, d.pl, s, d.bk⟩ a, .string s]) (by simp [results, Tryz.results132, go_sem, z0, z1, z2, z3, z4, z5]) rfl ⟨a, rfl, ⟨?_, ?_⟩, ?_⟩
  · exact World.ownsRow.kept HOF.out.r (only_six _ (w.heap.size + 1) _ _ _ _ _ _) (own_ne HOF.out.r HDF.out (by decide))
  · exact World.ownsRow.kept HOF.out.b (only_six _ (w.heap.size + 1) _ _ _ _ _ _) (own_ne HOF.out.b HDF.out (by decide))
  · exact bel_six HBF.out (by omega) _ _ _ _ _ _

theorem cell_set_other {w : World} {p k : Nat} (hne : p ≠ k) (i j : Nat) (v : Value) : (w.setCell ⟨k, j, none⟩ v).cell? ⟨p, i, none⟩ = w.cell? ⟨p, i, none⟩ := by
  have h := Below.heap_setCell w ⟨k, j, none⟩ v p (by intro e; exact hne e)
  simp only [World.cell?, h]
theorem cell_six {w : World} {p k : Nat} (hne : p ≠ k) (i : Nat) (u0 u1 u2 u3 u4 u5 : Value) : (six w k u0 u1 u2 u3 u4 u5).cell? ⟨p, i, none⟩ = w.cell? ⟨p, i, none⟩ := by
  simp only [six, cell_set_other hne]
theorem keep_six {W : World} {P Q R : Nat} (hP : P ≠ R) (hQ : Q ≠ R) {x0 x1 x2 x3 x4 x5 y0 y1 u0 u1 u2 u3 u4 u5 : Value}
    (h : W.cell? ⟨P, 0, none⟩ = some x0 ∧ W.cell? ⟨P, 1, none⟩ = some x1 ∧ W.cell? ⟨P, 2, none⟩ = some x2 ∧ W.cell? ⟨P, 3, none⟩ = some x3 ∧ W.cell? ⟨P, 4, none⟩ = some x4 ∧ W.cell? ⟨P, 5, none⟩ = some x5 ∧ W.cell? ⟨Q, 0, none⟩ = some y0 ∧ W.cell? ⟨Q, 1, none⟩ = some y1) :
    (six W R u0 u1 u2 u3 u4 u5).cell? ⟨P, 0, none⟩ = some x0 ∧ (six W R u0 u1 u2 u3 u4 u5).cell? ⟨P, 1, none⟩ = some x1 ∧ (six W R u0 u1 u2 u3 u4 u5).cell? ⟨P, 2, none⟩ = some x2 ∧ (six W R u0 u1 u2 u3 u4 u5).cell? ⟨P, 3, none⟩ = some x3 ∧ (six W R u0 u1 u2 u3 u4 u5).cell? ⟨P, 4, none⟩ = some x4 ∧ (six W R u0 u1 u2 u3 u4 u5).cell? ⟨P, 5, none⟩ = some x5 ∧ (six W R u0 u1 u2 u3 u4 u5).cell? ⟨Q, 0, none⟩ = some y0 ∧ (six W R u0 u1 u2 u3 u4 u5).cell? ⟨Q, 1, none⟩ = some y1 := by
  simp only [cell_six hP, cell_six hQ]
  exact h
theorem bel_next {a W W' : World} (h : Below a.heap.size a W) (hb : Below W.heap.size W W') : Below a.heap.size a W' := h.trans (hb.mono h.size)

set_option maxHeartbeats 4000000 in
set_option maxRecDepth 100000 in
theorem runPeriod_ok (w : World) (hg : GW w) (d : Dk) (a : At) (R : ByteArray) (F : Value) (le pe : Nat) (hle : le ≤ 1000) (hpe : pe ≤ 2000) (hcy : CycAt d.rs d.rf d.wi le pe) (hv : WinV d.rs d.rf d.wi) (ho : Own d a w) :
    Calls Tryz.prog 135 #[dkV d a, .string R, F] w (Answered d (mk (Lib.itoa (pe : Int)) ++ ⟨#[32]⟩ ++ mk (Lib.itoa (le : Int))) w) := by
  have hb := bel_two (w := w) (.cells (dkC d a) 85) (.cells #[.slice none 0 0, .string ⟨#[]⟩, .string ⟨#[]⟩, .string ⟨#[]⟩, .string ⟨#[]⟩, .slice none 0 0] 85)
  have hdk := heap_alloc_new (w.alloc (.cells (dkC d a) 85)) (.cells #[.slice none 0 0, .string ⟨#[]⟩, .string ⟨#[]⟩, .string ⟨#[]⟩, .string ⟨#[]⟩, .slice none 0 0] 85)
  rw [szalloc] at hdk
  have hpa : ((w.alloc (.cells (dkC d a) 85)).alloc (.cells #[.slice none 0 0, .string ⟨#[]⟩, .string ⟨#[]⟩, .string ⟨#[]⟩, .string ⟨#[]⟩, .slice none 0 0] 85)).heap[w.heap.size]? = some (.cells (dkC d a) 85 (0, 0)) := block_below (heap_alloc_new w _) ((Below.refl _ _).alloc (Nat.le_refl _) _)
  obtain ⟨w1, hw1⟩ : ∃ w1, w1 = ((w.alloc (.cells (dkC d a) 85)).alloc (.cells #[.slice none 0 0, .string ⟨#[]⟩, .string ⟨#[]⟩, .string ⟨#[]⟩, .string ⟨#[]⟩, .slice none 0 0] 85)) := ⟨_, rfl⟩
  rw [← hw1] at hb hdk hpa
  have ho1 := ho.below hb
  have HG := Lib.hid (hg.below hb (Nat.le_refl _)); have HB := Lib.hid hb; have HDK := Lib.hid hdk; have HPA := Lib.hid hpa; have HO := Lib.hid ho1
  obtain ⟨k0, k1, k2, k3, k4, k5⟩ := row_six hpa
  clear hb hdk hpa ho1 ho hg
  have HPO := Lib.hid (fun (w' : World) (h' : Own d a w') => periodOf_at w' a.Ar a.cr d.rs d.rf d.wi le pe hcy (own_rd3' h'.r) (own_le3 h'.r) hv)
  have HLI := Lib.hid (fun (w' : World) (h' : Own d a w') => leadIn_at w' a.Ar a.cr d.rs d.rf d.wi le pe hcy (own_rd3' h'.r) (own_le3 h'.r) hv)
  have hzp := (itoa_len pe (by omega)).2
  have hzl := (itoa_len le (by omega)).2
  obtain ⟨NUM, hNUM⟩ : ∃ NUM : Nat → ByteArray, NUM = fun (n : Nat) => mk (Lib.itoa (n : Int)) := ⟨_, rfl⟩
  have hit : ∀ (w' : World) (n : Nat), GW w' → n ≤ 2000 → Calls Tryz.prog 101 #[.int .i64 n] w' fun e w'' => e = .returned (.string (NUM n)) ∧ Below w'.heap.size w' w'' := fun w' n hg' hn => by
    rw [hNUM]; exact itoa_any w' hg' n (by omega)
  have hp1 : mk (Lib.itoa (pe : Int)) = NUM pe := by rw [hNUM]
  have hl1 : mk (Lib.itoa (le : Int)) = NUM le := by rw [hNUM]
  have zp : (NUM pe).size ≤ 14 := by rw [← hp1, size_mk]; exact hzp
  have zl : (NUM le).size ≤ 14 := by rw [← hl1, size_mk]; exact hzl
  rw [hp1, hl1]
  have HIT := Lib.hid hit; have HLE := Lib.hid (show le ≤ 2000 by omega); have HPE := Lib.hid hpe
  clear hcy hv hzp hzl hNUM hit hp1 hl1 hle hpe
  have hz1 : w1.heap.size = w.heap.size + 1 + 1 := by rw [hw1]; simp
  have HZ1 := Lib.hid hz1; clear hz1
  go_enter Tryz.func135, Tryz.ntmps135
  go_wp2_with fail
  rw [← hw1]
  clear hw1
  have hb : Below w1.heap.size w1 (w1.alloc (.cells #[.slice a.Ar d.rs.length a.cr, .string d.rf] 25)) := (Below.refl _ _).alloc (Nat.le_refl _) _
  have hqq := SB.made w1 #[.slice a.Ar d.rs.length a.cr, .string d.rf] 25
  obtain ⟨w2, hw2⟩ : ∃ w2, w2 = w1.alloc (.cells #[.slice a.Ar d.rs.length a.cr, .string d.rf] 25) := ⟨_, rfl⟩
  rw [← hw2] at hb hqq ⊢
  have HDK2 := Lib.hid (block_below HDK.out hb); have HPA2 := Lib.hid (block_below HPA.out hb); have HB2 := Lib.hid (HB.out.trans (hb.mono HB.out.size)); have HO2 := Lib.hid (HO.out.below hb); have HG2 := Lib.hid (HG.out.below hb (Nat.le_refl _))
  obtain ⟨r0, r1, r2, r3, r4, r5⟩ := row_six HPA2.out
  obtain ⟨Q, hQ⟩ : ∃ Q, Q = w.heap.size + 1 + 1 := ⟨_, rfl⟩
  rw [HZ1.out, ← hQ] at hqq
  rw [← hQ]
  obtain ⟨q0, q1⟩ := sb_two hqq
  have hs : ∀ W : World, Below w2.heap.size w2 W → (W.cell? ⟨w.heap.size, 0, none⟩ = some (.slice a.Ar d.rs.length a.cr) ∧ W.cell? ⟨w.heap.size, 1, none⟩ = some (.string d.rf) ∧ W.cell? ⟨w.heap.size, 2, none⟩ = some (.string d.ri) ∧ W.cell? ⟨w.heap.size, 3, none⟩ = some (.string d.pl) ∧ W.cell? ⟨w.heap.size, 4, none⟩ = some (.string d.wi) ∧ W.cell? ⟨w.heap.size, 5, none⟩ = some (.slice a.Ab d.bk.length a.cb) ∧ W.cell? ⟨Q, 0, none⟩ = some (.slice a.Ar d.rs.length a.cr) ∧ W.cell? ⟨Q, 1, none⟩ = some (.string d.rf)) := fun W hbw => by
    obtain ⟨v0, v1, v2, v3, v4, v5⟩ := row_six (block_below HPA2.out hbw)
    obtain ⟨u0, u1⟩ := sb_two (SB.below hqq hbw)
    exact ⟨v0, v1, v2, v3, v4, v5, u0, u1⟩
  have HS := Lib.hid hs
  have hbd : Below w2.heap.size w2 w2.drew := (Below.refl _ _).drew
  have hn1 : w.heap.size ≠ w.heap.size + 1 := by omega
  have hn2 : Q ≠ w.heap.size + 1 := by omega
  clear hb hw2 hQ hs hqq k0 k1 k2 k3 k4 k5
  have y1 : ¬ 9223372036854775807 < (NUM pe).size + 1 := by omega
  have y2 : ¬ 9223372036854775807 < (NUM pe).size + 1 + (NUM le).size := by omega
  have hz0 := fun (W : World) (hb : Below w2.heap.size w2 W) => (row_six (block_below HDK2.out hb)).1
  have hz1 := fun (W : World) (hb : Below w2.heap.size w2 W) => (row_six (block_below HDK2.out hb)).2.1
  have hz2 := fun (W : World) (hb : Below w2.heap.size w2 W) => (row_six (block_below HDK2.out hb)).2.2.1
  have hz3 := fun (W : World) (hb : Below w2.heap.size w2 W) => (row_six (block_below HDK2.out hb)).2.2.2.1
  have hz4 := fun (W : World) (hb : Below w2.heap.size w2 W) => (row_six (block_below HDK2.out hb)).2.2.2.2.1
  have hz5 := fun (W : World) (hb : Below w2.heap.size w2 W) => (row_six (block_below HDK2.out hb)).2.2.2.2.2
  have e0 := fun (W : World) (hb : Below w2.heap.size w2 W) => frozen_cells (block_below HDK2.out hb) 0
  have e1 := fun (W : World) (hb : Below w2.heap.size w2 W) => frozen_cells (block_below HDK2.out hb) 1
  have e2 := fun (W : World) (hb : Below w2.heap.size w2 W) => frozen_cells (block_below HDK2.out hb) 2
  have e3 := fun (W : World) (hb : Below w2.heap.size w2 W) => frozen_cells (block_below HDK2.out hb) 3
  have e4 := fun (W : World) (hb : Below w2.heap.size w2 W) => frozen_cells (block_below HDK2.out hb) 4
  have e5 := fun (W : World) (hb : Below w2.heap.size w2 W) => frozen_cells (block_below HDK2.out hb) 5
  go_region_held3 (fun W => W.cell? ⟨w.heap.size, 0, none⟩ = some (.slice a.Ar d.rs.length a.cr) ∧ W.cell? ⟨w.heap.size, 1, none⟩ = some (.string d.rf) ∧ W.cell? ⟨w.heap.size, 2, none⟩ = some (.string d.ri) ∧ W.cell? ⟨w.heap.size, 3, none⟩ = some (.string d.pl) ∧ W.cell? ⟨w.heap.size, 4, none⟩ = some (.string d.wi) ∧ W.cell? ⟨w.heap.size, 5, none⟩ = some (.slice a.Ab d.bk.length a.cb) ∧ W.cell? ⟨Q, 0, none⟩ = some (.slice a.Ar d.rs.length a.cr) ∧ W.cell? ⟨Q, 1, none⟩ = some (.string d.rf)) (first | with_reducible assumption | with_reducible exact HS.out _ (by with_reducible assumption) | with_reducible exact keep_six hn1 hn2 (HS.out _ (by with_reducible assumption))) (first | (go_at_call 196; refine (HPO.out _ (HO2.out.below (by assumption))).mono ?_; rintro _ w4 ⟨rfl, hb4⟩; have b4 := bel_next (a := w2) (by assumption) hb4; clear hb4) | (go_at_call 197; refine (HLI.out _ (HO2.out.below (by assumption))).mono ?_; rintro _ w4 ⟨rfl, hb4⟩; have b4 := bel_next (a := w2) (by assumption) hb4; clear hb4) | (go_at_call 101; refine (HIT.out _ _ (HG2.out.below (by assumption) (Nat.le_refl _)) (by first | exact HLE.out | exact HPE.out)).mono ?_; rintro _ w4 ⟨rfl, hb4⟩; have b4 := bel_next (a := w2) (by assumption) hb4; clear hb4) | fail)
  all_goals
    have hd4 := block_below HDK2.out b4
    have HD4 := Lib.hid hd4; have HO4 := Lib.hid (HO2.out.below b4); have HB4 := Lib.hid (HB2.out.trans (b4.mono HB2.out.size))
    obtain ⟨z0, z1, z2, z3, z4, z5⟩ := row_six hd4
    clear hd4 hz0 hz1 hz2 hz3 hz4 hz5 e0 e1 e2 e3 e4 e5
    go_wp2_with fail
    refine bodyPost_ret (v := .tuple #[dkV d a, .string (NUM pe ++ ⟨#[32]⟩ ++ NUM le)]) (by simp [results, Tryz.results135, go_sem, z0, z1, z2, z3, z4, z5]) rfl ⟨a, rfl, ⟨?_, ?_⟩, ?_⟩
    · exact World.ownsRow.kept HO4.out.r (only_six _ (w.heap.size + 1) _ _ _ _ _ _) (own_ne HO4.out.r HD4.out (by decide))
    · exact World.ownsRow.kept HO4.out.b (only_six _ (w.heap.size + 1) _ _ _ _ _ _) (own_ne HO4.out.b HD4.out (by decide))
    · exact bel_six HB4.out (by omega) _ _ _ _ _ _

end Go.Proofs.YtipcodebmemkpaaGreatDoor
