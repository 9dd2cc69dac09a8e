/-
  What the functions of the commands key and factors do, and what impl.RunScript answers to their scripts. Conditions: what each theorem names.
-/
import Derived.Test.YtflaoicjgigcaaaGreatDoorCycA
import Derived.Test.YtflaoicjgigcaaaGreatDoorFact
import Derived.Test.YtflaoicjgigcaaaGreatDoorKeyA
import Derived.Test.YtflaoicjgigcaaaGreatDoorStepR
import Derived.Test.YtflaoicjgigcaaaGreatDoorScriptS
namespace Go.Proofs.YtflaoicjgigcaaaGreatDoor
open Go.RowKit Pl
set_option linter.unusedVariables false

set_option maxHeartbeats 4000000 in
set_option maxRecDepth 100000 in
theorem runKey_ok (w : World) (d : Dk) (a : At) (R : ByteArray) (F : Value) (s T : ByteArray) (hkp : ∀ (w' : World) (A : Option Addr) (cap : Nat), Rd w' w'.heap.size A (rotV d.rs) → d.rs.length ≤ cap → Calls Tryz.prog 7 #[.agg #[.slice A d.rs.length cap, .string d.rf, .string d.ri, .string d.pl], .string d.wi] w' fun e w'' => e = .returned (.tuple #[.string s, .bool true]) ∧ Below w'.heap.size w' w'') (hfc : ∀ w' : World, Calls Tryz.prog 9 #[.string s] w' fun e w'' => e = .returned (.string T) ∧ Below w'.heap.size w' w'') (ho : Own d a w) :
    Calls Tryz.prog 111 #[dkV d a, .string R, F] w (Answered d T w) := by
  have hb := bel_two (w := w) (.cells (dkC d a) 63) (.cells #[.slice none 0 0, .string ⟨#[]⟩, .string ⟨#[]⟩, .string ⟨#[]⟩, .string ⟨#[]⟩, .slice none 0 0] 63)
  have hdk := heap_alloc_new (w.alloc (.cells (dkC d a) 63)) (.cells #[.slice none 0 0, .string ⟨#[]⟩, .string ⟨#[]⟩, .string ⟨#[]⟩, .string ⟨#[]⟩, .slice none 0 0] 63)
  rw [szalloc] at hdk
  have hpa : ((w.alloc (.cells (dkC d a) 63)).alloc (.cells #[.slice none 0 0, .string ⟨#[]⟩, .string ⟨#[]⟩, .string ⟨#[]⟩, .string ⟨#[]⟩, .slice none 0 0] 63)).heap[w.heap.size]? = some (.cells (dkC d a) 63 (0, 0)) := block_below (heap_alloc_new w _) ((Below.refl _ _).alloc (Nat.le_refl _) _)
  obtain ⟨w1, hw1⟩ : ∃ w1, w1 = (w.alloc (.cells (dkC d a) 63)).alloc (.cells #[.slice none 0 0, .string ⟨#[]⟩, .string ⟨#[]⟩, .string ⟨#[]⟩, .string ⟨#[]⟩, .slice none 0 0] 63) := ⟨_, rfl⟩
  rw [← hw1] at hb hdk hpa
  have ho1 := ho.below hb
  have HB := Lib.hid hb; have HDK := Lib.hid hdk; have HPA := Lib.hid hpa; have HO := Lib.hid ho1; have HKP := Lib.hid hkp; have HFC := Lib.hid hfc
  obtain ⟨k0, k1, k2, k3, k4, k5⟩ := row_six hpa
  clear hb hdk hpa ho1 hkp hfc ho
  go_enter Tryz.func111, Tryz.ntmps111
  go_wp2_with fail
  rw [← hw1]
  clear hw1
  go_wp2_with fail
  refine (HKP.out w1 a.Ar a.cr (own_rd3' HO.out.r) (own_le3 HO.out.r)).mono ?_
  rintro _ w2 ⟨rfl, hb2⟩
  have HDK2 := Lib.hid (block_below HDK.out hb2); have HPA2 := Lib.hid (block_below HPA.out hb2); have HB2 := Lib.hid (HB.out.trans (hb2.mono HB.out.size)); have HO2 := Lib.hid (HO.out.below hb2)
  obtain ⟨r0, r1, r2, r3, r4, r5⟩ := row_six HPA2.out
  clear hb2 HB HDK HPA HO HKP k0 k1 k2 k3 k4 k5
  have hdw := HDK2.out
  have f0 := frozen_cells hdw 0; have f1 := frozen_cells hdw 1; have f2 := frozen_cells hdw 2; have f3 := frozen_cells hdw 3; have f4 := frozen_cells hdw 4; have f5 := frozen_cells hdw 5
  have HCW := Lib.hid (HFC.out w2.drew)
  clear hdw
  go_wp2_with fail
  go_region_law (first | (go_simp; go_at_call 9; refine HCW.out.mono ?_; rintro _ w4 ⟨rfl, hb4⟩; have hb4' : Below w2.heap.size w2 w4 := below_of_drew hb4; have HB4 := Lib.hid hb4'; have hpa4 := block_below HPA2.out hb4'; obtain ⟨s0, s1, s2, s3, s4, s5⟩ := row_six hpa4; have hdk4 := block_below HDK2.out hb4'; have HDK4 := Lib.hid hdk4; have e0 := frozen_cells hdk4 0; have e1 := frozen_cells hdk4 1; have e2 := frozen_cells hdk4 2; have e3 := frozen_cells hdk4 3; have e4 := frozen_cells hdk4 4; have e5 := frozen_cells hdk4 5; obtain ⟨z0, z1, z2, z3, z4, z5⟩ := row_six hdk4; clear hb4 hb4' hpa4 hdk4) | fail)
  all_goals
    have HBF := Lib.hid (HB2.out.trans (HB4.out.mono HB2.out.size))
    have HO4 := Lib.hid (HO2.out.below HB4.out)
    clear r0 r1 r2 r3 r4 r5 f0 f1 f2 f3 f4 f5
    go_wp2_with fail
    refine bodyPost_ret (v := .tuple #[dkV d a, .string T]) (by simp [results, Tryz.results111, go_sem, z0, z1, z2, z3, z4, z5]) rfl ⟨a, rfl, ⟨?_, ?_⟩, ?_⟩
    · exact World.ownsRow.kept HO4.out.r (only_six _ (w.heap.size + 1) _ _ _ _ _ _) (own_ne HO4.out.r HDK4.out (by decide))
    · exact World.ownsRow.kept HO4.out.b (only_six _ (w.heap.size + 1) _ _ _ _ _ _) (own_ne HO4.out.b HDK4.out (by decide))
    · exact bel_six HBF.out (by omega) _ _ _ _ _ _

theorem keep_p6 {W : World} {P R : Nat} (hP : P ≠ R) {x0 x1 x2 x3 x4 x5 u0 u1 u2 u3 u4 u5 : Value}
    (h : W.cell? ⟨P, 0, none⟩ = some x0 ∧ W.cell? ⟨P, 1, none⟩ = some x1 ∧ W.cell? ⟨P, 2, none⟩ = some x2 ∧ W.cell? ⟨P, 3, none⟩ = some x3 ∧ W.cell? ⟨P, 4, none⟩ = some x4 ∧ W.cell? ⟨P, 5, none⟩ = some x5) :
    (six W R u0 u1 u2 u3 u4 u5).cell? ⟨P, 0, none⟩ = some x0 ∧ (six W R u0 u1 u2 u3 u4 u5).cell? ⟨P, 1, none⟩ = some x1 ∧ (six W R u0 u1 u2 u3 u4 u5).cell? ⟨P, 2, none⟩ = some x2 ∧ (six W R u0 u1 u2 u3 u4 u5).cell? ⟨P, 3, none⟩ = some x3 ∧ (six W R u0 u1 u2 u3 u4 u5).cell? ⟨P, 4, none⟩ = some x4 ∧ (six W R u0 u1 u2 u3 u4 u5).cell? ⟨P, 5, none⟩ = some x5 := by
  simp only [cell_six hP]
  exact h

set_option maxHeartbeats 4000000 in
set_option maxRecDepth 100000 in
theorem runFactors_ok (w : World) (hg : GW w) (d : Dk) (a : At) (R : ByteArray) (F : Value) (s : ByteArray) (n : Nat) (hn : n ≤ 10000000000) (hpc : ∀ (w' : World), ML w' → Calls Tryz.prog 176 #[.string R] w' fun e w'' => e = .returned (.tuple #[.string s, .bool true]) ∧ Below w'.heap.size w' w'') (hfc : ∀ w' : World, Calls Tryz.prog 13 #[.string s] w' fun e w'' => e = .returned (.int .i64 n) ∧ Below w'.heap.size w' w'') (ho : Own d a w) :
    Calls Tryz.prog 120 #[dkV d a, .string R, F] w (Answered d (mk (Lib.itoa (n : Int))) w) := by
  have hb := bel_two (w := w) (.cells (dkC d a) 63) (.cells #[.slice none 0 0, .string ⟨#[]⟩, .string ⟨#[]⟩, .string ⟨#[]⟩, .string ⟨#[]⟩, .slice none 0 0] 63)
  have hdk := heap_alloc_new (w.alloc (.cells (dkC d a) 63)) (.cells #[.slice none 0 0, .string ⟨#[]⟩, .string ⟨#[]⟩, .string ⟨#[]⟩, .string ⟨#[]⟩, .slice none 0 0] 63)
  rw [szalloc] at hdk
  have hpa : ((w.alloc (.cells (dkC d a) 63)).alloc (.cells #[.slice none 0 0, .string ⟨#[]⟩, .string ⟨#[]⟩, .string ⟨#[]⟩, .string ⟨#[]⟩, .slice none 0 0] 63)).heap[w.heap.size]? = some (.cells (dkC d a) 63 (0, 0)) := block_below (heap_alloc_new w _) ((Below.refl _ _).alloc (Nat.le_refl _) _)
  obtain ⟨w1, hw1⟩ : ∃ w1, w1 = ((w.alloc (.cells (dkC d a) 63)).alloc (.cells #[.slice none 0 0, .string ⟨#[]⟩, .string ⟨#[]⟩, .string ⟨#[]⟩, .string ⟨#[]⟩, .slice none 0 0] 63)) := ⟨_, rfl⟩
  rw [← hw1] at hb hdk hpa
  have ho1 := ho.below hb
  have HG := Lib.hid (hg.below hb (Nat.le_refl _)); have HB := Lib.hid hb; have HDK := Lib.hid hdk; have HPA := Lib.hid hpa; have HO := Lib.hid ho1
  obtain ⟨k0, k1, k2, k3, k4, k5⟩ := row_six hpa
  clear hb hdk hpa ho1 ho hg
  obtain ⟨I, hI⟩ : ∃ I, I = mk (Lib.itoa (n : Int)) := ⟨_, rfl⟩
  have hit : ∀ (w' : World), GW w' → Calls Tryz.prog 164 #[.int .i64 n] w' fun e w'' => e = .returned (.string I) ∧ Below w'.heap.size w' w'' := fun w' hg' => by
    rw [hI]; exact itoa_any w' hg' n (by omega)
  rw [← hI]
  have HPC := Lib.hid hpc; have HFC := Lib.hid hfc; have HIT := Lib.hid hit
  clear hpc hfc hit hI
  go_enter Tryz.func120, Tryz.ntmps120
  go_wp2_with fail
  rw [← hw1]
  clear hw1
  go_wp2_with fail
  refine (HPC.out w1 HG.out.1).mono ?_
  rintro _ w2 ⟨rfl, hb⟩
  have HDK2 := Lib.hid (block_below HDK.out hb); have HPA2 := Lib.hid (block_below HPA.out hb); have HB2 := Lib.hid (HB.out.trans (hb.mono HB.out.size)); have HO2 := Lib.hid (HO.out.below hb); have HG2 := Lib.hid (HG.out.below hb (Nat.le_refl _))
  obtain ⟨r0, r1, r2, r3, r4, r5⟩ := row_six HPA2.out
  clear hb k0 k1 k2 k3 k4 k5
  have hs : ∀ W : World, Below w2.heap.size w2 W → (W.cell? ⟨w.heap.size, 0, none⟩ = some (.slice a.Ar d.rs.length a.cr) ∧ W.cell? ⟨w.heap.size, 1, none⟩ = some (.string d.rf) ∧ W.cell? ⟨w.heap.size, 2, none⟩ = some (.string d.ri) ∧ W.cell? ⟨w.heap.size, 3, none⟩ = some (.string d.pl) ∧ W.cell? ⟨w.heap.size, 4, none⟩ = some (.string d.wi) ∧ W.cell? ⟨w.heap.size, 5, none⟩ = some (.slice a.Ab d.bk.length a.cb)) := fun W hbw => by
    obtain ⟨v0, v1, v2, v3, v4, v5⟩ := row_six (block_below HPA2.out hbw)
    exact ⟨v0, v1, v2, v3, v4, v5⟩
  have HS := Lib.hid hs
  have hbd : Below w2.heap.size w2 w2.drew := (Below.refl _ _).drew
  have hn1 : w.heap.size ≠ w.heap.size + 1 := by omega
  clear hs
  have hz0 := fun (W : World) (hb : Below w2.heap.size w2 W) => (row_six (block_below HDK2.out hb)).1
  have hz1 := fun (W : World) (hb : Below w2.heap.size w2 W) => (row_six (block_below HDK2.out hb)).2.1
  have hz2 := fun (W : World) (hb : Below w2.heap.size w2 W) => (row_six (block_below HDK2.out hb)).2.2.1
  have hz3 := fun (W : World) (hb : Below w2.heap.size w2 W) => (row_six (block_below HDK2.out hb)).2.2.2.1
  have hz4 := fun (W : World) (hb : Below w2.heap.size w2 W) => (row_six (block_below HDK2.out hb)).2.2.2.2.1
  have hz5 := fun (W : World) (hb : Below w2.heap.size w2 W) => (row_six (block_below HDK2.out hb)).2.2.2.2.2
  have e0 := fun (W : World) (hb : Below w2.heap.size w2 W) => frozen_cells (block_below HDK2.out hb) 0
  have e1 := fun (W : World) (hb : Below w2.heap.size w2 W) => frozen_cells (block_below HDK2.out hb) 1
  have e2 := fun (W : World) (hb : Below w2.heap.size w2 W) => frozen_cells (block_below HDK2.out hb) 2
  have e3 := fun (W : World) (hb : Below w2.heap.size w2 W) => frozen_cells (block_below HDK2.out hb) 3
  have e4 := fun (W : World) (hb : Below w2.heap.size w2 W) => frozen_cells (block_below HDK2.out hb) 4
  have e5 := fun (W : World) (hb : Below w2.heap.size w2 W) => frozen_cells (block_below HDK2.out hb) 5
  go_wp2_with fail
  go_region_held3 (fun W => W.cell? ⟨w.heap.size, 0, none⟩ = some (.slice a.Ar d.rs.length a.cr) ∧ W.cell? ⟨w.heap.size, 1, none⟩ = some (.string d.rf) ∧ W.cell? ⟨w.heap.size, 2, none⟩ = some (.string d.ri) ∧ W.cell? ⟨w.heap.size, 3, none⟩ = some (.string d.pl) ∧ W.cell? ⟨w.heap.size, 4, none⟩ = some (.string d.wi) ∧ W.cell? ⟨w.heap.size, 5, none⟩ = some (.slice a.Ab d.bk.length a.cb)) (first | with_reducible assumption | with_reducible exact HS.out _ (by with_reducible assumption) | with_reducible exact keep_p6 hn1 (HS.out _ (by with_reducible assumption))) (first | (go_at_call 13; refine (HFC.out _).mono ?_; rintro _ w4 ⟨rfl, hb4⟩; have b4 := bel_next (a := w2) (by assumption) hb4; clear hb4) | (go_at_call 164; refine (HIT.out _ (HG2.out.below (by assumption) (Nat.le_refl _))).mono ?_; rintro _ w4 ⟨rfl, hb4⟩; have b4 := bel_next (a := w2) (by assumption) hb4; clear hb4) | fail)
  all_goals
    have hd4 := block_below HDK2.out b4
    have HD4 := Lib.hid hd4; have HO4 := Lib.hid (HO2.out.below b4); have HB4 := Lib.hid (HB2.out.trans (b4.mono HB2.out.size))
    obtain ⟨z0, z1, z2, z3, z4, z5⟩ := row_six hd4
    clear hd4 hz0 hz1 hz2 hz3 hz4 hz5 e0 e1 e2 e3 e4 e5
    go_wp2_with fail
    refine bodyPost_ret (v := .tuple #[dkV d a, .string I]) (by simp [results, Tryz.results120, go_sem, z0, z1, z2, z3, z4, z5]) rfl ⟨a, rfl, ⟨?_, ?_⟩, ?_⟩
    · exact World.ownsRow.kept HO4.out.r (only_six _ (w.heap.size + 1) _ _ _ _ _ _) (own_ne HO4.out.r HD4.out (by decide))
    · exact World.ownsRow.kept HO4.out.b (only_six _ (w.heap.size + 1) _ _ _ _ _ _) (own_ne HO4.out.b HD4.out (by decide))
    · exact bel_six HB4.out (by omega) _ _ _ _ _ _

/-- the permutation of a setting: both sides tell the same -/
theorem key_perm {rs : List (ByteArray × ByteArray)} {p g l o : ByteArray} (hv : SetV rs p g l o) : ∃ Q : List Nat, Prm Q ∧
    (∀ (w : World) (A : Option Addr) (cap : Nat), Rd w w.heap.size A (rotV rs) → rs.length ≤ cap → Calls Tryz.prog 7 #[.agg #[.slice A rs.length cap, .string p, .string g, .string l], .string o] w fun e w' => e = .returned (.tuple #[.string (pT Q), .bool true]) ∧ Below w.heap.size w w') ∧
    (∀ (w : World) (A : Option Addr) (cap : Nat), Rd w w.heap.size A (rotV rs) → rs.length ≤ cap → Calls Tryz.prog 8 #[.agg #[.slice A rs.length cap, .string p, .string g, .string l], .string o] w fun e w' => e = .returned (.tuple #[.string (pT Q), .bool true]) ∧ Below w.heap.size w w') := by
  have hrv := hv.1.1.1.2.2.2
  obtain ⟨r, q, rg, ws, hr, hri, rfl, hq, hi, rfl, rfl, hrg, hrl, rfl, hws, hwl⟩ := setV_parts hv
  have hwi : ∀ i, i < rs.length → Prm (wirP rs i) := fun i hi => (wir_ok hrv hi).1
  have hw := wayC_prm (ws := ws) (rg := rg) hq hwi rs.length (Nat.le_refl _)
  exact ⟨permW (wayC q rs ws rg rs.length rs.length) r, prm_then (prm_then hw hr) (prm_inv hw),
    fun w A cap h hc => keyPerm_yes w A cap rs r q rg ws h hc hv hr hri hq hi hrg hrl hws hwl,
    fun w A cap h hc => sKeyPerm_yes w A cap rs r q rg ws h hc hv hr hri hq hi hrg hrl hws hwl⟩
theorem cycT_chars {q : List Nat} (hq : Prm q) : (10 : UInt8) ∉ cycT q := by
  rw [cycT_is]
  by_cases e : bigs q = []
  · rw [if_pos e]; decide
  · rw [if_neg e]
    unfold ctx
    rw [List.mem_flatMap]
    rintro ⟨c, hc, hm⟩
    have hl := pT_letters (cyc_len hq (bigs_mem hc).1).2.2
    rw [List.mem_cons, List.mem_append, List.mem_singleton] at hm
    rcases hm with h | h | h
    · revert h; decide
    · exact letters_not hl (by decide) h
    · revert h; decide
theorem exec_key (d : Dk) (Q : List Nat) (hQ : Prm Q) (hkp : ∀ (w' : World) (A : Option Addr) (cap : Nat), Rd w' w'.heap.size A (rotV d.rs) → d.rs.length ≤ cap → Calls Tryz.prog 7 #[.agg #[.slice A d.rs.length cap, .string d.rf, .string d.ri, .string d.pl], .string d.wi] w' fun e w'' => e = .returned (.tuple #[.string (pT Q), .bool true]) ∧ Below w'.heap.size w' w'') (hm : tl d.wi ≠ []) : Exec d (mk [107, 101, 121]) d (mk (cycT Q)) :=
  exec_bareM d d [107, 101, 121] (mk (cycT Q)) (by decide) (by decide) 111 (enters_of Tryz.func111 (by kernel_rfl) rfl) hm (fun _ _ _ _ _ _ _ => rfl)
    (fun w a p0 p1 p2 p3 p4 p5 p6 hml ho hbx => runKey_ok w d a _ _ (pT Q) (mk (cycT Q)) hkp (fun w' => formatCycles_any w' Q hQ) ho)
theorem exec_factors (d : Dk) (Q : List Nat) (hQ : Prm Q) (n : Nat) (hn : n ≤ 10000000000) (hfc : ∀ w' : World, Calls Tryz.prog 13 #[.string (pT Q)] w' fun e w'' => e = .returned (.int .i64 n) ∧ Below w'.heap.size w' w'') : Exec d (mk ([102, 97, 99, 116, 111, 114, 115] ++ 32 :: cycT Q)) d (mk (Lib.itoa (n : Int))) := by
  have hz := cycT_len hQ
  have h := exec_rest d d [102, 97, 99, 116, 111, 114, 115] (mk (cycT Q)) (mk (Lib.itoa (n : Int))) (by decide) (by decide) (by rw [size_mk]; omega) (-1) 120 (enters_of Tryz.func120 (by kernel_rfl) rfl) (by decide) (fun h => absurd h (by decide)) (fun _ _ _ _ _ _ _ => rfl)
    (fun w a p0 p1 p2 p3 p4 p5 p6 B hml ho hbx hr hB => runFactors_ok w hml d a (mk (cycT Q)) _ (pT Q) n hn (fun w' hm => parseCycles_yes w' hm Q hQ) hfc ho)
  rw [tl_mk] at h
  exact h
theorem run_factors (w : World) (hg : GW w) (T : ByteArray) (Q : List Nat) (hQ : Prm Q) (n : Nat) (hn : n ≤ 10000000000) (hfc : ∀ w' : World, Calls Tryz.prog 13 #[.string (pT Q)] w' fun e w'' => e = .returned (.int .i64 n) ∧ Below w'.heap.size w' w'')
    (hT : tl T = [102, 97, 99, 116, 111, 114, 115] ++ 32 :: cycT Q) :
    Calls Tryz.prog 10 #[.string T] w fun e w' => e = .returned (.string (mk (Lib.itoa (n : Int)) ++ ⟨#[10]⟩)) ∧ Below w.heap.size w w' := by
  have hz := cycT_len hQ
  have hno : (10 : UInt8) ∉ tl T := by
    rw [hT]
    simp only [List.mem_append, not_or]
    exact ⟨by decide, by rw [List.mem_cons, not_or]; exact ⟨by decide, cycT_chars hQ⟩⟩
  have hsp : mkl (spl 10 (tl T)) = [mk ([102, 97, 99, 116, 111, 114, 115] ++ 32 :: cycT Q)] := by rw [spl_none hno, hT]; rfl
  have hTz : T.size ≤ 20000 := by
    rw [← length_tl, hT]
    simp only [List.length_append, List.length_cons, List.length_nil]
    omega
  have zn := (itoa_len n (by omega)).2
  have hrun := run_lines w hg T hTz _ hsp (by simp) (fun _ => Dk.empty) (fun j => if j = 0 then [] else Lib.itoa (n : Int) ++ [10]) rfl rfl (fun j hj => by
    have hj0 : j = 0 := by simp at hj; omega
    subst hj0
    exact .inr ⟨by simp only [List.getElem_cons_zero]; rw [tl_mk]; simp, by simp, mk (Lib.itoa (n : Int)), by rw [size_mk]; omega, by simp [tl_mk], exec_factors Dk.empty Q hQ n hn hfc⟩) (by simp)
  refine hrun.mono fun e w' ⟨h1, h2⟩ => ⟨?_, h2⟩
  rw [h1]
  have : mk (Lib.itoa (n : Int) ++ [10]) = mk (Lib.itoa (n : Int)) ++ ⟨#[10]⟩ := by
    apply tl_inj
    simp only [append_tl, tl_mk]
    rfl
  rw [← this]; rfl
theorem run_key (w : World) (hg : GW w) (T : ByteArray) (rs : List (ByteArray × ByteArray)) (p g o : ByteArray) (q : List Nat) (Q : List Nat) (hv : WinV rs p g) (hq : Prm q) (hi : invP q = q) (ho : o.size = g.size) (hwo : wv (tl o) = true)
    (hQ : Prm Q) (hkp : ∀ (w' : World) (A : Option Addr) (cap : Nat), Rd w' w'.heap.size A (rotV rs) → rs.length ≤ cap → Calls Tryz.prog 7 #[.agg #[.slice A rs.length cap, .string p, .string g, .string (pT q)], .string o] w' fun e w'' => e = .returned (.tuple #[.string (pT Q), .bool true]) ∧ Below w'.heap.size w' w'')
    (hT : tl T = [machLine rs p g q, windLine o, [107, 101, 121]].flatMap (· ++ [10])) :
    Calls Tryz.prog 10 #[.string T] w fun e w' => e = .returned (.string (mk ([111, 107, 10, 111, 107, 10] ++ (cycT Q ++ [10])))) ∧ Below w.heap.size w w' := by
  have hg1 : 1 ≤ g.size ∧ g.size ≤ 3 := ⟨by have := hv.1.1; have := hv.2.1; omega, by have := hv.1.2.1; have := hv.2.1; omega⟩
  have hmz := @machT_len rs p g q hv
  have hon : tl o ≠ [] := by intro e; have := congrArg List.length e; rw [length_tl, List.length_nil] at this; omega
  have hrn : tl (mk (List.replicate g.size (97 : UInt8))) ≠ [] := by rw [tl_mk]; intro e; have := congrArg List.length e; rw [List.length_replicate, List.length_nil] at this; omega
  have hn : ∀ x ∈ [machLine rs p g q, windLine o, [107, 101, 121]], (10 : UInt8) ∉ x := by
    intro x hx
    simp only [List.mem_cons, List.not_mem_nil, or_false] at hx
    rcases hx with rfl | rfl | rfl
    · unfold machLine
      simp only [List.mem_append, not_or]
      exact ⟨by decide, by rw [List.mem_cons, not_or]; exact ⟨by decide, machT_chars hv hq (by decide) (by decide) (by decide) (by decide) (by decide) (by decide)⟩⟩
    · unfold windLine
      simp only [List.mem_append, not_or]
      exact ⟨by decide, by rw [List.mem_cons, not_or]; exact ⟨by decide, wv_not hwo (by decide)⟩⟩
    · decide
  have hsp : mkl (spl 10 (tl T)) = [mk (machLine rs p g q), mk (windLine o), mk [107, 101, 121], mk []] := by rw [hT, spl_lines3 10 _ hn]; rfl
  have hTz : T.size ≤ 20000 := by
    rw [← length_tl, hT]
    unfold machLine windLine
    simp only [List.flatMap_cons, List.flatMap_nil, List.append_nil, List.length_append, List.length_cons, List.length_nil, length_tl]
    omega
  have hsz := cycT_len hQ
  have e0 := exec_machine Dk.empty rs p g q hv hq hi
  have e1 := exec_windows (deskM rs p g q (mk (List.replicate g.size 97)) []) q o hv hq hi rfl ho hwo hrn
  have e2 := exec_key (deskM rs p g q o []) Q hQ hkp hon
  obtain ⟨N, hN⟩ : ∃ N, N = cycT Q := ⟨_, rfl⟩
  rw [← hN] at hsz e2 ⊢
  have hrun := run_lines w hg T hTz _ hsp (by simp) (fun j => if j = 0 then Dk.empty else if j = 1 then deskM rs p g q (mk (List.replicate g.size 97)) [] else deskM rs p g q o []) (fun j => if j = 0 then [] else if j = 1 then [111, 107, 10] else if j = 2 then [111, 107, 10, 111, 107, 10] else [111, 107, 10, 111, 107, 10] ++ (N ++ [10])) rfl rfl (fun j hj => by
    have hj3 : j = 0 ∨ j = 1 ∨ j = 2 ∨ j = 3 := by simp at hj; omega
    rcases hj3 with rfl | rfl | rfl | rfl
    · exact .inr ⟨by simp only [List.getElem_cons_zero]; rw [tl_mk]; simp [machLine], by simp, mk [111, 107], by rw [size_mk]; decide, by simp [tl_mk], e0⟩
    · exact .inr ⟨by simp only [List.getElem_cons_zero, List.getElem_cons_succ]; rw [tl_mk]; simp [windLine], by simp, mk [111, 107], by rw [size_mk]; decide, by simp [tl_mk], e1⟩
    · exact .inr ⟨by simp only [List.getElem_cons_zero, List.getElem_cons_succ]; rw [tl_mk]; simp, by simp, mk N, by rw [size_mk]; omega, by simp [tl_mk], e2⟩
    · exact .inl ⟨by simp only [List.getElem_cons_zero, List.getElem_cons_succ]; rw [tl_mk], rfl, by simp⟩) (by simp)
  exact hrun

end Go.Proofs.YtflaoicjgigcaaaGreatDoor
