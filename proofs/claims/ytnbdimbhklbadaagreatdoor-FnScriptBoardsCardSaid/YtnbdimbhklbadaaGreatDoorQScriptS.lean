/-
  Contracts of functions and plain laws that the law's proof uses (parts: ScriptS). Conditions: what each theorem names.
-/
import Derived.Test.YtnbdimbhklbadaaGreatDoorQMachP
import Derived.Test.YtnbdimbhklbadaaGreatDoorQExecH
import Derived.Test.YtnbdimbhklbadaaGreatDoorQCmA
namespace Go.Proofs.YtnbdimbhklbadaaGreatDoor
open Go.RowKit Pl
set_option linter.unusedVariables false
theorem repeat_one (c : UInt8) (n : Nat) : Lib.repeatL [c] n = List.replicate n c := by
  induction n with
  | zero => rfl
  | succ n ih => simp [Lib.repeatL, ih, List.replicate_succ]
theorem block_set_other {w : World} {p k : Nat} {o : Obj} (h : w.heap[p]? = some o) (hne : p ≠ k) (i : Nat) (v : Value) : (w.setCell ⟨k, i, none⟩ v).heap[p]? = some o := by
  rw [Below.heap_setCell w ⟨k, i, none⟩ v p hne]; exact h
theorem own_setn {w : World} {base : Nat} {e : TypeId} {size n : Nat} {v : Value} {xs : List Value} (h : w.ownsRow base e size v n xs) {p : Nat} (hp : v.ownBlock = none ∨ v.ownBlock ≠ some p) (i : Nat) (u : Value) : (w.setCell ⟨p, i, none⟩ u).ownsRow base e size v n xs := by
  refine h.kept (row := some p) ⟨rfl, rfl, rfl, by simp [World.setCell], fun k _ hn => Below.heap_setCell w ⟨p, i, none⟩ u k (by intro e; exact hn (by rw [e]))⟩ hp
set_option maxHeartbeats 4000000 in
set_option maxRecDepth 100000 in
theorem runWindows_ok (w : World) (d : Dk) (a : At) (q : List Nat) (o : ByteArray) (F : Value) (hv : WinV d.rs d.rf d.ri) (hq : Prm q) (hi : invP q = q) (hp : d.pl = pT q) (hz : o.size = d.ri.size) (hwo : wv (tl o) = true) (ho : Own d a w) :
    Calls Tryz.prog 105 #[dkV d a, .string o, F] w (Answered ⟨d.rs, d.rf, d.ri, d.pl, o, d.bk⟩ (mk [111, 107]) w) := by
  have hb := bel_two (w := w) (.cells (dkC d a) 71) (.cells #[.slice none 0 0, .string ⟨#[]⟩, .string ⟨#[]⟩, .string ⟨#[]⟩, .string ⟨#[]⟩, .slice none 0 0] 71)
  have hdk := heap_alloc_new (w.alloc (.cells (dkC d a) 71)) (.cells #[.slice none 0 0, .string ⟨#[]⟩, .string ⟨#[]⟩, .string ⟨#[]⟩, .string ⟨#[]⟩, .slice none 0 0] 71)
  rw [szalloc] at hdk
  have hpa : ((w.alloc (.cells (dkC d a) 71)).alloc (.cells #[.slice none 0 0, .string ⟨#[]⟩, .string ⟨#[]⟩, .string ⟨#[]⟩, .string ⟨#[]⟩, .slice none 0 0] 71)).heap[w.heap.size]? = some (.cells (dkC d a) 71 (0, 0)) := block_below (heap_alloc_new w _) ((Below.refl _ _).alloc (Nat.le_refl _) _)
  obtain ⟨w1, hw1⟩ : ∃ w1, w1 = (w.alloc (.cells (dkC d a) 71)).alloc (.cells #[.slice none 0 0, .string ⟨#[]⟩, .string ⟨#[]⟩, .string ⟨#[]⟩, .string ⟨#[]⟩, .slice none 0 0] 71) := ⟨_, rfl⟩
  rw [← hw1] at hb hdk hpa
  have ho1 := ho.below hb
  have hrd : Rd w1 w1.heap.size a.Ar (rotV d.rs) := own_rd3' ho1.r
  have hcp : d.rs.length ≤ a.cr := own_le3 ho1.r
  have hset := settingValid_yes w1 a.Ar a.cr d.rs d.rf d.ri o q hrd hcp hv hq hi hz hwo
  rw [← hp] at hset
  have HB := Lib.hid hb; have HDK := Lib.hid hdk; have HPA := Lib.hid hpa; have HO := Lib.hid ho1; have HSET := Lib.hid hset
  obtain ⟨k0, k1, k2, k3, k4, k5⟩ := row_six hpa
  clear hb hdk hpa ho1 hset hrd hcp hv hq hi hp hz hwo ho
  go_enter Tryz.func105, Tryz.ntmps105
  go_wp2_with fail
  rw [← hw1]
  clear hw1
  go_wp2_with fail
  refine HSET.out.mono ?_
  rintro _ w2 ⟨rfl, hb2⟩
  have HDK2 := Lib.hid (block_below HDK.out hb2); have HPA2 := Lib.hid (block_below HPA.out hb2); have HB2 := Lib.hid (HB.out.trans (hb2.mono HB.out.size)); have HO2 := Lib.hid (HO.out.below hb2)
  obtain ⟨r0, r1, r2, r3, r4, r5⟩ := row_six HPA2.out
  have f4 := frozen_cells HPA2.out 4
  have hdw := HDK2.out
  obtain ⟨z0, z1, z2, z3, z4, z5⟩ := row_six hdw
  have f0 := frozen_cells hdw 0; have f1 := frozen_cells hdw 1; have f2 := frozen_cells hdw 2; have f3 := frozen_cells hdw 3; have f4' := frozen_cells hdw 4; have f5 := frozen_cells hdw 5
  have hzz := (Array.getElem?_eq_some_iff.1 hdw).1
  clear hb2 k0 k1 k2 k3 k4 k5 hdw
  have hnr : (Value.slice a.Ar d.rs.length a.cr).ownBlock = none ∨ (Value.slice a.Ar d.rs.length a.cr).ownBlock ≠ some w.heap.size := own_ne HO2.out.r HPA2.out (by decide)
  have hnb : (Value.slice a.Ab d.bk.length a.cb).ownBlock = none ∨ (Value.slice a.Ab d.bk.length a.cb).ownBlock ≠ some w.heap.size := own_ne HO2.out.b HPA2.out (by decide)
  have HOF := Lib.hid (Own.mk (d := ⟨d.rs, d.rf, d.ri, d.pl, o, d.bk⟩) (a := a) (own_setn HO2.out.r hnr 4 (.string o)) (own_setn HO2.out.b hnb 4 (.string o)))
  have HBF := Lib.hid (HB2.out.setCell (Nat.le_refl _) (p := ⟨w.heap.size, 4, none⟩) (.string o))
  have hne : (w.heap.size + 1) ≠ w.heap.size := by omega
  have HDF := Lib.hid (block_set_other HDK2.out hne 4 (.string o))
  clear hnr hnb hne
  go_wp2_with fail
  refine bodyPost_ret (v := .tuple #[dkV ⟨d.rs, d.rf, d.ri, d.pl, o, d.bk⟩ a, .string (mk [111, 107])]) (by simp [results, Tryz.results105, go_sem, z0, z1, z2, z3, z4, z5]; rfl) rfl ⟨a, rfl, ⟨?_, ?_⟩, ?_⟩
  · exact World.ownsRow.kept HOF.out.r (only_six _ (w.heap.size + 1) _ _ _ _ _ _) (own_ne HOF.out.r HDF.out (by decide))
  · exact World.ownsRow.kept HOF.out.b (only_six _ (w.heap.size + 1) _ _ _ _ _ _) (own_ne HOF.out.b HDF.out (by decide))
  · exact bel_six HBF.out (by omega) _ _ _ _ _ _
set_option maxHeartbeats 8000000 in
set_option maxRecDepth 100000 in
theorem runMachine_ok (w : World) (hg : GW w) (d : Dk) (a : At) (rs : List (ByteArray × ByteArray)) (p g : ByteArray) (q : List Nat) (F : Value) (hv : WinV rs p g) (hq : Prm q) (hi : invP q = q) (ho : Own d a w) :
    Calls Tryz.prog 104 #[dkV d a, .string (mk (machT rs p g q)), F] w (Answered ⟨rs, p, g, pT q, mk (List.replicate g.size 97), d.bk⟩ (mk [111, 107]) w) := by
  have hb := bel_two (w := w) (.cells (dkC d a) 71) (.cells #[.slice none 0 0, .string ⟨#[]⟩, .string ⟨#[]⟩, .string ⟨#[]⟩, .string ⟨#[]⟩, .slice none 0 0] 71)
  have hdk := heap_alloc_new (w.alloc (.cells (dkC d a) 71)) (.cells #[.slice none 0 0, .string ⟨#[]⟩, .string ⟨#[]⟩, .string ⟨#[]⟩, .string ⟨#[]⟩, .slice none 0 0] 71)
  rw [szalloc] at hdk
  have hpa : ((w.alloc (.cells (dkC d a) 71)).alloc (.cells #[.slice none 0 0, .string ⟨#[]⟩, .string ⟨#[]⟩, .string ⟨#[]⟩, .string ⟨#[]⟩, .slice none 0 0] 71)).heap[w.heap.size]? = some (.cells (dkC d a) 71 (0, 0)) := block_below (heap_alloc_new w _) ((Below.refl _ _).alloc (Nat.le_refl _) _)
  obtain ⟨w1, hw1⟩ : ∃ w1, w1 = (w.alloc (.cells (dkC d a) 71)).alloc (.cells #[.slice none 0 0, .string ⟨#[]⟩, .string ⟨#[]⟩, .string ⟨#[]⟩, .string ⟨#[]⟩, .slice none 0 0] 71) := ⟨_, rfl⟩
  rw [← hw1] at hb hdk hpa
  have ho1 := ho.below hb
  have hpm := parseMachine_yes w1 (hg.below hb (Nat.le_refl _)).ml rs p g q hv hq hi
  have hM5 : g.size ≤ 5 := by have := hv.1.2.1; have := hv.2.1; omega
  generalize mk (machT rs p g q) = T at hpm ⊢
  generalize pT q = l at hpm ⊢
  have hrep := fun w' => Tryz.strings_Repeat (mk [97]) g.size w' (by omega) (by rw [size_mk]; simp; omega)
  have er : (ByteArray.mk (Lib.repeatL (mk [97]).data.toList g.size).toArray) = mk (List.replicate g.size 97) := by
    show mk (Lib.repeatL [97] g.size) = _
    rw [repeat_one]
  rw [er] at hrep
  clear er
  generalize mk (List.replicate g.size 97) = rep at hrep ⊢
  have HB := Lib.hid hb; have HDK := Lib.hid hdk; have HPA := Lib.hid hpa; have HO := Lib.hid ho1; have HPM := Lib.hid hpm; have HREP := Lib.hid hrep
  clear hb hdk hpa ho1 hpm hv hq hi ho hrep hg
  go_enter Tryz.func104, Tryz.ntmps104
  go_wp2_with fail
  rw [← hw1]
  clear hw1
  go_wp2_with fail
  refine HPM.out.mono ?_
  rintro _ w2 ⟨A, cap, rfl, hown, hb2⟩
  have HDK2 := Lib.hid (block_below HDK.out hb2); have HPA2 := Lib.hid (block_below HPA.out hb2); have HB2 := Lib.hid (HB.out.trans (hb2.mono HB.out.size)); have HO2 := Lib.hid (HO.out.below hb2); have HOW := Lib.hid hown
  clear hb2 hown HB HDK HPA HO HPM
  go_wp2_with fail
  obtain ⟨w3, hw3⟩ : ∃ w3, w3 = w2.alloc (.cells #[.slice A rs.length cap, .string p, .string g, .string l] 27) := ⟨_, rfl⟩
  have hal : Below w2.heap.size w2 w3 := by rw [hw3]; exact (Below.refl _ _).alloc (Nat.le_refl _) _
  have hx3 : SB w3 w2.heap.size #[.slice A rs.length cap, .string p, .string g, .string l] 27 := by rw [hw3]; exact SB.made w2 _ _
  have HDK3 := Lib.hid (block_below HDK2.out hal); have HPA3 := Lib.hid (block_below HPA2.out hal); have HB3 := Lib.hid (HB2.out.trans (hal.mono HB2.out.size)); have HO3 := Lib.hid (HO2.out.below hal); have HOW3 := Lib.hid (own_mono3 (ownsRow_below HOW.out hal) (Nat.zero_le _))
  rw [← hw3]
  obtain ⟨X, hX⟩ : ∃ X, X = w2.heap.size := ⟨_, rfl⟩
  rw [← hX] at hx3 ⊢
  obtain ⟨⟨x0, x1, x2, x3⟩, _⟩ := hx3.all4
  obtain ⟨r0, r1, r2, r3, r4, r5⟩ := row_six HPA3.out
  have f0 := frozen_cells HPA3.out 0; have f1 := frozen_cells HPA3.out 1; have f2 := frozen_cells HPA3.out 2; have f3 := frozen_cells HPA3.out 3; have f4 := frozen_cells HPA3.out 4
  have hxw : w.heap.size ≠ X := by have := HB2.out.size; have := (Array.getElem?_eq_some_iff.1 HPA2.out).1; omega
  clear hal hw3 hX HDK2 HPA2 HB2 HO2 HOW hx3 hM5
  go_region_law (first | (go_simp; go_at_call 161; refine (HREP.out _).mono ?_; rintro _ w4 ⟨rfl, hb4⟩; have hb4' : Below w3.heap.size w3 w4 := below_of_drew hb4; have HB4 := Lib.hid hb4'; have hpa4 := block_below HPA3.out hb4'; have HPA4 := Lib.hid hpa4; obtain ⟨s0, s1, s2, s3, s4, s5⟩ := row_six hpa4; have e0 := frozen_cells hpa4 0; have e1 := frozen_cells hpa4 1; have e2 := frozen_cells hpa4 2; have e3 := frozen_cells hpa4 3; have e4 := frozen_cells hpa4 4; have y0 := (hb4'.cell (World.block_lt_of_cell? _ _ x0)).trans x0; have y1 := (hb4'.cell (World.block_lt_of_cell? _ _ x1)).trans x1; have y2 := (hb4'.cell (World.block_lt_of_cell? _ _ x2)).trans x2; have y3 := (hb4'.cell (World.block_lt_of_cell? _ _ x3)).trans x3; clear hb4 hb4' hpa4) | fail)
  all_goals
    have HB5 := Lib.hid (HB3.out.trans (HB4.out.mono HB3.out.size))
    have hd4 := block_below HDK3.out HB4.out
    have ho4 := HO3.out.below HB4.out
    have how4 := ownsRow_below HOW3.out HB4.out
    have hnr : (Value.slice A rs.length cap).ownBlock = none ∨ (Value.slice A rs.length cap).ownBlock ≠ some w.heap.size := own_ne how4 HPA4.out (by decide)
    have hnb : (Value.slice a.Ab d.bk.length a.cb).ownBlock = none ∨ (Value.slice a.Ab d.bk.length a.cb).ownBlock ≠ some w.heap.size := own_ne ho4.b HPA4.out (by decide)
    have HOF := Lib.hid (own_setn (own_setn (own_setn (own_setn (own_setn how4 hnr 0 (.slice A rs.length cap)) hnr 1 (.string p)) hnr 2 (.string g)) hnr 3 (.string l)) hnr 4 (.string rep))
    have HOB := Lib.hid (own_setn (own_setn (own_setn (own_setn (own_setn ho4.b hnb 0 (.slice A rs.length cap)) hnb 1 (.string p)) hnb 2 (.string g)) hnb 3 (.string l)) hnb 4 (.string rep))
    have HBF := Lib.hid (((((HB5.out.setCell (Nat.le_refl _) (p := ⟨w.heap.size, 0, none⟩) (.slice A rs.length cap)).setCell (Nat.le_refl _) (p := ⟨w.heap.size, 1, none⟩) (.string p)).setCell (Nat.le_refl _) (p := ⟨w.heap.size, 2, none⟩) (.string g)).setCell (Nat.le_refl _) (p := ⟨w.heap.size, 3, none⟩) (.string l)).setCell (Nat.le_refl _) (p := ⟨w.heap.size, 4, none⟩) (.string rep))
    have hne : (w.heap.size + 1) ≠ w.heap.size := by omega
    have hdf := block_set_other (block_set_other (block_set_other (block_set_other (block_set_other hd4 hne 0 (.slice A rs.length cap)) hne 1 (.string p)) hne 2 (.string g)) hne 3 (.string l)) hne 4 (.string rep)
    have hpf := set_block2 (set_block2 (set_block2 (set_block2 (set_block2 HPA4.out 0 (.slice A rs.length cap)) 1 (.string p)) 2 (.string g)) 3 (.string l)) 4 (.string rep)
    have hpf' : _ = some (Obj.cells #[.slice A rs.length cap, .string p, .string g, .string l, .string rep, .slice a.Ab d.bk.length a.cb] 71 (0, 0)) := hpf
    obtain ⟨w5, hw5⟩ : ∃ w5, w5 = ((((w4.setCell ⟨w.heap.size, 0, none⟩ (.slice A rs.length cap)).setCell ⟨w.heap.size, 1, none⟩ (.string p)).setCell ⟨w.heap.size, 2, none⟩ (.string g)).setCell ⟨w.heap.size, 3, none⟩ (.string l)).setCell ⟨w.heap.size, 4, none⟩ (.string rep) := ⟨_, rfl⟩
    rw [← hw5] at hdf hpf' HOF HOB HBF ⊢
    have HDF := Lib.hid hdf
    obtain ⟨t0, t1, t2, t3, t4, t5⟩ := row_six hpf'
    obtain ⟨z0, z1, z2, z3, z4, z5⟩ := row_six hdf
    have v0 := frozen_cells hdf 0; have v1 := frozen_cells hdf 1; have v2 := frozen_cells hdf 2; have v3 := frozen_cells hdf 3; have v4 := frozen_cells hdf 4; have v5 := frozen_cells hdf 5
    clear hd4 ho4 how4 hnr hnb hne hdf hpf hpf' hw5 s0 s1 s2 s3 s4 s5 e0 e1 e2 e3 e4 y0 y1 y2 y3 x0 x1 x2 x3 r0 r1 r2 r3 r4 r5 f0 f1 f2 f3 f4
    go_wp2_with fail
    refine bodyPost_ret (v := .tuple #[dkV ⟨rs, p, g, l, rep, d.bk⟩ ⟨A, cap, a.Ab, a.cb⟩, .string (mk [111, 107])]) (by simp [results, Tryz.results104, go_sem, z0, z1, z2, z3, z4, z5]; rfl) rfl ⟨⟨A, cap, a.Ab, a.cb⟩, rfl, ⟨?_, ?_⟩, ?_⟩
    · exact World.ownsRow.kept HOF.out (only_six _ (w.heap.size + 1) _ _ _ _ _ _) (own_ne HOF.out HDF.out (by decide))
    · exact World.ownsRow.kept HOB.out (only_six _ (w.heap.size + 1) _ _ _ _ _ _) (own_ne HOB.out HDF.out (by decide))
    · exact bel_six HBF.out (by omega) _ _ _ _ _ _
theorem spl_lines3 (c : UInt8) : ∀ (ls : List (List UInt8)), (∀ p ∈ ls, c ∉ p) → spl c (ls.flatMap (· ++ [c])) = ls ++ [[]]
  | [], _ => by simp [spl_none]
  | p :: r, h => by
    rw [List.flatMap_cons, List.append_assoc, List.singleton_append, spl_cons _ (h p (by simp)), spl_lines3 c r fun q hq => h q (by simp [hq])]
    rfl
def machLine (rs : List (ByteArray × ByteArray)) (p g : ByteArray) (q : List Nat) : List UInt8 := [109, 97, 99, 104, 105, 110, 101] ++ 32 :: machT rs p g q
def windLine (o : ByteArray) : List UInt8 := [119, 105, 110, 100, 111, 119, 115] ++ 32 :: tl o
abbrev deskM (rs : List (ByteArray × ByteArray)) (p g : ByteArray) (q : List Nat) (o : ByteArray) (bk : List Ent) : Dk := ⟨rs, p, g, pT q, o, bk⟩
theorem exec_machine (d : Dk) (rs : List (ByteArray × ByteArray)) (p g : ByteArray) (q : List Nat) (hv : WinV rs p g) (hq : Prm q) (hi : invP q = q) : Exec d (mk (machLine rs p g q)) (deskM rs p g q (mk (List.replicate g.size 97)) d.bk) (mk [111, 107]) := by
  have hz := @machT_len rs p g q hv
  have h := exec_rest d (deskM rs p g q (mk (List.replicate g.size 97)) d.bk) [109, 97, 99, 104, 105, 110, 101] (mk (machT rs p g q)) (mk [111, 107]) (by decide) (by decide) (by rw [size_mk]; omega) (-1) 104 (enters_of Tryz.func104 (by kernel_rfl) rfl) (by decide) (fun h => absurd h (by decide)) (fun _ _ _ _ _ _ _ => rfl)
    (fun w a p0 p1 p2 p3 p4 p5 p6 B hml ho hbx hr hB => runMachine_ok w hml d a rs p g q _ hv hq hi ho)
  rw [tl_mk] at h
  exact h
theorem exec_windows (d : Dk) (q : List Nat) (o : ByteArray) (hv : WinV d.rs d.rf d.ri) (hq : Prm q) (hi : invP q = q) (hp : d.pl = pT q) (hz : o.size = d.ri.size) (hwo : wv (tl o) = true) (hm : tl d.wi ≠ []) : Exec d (mk (windLine o)) ⟨d.rs, d.rf, d.ri, d.pl, o, d.bk⟩ (mk [111, 107]) := by
  have hoz : o.size ≤ 20000 := by have := wv_length hwo; rw [length_tl] at this; omega
  exact exec_restM d ⟨d.rs, d.rf, d.ri, d.pl, o, d.bk⟩ [119, 105, 110, 100, 111, 119, 115] o (mk [111, 107]) (by decide) (by decide) hoz (-1) 105 (enters_of Tryz.func105 (by kernel_rfl) rfl) (by decide) hm (fun h => absurd h (by decide)) (fun _ _ _ _ _ _ _ => rfl)
    (fun w a p0 p1 p2 p3 p4 p5 p6 B hml ho hbx hr hB => runWindows_ok w d a q o _ hv hq hi hp hz hwo ho)
end Go.Proofs.YtnbdimbhklbadaaGreatDoor
