/-
  Scripts that encipher: a word as it is written, the command encipher, what impl.RunScript answers. Conditions: what each theorem names.
-/
import Derived.Test.YtipcodebmemkpaaGreatDoorRunL
import Derived.Test.YtipcodebmemkpaaGreatDoorWords
import Derived.Test.YtipcodebmemkpaaGreatDoorStepR
import Derived.Test.YtipcodebmemkpaaGreatDoorScriptS
namespace Go.Proofs.YtipcodebmemkpaaGreatDoor
open Go.RowKit Pl
set_option linter.unusedVariables false

/-- a word as it is written -/
def dash (s : ByteArray) : ByteArray := if tl s = [] then mk [45] else s
theorem dash_nil {s : ByteArray} (h : tl s = []) : dash s = mk [45] := if_pos h
theorem dash_word {s : ByteArray} (h : tl s ≠ []) : dash s = s := if_neg h
theorem dash_size (s : ByteArray) : (dash s).size ≤ s.size + 1 := by
  unfold dash; split
  · rw [size_mk]; simp
  · omega
theorem dash_ne (s : ByteArray) : tl (dash s) ≠ [] := by
  unfold dash; split
  · rw [tl_mk]; simp
  · assumption
theorem dash_not {s : ByteArray} (h : wv (tl s) = true) {x : UInt8} (hx : x.toNat < 45) : x ∉ tl (dash s) := by
  unfold dash; split
  · rw [tl_mk]; intro hm; simp at hm; subst hm; simp at hx
  · intro hm; have := isL_bounds (wv_mem h hm); omega
theorem nil_of_tl {s : ByteArray} (h : tl s = []) : s = mk [] := by rw [← mk_tl s, h]


















theorem showWord_any (w : World) (s : ByteArray) :
    Calls Tryz.prog 192 #[.string s] w fun e w' => e = .returned (.string (dash s)) ∧ w = w' := by
  by_cases h : tl s = []
  · rw [dash_nil h]
    have hq : s.toList.isEmpty = true := by rw [toList_tl, h]; rfl
    clear h
    go_enter Tryz.func192, Tryz.ntmps192
    go_wp2_with fail
    go_ret
    exact ⟨rfl, rfl⟩
  · rw [dash_word h]
    have hq : s.toList.isEmpty = false := by rw [List.isEmpty_eq_false_iff, toList_tl]; exact h
    clear h
    go_enter Tryz.func192, Tryz.ntmps192
    go_wp2_with fail
    go_ret
    exact ⟨rfl, rfl⟩
theorem readWord_ok (w : World) (s : ByteArray) (hs : wv (tl s) = true) :
    Calls Tryz.prog 190 #[.string (dash s)] w fun e w' => e = .returned (.tuple #[.string s, .bool true]) ∧ w = w' := by
  by_cases h : tl s = []
  · rw [dash_nil h, nil_of_tl h]
    have hd : ((mk [45]).toList == [45]) = true := by rw [toList_tl, tl_mk]; rfl
    clear h hs
    go_enter Tryz.func190, Tryz.ntmps190
    go_wp2_with fail
    go_ret2
    exact ⟨rfl, rfl⟩
  · rw [dash_word h]
    have hq : s.toList.isEmpty = false := by rw [List.isEmpty_eq_false_iff, toList_tl]; exact h
    have hd : (s.toList == [45]) = false := by
      rw [beq_eq_false_iff_ne, toList_tl]
      intro e
      have := isL_bounds (wv_mem hs (show (45 : UInt8) ∈ tl s by rw [e]; simp))
      simp at this
    have HS := Lib.hid hs; clear h hs
    go_enter Tryz.func190, Tryz.ntmps190
    go_wp2_with fail
    refine (wordValid_is _ true _ HS.out).mono ?_
    rintro _ _ ⟨rfl, rfl⟩
    go_wp2_with fail
    go_ret2
    exact ⟨rfl, rfl⟩

theorem block_set_same {w : World} {p : Nat} {cs : Array Value} {T : TypeId} (h : w.heap[p]? = some (.cells cs T (0, 0))) (k : Nat) (v : Value) : (w.setCell ⟨p, k, none⟩ v).heap[p]? = some (.cells (cs.setIfInBounds k v) T (0, 0)) := by
  rw [setCell_eq_setRow w p k _ _ _ _ h]
  exact setRow_heap w p _ _ _ _ h
theorem keep_p6e {W : World} {P R : Nat} (hP : P ≠ R) {x0 x1 x2 x3 x4 x5 u0 u1 u2 u3 u4 u5 : Value}
    (h : W.cell? ⟨P, 0, none⟩ = some x0 ∧ W.cell? ⟨P, 1, none⟩ = some x1 ∧ W.cell? ⟨P, 2, none⟩ = some x2 ∧ W.cell? ⟨P, 3, none⟩ = some x3 ∧ W.cell? ⟨P, 4, none⟩ = some x4 ∧ W.cell? ⟨P, 5, none⟩ = some x5) :
    (six W R u0 u1 u2 u3 u4 u5).cell? ⟨P, 0, none⟩ = some x0 ∧ (six W R u0 u1 u2 u3 u4 u5).cell? ⟨P, 1, none⟩ = some x1 ∧ (six W R u0 u1 u2 u3 u4 u5).cell? ⟨P, 2, none⟩ = some x2 ∧ (six W R u0 u1 u2 u3 u4 u5).cell? ⟨P, 3, none⟩ = some x3 ∧ (six W R u0 u1 u2 u3 u4 u5).cell? ⟨P, 4, none⟩ = some x4 ∧ (six W R u0 u1 u2 u3 u4 u5).cell? ⟨P, 5, none⟩ = some x5 := by
  simp only [cell_six hP]
  exact h

/-- a desk with other windows -/
abbrev Dk.at (d : Dk) (u : ByteArray) : Dk := ⟨d.rs, d.rf, d.ri, d.pl, u, d.bk⟩

set_option maxHeartbeats 4000000 in
set_option maxRecDepth 100000 in
theorem runEncipher_ok (w : World) (d : Dk) (a : At) (x s u G : ByteArray) (F : Value) (hx : wv (tl x) = true)
    (hen : ∀ (w' : World) (A : Option Addr) (cap : Nat), Rd w' w'.heap.size A (rotV d.rs) → d.rs.length ≤ cap → Calls Tryz.prog 191 #[.agg #[.slice A d.rs.length cap, .string d.rf, .string d.ri, .string d.pl], .string d.wi, .string x] w' fun e w'' => e = .returned (.tuple #[.string s, .string u, .bool true]) ∧ Below w'.heap.size w' w'')
    (hgw : ∀ w' : World, Calls Tryz.prog 193 #[.string s] w' fun e w'' => e = .returned (.string G) ∧ Below w'.heap.size w' w'') (ho : Own d a w) :
    Calls Tryz.prog 133 #[dkV d a, .string (dash x), F] w (Answered (d.at u) (dash G) w) := by
  have hb := bel_two (w := w) (.cells (dkC d a) 85) (.cells #[.slice none 0 0, .string ⟨#[]⟩, .string ⟨#[]⟩, .string ⟨#[]⟩, .string ⟨#[]⟩, .slice none 0 0] 85)
  have hdk := heap_alloc_new (w.alloc (.cells (dkC d a) 85)) (.cells #[.slice none 0 0, .string ⟨#[]⟩, .string ⟨#[]⟩, .string ⟨#[]⟩, .string ⟨#[]⟩, .slice none 0 0] 85)
  rw [szalloc] at hdk
  have hpa : ((w.alloc (.cells (dkC d a) 85)).alloc (.cells #[.slice none 0 0, .string ⟨#[]⟩, .string ⟨#[]⟩, .string ⟨#[]⟩, .string ⟨#[]⟩, .slice none 0 0] 85)).heap[w.heap.size]? = some (.cells (dkC d a) 85 (0, 0)) := block_below (heap_alloc_new w _) ((Below.refl _ _).alloc (Nat.le_refl _) _)
  obtain ⟨w1, hw1⟩ : ∃ w1, w1 = ((w.alloc (.cells (dkC d a) 85)).alloc (.cells #[.slice none 0 0, .string ⟨#[]⟩, .string ⟨#[]⟩, .string ⟨#[]⟩, .string ⟨#[]⟩, .slice none 0 0] 85)) := ⟨_, rfl⟩
  rw [← hw1] at hb hdk hpa
  have ho1 := ho.below hb
  have HB := Lib.hid hb; have HDK := Lib.hid hdk; have HPA := Lib.hid hpa; have HO := Lib.hid ho1
  have HEN := Lib.hid hen; have HGW := Lib.hid hgw; have HX := Lib.hid hx
  clear hb hdk ho1 ho hen hgw hx
  go_enter Tryz.func133, Tryz.ntmps133
  go_wp2_with fail
  rw [← hw1]
  clear hw1
  obtain ⟨k0, k1, k2, k3, k4, k5⟩ := row_six hpa
  clear hpa
  go_wp2_with fail
  refine (readWord_ok _ x HX.out).mono ?_
  rintro _ _ ⟨rfl, rfl⟩
  go_wp2_with fail
  refine (HEN.out w1 a.Ar a.cr (own_rd3' HO.out.r) (own_le3 HO.out.r)).mono ?_
  rintro _ w3 ⟨rfl, hb⟩
  clear k0 k1 k2 k3 k4 k5
  have HDK3 := Lib.hid (block_below HDK.out hb); have HPA3 := Lib.hid (block_below HPA.out hb); have HB3 := Lib.hid (HB.out.trans (hb.mono HB.out.size)); have HO3 := Lib.hid (HO.out.below hb)
  clear hb HB HDK HPA HO
  have hnr : (Value.slice a.Ar d.rs.length a.cr).ownBlock = none ∨ (Value.slice a.Ar d.rs.length a.cr).ownBlock ≠ some w.heap.size := own_ne HO3.out.r HPA3.out (by decide)
  have hnb : (Value.slice a.Ab d.bk.length a.cb).ownBlock = none ∨ (Value.slice a.Ab d.bk.length a.cb).ownBlock ≠ some w.heap.size := own_ne HO3.out.b HPA3.out (by decide)
  have HOF := Lib.hid (Own.mk (d := d.at u) (a := a) (own_setn HO3.out.r hnr 4 (.string u)) (own_setn HO3.out.b hnb 4 (.string u)))
  have HBF := Lib.hid (HB3.out.setCell (Nat.le_refl _) (p := ⟨w.heap.size, 4, none⟩) (.string u))
  have hne : (w.heap.size + 1) ≠ w.heap.size := by omega
  have HDF := Lib.hid (block_set_other HDK3.out hne 4 (.string u))
  have f4 := frozen_cells HPA3.out 4
  have hpn : (w3.setCell ⟨w.heap.size, 4, none⟩ (.string u)).heap[w.heap.size]? = some (.cells (dkC (d.at u) a) 85 (0, 0)) := block_set_same HPA3.out 4 (.string u)
  have HPF := Lib.hid hpn
  clear hnr hnb hpn
  obtain ⟨r0, r1, r2, r3, r4, r5⟩ := row_six HPA3.out
  obtain ⟨w4, hw4⟩ : ∃ w4, w4 = w3.setCell ⟨w.heap.size, 4, none⟩ (.string u) := ⟨_, rfl⟩
  go_wp2_with fail
  rw [← hw4] at HOF HBF HDF HPF ⊢
  clear hw4 f4 HPA3 HDK3 HB3 HO3 r0 r1 r2 r3 r4 r5
  have hs : ∀ W : World, Below w4.heap.size w4 W → (W.cell? ⟨w.heap.size, 0, none⟩ = some (.slice a.Ar d.rs.length a.cr) ∧ W.cell? ⟨w.heap.size, 1, none⟩ = some (.string d.rf) ∧ W.cell? ⟨w.heap.size, 2, none⟩ = some (.string d.ri) ∧ W.cell? ⟨w.heap.size, 3, none⟩ = some (.string d.pl) ∧ W.cell? ⟨w.heap.size, 4, none⟩ = some (.string u) ∧ W.cell? ⟨w.heap.size, 5, none⟩ = some (.slice a.Ab d.bk.length a.cb)) := fun W hbw => by
    obtain ⟨v0, v1, v2, v3, v4, v5⟩ := row_six (block_below HPF.out hbw)
    exact ⟨v0, v1, v2, v3, v4, v5⟩
  have HS := Lib.hid hs
  have hbd : Below w4.heap.size w4 w4.drew := (Below.refl _ _).drew
  have hn1 : w.heap.size ≠ w.heap.size + 1 := by omega
  clear hs
  have hz0 := fun (W : World) (hb : Below w4.heap.size w4 W) => (row_six (block_below HDF.out hb)).1
  have hz1 := fun (W : World) (hb : Below w4.heap.size w4 W) => (row_six (block_below HDF.out hb)).2.1
  have hz2 := fun (W : World) (hb : Below w4.heap.size w4 W) => (row_six (block_below HDF.out hb)).2.2.1
  have hz3 := fun (W : World) (hb : Below w4.heap.size w4 W) => (row_six (block_below HDF.out hb)).2.2.2.1
  have hz4 := fun (W : World) (hb : Below w4.heap.size w4 W) => (row_six (block_below HDF.out hb)).2.2.2.2.1
  have hz5 := fun (W : World) (hb : Below w4.heap.size w4 W) => (row_six (block_below HDF.out hb)).2.2.2.2.2
  have e0 := fun (W : World) (hb : Below w4.heap.size w4 W) => frozen_cells (block_below HDF.out hb) 0
  have e1 := fun (W : World) (hb : Below w4.heap.size w4 W) => frozen_cells (block_below HDF.out hb) 1
  have e2 := fun (W : World) (hb : Below w4.heap.size w4 W) => frozen_cells (block_below HDF.out hb) 2
  have e3 := fun (W : World) (hb : Below w4.heap.size w4 W) => frozen_cells (block_below HDF.out hb) 3
  have e4 := fun (W : World) (hb : Below w4.heap.size w4 W) => frozen_cells (block_below HDF.out hb) 4
  have e5 := fun (W : World) (hb : Below w4.heap.size w4 W) => frozen_cells (block_below HDF.out hb) 5
  go_wp2_with fail
  go_region_held3 (fun W => W.cell? ⟨w.heap.size, 0, none⟩ = some (.slice a.Ar d.rs.length a.cr) ∧ W.cell? ⟨w.heap.size, 1, none⟩ = some (.string d.rf) ∧ W.cell? ⟨w.heap.size, 2, none⟩ = some (.string d.ri) ∧ W.cell? ⟨w.heap.size, 3, none⟩ = some (.string d.pl) ∧ W.cell? ⟨w.heap.size, 4, none⟩ = some (.string u) ∧ W.cell? ⟨w.heap.size, 5, none⟩ = some (.slice a.Ab d.bk.length a.cb)) (first | with_reducible assumption | with_reducible exact HS.out _ (by with_reducible assumption) | with_reducible exact keep_p6e hn1 (HS.out _ (by with_reducible assumption))) (first | (go_at_call 193; refine (HGW.out _).mono ?_; rintro _ w5 ⟨rfl, hb4⟩; have b4 := bel_next (a := w4) (by assumption) hb4; clear hb4) | (go_at_call 192; refine (showWord_any _ _).mono ?_; rintro _ _ ⟨rfl, rfl⟩) | fail)
  all_goals
    have hd4 := block_below HDF.out b4
    have HD4 := Lib.hid hd4; have HO4 := Lib.hid (HOF.out.below b4); have HB4 := Lib.hid (HBF.out.trans (b4.mono HBF.out.size))
    obtain ⟨z0, z1, z2, z3, z4, z5⟩ := row_six hd4
    clear hd4 hz0 hz1 hz2 hz3 hz4 hz5 e0 e1 e2 e3 e4 e5
    go_wp2_with fail
    refine bodyPost_ret (v := .tuple #[dkV (d.at u) a, .string (dash G)]) (by simp [results, Tryz.results133, go_sem, z0, z1, z2, z3, z4, z5]) rfl ⟨a, rfl, ⟨?_, ?_⟩, ?_⟩
    · exact World.ownsRow.kept HO4.out.r (only_six _ (w.heap.size + 1) _ _ _ _ _ _) (own_ne HO4.out.r HD4.out (by decide))
    · exact World.ownsRow.kept HO4.out.b (only_six _ (w.heap.size + 1) _ _ _ _ _ _) (own_ne HO4.out.b HD4.out (by decide))
    · exact bel_six HB4.out (by omega) _ _ _ _ _ _

def encLine (x : ByteArray) : List UInt8 := [101, 110, 99, 105, 112, 104, 101, 114] ++ 32 :: tl (dash x)
theorem exec_encipher (d : Dk) (x s u G : ByteArray) (hx : wv (tl x) = true) (hxl : x.size ≤ 1000)
    (hen : ∀ (w' : World) (A : Option Addr) (cap : Nat), Rd w' w'.heap.size A (rotV d.rs) → d.rs.length ≤ cap → Calls Tryz.prog 191 #[.agg #[.slice A d.rs.length cap, .string d.rf, .string d.ri, .string d.pl], .string d.wi, .string x] w' fun e w'' => e = .returned (.tuple #[.string s, .string u, .bool true]) ∧ Below w'.heap.size w' w'')
    (hgw : ∀ w' : World, Calls Tryz.prog 193 #[.string s] w' fun e w'' => e = .returned (.string G) ∧ Below w'.heap.size w' w'') (hm : tl d.wi ≠ []) : Exec d (mk (encLine x)) (d.at u) (dash G) := by
  have hz := dash_size x
  exact exec_restM d (d.at u) [101, 110, 99, 105, 112, 104, 101, 114] (dash x) (dash G) (by decide) (by decide) (by omega) (-1) 133 (enters_of Tryz.func133 (by kernel_rfl) rfl) (by decide) hm (fun h => absurd h (by decide)) (fun _ _ _ _ _ _ _ => rfl)
    (fun w a p0 p1 p2 p3 p4 p5 p6 B hml ho hbx hr hB => runEncipher_ok w d a x s u G _ hx hen hgw ho)

/-- the answers, a line each -/
def ansL (ans : Nat → ByteArray) (k : Nat) : List UInt8 := (List.range k).flatMap fun j => tl (ans j) ++ [10]
theorem ansL_succ (ans : Nat → ByteArray) (k : Nat) : ansL ans (k + 1) = ansL ans k ++ (tl (ans k) ++ [10]) := by
  unfold ansL; rw [List.range_succ, List.flatMap_append]; simp
theorem ansL_len {ans : Nat → ByteArray} {n : Nat} (h : ∀ j, j < n → (ans j).size ≤ 2000) : ∀ k, k ≤ n → (ansL ans k).length ≤ k * 2001
  | 0, _ => by simp [ansL]
  | k + 1, hk => by
    have := ansL_len h k (by omega)
    have := h k (by omega)
    rw [ansL_succ, List.length_append, List.length_append, length_tl, List.length_singleton]; omega
theorem lines_len : ∀ (ls : List (List UInt8)), (∀ x ∈ ls, x.length ≤ 2000) → (ls.flatMap (· ++ [10])).length ≤ ls.length * 2001
  | [], _ => by simp
  | x :: r, h => by
    have h1 := lines_len r fun y hy => h y (by simp [hy])
    have h2 := h x (by simp)
    rw [List.flatMap_cons, List.length_append, List.length_append, List.length_cons, List.length_cons, List.length_nil]; omega

theorem run_more (w : World) (hg : GW w) (T : ByteArray) (rs : List (ByteArray × ByteArray)) (p g o : ByteArray) (q : List Nat) (ls : List (List UInt8)) (dk : Nat → Dk) (ans : Nat → ByteArray) (hv : WinV rs p g) (hq : Prm q) (hi : invP q = q) (ho : o.size = g.size) (hwo : wv (tl o) = true)
    (hl : ls.length ≤ 8) (hn : ∀ x ∈ ls, (10 : UInt8) ∉ x ∧ x ≠ [] ∧ x.length ≤ 2000) (h0 : dk 0 = deskM rs p g q o []) (hz : ∀ j, j < ls.length → (ans j).size ≤ 2000) (hE : ∀ j (h : j < ls.length), Exec (dk j) (mk ls[j]) (dk (j + 1)) (ans j))
    (hT : tl T = (machLine rs p g q :: windLine o :: ls).flatMap (· ++ [10])) :
    Calls Tryz.prog 13 #[.string T] w fun e w' => e = .returned (.string (mk ([111, 107, 10, 111, 107, 10] ++ ansL ans ls.length))) ∧ Below w.heap.size w w' := by
  have hg1 : 1 ≤ g.size ∧ g.size ≤ 3 := ⟨by have := hv.1.1; have := hv.2.1; omega, by have := hv.1.2.1; have := hv.2.1; omega⟩
  have hmz := @machT_len rs p g q hv
  have hrn : tl (mk (List.replicate g.size (97 : UInt8))) ≠ [] := by rw [tl_mk]; intro e; have := congrArg List.length e; rw [List.length_replicate, List.length_nil] at this; omega
  have hm1 : (10 : UInt8) ∉ machLine rs p g q := by
    unfold machLine
    simp only [List.mem_append, not_or]
    exact ⟨by decide, by rw [List.mem_cons, not_or]; exact ⟨by decide, machT_chars hv hq (by decide) (by decide) (by decide) (by decide) (by decide) (by decide)⟩⟩
  have hm2 : (10 : UInt8) ∉ windLine o := by
    unfold windLine
    simp only [List.mem_append, not_or]
    exact ⟨by decide, by rw [List.mem_cons, not_or]; exact ⟨by decide, wv_not hwo (by decide)⟩⟩
  have hnl : ∀ x ∈ machLine rs p g q :: windLine o :: ls, (10 : UInt8) ∉ x := by
    intro x hx
    simp only [List.mem_cons] at hx
    rcases hx with rfl | rfl | hx
    · exact hm1
    · exact hm2
    · exact (hn x hx).1
  have hsp : mkl (spl 10 (tl T)) = mk (machLine rs p g q) :: mk (windLine o) :: (ls.map mk ++ [mk []]) := by
    rw [hT, spl_lines3 10 _ hnl]; unfold mkl; simp
  have hML : (machLine rs p g q).length ≤ 2000 := by unfold machLine; rw [List.length_append, List.length_cons]; simp; omega
  have hWL : (windLine o).length ≤ 2000 := by unfold windLine; simp only [List.length_append, List.length_cons, List.length_nil, length_tl]; omega
  have hTz : T.size ≤ 20000 := by
    have h := lines_len (machLine rs p g q :: windLine o :: ls) (fun x hx => by
      simp only [List.mem_cons] at hx
      rcases hx with rfl | rfl | hx
      · exact hML
      · exact hWL
      · exact (hn x hx).2.2)
    rw [← length_tl, hT]
    refine Nat.le_trans ?_ (show 20000 ≤ 20000 from Nat.le_refl _)
    have h2 := lines_len ls (fun x hx => (hn x hx).2.2)
    rw [List.flatMap_cons, List.flatMap_cons, List.length_append, List.length_append, List.length_append, List.length_append]
    have : (machLine rs p g q).length ≤ 200 := by unfold machLine; rw [List.length_append, List.length_cons]; simp; omega
    have : (windLine o).length ≤ 20 := by unfold windLine; simp only [List.length_append, List.length_cons, List.length_nil, length_tl]; omega
    have : ls.length * 2001 ≤ 8 * 2001 := Nat.mul_le_mul_right _ hl
    simp only [List.length_singleton]
    omega
  have e0 := exec_machine Dk.empty rs p g q hv hq hi
  have e1 := exec_windows (deskM rs p g q (mk (List.replicate g.size 97)) []) q o hv hq hi rfl ho hwo hrn
  obtain ⟨D, hD⟩ : ∃ D : Nat → Dk, D = fun j => if j = 0 then Dk.empty else if j = 1 then deskM rs p g q (mk (List.replicate g.size 97)) [] else if j < ls.length + 2 then dk (j - 2) else dk ls.length := ⟨_, rfl⟩
  obtain ⟨O, hO⟩ : ∃ O : Nat → List UInt8, O = fun j => if j = 0 then [] else if j = 1 then [111, 107, 10] else if j < ls.length + 2 then [111, 107, 10, 111, 107, 10] ++ ansL ans (j - 2) else [111, 107, 10, 111, 107, 10] ++ ansL ans ls.length := ⟨_, rfl⟩
  have hD0 : D 0 = Dk.empty := by rw [hD]; rfl
  have hD1 : D 1 = deskM rs p g q (mk (List.replicate g.size 97)) [] := by rw [hD]; rfl
  have hD2 : ∀ i, i ≤ ls.length → D (i + 2) = dk i := fun i hi => by
    rw [hD]; show (if i + 2 = 0 then Dk.empty else if i + 2 = 1 then _ else if i + 2 < ls.length + 2 then dk (i + 2 - 2) else dk ls.length) = _
    rw [if_neg (by omega), if_neg (by omega)]
    by_cases e : i < ls.length
    · rw [if_pos (by omega), Nat.add_sub_cancel]
    · rw [if_neg (by omega)]; congr 1; omega
  have hD3 : D (ls.length + 2 + 1) = dk ls.length := by
    rw [hD]; show (if ls.length + 2 + 1 = 0 then Dk.empty else if ls.length + 2 + 1 = 1 then _ else if ls.length + 2 + 1 < ls.length + 2 then dk (ls.length + 2 + 1 - 2) else dk ls.length) = _
    rw [if_neg (by omega), if_neg (by omega), if_neg (by omega)]
  have hO0 : O 0 = [] := by rw [hO]; rfl
  have hO1 : O 1 = [111, 107, 10] := by rw [hO]; rfl
  have hO2 : ∀ i, i ≤ ls.length → O (i + 2) = [111, 107, 10, 111, 107, 10] ++ ansL ans i := fun i hi => by
    rw [hO]; show (if i + 2 = 0 then [] else if i + 2 = 1 then _ else if i + 2 < ls.length + 2 then [111, 107, 10, 111, 107, 10] ++ ansL ans (i + 2 - 2) else [111, 107, 10, 111, 107, 10] ++ ansL ans ls.length) = _
    rw [if_neg (by omega), if_neg (by omega)]
    by_cases e : i < ls.length
    · rw [if_pos (by omega), Nat.add_sub_cancel]
    · rw [if_neg (by omega), show i = ls.length by omega]
  have hO3 : O (ls.length + 2 + 1) = [111, 107, 10, 111, 107, 10] ++ ansL ans ls.length := by
    rw [hO]; show (if ls.length + 2 + 1 = 0 then [] else if ls.length + 2 + 1 = 1 then _ else if ls.length + 2 + 1 < ls.length + 2 then [111, 107, 10, 111, 107, 10] ++ ansL ans (ls.length + 2 + 1 - 2) else [111, 107, 10, 111, 107, 10] ++ ansL ans ls.length) = _
    rw [if_neg (by omega), if_neg (by omega), if_neg (by omega)]
  clear hD hO
  have hlen : (mk (machLine rs p g q) :: mk (windLine o) :: (ls.map mk ++ [mk []])).length = ls.length + 2 + 1 := by simp
  have hrun := run_lines w hg T hTz _ hsp (by rw [hlen]; omega) D O hD0 hO0 (fun j hj => by
    have hj3 : j = 0 ∨ j = 1 ∨ ∃ i, j = i + 2 := by
      rcases j with _ | _ | i
      · exact .inl rfl
      · exact .inr (.inl rfl)
      · exact .inr (.inr ⟨i, rfl⟩)
    rcases hj3 with rfl | rfl | ⟨i, rfl⟩
    · refine .inr ⟨by simp only [List.getElem_cons_zero]; rw [tl_mk]; simp [machLine], by rw [hO0]; simp, mk [111, 107], by rw [size_mk]; decide, by rw [hO0, hO1, tl_mk]; rfl, ?_⟩
      rw [hD0, show D (0 + 1) = D 1 from rfl, hD1]
      exact e0
    · refine .inr ⟨by simp only [List.getElem_cons_zero, List.getElem_cons_succ]; rw [tl_mk]; simp [windLine], by rw [hO1]; simp, mk [111, 107], by rw [size_mk]; decide, ?_, ?_⟩
      · rw [hO1, show O (1 + 1) = O (0 + 2) from rfl, hO2 0 (Nat.zero_le _), tl_mk]; rfl
      · rw [hD1, show D (1 + 1) = D (0 + 2) from rfl, hD2 0 (Nat.zero_le _), h0]
        exact e1
    · have hi2 : i ≤ ls.length := by rw [hlen] at hj; omega
      by_cases hil : i < ls.length
      · have hget : (mk (machLine rs p g q) :: mk (windLine o) :: (ls.map mk ++ [mk []]))[i + 2] = mk ls[i] := by
          simp only [List.getElem_cons_succ]
          rw [List.getElem_append_left (by simp; exact hil), List.getElem_map]
        have hx := hn ls[i] (List.getElem_mem hil)
        have hal := ansL_len hz i hi2
        have hi8 : i * 2001 ≤ 8 * 2001 := Nat.mul_le_mul_right _ (by omega)
        refine .inr ⟨by rw [hget, tl_mk]; exact hx.2.1, ?_, ans i, by have := hz i hil; omega, ?_, ?_⟩
        · rw [hO2 i hi2, List.length_append]
          simp only [List.length_cons, List.length_nil]
          omega
        · rw [hO2 i hi2, show i + 2 + 1 = (i + 1) + 2 from rfl, hO2 (i + 1) hil, ansL_succ, List.append_assoc]
        · rw [hget, hD2 i hi2, show i + 2 + 1 = (i + 1) + 2 from rfl, hD2 (i + 1) hil]
          exact hE i hil
      · have hie : i = ls.length := by omega
        subst hie
        refine .inl ⟨?_, by rw [hD2 _ (Nat.le_refl _), hD3], by rw [hO2 _ (Nat.le_refl _), hO3]⟩
        simp only [List.getElem_cons_succ]
        rw [List.getElem_append_right (by simp)]
        simp [tl_mk]) (by rw [hlen, hO3]; simp)
  rw [hlen, hO3] at hrun
  exact hrun

theorem wv_size {x : ByteArray} (h : wv (tl x) = true) : x.size ≤ 200 := by rw [← length_tl]; exact wv_length h
theorem encLine_ok {x : ByteArray} (hx : wv (tl x) = true) (hz : x.size ≤ 1000) : (10 : UInt8) ∉ encLine x ∧ encLine x ≠ [] ∧ (encLine x).length ≤ 2000 := by
  have h := dash_size x
  refine ⟨?_, by simp [encLine], by unfold encLine; simp only [List.length_append, List.length_cons, List.length_nil, length_tl]; omega⟩
  unfold encLine
  simp only [List.mem_append, not_or]
  exact ⟨by decide, by rw [List.mem_cons, not_or]; exact ⟨by decide, dash_not hx (by decide)⟩⟩
theorem windLine_ok {o : ByteArray} (ho : wv (tl o) = true) (hz : o.size ≤ 1000) : (10 : UInt8) ∉ windLine o ∧ windLine o ≠ [] ∧ (windLine o).length ≤ 2000 := by
  refine ⟨?_, by simp [windLine], by unfold windLine; simp only [List.length_append, List.length_cons, List.length_nil, length_tl]; omega⟩
  unfold windLine
  simp only [List.mem_append, not_or]
  exact ⟨by decide, by rw [List.mem_cons, not_or]; exact ⟨by decide, wv_not ho (by decide)⟩⟩

abbrev EncIs (rs : List (ByteArray × ByteArray)) (p g l o x s u : ByteArray) : Prop := ∀ (w' : World) (A : Option Addr) (cap : Nat), Rd w' w'.heap.size A (rotV rs) → rs.length ≤ cap → Calls Tryz.prog 191 #[.agg #[.slice A rs.length cap, .string p, .string g, .string l], .string o, .string x] w' fun e w'' => e = .returned (.tuple #[.string s, .string u, .bool true]) ∧ Below w'.heap.size w' w''
abbrev GrpIs (s G : ByteArray) : Prop := ∀ w' : World, Calls Tryz.prog 193 #[.string s] w' fun e w'' => e = .returned (.string G) ∧ Below w'.heap.size w' w''

theorem run_twice (w : World) (hg : GW w) (T : ByteArray) (rs : List (ByteArray × ByteArray)) (p g o : ByteArray) (q : List Nat) (x s u Gx Gs : ByteArray) (hv : WinV rs p g) (hq : Prm q) (hi : invP q = q) (ho : o.size = g.size) (hwo : wv (tl o) = true)
    (hx : wv (tl x) = true) (hs : wv (tl s) = true) (hxz : x.size ≤ 1000) (hsz : s.size ≤ 1000) (hu : u.size = o.size) (h1 : EncIs rs p g (pT q) o x s u) (h2 : EncIs rs p g (pT q) o s x u) (hgx : GrpIs x Gx) (hgs : GrpIs s Gs) (hGx : Gx.size ≤ 1500) (hGs : Gs.size ≤ 1500)
    (hT : tl T = [machLine rs p g q, windLine o, encLine x, windLine o, encLine s].flatMap (· ++ [10])) :
    Calls Tryz.prog 13 #[.string T] w fun e w' => e = .returned (.string (mk ([111, 107, 10, 111, 107, 10] ++ (tl (dash Gs) ++ [10]) ++ [111, 107, 10] ++ (tl (dash Gx) ++ [10])))) ∧ Below w.heap.size w w' := by
  have hg1 : 1 ≤ g.size ∧ g.size ≤ 3 := ⟨by have := hv.1.1; have := hv.2.1; omega, by have := hv.1.2.1; have := hv.2.1; omega⟩
  have hon : tl o ≠ [] := by intro e; have := congrArg List.length e; rw [length_tl, List.length_nil] at this; omega
  have hun : tl u ≠ [] := by intro e; have := congrArg List.length e; rw [length_tl, List.length_nil] at this; omega
  have z1 := dash_size Gx
  have z2 := dash_size Gs
  have E1 := exec_encipher (deskM rs p g q o []) x s u Gs hx hxz h1 hgs hon
  have E2 := exec_windows (deskM rs p g q u []) q o hv hq hi rfl ho hwo hun
  have E3 := exec_encipher (deskM rs p g q o []) s x u Gx hs hsz h2 hgx hon
  have h := run_more w hg T rs p g o q [encLine x, windLine o, encLine s]
    (fun j => if j = 0 then deskM rs p g q o [] else if j = 1 then deskM rs p g q u [] else if j = 2 then deskM rs p g q o [] else deskM rs p g q u [])
    (fun j => if j = 0 then dash Gs else if j = 1 then mk [111, 107] else dash Gx) hv hq hi ho hwo (by simp)
    (fun y hy => by
      simp only [List.mem_cons, List.not_mem_nil, or_false] at hy
      rcases hy with rfl | rfl | rfl
      · exact encLine_ok hx hxz
      · exact windLine_ok hwo (by omega)
      · exact encLine_ok hs hsz) rfl
    (fun j hj => by
      split
      · omega
      · split
        · rw [size_mk]; decide
        · omega)
    (fun j hj => by
      simp only [List.length_cons, List.length_nil] at hj
      rcases (show j = 0 ∨ j = 1 ∨ j = 2 by omega) with rfl | rfl | rfl
      · exact E1
      · exact E2
      · exact E3) hT
  refine h.mono ?_
  rintro e w' ⟨rfl, hb⟩
  refine ⟨?_, hb⟩
  simp [ansL, tl_mk, List.range_succ]

end Go.Proofs.YtipcodebmemkpaaGreatDoor
