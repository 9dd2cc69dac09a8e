/-
  DoubleIndicator and ReadDouble of the program, the commands double and read, and what impl.RunScript answers to their script. Conditions: what each theorem names.
-/
import Derived.Test.YtflaoicjgigcaaaGreatDoorRunTw
import Derived.Test.YtflaoicjgigcaaaGreatDoorKeyA
import Derived.BigQuiet
namespace Go.Proofs.YtflaoicjgigcaaaGreatDoor
open Go.RowKit Pl
set_option linter.unusedVariables false

set_option maxHeartbeats 4000000 in
set_option maxRecDepth 100000 in
theorem doubleInd_no (w : World) (A : Option Addr) (cap : Nat) (rs : List (ByteArray × ByteArray)) (p g l o y : ByteArray) (h : Rd w w.heap.size A (rotV rs)) (hc : rs.length ≤ cap) (hl : rs.length ≤ 100) (hn : ¬ (SetV rs p g l o ∧ SetV rs p g l y)) :
    Calls Tryz.prog 15 #[.agg #[.slice A rs.length cap, .string p, .string g, .string l], .string o, .string y] w fun e w' => e = .returned (.tuple #[.string ⟨#[]⟩, .bool false]) ∧ Below w.heap.size w w' := by
  obtain ⟨w0, hw0⟩ : ∃ w0, w0 = w.alloc (.cells #[.slice A rs.length cap, .string p, .string g, .string l] 27) := ⟨_, rfl⟩
  have hb0 : Below w.heap.size w w0 := by rw [hw0]; exact (Below.refl _ _).alloc (Nat.le_refl _) _
  have hs0 := SB.made w #[.slice A rs.length cap, .string p, .string g, .string l] 27
  rw [← hw0] at hs0
  have hrd0 := (h.below hb0).mono hb0.size
  by_cases hv : SetV rs p g l o
  · have hny : ¬ SetV rs p g l y := fun e => hn ⟨hv, e⟩
    have hcon := fun (w' : World) (h' : Rd w' w'.heap.size A (rotV rs)) => settingValid_any w' A cap rs p g l o true h' hc hl (by simp [hv])
    have hcon2 := fun (w' : World) (h' : Rd w' w'.heap.size A (rotV rs)) => settingValid_any w' A cap rs p g l y false h' hc hl (by simp [hny])
    obtain ⟨M, hM⟩ : ∃ M, M = rs.length := ⟨_, rfl⟩
    have HB0 := Lib.hid hb0; have HCON := Lib.hid hcon; have HCN2 := Lib.hid hcon2; have HRD := Lib.hid hrd0
    rw [← hM] at hw0 HCON HCN2 hs0 ⊢
    obtain ⟨P, hP⟩ : ∃ P, P = w.heap.size := ⟨_, rfl⟩
    rw [← hP] at hs0
    have HS0 := Lib.hid hs0
    obtain ⟨⟨c0, c1, c2, c3⟩, _⟩ := hs0.all4
    clear h hb0 hcon hcon2 hM hc hl hs0 hn hv hny hrd0
    go_enter Tryz.func15, Tryz.ntmps15
    go_wp2_with fail
    rw [← hw0]
    rw [← hP]
    clear hw0 hP
    go_wp2_with fail
    refine (HCON.out _ HRD.out).mono ?_
    rintro _ w1 ⟨rfl, hb1⟩
    have HB1 := Lib.hid (HB0.out.trans (hb1.mono HB0.out.size)); have HRD1 := Lib.hid ((HRD.out.below hb1).mono hb1.size)
    obtain ⟨⟨d0, d1, d2, d3⟩, _⟩ := (HS0.out.below hb1).all4
    clear hb1 c0 c1 c2 c3
    go_wp2_with fail
    refine (HCN2.out _ HRD1.out).mono ?_
    rintro _ w2 ⟨rfl, hb2⟩
    have HB2 := Lib.hid (HB1.out.trans (hb2.mono HB1.out.size))
    clear hb2 d0 d1 d2 d3
    go_wp2_with fail
    go_ret2
    exact ⟨rfl, HB2.out⟩
  · have hcon := settingValid_any w0 A cap rs p g l o false hrd0 hc hl (by simp [hv])
    obtain ⟨M, hM⟩ : ∃ M, M = rs.length := ⟨_, rfl⟩
    have HB0 := Lib.hid hb0; have HCON := Lib.hid hcon
    rw [← hM] at hw0 HCON hs0 ⊢
    obtain ⟨P, hP⟩ : ∃ P, P = w.heap.size := ⟨_, rfl⟩
    rw [← hP] at hs0
    obtain ⟨⟨c0, c1, c2, c3⟩, _⟩ := hs0.all4
    clear h hb0 hcon hM hc hl hs0 hn hv hrd0
    go_enter Tryz.func15, Tryz.ntmps15
    go_wp2_with fail
    rw [← hw0]
    rw [← hP]
    clear hw0 hP
    go_wp2_with fail
    refine HCON.out.mono ?_
    rintro _ w1 ⟨rfl, hb1⟩
    have HB1 := Lib.hid (HB0.out.trans (hb1.mono HB0.out.size))
    clear hb1 c0 c1 c2 c3
    go_wp2_with fail
    go_ret2
    exact ⟨rfl, HB1.out⟩

set_option maxHeartbeats 4000000 in
set_option maxRecDepth 100000 in
theorem doubleInd_yes (w : World) (A : Option Addr) (cap : Nat) (rs : List (ByteArray × ByteArray)) (p g l o y s u : ByteArray) (h : Rd w w.heap.size A (rotV rs)) (hc : rs.length ≤ cap) (hl : rs.length ≤ 100) (hv : SetV rs p g l o) (hy : SetV rs p g l y) (hyz : y.size ≤ 3) (hen : EncIs rs p g l o (y ++ y) s u) :
    Calls Tryz.prog 15 #[.agg #[.slice A rs.length cap, .string p, .string g, .string l], .string o, .string y] w fun e w' => e = .returned (.tuple #[.string s, .bool true]) ∧ Below w.heap.size w w' := by
  obtain ⟨w0, hw0⟩ : ∃ w0, w0 = w.alloc (.cells #[.slice A rs.length cap, .string p, .string g, .string l] 27) := ⟨_, rfl⟩
  have hb0 : Below w.heap.size w w0 := by rw [hw0]; exact (Below.refl _ _).alloc (Nat.le_refl _) _
  have hs0 := SB.made w #[.slice A rs.length cap, .string p, .string g, .string l] 27
  rw [← hw0] at hs0
  have hrd0 := (h.below hb0).mono hb0.size
  have hcon := fun (w' : World) (h' : Rd w' w'.heap.size A (rotV rs)) => settingValid_any w' A cap rs p g l o true h' hc hl (by simp [hv])
  have hcon2 := fun (w' : World) (h' : Rd w' w'.heap.size A (rotV rs)) => settingValid_any w' A cap rs p g l y true h' hc hl (by simp [hy])
  have hen2 := fun (w' : World) (h' : Rd w' w'.heap.size A (rotV rs)) => hen w' A cap h' hc
  obtain ⟨M, hM⟩ : ∃ M, M = rs.length := ⟨_, rfl⟩
  have HB0 := Lib.hid hb0; have HCON := Lib.hid hcon; have HCN2 := Lib.hid hcon2; have HRD := Lib.hid hrd0; have HEN := Lib.hid hen2
  rw [← hM] at hw0 HCON HCN2 HEN hs0 ⊢
  obtain ⟨P, hP⟩ : ∃ P, P = w.heap.size := ⟨_, rfl⟩
  rw [← hP] at hs0
  have HS0 := Lib.hid hs0
  obtain ⟨⟨c0, c1, c2, c3⟩, _⟩ := hs0.all4
  have v1 : ¬ 9223372036854775807 < y.size + y.size := by omega
  clear h hb0 hcon hcon2 hM hc hl hs0 hv hy hrd0 hen hen2 hyz
  go_enter Tryz.func15, Tryz.ntmps15
  go_wp2_with fail
  rw [← hw0]
  rw [← hP]
  clear hw0 hP
  go_wp2_with fail
  refine (HCON.out _ HRD.out).mono ?_
  rintro _ w1 ⟨rfl, hb1⟩
  have HB1 := Lib.hid (HB0.out.trans (hb1.mono HB0.out.size)); have HRD1 := Lib.hid ((HRD.out.below hb1).mono hb1.size); have HS1 := Lib.hid (HS0.out.below hb1)
  obtain ⟨⟨d0, d1, d2, d3⟩, _⟩ := HS1.out.all4
  clear hb1 c0 c1 c2 c3
  go_wp2_with fail
  refine (HCN2.out _ HRD1.out).mono ?_
  rintro _ w2 ⟨rfl, hb2⟩
  have HB2 := Lib.hid (HB1.out.trans (hb2.mono HB1.out.size)); have HRD2 := Lib.hid ((HRD1.out.below hb2).mono hb2.size)
  obtain ⟨⟨c0, c1, c2, c3⟩, _⟩ := (HS1.out.below hb2).all4
  clear hb2 d0 d1 d2 d3
  go_wp2_with fail
  refine (HEN.out _ HRD2.out).mono ?_
  rintro _ w3 ⟨rfl, hb3⟩
  have HB3 := Lib.hid (HB2.out.trans (hb3.mono HB2.out.size))
  clear hb3 c0 c1 c2 c3
  go_wp2_with fail
  go_ret2
  exact ⟨rfl, HB3.out⟩

theorem twice_left (y : ByteArray) (z : Nat) (h : y.size = z) : (y ++ y).extract 0 z = y := by
  apply tl_inj
  rw [extract_mk', tl_mk, append_tl, tl_mk, List.drop_zero, Nat.sub_zero, List.take_append_of_le_length (by rw [length_tl]; omega), List.take_of_length_le (by rw [length_tl]; omega)]
theorem twice_right (y : ByteArray) (z n : Nat) (h : y.size = z) (hn : n = 2 * z) : (y ++ y).extract z n = y := by
  apply tl_inj
  rw [extract_mk', tl_mk, append_tl, tl_mk, List.drop_append_of_le_length (by rw [length_tl]; omega), List.drop_of_length_le (by rw [length_tl]; omega), List.nil_append, List.take_of_length_le (by rw [length_tl]; omega)]

set_option maxHeartbeats 4000000 in
set_option maxRecDepth 100000 in
theorem readDouble_yes (w : World) (A : Option Addr) (cap : Nat) (rs : List (ByteArray × ByteArray)) (p g l o y s u : ByteArray) (h : Rd w w.heap.size A (rotV rs)) (hc : rs.length ≤ cap) (hl : rs.length ≤ 100) (hv : SetV rs p g l o) (hyz : y.size = o.size) (hsz : s.size = 2 * o.size) (hoz : o.size ≤ 3) (hen : EncIs rs p g l o s (y ++ y) u) :
    Calls Tryz.prog 167 #[.agg #[.slice A rs.length cap, .string p, .string g, .string l], .string o, .string s] w fun e w' => e = .returned (.tuple #[.string y, .bool true]) ∧ Below w.heap.size w w' := by
  obtain ⟨w0, hw0⟩ : ∃ w0, w0 = w.alloc (.cells #[.slice A rs.length cap, .string p, .string g, .string l] 27) := ⟨_, rfl⟩
  have hb0 : Below w.heap.size w w0 := by rw [hw0]; exact (Below.refl _ _).alloc (Nat.le_refl _) _
  have hs0 := SB.made w #[.slice A rs.length cap, .string p, .string g, .string l] 27
  rw [← hw0] at hs0
  have hrd0 := (h.below hb0).mono hb0.size
  have hcon := fun (w' : World) (h' : Rd w' w'.heap.size A (rotV rs)) => settingValid_any w' A cap rs p g l o true h' hc hl (by simp [hv])
  have hen2 := fun (w' : World) (h' : Rd w' w'.heap.size A (rotV rs)) => hen w' A cap h' hc
  obtain ⟨Z, hZ⟩ : ∃ Z, Z = y ++ y := ⟨_, rfl⟩
  have hZz : Z.size = 2 * o.size := by rw [hZ, ByteArray.size_append]; omega
  have hz1 : Z.extract 0 o.size = y := by rw [hZ]; exact twice_left y _ hyz
  have hz2 : Z.extract o.size Z.size = y := by rw [hZz, hZ]; exact twice_right y _ _ hyz rfl
  rw [← hZ] at hen2
  obtain ⟨M, hM⟩ : ∃ M, M = rs.length := ⟨_, rfl⟩
  have HB0 := Lib.hid hb0; have HCON := Lib.hid hcon; have HRD := Lib.hid hrd0; have HEN := Lib.hid hen2; have HZ1 := Lib.hid hz1; have HZ2 := Lib.hid hz2
  rw [← hM] at hw0 HCON HEN hs0 ⊢
  obtain ⟨P, hP⟩ : ∃ P, P = w.heap.size := ⟨_, rfl⟩
  rw [← hP] at hs0
  have HS0 := Lib.hid hs0
  obtain ⟨⟨c0, c1, c2, c3⟩, _⟩ := hs0.all4
  have v1 : (s.size : Int) = 2 * (o.size : Int) := by omega
  have v2 : (o.size : Int) ≤ (Z.size : Int) := by omega
  have v3 : wrap64 (2 * (o.size : Int)) = 2 * (o.size : Int) := by unfold wrap64; omega
  have v4 : ((s.size : Int) == 2 * (o.size : Int)) = true := beq_iff_eq.2 v1
  have v5 : (y.toList == y.toList) = true := beq_self_eq_true _
  have HV1 := Lib.hid v1
  clear h hb0 hcon hM hc hl hs0 hv hrd0 hen hen2 hyz hz1 hz2 hZ v1 hsz hZz
  go_enter Tryz.func167, Tryz.ntmps167
  go_wp2_with fail
  rw [← hw0]
  rw [← hP]
  clear hw0 hP
  go_wp2_with fail
  refine (HCON.out _ HRD.out).mono ?_
  rintro _ w1 ⟨rfl, hb1⟩
  have HB1 := Lib.hid (HB0.out.trans (hb1.mono HB0.out.size)); have HRD1 := Lib.hid ((HRD.out.below hb1).mono hb1.size)
  obtain ⟨⟨d0, d1, d2, d3⟩, _⟩ := (HS0.out.below hb1).all4
  clear hb1 c0 c1 c2 c3
  go_wp2_with fail
  refine (HEN.out _ HRD1.out).mono ?_
  rintro _ w2 ⟨rfl, hb2⟩
  have HB2 := Lib.hid (HB1.out.trans (hb2.mono HB1.out.size))
  clear hb2 d0 d1 d2 d3
  have v6 : ((Z.extract 0 o.size).toList == (Z.extract o.size Z.size).toList) = true := by rw [HZ1.out, HZ2.out]; exact beq_self_eq_true _
  go_wp2_with fail
  go_quiet (fail)
  go_wp2_with fail
  rw [HZ1.out]
  go_ret2
  exact ⟨rfl, below_drewN' HB2.out _⟩

theorem orAbsent_ok (w : World) (s : ByteArray) (h : tl s ≠ []) :
    Calls Tryz.prog 168 #[.string s, .bool true] w fun e w' => e = .returned (.string s) ∧ Below w.heap.size w w' := by
  have hq : s.toList.isEmpty = false := by rw [List.isEmpty_eq_false_iff, toList_tl]; exact h
  clear h
  go_enter Tryz.func168, Tryz.ntmps168
  go_wp2_with fail
  go_ret
  exact ⟨rfl, Below.refl _ _⟩

set_option maxHeartbeats 4000000 in
set_option maxRecDepth 100000 in
theorem runDouble_ok (w : World) (d : Dk) (a : At) (R : ByteArray) (F : Value) (s : ByteArray) (hkp : ∀ (w' : World) (A : Option Addr) (cap : Nat), Rd w' w'.heap.size A (rotV d.rs) → d.rs.length ≤ cap → Calls Tryz.prog 15 #[.agg #[.slice A d.rs.length cap, .string d.rf, .string d.ri, .string d.pl], .string d.wi, .string R] w' fun e w'' => e = .returned (.tuple #[.string s, .bool true]) ∧ Below w'.heap.size w' w'') (ho : Own d a w) :
    Calls Tryz.prog 113 #[dkV d a, .string R, F] w (Answered d s w) := by
  have hb := bel_two (w := w) (.cells (dkC d a) 63) (.cells #[.slice none 0 0, .string ⟨#[]⟩, .string ⟨#[]⟩, .string ⟨#[]⟩, .string ⟨#[]⟩, .slice none 0 0] 63)
  have hdk := heap_alloc_new (w.alloc (.cells (dkC d a) 63)) (.cells #[.slice none 0 0, .string ⟨#[]⟩, .string ⟨#[]⟩, .string ⟨#[]⟩, .string ⟨#[]⟩, .slice none 0 0] 63)
  rw [szalloc] at hdk
  have hpa : ((w.alloc (.cells (dkC d a) 63)).alloc (.cells #[.slice none 0 0, .string ⟨#[]⟩, .string ⟨#[]⟩, .string ⟨#[]⟩, .string ⟨#[]⟩, .slice none 0 0] 63)).heap[w.heap.size]? = some (.cells (dkC d a) 63 (0, 0)) := block_below (heap_alloc_new w _) ((Below.refl _ _).alloc (Nat.le_refl _) _)
  obtain ⟨w1, hw1⟩ : ∃ w1, w1 = (w.alloc (.cells (dkC d a) 63)).alloc (.cells #[.slice none 0 0, .string ⟨#[]⟩, .string ⟨#[]⟩, .string ⟨#[]⟩, .string ⟨#[]⟩, .slice none 0 0] 63) := ⟨_, rfl⟩
  rw [← hw1] at hb hdk hpa
  have ho1 := ho.below hb
  have HB := Lib.hid hb; have HDK := Lib.hid hdk; have HPA := Lib.hid hpa; have HO := Lib.hid ho1; have HKP := Lib.hid hkp
  obtain ⟨k0, k1, k2, k3, k4, k5⟩ := row_six hpa
  clear hb hdk hpa ho1 hkp ho
  go_enter Tryz.func113, Tryz.ntmps113
  go_wp2_with fail
  rw [← hw1]
  clear hw1
  go_wp2_with fail
  refine (HKP.out w1 a.Ar a.cr (own_rd3' HO.out.r) (own_le3 HO.out.r)).mono ?_
  rintro _ w2 ⟨rfl, hb2⟩
  have HDK2 := Lib.hid (block_below HDK.out hb2); have HPA2 := Lib.hid (block_below HPA.out hb2); have HB2 := Lib.hid (HB.out.trans (hb2.mono HB.out.size)); have HO2 := Lib.hid (HO.out.below hb2)
  obtain ⟨r0, r1, r2, r3, r4, r5⟩ := row_six HPA2.out
  clear hb2 HB HDK HPA HO HKP k0 k1 k2 k3 k4 k5
  have hdw := HDK2.out
  have f0 := frozen_cells hdw 0; have f1 := frozen_cells hdw 1; have f2 := frozen_cells hdw 2; have f3 := frozen_cells hdw 3; have f4 := frozen_cells hdw 4; have f5 := frozen_cells hdw 5
  obtain ⟨z0, z1, z2, z3, z4, z5⟩ := row_six hdw
  have hzz := (Array.getElem?_eq_some_iff.1 hdw).1
  clear hdw
  go_wp2_with fail
  refine bodyPost_ret (v := .tuple #[dkV d a, .string s]) (by simp [results, Tryz.results113, go_sem, z0, z1, z2, z3, z4, z5]) rfl ⟨a, rfl, ⟨?_, ?_⟩, ?_⟩
  · exact World.ownsRow.kept HO2.out.r (only_six _ (w.heap.size + 1) _ _ _ _ _ _) (own_ne HO2.out.r HDK2.out (by decide))
  · exact World.ownsRow.kept HO2.out.b (only_six _ (w.heap.size + 1) _ _ _ _ _ _) (own_ne HO2.out.b HDK2.out (by decide))
  · exact bel_six HB2.out (by omega) _ _ _ _ _ _

set_option maxHeartbeats 4000000 in
set_option maxRecDepth 100000 in
theorem runRead_ok (w : World) (d : Dk) (a : At) (s y : ByteArray) (F : Value) (hs : wv (tl s) = true) (hy : tl y ≠ []) (hkp : ∀ (w' : World) (A : Option Addr) (cap : Nat), Rd w' w'.heap.size A (rotV d.rs) → d.rs.length ≤ cap → Calls Tryz.prog 167 #[.agg #[.slice A d.rs.length cap, .string d.rf, .string d.ri, .string d.pl], .string d.wi, .string s] w' fun e w'' => e = .returned (.tuple #[.string y, .bool true]) ∧ Below w'.heap.size w' w'') (ho : Own d a w) :
    Calls Tryz.prog 114 #[dkV d a, .string (dash s), F] w (Answered d y w) := by
  have hb := bel_two (w := w) (.cells (dkC d a) 63) (.cells #[.slice none 0 0, .string ⟨#[]⟩, .string ⟨#[]⟩, .string ⟨#[]⟩, .string ⟨#[]⟩, .slice none 0 0] 63)
  have hdk := heap_alloc_new (w.alloc (.cells (dkC d a) 63)) (.cells #[.slice none 0 0, .string ⟨#[]⟩, .string ⟨#[]⟩, .string ⟨#[]⟩, .string ⟨#[]⟩, .slice none 0 0] 63)
  rw [szalloc] at hdk
  have hpa : ((w.alloc (.cells (dkC d a) 63)).alloc (.cells #[.slice none 0 0, .string ⟨#[]⟩, .string ⟨#[]⟩, .string ⟨#[]⟩, .string ⟨#[]⟩, .slice none 0 0] 63)).heap[w.heap.size]? = some (.cells (dkC d a) 63 (0, 0)) := block_below (heap_alloc_new w _) ((Below.refl _ _).alloc (Nat.le_refl _) _)
  obtain ⟨w1, hw1⟩ : ∃ w1, w1 = (w.alloc (.cells (dkC d a) 63)).alloc (.cells #[.slice none 0 0, .string ⟨#[]⟩, .string ⟨#[]⟩, .string ⟨#[]⟩, .string ⟨#[]⟩, .slice none 0 0] 63) := ⟨_, rfl⟩
  rw [← hw1] at hb hdk hpa
  have ho1 := ho.below hb
  have HB := Lib.hid hb; have HDK := Lib.hid hdk; have HPA := Lib.hid hpa; have HO := Lib.hid ho1; have HKP := Lib.hid hkp; have HX := Lib.hid hs; have HY := Lib.hid hy
  obtain ⟨k0, k1, k2, k3, k4, k5⟩ := row_six hpa
  clear hb hdk hpa ho1 hkp hs hy ho
  go_enter Tryz.func114, Tryz.ntmps114
  go_wp2_with fail
  rw [← hw1]
  clear hw1
  go_wp2_with fail
  refine (readWord_ok _ s HX.out).mono ?_
  rintro _ _ ⟨rfl, rfl⟩
  go_wp2_with fail
  refine (HKP.out w1 a.Ar a.cr (own_rd3' HO.out.r) (own_le3 HO.out.r)).mono ?_
  rintro _ w2 ⟨rfl, hb2⟩
  have HDK2 := Lib.hid (block_below HDK.out hb2); have HPA2 := Lib.hid (block_below HPA.out hb2); have HB2 := Lib.hid (HB.out.trans (hb2.mono HB.out.size)); have HO2 := Lib.hid (HO.out.below hb2)
  obtain ⟨r0, r1, r2, r3, r4, r5⟩ := row_six HPA2.out
  clear hb2 HB HDK HPA HO HKP k0 k1 k2 k3 k4 k5
  have hdw := HDK2.out
  have f0 := frozen_cells hdw 0; have f1 := frozen_cells hdw 1; have f2 := frozen_cells hdw 2; have f3 := frozen_cells hdw 3; have f4 := frozen_cells hdw 4; have f5 := frozen_cells hdw 5
  have HCW := Lib.hid (orAbsent_ok w2.drew y HY.out)
  clear hdw
  go_wp2_with fail
  go_region_law (first | (go_simp; go_at_call 168; refine HCW.out.mono ?_; rintro _ w4 ⟨rfl, hb4⟩; have hb4' : Below w2.heap.size w2 w4 := below_of_drew hb4; have HB4 := Lib.hid hb4'; have hpa4 := block_below HPA2.out hb4'; obtain ⟨s0, s1, s2, s3, s4, s5⟩ := row_six hpa4; have hdk4 := block_below HDK2.out hb4'; have HDK4 := Lib.hid hdk4; have e0 := frozen_cells hdk4 0; have e1 := frozen_cells hdk4 1; have e2 := frozen_cells hdk4 2; have e3 := frozen_cells hdk4 3; have e4 := frozen_cells hdk4 4; have e5 := frozen_cells hdk4 5; obtain ⟨z0, z1, z2, z3, z4, z5⟩ := row_six hdk4; clear hb4 hb4' hpa4 hdk4) | fail)
  all_goals
    have HBF := Lib.hid (HB2.out.trans (HB4.out.mono HB2.out.size))
    have HO4 := Lib.hid (HO2.out.below HB4.out)
    clear r0 r1 r2 r3 r4 r5 f0 f1 f2 f3 f4 f5
    go_wp2_with fail
    refine bodyPost_ret (v := .tuple #[dkV d a, .string y]) (by simp [results, Tryz.results114, go_sem, z0, z1, z2, z3, z4, z5]) rfl ⟨a, rfl, ⟨?_, ?_⟩, ?_⟩
    · exact World.ownsRow.kept HO4.out.r (only_six _ (w.heap.size + 1) _ _ _ _ _ _) (own_ne HO4.out.r HDK4.out (by decide))
    · exact World.ownsRow.kept HO4.out.b (only_six _ (w.heap.size + 1) _ _ _ _ _ _) (own_ne HO4.out.b HDK4.out (by decide))
    · exact bel_six HBF.out (by omega) _ _ _ _ _ _

def dblLine (y : ByteArray) : List UInt8 := [100, 111, 117, 98, 108, 101] ++ 32 :: tl y
def readLine (s : ByteArray) : List UInt8 := [114, 101, 97, 100] ++ 32 :: tl (dash s)
theorem exec_double (d : Dk) (y s : ByteArray) (hyl : y.size ≤ 1000)
    (hkp : ∀ (w' : World) (A : Option Addr) (cap : Nat), Rd w' w'.heap.size A (rotV d.rs) → d.rs.length ≤ cap → Calls Tryz.prog 15 #[.agg #[.slice A d.rs.length cap, .string d.rf, .string d.ri, .string d.pl], .string d.wi, .string y] w' fun e w'' => e = .returned (.tuple #[.string s, .bool true]) ∧ Below w'.heap.size w' w'') (hm : tl d.wi ≠ []) : Exec d (mk (dblLine y)) d s :=
  exec_restM d d [100, 111, 117, 98, 108, 101] y s (by decide) (by decide) (by omega) (-1) 113 (enters_of Tryz.func113 (by kernel_rfl) rfl) (by decide) hm (fun h => absurd h (by decide)) (fun _ _ _ _ _ _ _ => rfl)
    (fun w a p0 p1 p2 p3 p4 p5 p6 B hml ho hbx hr hB => runDouble_ok w d a y _ s hkp ho)
theorem exec_read (d : Dk) (s y : ByteArray) (hs : wv (tl s) = true) (hsl : s.size ≤ 1000) (hy : tl y ≠ [])
    (hkp : ∀ (w' : World) (A : Option Addr) (cap : Nat), Rd w' w'.heap.size A (rotV d.rs) → d.rs.length ≤ cap → Calls Tryz.prog 167 #[.agg #[.slice A d.rs.length cap, .string d.rf, .string d.ri, .string d.pl], .string d.wi, .string s] w' fun e w'' => e = .returned (.tuple #[.string y, .bool true]) ∧ Below w'.heap.size w' w'') (hm : tl d.wi ≠ []) : Exec d (mk (readLine s)) d y := by
  have hz := dash_size s
  exact exec_restM d d [114, 101, 97, 100] (dash s) y (by decide) (by decide) (by omega) (-1) 114 (enters_of Tryz.func114 (by kernel_rfl) rfl) (by decide) hm (fun h => absurd h (by decide)) (fun _ _ _ _ _ _ _ => rfl)
    (fun w a p0 p1 p2 p3 p4 p5 p6 B hml ho hbx hr hB => runRead_ok w d a s y _ hs hy hkp ho)

theorem run_double (w : World) (hg : GW w) (T : ByteArray) (rs : List (ByteArray × ByteArray)) (p g o : ByteArray) (q : List Nat) (y s u : ByteArray) (hv : WinV rs p g) (hq : Prm q) (hi : invP q = q) (ho : o.size = g.size) (hwo : wv (tl o) = true)
    (hvo : SetV rs p g (pT q) o) (hvy : SetV rs p g (pT q) y) (hs : wv (tl s) = true) (hsz : s.size = 2 * o.size) (h1 : EncIs rs p g (pT q) o (y ++ y) s u) (h2 : EncIs rs p g (pT q) o s (y ++ y) u)
    (hT : tl T = [machLine rs p g q, windLine o, dblLine y, readLine s].flatMap (· ++ [10])) :
    Calls Tryz.prog 10 #[.string T] w fun e w' => e = .returned (.string (mk ([111, 107, 10, 111, 107, 10] ++ (tl s ++ [10]) ++ (tl y ++ [10])))) ∧ Below w.heap.size w w' := by
  have hg1 : 1 ≤ g.size ∧ g.size ≤ 3 := ⟨by have := hv.1.1; have := hv.2.1; omega, by have := hv.1.2.1; have := hv.2.1; omega⟩
  have hyz : y.size = o.size := by have := hvy.2.1; omega
  have hl3 : rs.length ≤ 100 := by have := hv.1.2.1; omega
  have hon : tl o ≠ [] := by intro e; have := congrArg List.length e; rw [length_tl, List.length_nil] at this; omega
  have hyn : tl y ≠ [] := by intro e; have := congrArg List.length e; rw [length_tl, List.length_nil] at this; omega
  have hyw : wv (tl y) = true := hvy.2.2
  have E1 := exec_double (deskM rs p g q o []) y s (by omega) (fun w' A cap h' hc' => doubleInd_yes w' A cap rs p g (pT q) o y s u h' hc' hl3 hvo hvy (by omega) h1) hon
  have E2 := exec_read (deskM rs p g q o []) s y hs (by omega) hyn (fun w' A cap h' hc' => readDouble_yes w' A cap rs p g (pT q) o y s u h' hc' hl3 hvo hyz hsz (by omega) h2) hon
  have z2 := dash_size s
  have h := run_more w hg T rs p g o q [dblLine y, readLine s] (fun _ => deskM rs p g q o []) (fun j => if j = 0 then s else y) hv hq hi ho hwo (by simp)
    (fun x hx => by
      simp only [List.mem_cons, List.not_mem_nil, or_false] at hx
      rcases hx with rfl | rfl
      · refine ⟨?_, by simp [dblLine], by unfold dblLine; simp only [List.length_append, List.length_cons, List.length_nil, length_tl]; omega⟩
        unfold dblLine
        simp only [List.mem_append, not_or]
        exact ⟨by decide, by rw [List.mem_cons, not_or]; exact ⟨by decide, wv_not hyw (by decide)⟩⟩
      · refine ⟨?_, by simp [readLine], by unfold readLine; simp only [List.length_append, List.length_cons, List.length_nil, length_tl]; omega⟩
        unfold readLine
        simp only [List.mem_append, not_or]
        exact ⟨by decide, by rw [List.mem_cons, not_or]; exact ⟨by decide, dash_not hs (by decide)⟩⟩) rfl
    (fun j hj => by
      split <;> omega)
    (fun j hj => by
      simp only [List.length_cons, List.length_nil] at hj
      rcases (show j = 0 ∨ j = 1 by omega) with rfl | rfl
      · exact E1
      · exact E2) hT
  refine h.mono ?_
  rintro e w' ⟨rfl, hb⟩
  refine ⟨?_, hb⟩
  simp [ansL, List.range_succ]

end Go.Proofs.YtflaoicjgigcaaaGreatDoor
