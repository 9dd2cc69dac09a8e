/-
  Contracts of functions and plain laws that the law's proof uses (parts: ExecM). Conditions: what each theorem names.
-/
import Derived.Laws.EntriesVeiled
import Derived.Test.YtnbdimbhklbadaaGreatDoorQExecH
namespace Go.Proofs.YtnbdimbhklbadaaGreatDoor
open Go.RowKit Pl
set_option linter.unusedVariables false
set_option maxHeartbeats 8000000 in
set_option maxRecDepth 100000 in
theorem exec_menu0 (d d' : Dk) (wd : List UInt8) (rest ans : ByteArray) (hn : 32 ∉ wd) (hwl : wd.length ≤ 20) (hs : rest.size ≤ 20000) (f : Int) (N : Nat) 
    (eg : ∀ args w, (callFunc N args).run Tryz.prog w = .ok (.enter N args) w) (hf : f ≠ 0) (hm : tl d.wi ≠ []) (hff : 0 < f → ((spl 32 (tl rest)).length : Int) = f)
    (hfind : ∀ p0 p1 p2 p3 p4 p5 p6, findC (cmdL p0 p1 p2 p3 p4 p5 p6) (mk wd) = some (mk wd, .agg #[.int .i64 f, .bool true, .func (Fn.func N) #[] #[.pointer (some ⟨p0, 0, none⟩)]]))
    (hrun : ∀ (w : World) (a : At) (p0 p1 p2 p3 p4 p5 p6 B : Nat), GW w → Own d a w → Boxes w p0 p1 p2 p3 p4 p5 p6 → Rd w (B + 1) (some ⟨B, 0, none⟩) (strV (mkl (spl 32 (tl rest)))) → B + 1 ≤ w.heap.size →
      Calls Tryz.prog N #[dkV d a, .string rest, .slice (some ⟨B, 0, none⟩) (spl 32 (tl rest)).length (spl 32 (tl rest)).length, .pointer (some ⟨p0, 0, none⟩)] w (Answered d' ans w)) :
    Exec d (mk (wd ++ 32 :: tl rest)) d' ans := by
  intro w a hml hown
  have hb := bel_two (w := w) (.cells (dkC d a) 71) (.cells #[.slice none 0 0, .string ⟨#[]⟩, .string ⟨#[]⟩, .string ⟨#[]⟩, .string ⟨#[]⟩, .slice none 0 0] 71)
  have HML := Lib.hid hml
  have HM := Lib.hid (hml.below hb (Nat.le_refl _)); have HB := Lib.hid hb; clear hb hml
  have HO := Lib.hid hown; clear hown
  have HF := Lib.hid hfind; have HRUN := Lib.hid hrun; have HFF := Lib.hid hff; clear hfind hrun hff
  have hf0 : (f == 0) = false := by rw [beq_eq_false_iff_ne]; exact hf
  have hf1 : (f != 0) = true := by rw [bne_iff_ne]; exact hf
  have hwe : d.wi.toList.isEmpty = false := by rw [List.isEmpty_eq_false_iff, toList_tl]; exact hm
  clear hm
  have hcz : mk wd = ⟨wd.toArray⟩ := rfl
  obtain ⟨K, hK⟩ : ∃ K, K = mk wd := ⟨_, rfl⟩
  have hKz : K.size ≤ maxLen := by rw [hK, size_mk]; unfold maxLen; omega
  have hck := cut_word (((w.alloc (.cells (dkC d a) 71)).alloc (.cells #[.slice none 0 0, .string ⟨#[]⟩, .string ⟨#[]⟩, .string ⟨#[]⟩, .string ⟨#[]⟩, .slice none 0 0] 71))) wd rest hn HM.out.ml (by omega) (by omega)
  rw [← hK] at hck HF
  have HCK := Lib.hid hck; have HKK := Lib.hid hK; clear hck hcz hK
  obtain ⟨FL, hFL⟩ : ∃ FL, FL = spl 32 (tl rest) := ⟨_, rfl⟩
  rw [← hFL] at HFF HRUN
  have HFLH := Lib.hid hFL; clear hFL
  go_enter Tryz.func38, Tryz.ntmps38
  go_wp2_with fail
  refine HCK.out.mono ?_
  rintro _ w1 ⟨rfl, q1, rfl⟩
  go_wp2_with fail
  refine (commands_any _).mono ?_
  rintro _ w2 ⟨b, rfl, hcm, _, hb2⟩
  have hb3 := below_of_drewN hb2
  have hdk := heap_alloc_new (w.alloc (.cells (dkC d a) 71)) (.cells #[.slice none 0 0, .string ⟨#[]⟩, .string ⟨#[]⟩, .string ⟨#[]⟩, .string ⟨#[]⟩, .slice none 0 0] 71)
  rw [szalloc] at hdk
  have HDK := Lib.hid (block_below hdk hb3); clear hdk
  obtain ⟨p0, p1, p2, p3, p4, p5, p6, hcmap, q0, q1, q2, q3, q4, q5, q6⟩ := hcm
  have hbx : Boxes w2 p0 p1 p2 p3 p4 p5 p6 := ⟨q0, q1, q2, q3, q4, q5, q6⟩
  have hlk := hcmap.look Tryz.undM (zeroCmd w2) K hKz
  rw [HF.out p0 p1 p2 p3 p4 p5 p6] at hlk
  simp only [valC, Option.isSome_some] at hlk
  obtain ⟨hcl, hfr⟩ := bcell hb3
  have hzz : w.heap.size + 1 < w2.heap.size := by have := hb3.size; simp at this; omega
  have hz0 : w.heap.size < w2.heap.size := by omega
  have HB2 := Lib.hid (HB.out.trans (hb3.mono HB.out.size)); have HBX := Lib.hid hbx
  clear hb2 hb3 hcmap HM HB hbx q0 q1 q2 q3 q4 q5 q6 hKz HF HCK
  have hb3 : Below w2.heap.size w2 (w2.alloc (.cells #[.int .i64 f, .bool true, .func (Fn.func N) #[] #[.pointer (some ⟨p0, 0, none⟩)]] 121)) := (Below.refl _ _).alloc (Nat.le_refl _) _
  have HSP := Lib.hid (split_any (w2.alloc (.cells #[.int .i64 f, .bool true, .func (Fn.func N) #[] #[.pointer (some ⟨p0, 0, none⟩)]] 121)) rest 32 (HML.out.below (HB2.out.trans (hb3.mono HB2.out.size)) (Nat.le_refl _)).ml (by omega))
  have hsr := split_rd (w2.alloc (.cells #[.int .i64 f, .bool true, .func (Fn.func N) #[] #[.pointer (some ⟨p0, 0, none⟩)]] 121)) (mkl FL)
  have hb4 : Below w2.heap.size w2 ((w2.alloc (.cells #[.int .i64 f, .bool true, .func (Fn.func N) #[] #[.pointer (some ⟨p0, 0, none⟩)]] 121)).alloc (.cells (strV (mkl FL)).toArray 9)) := hb3.alloc hb3.size _
  rw [szalloc] at hsr
  have HB4 := Lib.hid hb4; have HSR := Lib.hid hsr; clear hb3 hb4 hsr
  have hff1 : 0 < f → ((FL.length : Int) != f) = false := fun h => by rw [HFF.out h]; simp
  have hz5 : w.heap.size + 1 < w2.heap.size + 1 := by omega
  by_cases h0f : 0 < f
  all_goals
    first
      | have hff2 := hff1 h0f
      | skip
    clear hff1
    go_wp2_with fail
    refine HSP.out.mono ?_
    rintro _ w3 ⟨rfl, rfl⟩
    rw [← HFLH.out]
    rw [szalloc]
    have hs3 : w2.heap.size + 1 + 1 ≤ ((w2.alloc (.cells #[.int .i64 f, .bool true, .func (Fn.func N) #[] #[.pointer (some ⟨p0, 0, none⟩)]] 121)).alloc (.cells (strV (mkl FL)).toArray 9)).heap.size := by simp
    have hc9 : ∀ o u, (w2.alloc (.cells #[.int .i64 f, .bool true, .func (Fn.func N) #[] #[.pointer (some ⟨p0, 0, none⟩)]] 121)).cell? ⟨w2.heap.size, o, none⟩ = some u → ((w2.alloc (.cells #[.int .i64 f, .bool true, .func (Fn.func N) #[] #[.pointer (some ⟨p0, 0, none⟩)]] 121)).alloc (.cells (strV (mkl FL)).toArray 9)).cell? ⟨w2.heap.size, o, none⟩ = some u := fun o u h => cell_alloc2 h _
    have d0 := hc9 0 (.int .i64 f) (by simp)
    have d1 := hc9 1 (.bool true) (by simp)
    have d2 := hc9 2 (.func (Fn.func N) #[] #[.pointer (some ⟨p0, 0, none⟩)]) (by simp)
    clear hc9
    generalize ((w2.alloc (.cells #[.int .i64 f, .bool true, .func (Fn.func N) #[] #[.pointer (some ⟨p0, 0, none⟩)]] 121)).alloc (.cells (strV (mkl FL)).toArray 9)) = w3 at hs3 d0 d1 d2 HB4 HSR ⊢
    obtain ⟨hcl3, hfr3⟩ := bcell HB4.out
    go_wp2_with fail
    refine (HRUN.out w3 a p0 p1 p2 p3 p4 p5 p6 (w2.heap.size + 1) (HML.out.below (HB2.out.trans (HB4.out.mono HB2.out.size)) (Nat.le_refl _)) (HO.out.below (HB2.out.trans (HB4.out.mono HB2.out.size))) (HBX.out.below HB4.out) HSR.out hs3).mono ?_
    rintro _ w4 ⟨a4, rfl, ho4, hb5⟩
    have hb6 := HB4.out.trans (hb5.mono HB4.out.size)
    obtain ⟨hcl2, hfr2⟩ := bcell hb6
    have hz5 : w.heap.size + 1 < w4.heap.size := Nat.lt_of_lt_of_le hzz hb6.size
    have HB5 := Lib.hid (HB2.out.trans (hb6.mono HB2.out.size)); have HO4 := Lib.hid ho4; have HDK4 := Lib.hid (block_below HDK.out hb6)
    clear hb5 hb6 hlk d0 d1 d2 hs3 hcl3 hfr3 ho4
    go_wp2_with fail
    refine bodyPost_ret (v := .tuple #[dkV d' a4, .string ans]) (by simp [results, Tryz.results38, go_sem, hcl2, hcl, hzz]) rfl ⟨a4, rfl, ⟨?_, ?_⟩, bel_six HB5.out (by omega) _ _ _ _ _ _⟩
    · exact HO4.out.r.kept (only_six _ (w.heap.size + 1) _ _ _ _ _ _) (own_ne HO4.out.r HDK4.out (by decide))
    · exact HO4.out.b.kept (only_six _ (w.heap.size + 1) _ _ _ _ _ _) (own_ne HO4.out.b HDK4.out (by decide))
set_option maxHeartbeats 8000000 in
set_option maxRecDepth 100000 in
theorem exec_menu1 (d d' : Dk) (wd : List UInt8) (rest ans : ByteArray) (hn : 32 ∉ wd) (hwl : wd.length ≤ 20) (hs : rest.size ≤ 20000) (f : Int) (N : Nat) 
    (eg : ∀ args w, (callFunc N args).run Tryz.prog w = .ok (.enter N args) w) (hf : f ≠ 0) (hm : tl d.wi ≠ []) (hff : 0 < f → ((spl 32 (tl rest)).length : Int) = f)
    (hfind : ∀ p0 p1 p2 p3 p4 p5 p6, findC (cmdL p0 p1 p2 p3 p4 p5 p6) (mk wd) = some (mk wd, .agg #[.int .i64 f, .bool true, .func (Fn.func N) #[] #[.pointer (some ⟨p1, 0, none⟩)]]))
    (hrun : ∀ (w : World) (a : At) (p0 p1 p2 p3 p4 p5 p6 B : Nat), GW w → Own d a w → Boxes w p0 p1 p2 p3 p4 p5 p6 → Rd w (B + 1) (some ⟨B, 0, none⟩) (strV (mkl (spl 32 (tl rest)))) → B + 1 ≤ w.heap.size →
      Calls Tryz.prog N #[dkV d a, .string rest, .slice (some ⟨B, 0, none⟩) (spl 32 (tl rest)).length (spl 32 (tl rest)).length, .pointer (some ⟨p1, 0, none⟩)] w (Answered d' ans w)) :
    Exec d (mk (wd ++ 32 :: tl rest)) d' ans := by
  intro w a hml hown
  have hb := bel_two (w := w) (.cells (dkC d a) 71) (.cells #[.slice none 0 0, .string ⟨#[]⟩, .string ⟨#[]⟩, .string ⟨#[]⟩, .string ⟨#[]⟩, .slice none 0 0] 71)
  have HML := Lib.hid hml
  have HM := Lib.hid (hml.below hb (Nat.le_refl _)); have HB := Lib.hid hb; clear hb hml
  have HO := Lib.hid hown; clear hown
  have HF := Lib.hid hfind; have HRUN := Lib.hid hrun; have HFF := Lib.hid hff; clear hfind hrun hff
  have hf0 : (f == 0) = false := by rw [beq_eq_false_iff_ne]; exact hf
  have hf1 : (f != 0) = true := by rw [bne_iff_ne]; exact hf
  have hwe : d.wi.toList.isEmpty = false := by rw [List.isEmpty_eq_false_iff, toList_tl]; exact hm
  clear hm
  have hcz : mk wd = ⟨wd.toArray⟩ := rfl
  obtain ⟨K, hK⟩ : ∃ K, K = mk wd := ⟨_, rfl⟩
  have hKz : K.size ≤ maxLen := by rw [hK, size_mk]; unfold maxLen; omega
  have hck := cut_word (((w.alloc (.cells (dkC d a) 71)).alloc (.cells #[.slice none 0 0, .string ⟨#[]⟩, .string ⟨#[]⟩, .string ⟨#[]⟩, .string ⟨#[]⟩, .slice none 0 0] 71))) wd rest hn HM.out.ml (by omega) (by omega)
  rw [← hK] at hck HF
  have HCK := Lib.hid hck; have HKK := Lib.hid hK; clear hck hcz hK
  obtain ⟨FL, hFL⟩ : ∃ FL, FL = spl 32 (tl rest) := ⟨_, rfl⟩
  rw [← hFL] at HFF HRUN
  have HFLH := Lib.hid hFL; clear hFL
  go_enter Tryz.func38, Tryz.ntmps38
  go_wp2_with fail
  refine HCK.out.mono ?_
  rintro _ w1 ⟨rfl, q1, rfl⟩
  go_wp2_with fail
  refine (commands_any _).mono ?_
  rintro _ w2 ⟨b, rfl, hcm, _, hb2⟩
  have hb3 := below_of_drewN hb2
  have hdk := heap_alloc_new (w.alloc (.cells (dkC d a) 71)) (.cells #[.slice none 0 0, .string ⟨#[]⟩, .string ⟨#[]⟩, .string ⟨#[]⟩, .string ⟨#[]⟩, .slice none 0 0] 71)
  rw [szalloc] at hdk
  have HDK := Lib.hid (block_below hdk hb3); clear hdk
  obtain ⟨p0, p1, p2, p3, p4, p5, p6, hcmap, q0, q1, q2, q3, q4, q5, q6⟩ := hcm
  have hbx : Boxes w2 p0 p1 p2 p3 p4 p5 p6 := ⟨q0, q1, q2, q3, q4, q5, q6⟩
  have hlk := hcmap.look Tryz.undM (zeroCmd w2) K hKz
  rw [HF.out p0 p1 p2 p3 p4 p5 p6] at hlk
  simp only [valC, Option.isSome_some] at hlk
  obtain ⟨hcl, hfr⟩ := bcell hb3
  have hzz : w.heap.size + 1 < w2.heap.size := by have := hb3.size; simp at this; omega
  have hz0 : w.heap.size < w2.heap.size := by omega
  have HB2 := Lib.hid (HB.out.trans (hb3.mono HB.out.size)); have HBX := Lib.hid hbx
  clear hb2 hb3 hcmap HM HB hbx q0 q1 q2 q3 q4 q5 q6 hKz HF HCK
  have hb3 : Below w2.heap.size w2 (w2.alloc (.cells #[.int .i64 f, .bool true, .func (Fn.func N) #[] #[.pointer (some ⟨p1, 0, none⟩)]] 121)) := (Below.refl _ _).alloc (Nat.le_refl _) _
  have HSP := Lib.hid (split_any (w2.alloc (.cells #[.int .i64 f, .bool true, .func (Fn.func N) #[] #[.pointer (some ⟨p1, 0, none⟩)]] 121)) rest 32 (HML.out.below (HB2.out.trans (hb3.mono HB2.out.size)) (Nat.le_refl _)).ml (by omega))
  have hsr := split_rd (w2.alloc (.cells #[.int .i64 f, .bool true, .func (Fn.func N) #[] #[.pointer (some ⟨p1, 0, none⟩)]] 121)) (mkl FL)
  have hb4 : Below w2.heap.size w2 ((w2.alloc (.cells #[.int .i64 f, .bool true, .func (Fn.func N) #[] #[.pointer (some ⟨p1, 0, none⟩)]] 121)).alloc (.cells (strV (mkl FL)).toArray 9)) := hb3.alloc hb3.size _
  rw [szalloc] at hsr
  have HB4 := Lib.hid hb4; have HSR := Lib.hid hsr; clear hb3 hb4 hsr
  have hff1 : 0 < f → ((FL.length : Int) != f) = false := fun h => by rw [HFF.out h]; simp
  have hz5 : w.heap.size + 1 < w2.heap.size + 1 := by omega
  by_cases h0f : 0 < f
  all_goals
    first
      | have hff2 := hff1 h0f
      | skip
    clear hff1
    go_wp2_with fail
    refine HSP.out.mono ?_
    rintro _ w3 ⟨rfl, rfl⟩
    rw [← HFLH.out]
    rw [szalloc]
    have hs3 : w2.heap.size + 1 + 1 ≤ ((w2.alloc (.cells #[.int .i64 f, .bool true, .func (Fn.func N) #[] #[.pointer (some ⟨p1, 0, none⟩)]] 121)).alloc (.cells (strV (mkl FL)).toArray 9)).heap.size := by simp
    have hc9 : ∀ o u, (w2.alloc (.cells #[.int .i64 f, .bool true, .func (Fn.func N) #[] #[.pointer (some ⟨p1, 0, none⟩)]] 121)).cell? ⟨w2.heap.size, o, none⟩ = some u → ((w2.alloc (.cells #[.int .i64 f, .bool true, .func (Fn.func N) #[] #[.pointer (some ⟨p1, 0, none⟩)]] 121)).alloc (.cells (strV (mkl FL)).toArray 9)).cell? ⟨w2.heap.size, o, none⟩ = some u := fun o u h => cell_alloc2 h _
    have d0 := hc9 0 (.int .i64 f) (by simp)
    have d1 := hc9 1 (.bool true) (by simp)
    have d2 := hc9 2 (.func (Fn.func N) #[] #[.pointer (some ⟨p1, 0, none⟩)]) (by simp)
    clear hc9
    generalize ((w2.alloc (.cells #[.int .i64 f, .bool true, .func (Fn.func N) #[] #[.pointer (some ⟨p1, 0, none⟩)]] 121)).alloc (.cells (strV (mkl FL)).toArray 9)) = w3 at hs3 d0 d1 d2 HB4 HSR ⊢
    obtain ⟨hcl3, hfr3⟩ := bcell HB4.out
    go_wp2_with fail
    refine (HRUN.out w3 a p0 p1 p2 p3 p4 p5 p6 (w2.heap.size + 1) (HML.out.below (HB2.out.trans (HB4.out.mono HB2.out.size)) (Nat.le_refl _)) (HO.out.below (HB2.out.trans (HB4.out.mono HB2.out.size))) (HBX.out.below HB4.out) HSR.out hs3).mono ?_
    rintro _ w4 ⟨a4, rfl, ho4, hb5⟩
    have hb6 := HB4.out.trans (hb5.mono HB4.out.size)
    obtain ⟨hcl2, hfr2⟩ := bcell hb6
    have hz5 : w.heap.size + 1 < w4.heap.size := Nat.lt_of_lt_of_le hzz hb6.size
    have HB5 := Lib.hid (HB2.out.trans (hb6.mono HB2.out.size)); have HO4 := Lib.hid ho4; have HDK4 := Lib.hid (block_below HDK.out hb6)
    clear hb5 hb6 hlk d0 d1 d2 hs3 hcl3 hfr3 ho4
    go_wp2_with fail
    refine bodyPost_ret (v := .tuple #[dkV d' a4, .string ans]) (by simp [results, Tryz.results38, go_sem, hcl2, hcl, hzz]) rfl ⟨a4, rfl, ⟨?_, ?_⟩, bel_six HB5.out (by omega) _ _ _ _ _ _⟩
    · exact HO4.out.r.kept (only_six _ (w.heap.size + 1) _ _ _ _ _ _) (own_ne HO4.out.r HDK4.out (by decide))
    · exact HO4.out.b.kept (only_six _ (w.heap.size + 1) _ _ _ _ _ _) (own_ne HO4.out.b HDK4.out (by decide))
set_option maxHeartbeats 8000000 in
set_option maxRecDepth 100000 in
theorem exec_menu2 (d d' : Dk) (wd : List UInt8) (rest ans : ByteArray) (hn : 32 ∉ wd) (hwl : wd.length ≤ 20) (hs : rest.size ≤ 20000) (f : Int) (N : Nat) 
    (eg : ∀ args w, (callFunc N args).run Tryz.prog w = .ok (.enter N args) w) (hf : f ≠ 0) (hm : tl d.wi ≠ []) (hff : 0 < f → ((spl 32 (tl rest)).length : Int) = f)
    (hfind : ∀ p0 p1 p2 p3 p4 p5 p6, findC (cmdL p0 p1 p2 p3 p4 p5 p6) (mk wd) = some (mk wd, .agg #[.int .i64 f, .bool true, .func (Fn.func N) #[] #[.pointer (some ⟨p2, 0, none⟩)]]))
    (hrun : ∀ (w : World) (a : At) (p0 p1 p2 p3 p4 p5 p6 B : Nat), GW w → Own d a w → Boxes w p0 p1 p2 p3 p4 p5 p6 → Rd w (B + 1) (some ⟨B, 0, none⟩) (strV (mkl (spl 32 (tl rest)))) → B + 1 ≤ w.heap.size →
      Calls Tryz.prog N #[dkV d a, .string rest, .slice (some ⟨B, 0, none⟩) (spl 32 (tl rest)).length (spl 32 (tl rest)).length, .pointer (some ⟨p2, 0, none⟩)] w (Answered d' ans w)) :
    Exec d (mk (wd ++ 32 :: tl rest)) d' ans := by
  intro w a hml hown
  have hb := bel_two (w := w) (.cells (dkC d a) 71) (.cells #[.slice none 0 0, .string ⟨#[]⟩, .string ⟨#[]⟩, .string ⟨#[]⟩, .string ⟨#[]⟩, .slice none 0 0] 71)
  have HML := Lib.hid hml
  have HM := Lib.hid (hml.below hb (Nat.le_refl _)); have HB := Lib.hid hb; clear hb hml
  have HO := Lib.hid hown; clear hown
  have HF := Lib.hid hfind; have HRUN := Lib.hid hrun; have HFF := Lib.hid hff; clear hfind hrun hff
  have hf0 : (f == 0) = false := by rw [beq_eq_false_iff_ne]; exact hf
  have hf1 : (f != 0) = true := by rw [bne_iff_ne]; exact hf
  have hwe : d.wi.toList.isEmpty = false := by rw [List.isEmpty_eq_false_iff, toList_tl]; exact hm
  clear hm
  have hcz : mk wd = ⟨wd.toArray⟩ := rfl
  obtain ⟨K, hK⟩ : ∃ K, K = mk wd := ⟨_, rfl⟩
  have hKz : K.size ≤ maxLen := by rw [hK, size_mk]; unfold maxLen; omega
  have hck := cut_word (((w.alloc (.cells (dkC d a) 71)).alloc (.cells #[.slice none 0 0, .string ⟨#[]⟩, .string ⟨#[]⟩, .string ⟨#[]⟩, .string ⟨#[]⟩, .slice none 0 0] 71))) wd rest hn HM.out.ml (by omega) (by omega)
  rw [← hK] at hck HF
  have HCK := Lib.hid hck; have HKK := Lib.hid hK; clear hck hcz hK
  obtain ⟨FL, hFL⟩ : ∃ FL, FL = spl 32 (tl rest) := ⟨_, rfl⟩
  rw [← hFL] at HFF HRUN
  have HFLH := Lib.hid hFL; clear hFL
  go_enter Tryz.func38, Tryz.ntmps38
  go_wp2_with fail
  refine HCK.out.mono ?_
  rintro _ w1 ⟨rfl, q1, rfl⟩
  go_wp2_with fail
  refine (commands_any _).mono ?_
  rintro _ w2 ⟨b, rfl, hcm, _, hb2⟩
  have hb3 := below_of_drewN hb2
  have hdk := heap_alloc_new (w.alloc (.cells (dkC d a) 71)) (.cells #[.slice none 0 0, .string ⟨#[]⟩, .string ⟨#[]⟩, .string ⟨#[]⟩, .string ⟨#[]⟩, .slice none 0 0] 71)
  rw [szalloc] at hdk
  have HDK := Lib.hid (block_below hdk hb3); clear hdk
  obtain ⟨p0, p1, p2, p3, p4, p5, p6, hcmap, q0, q1, q2, q3, q4, q5, q6⟩ := hcm
  have hbx : Boxes w2 p0 p1 p2 p3 p4 p5 p6 := ⟨q0, q1, q2, q3, q4, q5, q6⟩
  have hlk := hcmap.look Tryz.undM (zeroCmd w2) K hKz
  rw [HF.out p0 p1 p2 p3 p4 p5 p6] at hlk
  simp only [valC, Option.isSome_some] at hlk
  obtain ⟨hcl, hfr⟩ := bcell hb3
  have hzz : w.heap.size + 1 < w2.heap.size := by have := hb3.size; simp at this; omega
  have hz0 : w.heap.size < w2.heap.size := by omega
  have HB2 := Lib.hid (HB.out.trans (hb3.mono HB.out.size)); have HBX := Lib.hid hbx
  clear hb2 hb3 hcmap HM HB hbx q0 q1 q2 q3 q4 q5 q6 hKz HF HCK
  have hb3 : Below w2.heap.size w2 (w2.alloc (.cells #[.int .i64 f, .bool true, .func (Fn.func N) #[] #[.pointer (some ⟨p2, 0, none⟩)]] 121)) := (Below.refl _ _).alloc (Nat.le_refl _) _
  have HSP := Lib.hid (split_any (w2.alloc (.cells #[.int .i64 f, .bool true, .func (Fn.func N) #[] #[.pointer (some ⟨p2, 0, none⟩)]] 121)) rest 32 (HML.out.below (HB2.out.trans (hb3.mono HB2.out.size)) (Nat.le_refl _)).ml (by omega))
  have hsr := split_rd (w2.alloc (.cells #[.int .i64 f, .bool true, .func (Fn.func N) #[] #[.pointer (some ⟨p2, 0, none⟩)]] 121)) (mkl FL)
  have hb4 : Below w2.heap.size w2 ((w2.alloc (.cells #[.int .i64 f, .bool true, .func (Fn.func N) #[] #[.pointer (some ⟨p2, 0, none⟩)]] 121)).alloc (.cells (strV (mkl FL)).toArray 9)) := hb3.alloc hb3.size _
  rw [szalloc] at hsr
  have HB4 := Lib.hid hb4; have HSR := Lib.hid hsr; clear hb3 hb4 hsr
  have hff1 : 0 < f → ((FL.length : Int) != f) = false := fun h => by rw [HFF.out h]; simp
  have hz5 : w.heap.size + 1 < w2.heap.size + 1 := by omega
  by_cases h0f : 0 < f
  all_goals
    first
      | have hff2 := hff1 h0f
      | skip
    clear hff1
    go_wp2_with fail
    refine HSP.out.mono ?_
    rintro _ w3 ⟨rfl, rfl⟩
    rw [← HFLH.out]
    rw [szalloc]
    have hs3 : w2.heap.size + 1 + 1 ≤ ((w2.alloc (.cells #[.int .i64 f, .bool true, .func (Fn.func N) #[] #[.pointer (some ⟨p2, 0, none⟩)]] 121)).alloc (.cells (strV (mkl FL)).toArray 9)).heap.size := by simp
    have hc9 : ∀ o u, (w2.alloc (.cells #[.int .i64 f, .bool true, .func (Fn.func N) #[] #[.pointer (some ⟨p2, 0, none⟩)]] 121)).cell? ⟨w2.heap.size, o, none⟩ = some u → ((w2.alloc (.cells #[.int .i64 f, .bool true, .func (Fn.func N) #[] #[.pointer (some ⟨p2, 0, none⟩)]] 121)).alloc (.cells (strV (mkl FL)).toArray 9)).cell? ⟨w2.heap.size, o, none⟩ = some u := fun o u h => cell_alloc2 h _
    have d0 := hc9 0 (.int .i64 f) (by simp)
    have d1 := hc9 1 (.bool true) (by simp)
    have d2 := hc9 2 (.func (Fn.func N) #[] #[.pointer (some ⟨p2, 0, none⟩)]) (by simp)
    clear hc9
    generalize ((w2.alloc (.cells #[.int .i64 f, .bool true, .func (Fn.func N) #[] #[.pointer (some ⟨p2, 0, none⟩)]] 121)).alloc (.cells (strV (mkl FL)).toArray 9)) = w3 at hs3 d0 d1 d2 HB4 HSR ⊢
    obtain ⟨hcl3, hfr3⟩ := bcell HB4.out
    go_wp2_with fail
    refine (HRUN.out w3 a p0 p1 p2 p3 p4 p5 p6 (w2.heap.size + 1) (HML.out.below (HB2.out.trans (HB4.out.mono HB2.out.size)) (Nat.le_refl _)) (HO.out.below (HB2.out.trans (HB4.out.mono HB2.out.size))) (HBX.out.below HB4.out) HSR.out hs3).mono ?_
    rintro _ w4 ⟨a4, rfl, ho4, hb5⟩
    have hb6 := HB4.out.trans (hb5.mono HB4.out.size)
    obtain ⟨hcl2, hfr2⟩ := bcell hb6
    have hz5 : w.heap.size + 1 < w4.heap.size := Nat.lt_of_lt_of_le hzz hb6.size
    have HB5 := Lib.hid (HB2.out.trans (hb6.mono HB2.out.size)); have HO4 := Lib.hid ho4; have HDK4 := Lib.hid (block_below HDK.out hb6)
    clear hb5 hb6 hlk d0 d1 d2 hs3 hcl3 hfr3 ho4
    go_wp2_with fail
    refine bodyPost_ret (v := .tuple #[dkV d' a4, .string ans]) (by simp [results, Tryz.results38, go_sem, hcl2, hcl, hzz]) rfl ⟨a4, rfl, ⟨?_, ?_⟩, bel_six HB5.out (by omega) _ _ _ _ _ _⟩
    · exact HO4.out.r.kept (only_six _ (w.heap.size + 1) _ _ _ _ _ _) (own_ne HO4.out.r HDK4.out (by decide))
    · exact HO4.out.b.kept (only_six _ (w.heap.size + 1) _ _ _ _ _ _) (own_ne HO4.out.b HDK4.out (by decide))
end Go.Proofs.YtnbdimbhklbadaaGreatDoor
