/-
  What impl.execute answers to a line that is no command, or whose rest does not fit. Conditions: what each theorem names.
-/
import Derived.Test.YtoakpacpkkmgnaaGreatDoorExecH
namespace Go.Proofs.YtoakpacpkkmgnaaGreatDoor
open Go.RowKit Pl
set_option linter.unusedVariables false

set_option maxHeartbeats 8000000 in
set_option maxRecDepth 100000 in
theorem exec_unknown (d : Dk) (wd : List UInt8) (hn : 32 ∉ wd) (hwl : wd.length ≤ 20)
    (hfind : ∀ p0 p1 p2 p3 p4 p5 p6, findC (cmdL p0 p1 p2 p3 p4 p5 p6) (mk wd) = none) :
    Exec d (mk wd) d (mk [119, 104, 97, 116]) := by
  intro w a hml hown
  have hb := bel_two (w := w) (.cells (dkC d a) 54) (.cells #[.slice none 0 0, .string ⟨#[]⟩, .string ⟨#[]⟩, .string ⟨#[]⟩, .string ⟨#[]⟩, .slice none 0 0] 54)
  have HML := Lib.hid hml
  have HM := Lib.hid (hml.below hb (Nat.le_refl _)); have HB := Lib.hid hb; clear hb hml
  have HO := Lib.hid hown; clear hown
  have HF := Lib.hid hfind; clear hfind
  obtain ⟨K, hK⟩ : ∃ K, K = mk wd := ⟨_, rfl⟩
  have hKz : K.size ≤ maxLen := by rw [hK, size_mk]; unfold maxLen; omega
  have hck := cut_bare ((w.alloc (.cells (dkC d a) 54)).alloc (.cells #[.slice none 0 0, .string ⟨#[]⟩, .string ⟨#[]⟩, .string ⟨#[]⟩, .string ⟨#[]⟩, .slice none 0 0] 54)) wd hn HM.out.ml (by omega)
  rw [← hK] at hck HF ⊢
  have HCK := Lib.hid hck; have HKK := Lib.hid hK; clear hck hK
  go_enter Tryz.func33, Tryz.ntmps33
  go_wp2_with fail
  refine HCK.out.mono ?_
  rintro _ w1 ⟨rfl, q1, rfl⟩
  go_wp2_with fail
  refine (commands_any _).mono ?_
  rintro _ w2 ⟨b, rfl, hcm, _, hb2⟩
  have hb3 := below_of_drewN hb2
  have hdk := heap_alloc_new (w.alloc (.cells (dkC d a) 54)) (.cells #[.slice none 0 0, .string ⟨#[]⟩, .string ⟨#[]⟩, .string ⟨#[]⟩, .string ⟨#[]⟩, .slice none 0 0] 54)
  rw [szalloc] at hdk
  have HDK := Lib.hid (block_below hdk hb3); clear hdk
  obtain ⟨p0, p1, p2, p3, p4, p5, p6, hcmap, q0, q1, q2, q3, q4, q5, q6⟩ := hcm
  have hlk := hcmap.look Tryz.undM (zeroCmd w2) K hKz
  rw [HF.out p0 p1 p2 p3 p4 p5 p6] at hlk
  simp only [valC, Option.isSome_none] at hlk
  obtain ⟨hcl, hfr⟩ := bcell hb3
  have hzz : w.heap.size + 1 < w2.heap.size := by have := hb3.size; simp at this; omega
  have hz0 : w.heap.size < w2.heap.size := by omega
  have HB2 := Lib.hid (HB.out.trans (hb3.mono HB.out.size))
  clear hb2 hb3 hcmap HM HB q0 q1 q2 q3 q4 q5 q6 hKz HF HCK
  have hz5 : w.heap.size + 1 < w2.heap.size + 1 := by omega
  have HO4 := Lib.hid (HO.out.below HB2.out); have HDK4 := HDK
  go_wp2_with fail
  refine bodyPost_ret (v := .tuple #[dkV d a, .string (mk [119, 104, 97, 116])]) (by simp [results, Tryz.results33, go_sem, hcl, hzz]; try rfl) rfl ⟨a, rfl, ⟨?_, ?_⟩, (bel_six HB2.out (by omega) _ _ _ _ _ _).alloc (bel_six HB2.out (Nat.le_succ _) _ _ _ _ _ _).size _⟩
  · exact (HO4.out.r.kept (only_six _ (w.heap.size + 1) _ _ _ _ _ _) (own_ne HO4.out.r HDK4.out (by decide))).alloc _
  · exact (HO4.out.b.kept (only_six _ (w.heap.size + 1) _ _ _ _ _ _) (own_ne HO4.out.b HDK4.out (by decide))).alloc _

set_option maxHeartbeats 8000000 in
set_option maxRecDepth 100000 in
theorem exec_misfit (d : Dk) (wd : List UInt8) (rest : ByteArray) (hn : 32 ∉ wd) (hwl : wd.length ≤ 20) (hs : rest.size ≤ 20000) (N : Nat) (m : Bool)
    (hfind : ∀ p0 p1 p2 p3 p4 p5 p6, findC (cmdL p0 p1 p2 p3 p4 p5 p6) (mk wd) = some (mk wd, .agg #[.int .i64 0, .bool m, .func (Fn.func N) #[] #[]])) :
    Exec d (mk (wd ++ 32 :: tl rest)) d (mk [119, 104, 97, 116]) := by
  intro w a hml hown
  have hb := bel_two (w := w) (.cells (dkC d a) 54) (.cells #[.slice none 0 0, .string ⟨#[]⟩, .string ⟨#[]⟩, .string ⟨#[]⟩, .string ⟨#[]⟩, .slice none 0 0] 54)
  have HML := Lib.hid hml
  have HM := Lib.hid (hml.below hb (Nat.le_refl _)); have HB := Lib.hid hb; clear hb hml
  have HO := Lib.hid hown; clear hown
  have HF := Lib.hid hfind; clear hfind
  obtain ⟨K, hK⟩ : ∃ K, K = mk wd := ⟨_, rfl⟩
  have hKz : K.size ≤ maxLen := by rw [hK, size_mk]; unfold maxLen; omega
  have hck := cut_word ((w.alloc (.cells (dkC d a) 54)).alloc (.cells #[.slice none 0 0, .string ⟨#[]⟩, .string ⟨#[]⟩, .string ⟨#[]⟩, .string ⟨#[]⟩, .slice none 0 0] 54)) wd rest hn HM.out.ml (by omega) (by omega)
  rw [← hK] at hck HF
  have HCK := Lib.hid hck; have HKK := Lib.hid hK; clear hck hK
  go_enter Tryz.func33, Tryz.ntmps33
  go_wp2_with fail
  refine HCK.out.mono ?_
  rintro _ w1 ⟨rfl, q1, rfl⟩
  go_wp2_with fail
  refine (commands_any _).mono ?_
  rintro _ w2 ⟨b, rfl, hcm, _, hb2⟩
  have hb3 := below_of_drewN hb2
  have hdk := heap_alloc_new (w.alloc (.cells (dkC d a) 54)) (.cells #[.slice none 0 0, .string ⟨#[]⟩, .string ⟨#[]⟩, .string ⟨#[]⟩, .string ⟨#[]⟩, .slice none 0 0] 54)
  rw [szalloc] at hdk
  have HDK := Lib.hid (block_below hdk hb3); clear hdk
  obtain ⟨p0, p1, p2, p3, p4, p5, p6, hcmap, q0, q1, q2, q3, q4, q5, q6⟩ := hcm
  have hlk := hcmap.look Tryz.undM (zeroCmd w2) K hKz
  rw [HF.out p0 p1 p2 p3 p4 p5 p6] at hlk
  simp only [valC, Option.isSome_some] at hlk
  obtain ⟨hcl, hfr⟩ := bcell hb3
  have hzz : w.heap.size + 1 < w2.heap.size := by have := hb3.size; simp at this; omega
  have hz0 : w.heap.size < w2.heap.size := by omega
  have HB2 := Lib.hid (HB.out.trans (hb3.mono HB.out.size))
  clear hb2 hb3 hcmap HM HB q0 q1 q2 q3 q4 q5 q6 hKz HF HCK
  have hz5 : w.heap.size + 1 < w2.heap.size + 1 := by omega
  have HO4 := Lib.hid (HO.out.below HB2.out); have HDK4 := HDK
  go_wp2_with fail
  refine bodyPost_ret (v := .tuple #[dkV d a, .string (mk [119, 104, 97, 116])]) (by simp [results, Tryz.results33, go_sem, hcl, hzz]; try rfl) rfl ⟨a, rfl, ⟨?_, ?_⟩, (bel_six HB2.out (by omega) _ _ _ _ _ _).alloc (bel_six HB2.out (Nat.le_succ _) _ _ _ _ _ _).size _⟩
  · exact (HO4.out.r.kept (only_six _ (w.heap.size + 1) _ _ _ _ _ _) (own_ne HO4.out.r HDK4.out (by decide))).alloc _
  · exact (HO4.out.b.kept (only_six _ (w.heap.size + 1) _ _ _ _ _ _) (own_ne HO4.out.b HDK4.out (by decide))).alloc _

set_option maxHeartbeats 8000000 in
set_option maxRecDepth 100000 in
theorem exec_count (d : Dk) (wd : List UInt8) (rest : ByteArray) (hn : 32 ∉ wd) (hwl : wd.length ≤ 20) (hs : rest.size ≤ 20000) (f : Int) (N : Nat) (hf : 0 < f) (hm : tl d.wi ≠ []) (hff : ((spl 32 (tl rest)).length : Int) ≠ f)
    (hfind : ∀ p0 p1 p2 p3 p4 p5 p6, findC (cmdL p0 p1 p2 p3 p4 p5 p6) (mk wd) = some (mk wd, .agg #[.int .i64 f, .bool true, .func (Fn.func N) #[] #[]])) :
    Exec d (mk (wd ++ 32 :: tl rest)) d (mk [119, 104, 97, 116]) := by
  intro w a hml hown
  have hb := bel_two (w := w) (.cells (dkC d a) 54) (.cells #[.slice none 0 0, .string ⟨#[]⟩, .string ⟨#[]⟩, .string ⟨#[]⟩, .string ⟨#[]⟩, .slice none 0 0] 54)
  have HML := Lib.hid hml
  have HM := Lib.hid (hml.below hb (Nat.le_refl _)); have HB := Lib.hid hb; clear hb hml
  have HO := Lib.hid hown; clear hown
  have HF := Lib.hid hfind; clear hfind
  have HFF := Lib.hid hff; clear hff
  have hf0 : (f == 0) = false := by rw [beq_eq_false_iff_ne]; omega
  have hf1 : (f != 0) = true := by rw [bne_iff_ne]; omega
  have hwe : d.wi.toList.isEmpty = false := by rw [List.isEmpty_eq_false_iff, toList_tl]; exact hm
  clear hm
  obtain ⟨K, hK⟩ : ∃ K, K = mk wd := ⟨_, rfl⟩
  have hKz : K.size ≤ maxLen := by rw [hK, size_mk]; unfold maxLen; omega
  have hck := cut_word ((w.alloc (.cells (dkC d a) 54)).alloc (.cells #[.slice none 0 0, .string ⟨#[]⟩, .string ⟨#[]⟩, .string ⟨#[]⟩, .string ⟨#[]⟩, .slice none 0 0] 54)) wd rest hn HM.out.ml (by omega) (by omega)
  rw [← hK] at hck HF
  have HCK := Lib.hid hck; have HKK := Lib.hid hK; clear hck hK
  obtain ⟨FL, hFL⟩ : ∃ FL, FL = spl 32 (tl rest) := ⟨_, rfl⟩
  rw [← hFL] at HFF
  have HFLH := Lib.hid hFL; clear hFL
  go_enter Tryz.func33, Tryz.ntmps33
  go_wp2_with fail
  refine HCK.out.mono ?_
  rintro _ w1 ⟨rfl, q1, rfl⟩
  go_wp2_with fail
  refine (commands_any _).mono ?_
  rintro _ w2 ⟨b, rfl, hcm, _, hb2⟩
  have hb3 := below_of_drewN hb2
  have hdk := heap_alloc_new (w.alloc (.cells (dkC d a) 54)) (.cells #[.slice none 0 0, .string ⟨#[]⟩, .string ⟨#[]⟩, .string ⟨#[]⟩, .string ⟨#[]⟩, .slice none 0 0] 54)
  rw [szalloc] at hdk
  have HDK := Lib.hid (block_below hdk hb3); clear hdk
  obtain ⟨p0, p1, p2, p3, p4, p5, p6, hcmap, q0, q1, q2, q3, q4, q5, q6⟩ := hcm
  have hlk := hcmap.look Tryz.undM (zeroCmd w2) K hKz
  rw [HF.out p0 p1 p2 p3 p4 p5 p6] at hlk
  simp only [valC, Option.isSome_some] at hlk
  obtain ⟨hcl, hfr⟩ := bcell hb3
  have hzz : w.heap.size + 1 < w2.heap.size := by have := hb3.size; simp at this; omega
  have hz0 : w.heap.size < w2.heap.size := by omega
  have HB2 := Lib.hid (HB.out.trans (hb3.mono HB.out.size))
  clear hb2 hb3 hcmap HM HB q0 q1 q2 q3 q4 q5 q6 hKz HF HCK
  have hb3 : Below w2.heap.size w2 (w2.alloc (.cells #[.int .i64 f, .bool true, .func (Fn.func N) #[] #[]] 92)) := (Below.refl _ _).alloc (Nat.le_refl _) _
  have HSP := Lib.hid (split_any (w2.alloc (.cells #[.int .i64 f, .bool true, .func (Fn.func N) #[] #[]] 92)) rest 32 (HML.out.below (HB2.out.trans (hb3.mono HB2.out.size)) (Nat.le_refl _)).ml (by omega))
  have hb4 : Below w2.heap.size w2 ((w2.alloc (.cells #[.int .i64 f, .bool true, .func (Fn.func N) #[] #[]] 92)).alloc (.cells (strV (mkl FL)).toArray 9)) := hb3.alloc hb3.size _
  have HB4 := Lib.hid hb4; clear hb3 hb4
  have hff2 : ((FL.length : Int) != f) = true := by rw [bne_iff_ne]; exact HFF.out
  have hz5 : w.heap.size + 1 < w2.heap.size + 1 := by omega
  go_wp2_with fail
  refine HSP.out.mono ?_
  rintro _ w3 ⟨rfl, rfl⟩
  rw [← HFLH.out]
  rw [szalloc]
  have hc9 : ∀ o u, (w2.alloc (.cells #[.int .i64 f, .bool true, .func (Fn.func N) #[] #[]] 92)).cell? ⟨w2.heap.size, o, none⟩ = some u → ((w2.alloc (.cells #[.int .i64 f, .bool true, .func (Fn.func N) #[] #[]] 92)).alloc (.cells (strV (mkl FL)).toArray 9)).cell? ⟨w2.heap.size, o, none⟩ = some u := fun o u h => cell_alloc2 h _
  have d0 := hc9 0 (.int .i64 f) (by simp)
  clear hc9
  generalize ((w2.alloc (.cells #[.int .i64 f, .bool true, .func (Fn.func N) #[] #[]] 92)).alloc (.cells (strV (mkl FL)).toArray 9)) = w3 at d0 HB4 ⊢
  obtain ⟨hcl3, hfr3⟩ := bcell HB4.out
  have HB5 := Lib.hid (HB2.out.trans (HB4.out.mono HB2.out.size)); have HO4 := Lib.hid (HO.out.below HB5.out); have HDK4 := Lib.hid (block_below HDK.out HB4.out)
  go_wp2_with fail
  refine bodyPost_ret (v := .tuple #[dkV d a, .string (mk [119, 104, 97, 116])]) (by simp [results, Tryz.results33, go_sem, hcl3, hcl, hzz]; try rfl) rfl ⟨a, rfl, ⟨?_, ?_⟩, bel_six HB5.out (by omega) _ _ _ _ _ _⟩
  · exact HO4.out.r.kept (only_six _ (w.heap.size + 1) _ _ _ _ _ _) (own_ne HO4.out.r HDK4.out (by decide))
  · exact HO4.out.b.kept (only_six _ (w.heap.size + 1) _ _ _ _ _ _) (own_ne HO4.out.b HDK4.out (by decide))

end Go.Proofs.YtoakpacpkkmgnaaGreatDoor
