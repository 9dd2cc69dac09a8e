/-
  What impl.execute does with the lines about a book, where no machine is set. Conditions: what each theorem names.
-/
import Derived.Test.YteeeaeidocalnaaGreatDoorRuns
import Derived.Laws.EntriesVeiled
namespace Go.Proofs.YteeeaeidocalnaaGreatDoor
open Go.RowKit Pl
set_option linter.unusedVariables false

theorem below_of_drewN {n : Nat} {a b : World} (h : Below (a.drewN n).heap.size (a.drewN n) b) : Below a.heap.size a b := ⟨h.os, h.tape, h.output, h.size, h.block⟩
theorem zeroCmd (w : World) : (zeroValue 95).run Tryz.prog w = .ok (.agg #[.int .i64 0, .bool false, .nilFunc]) w := by kernel_rfl
theorem cut_word (w : World) (wd : List UInt8) (s : ByteArray) (hn : 32 ∉ wd) (hml : ML w) (hs : s.size ≤ 100000) (hw : wd.length ≤ 1000) :
    Calls Tryz.prog 59 #[.string (mk (wd ++ 32 :: tl s)), .string ⟨#[32]⟩] w fun e w' => e = .returned (.tuple #[.string (mk wd), .string s, .bool true]) ∧ ∃ n, w' = w.drewN n := by
  have h := cut_any w (mk (wd ++ 32 :: tl s)) 32 hml (by rw [size_mk, List.length_append, List.length_cons, length_tl]; omega)
  have e1 : mk (bef 32 (tl (mk (wd ++ 32 :: tl s)))) = mk wd := by rw [tl_mk, (bef_of hn).1]
  have e2 : mk (aft 32 (tl (mk (wd ++ 32 :: tl s)))) = s := by rw [tl_mk, (bef_of hn).2, mk_tl]
  have e3 : decide (32 ∈ tl (mk (wd ++ 32 :: tl s))) = true := by rw [tl_mk]; simp
  rw [e1, e2, e3] at h
  exact h

set_option maxHeartbeats 4000000 in
set_option maxRecDepth 100000 in
theorem exec_show (w : World) (hml : ML w) (A : Option Addr) (cap : Nat) (es : List Ent) (h : Rd w w.heap.size A (entV es)) (hc : es.length ≤ cap) (hz : ∀ e ∈ es, e.1.size ≤ maxLen ∧ e.2.size ≤ maxLen) (tx : ByteArray) (htx : fmtB es = tx) (hf : tx.size ≤ 1000) :
    Calls Tryz.prog 33 #[deskV A es.length cap, .string (mk [115, 104, 111, 119])] w fun e w' => e = .returned (.tuple #[deskV A es.length cap, .string (mk [98, 111, 111, 107, 32] ++ tx)]) ∧ Below w.heap.size w w' := by
  have hb := bel_two (w := w) (.cells #[.slice none 0 0, .string ⟨#[]⟩, .string ⟨#[]⟩, .string ⟨#[]⟩, .string ⟨#[]⟩, .slice A es.length cap] 56) (.cells #[.slice none 0 0, .string ⟨#[]⟩, .string ⟨#[]⟩, .string ⟨#[]⟩, .string ⟨#[]⟩, .slice none 0 0] 56)
  have HM := Lib.hid (hml.below hb (Nat.le_refl _)); have HB := Lib.hid hb; clear hb hml
  have HR := Lib.hid h; have HZ := Lib.hid hz; clear h hz
  have HTX := Lib.hid htx; clear htx
  unfold deskV
  go_enter Tryz.func33, Tryz.ntmps33
  go_wp2_with fail
  refine (cut_any _ (mk [115, 104, 111, 119]) 32 HM.out (by rw [size_mk]; decide)).mono ?_
  rintro _ w1 ⟨rfl, q1, rfl⟩
  rw [show mk (bef 32 (tl (mk [115, 104, 111, 119]))) = ⟨#[115, 104, 111, 119]⟩ from rfl, show mk (aft 32 (tl (mk [115, 104, 111, 119]))) = ⟨#[]⟩ from rfl, show decide (32 ∈ tl (mk [115, 104, 111, 119])) = false from rfl]
  go_wp2_with fail
  refine (commands_any _).mono ?_
  rintro _ w2 ⟨b, rfl, hcm, _, hb2⟩
  have hb3 := below_of_drewN hb2
  obtain ⟨p0, p1, p2, p3, p4, p5, p6, hcmap, _⟩ := hcm
  have hlk := hcmap.look Tryz.undM (zeroCmd w2) ⟨#[115, 104, 111, 119]⟩ (by decide)
  rw [show valC (findC (cmdL p0 p1 p2 p3 p4 p5 p6) ⟨#[115, 104, 111, 119]⟩) (.agg #[.int .i64 0, .bool false, .nilFunc]) = .agg #[.int .i64 0, .bool false, .func (Fn.func 108) #[] #[]] from rfl, show (findC (cmdL p0 p1 p2 p3 p4 p5 p6) ⟨#[115, 104, 111, 119]⟩).isSome = true from rfl] at hlk
  obtain ⟨hcl, hfr⟩ := bcell hb3
  have hzz : w.heap.size + 1 < w2.heap.size := by have := hb3.size; simp at this; omega
  have hz0 : w.heap.size < w2.heap.size := by omega
  have HB2 := Lib.hid (HB.out.trans (hb3.mono HB.out.size))
  clear hb2 hb3 hcmap HM HB
  go_wp2_with fail
  have hb3 : Below w2.heap.size w2 (w2.alloc (.cells #[.int .i64 0, .bool false, .func (Fn.func 108) #[] #[]] 95)) := (Below.refl _ _).alloc (Nat.le_refl _) _
  have hb4 := hb3
  refine (runShow_any _ A cap es ((HR.out.below (HB2.out.trans (hb4.mono HB2.out.size))).mono (HB2.out.trans (hb4.mono HB2.out.size)).size) hc HZ.out (by rw [HTX.out]; exact hf) ⟨#[]⟩ (.slice none 0 0)).mono ?_
  rintro _ w4 ⟨rfl, hb5⟩
  rw [HTX.out]
  unfold deskV
  have hb6 := hb4.trans (hb5.mono hb4.size)
  obtain ⟨hcl2, hfr2⟩ := bcell hb6
  have hz5 : w.heap.size + 1 < w4.heap.size := Nat.lt_of_lt_of_le hzz hb6.size
  have HB5 := Lib.hid (HB2.out.trans (hb6.mono HB2.out.size))
  clear hb4 hb5 hb6 hlk hb3
  go_wp2_with fail
  refine bodyPost_ret (v := .tuple #[.agg #[.slice none 0 0, .string ⟨#[]⟩, .string ⟨#[]⟩, .string ⟨#[]⟩, .string ⟨#[]⟩, .slice A es.length cap], .string (mk [98, 111, 111, 107, 32] ++ tx)]) (by simp [results, Tryz.results33, go_sem, hcl2, hcl, hzz]) rfl ⟨rfl, bel_six HB5.out (by omega) _ _ _ _ _ _⟩

set_option maxHeartbeats 4000000 in
set_option maxRecDepth 100000 in
theorem exec_book (w : World) (hml : ML w) (A : Option Addr) (n cap : Nat) (s : ByteArray) (hs : s.size ≤ 1000) (es : List Ent) (hp : parseW s = some es) :
    Calls Tryz.prog 33 #[deskV A n cap, .string (mk ([98, 111, 111, 107] ++ 32 :: tl s))] w (BookSet es w) := by
  have hb := bel_two (w := w) (.cells #[.slice none 0 0, .string ⟨#[]⟩, .string ⟨#[]⟩, .string ⟨#[]⟩, .string ⟨#[]⟩, .slice A n cap] 56) (.cells #[.slice none 0 0, .string ⟨#[]⟩, .string ⟨#[]⟩, .string ⟨#[]⟩, .string ⟨#[]⟩, .slice none 0 0] 56)
  have HML := Lib.hid hml
  have HM := Lib.hid (hml.below hb (Nat.le_refl _)); have HB := Lib.hid hb; clear hb hml
  have HP := Lib.hid hp; clear hp
  unfold deskV
  go_enter Tryz.func33, Tryz.ntmps33
  go_wp2_with fail
  refine (cut_word _ [98, 111, 111, 107] s (by decide) HM.out (by omega) (by decide)).mono ?_
  rintro _ w1 ⟨rfl, q1, rfl⟩
  rw [show mk [98, 111, 111, 107] = ⟨#[98, 111, 111, 107]⟩ from rfl]
  go_wp2_with fail
  refine (commands_any _).mono ?_
  rintro _ w2 ⟨b, rfl, hcm, _, hb2⟩
  have hb3 := below_of_drewN hb2
  obtain ⟨p0, p1, p2, p3, p4, p5, p6, hcmap, _⟩ := hcm
  have hlk := hcmap.look Tryz.undM (zeroCmd w2) ⟨#[98, 111, 111, 107]⟩ (by decide)
  rw [show valC (findC (cmdL p0 p1 p2 p3 p4 p5 p6) ⟨#[98, 111, 111, 107]⟩) (.agg #[.int .i64 0, .bool false, .nilFunc]) = .agg #[.int .i64 (-1), .bool false, .func (Fn.func 105) #[] #[]] from rfl, show (findC (cmdL p0 p1 p2 p3 p4 p5 p6) ⟨#[98, 111, 111, 107]⟩).isSome = true from rfl] at hlk
  obtain ⟨hcl, hfr⟩ := bcell hb3
  have hzz : w.heap.size + 1 < w2.heap.size := by have := hb3.size; simp at this; omega
  have hz0 : w.heap.size < w2.heap.size := by omega
  have HB2 := Lib.hid (HB.out.trans (hb3.mono HB.out.size))
  clear hb2 hb3 hcmap HM HB
  go_wp2_with fail
  have hb3 : Below w2.heap.size w2 (w2.alloc (.cells #[.int .i64 (-1), .bool false, .func (Fn.func 105) #[] #[]] 95)) := (Below.refl _ _).alloc (Nat.le_refl _) _
  refine (split_any _ s 32 (HML.out.below (HB2.out.trans (hb3.mono HB2.out.size)) (Nat.le_refl _)) (by omega)).mono ?_
  rintro _ w3 ⟨rfl, rfl⟩
  have hsr := split_rd (w2.alloc (.cells #[.int .i64 (-1), .bool false, .func (Fn.func 105) #[] #[]] 95)) (mkl (spl 32 (tl s)))
  have hb4 : Below w2.heap.size w2 ((w2.alloc (.cells #[.int .i64 (-1), .bool false, .func (Fn.func 105) #[] #[]] 95)).alloc (.cells (strV (mkl (spl 32 (tl s)))).toArray 9)) := hb3.alloc hb3.size _
  rw [szalloc] at hsr ⊢
  have hc9 : ∀ o u, (w2.alloc (.cells #[.int .i64 (-1), .bool false, .func (Fn.func 105) #[] #[]] 95)).cell? ⟨w2.heap.size, o, none⟩ = some u → ((w2.alloc (.cells #[.int .i64 (-1), .bool false, .func (Fn.func 105) #[] #[]] 95)).alloc (.cells (strV (mkl (spl 32 (tl s)))).toArray 9)).cell? ⟨w2.heap.size, o, none⟩ = some u := fun o u h => cell_alloc2 h _
  have d0 := hc9 0 (.int .i64 (-1)) (by simp)
  have d1 := hc9 1 (.bool false) (by simp)
  have d2 := hc9 2 (.func (Fn.func 105) #[] #[]) (by simp)
  have hs3 : w2.heap.size + 1 + 1 ≤ ((w2.alloc (.cells #[.int .i64 (-1), .bool false, .func (Fn.func 105) #[] #[]] 95)).alloc (.cells (strV (mkl (spl 32 (tl s)))).toArray 9)).heap.size := by simp
  clear hc9 hb3
  generalize (w2.alloc (.cells #[.int .i64 (-1), .bool false, .func (Fn.func 105) #[] #[]] 95)).alloc (.cells (strV (mkl (spl 32 (tl s)))).toArray 9) = w3 at hsr hb4 d0 d1 d2 hs3 ⊢
  obtain ⟨hcl3, hfr3⟩ := bcell hb4
  go_wp2_with fail
  refine (runBook_any _ (HML.out.below (HB2.out.trans (hb4.mono HB2.out.size)) (Nat.le_refl _)) A n cap s hs (.slice (some ⟨w2.heap.size + 1, 0, none⟩) (spl 32 (tl s)).length (spl 32 (tl s)).length) es HP.out).mono ?_
  rintro _ w4 ⟨A4, cap4, rfl, ho4, hb5⟩
  have HO4 := Lib.hid (own_mono2 ho4 (show w2.heap.size ≤ _ from hb4.size))
  rw [show mk [111, 107] = ⟨#[111, 107]⟩ from rfl]
  unfold deskV
  have hb6 := hb4.trans (hb5.mono hb4.size)
  obtain ⟨hcl2, hfr2⟩ := bcell hb6
  have hz5 : w.heap.size + 1 < w4.heap.size := Nat.lt_of_lt_of_le hzz hb6.size
  have HB5 := Lib.hid (HB2.out.trans (hb6.mono HB2.out.size))
  clear hb4 hb5 hb6 hlk hsr d0 d1 d2 hs3 hcl3 hfr3 ho4
  go_wp2_with fail
  refine bodyPost_ret (v := .tuple #[.agg #[.slice none 0 0, .string ⟨#[]⟩, .string ⟨#[]⟩, .string ⟨#[]⟩, .string ⟨#[]⟩, .slice A4 es.length cap4], .string (⟨#[111, 107]⟩)]) (by simp [results, Tryz.results33, go_sem, hcl2, hcl, hzz]) rfl ⟨A4, cap4, rfl, own_mono2 (own_far HO4.out (only_six _ (w.heap.size + 1) _ _ _ _ _ _) hzz) (by omega), bel_six HB5.out (by omega) _ _ _ _ _ _⟩

set_option maxHeartbeats 4000000 in
set_option maxRecDepth 100000 in
theorem exec_code (w : World) (hml : ML w) (A : Option Addr) (cap : Nat) (es : List Ent) (h : Rd w w.heap.size A (entV es)) (hc : es.length ≤ cap) (hz : ∀ e ∈ es, e.1.size ≤ maxLen ∧ e.2.size ≤ maxLen)
    (s : ByteArray) (hs : s.size ≤ 10000) (ws : List ByteArray) (hws : mkl (spl 32 (tl s)) = ws) (r : ByteArray) (he : encW es ws = some r) (hr : tl r ≠ []) :
    Calls Tryz.prog 33 #[deskV A es.length cap, .string (mk ([99, 111, 100, 101] ++ 32 :: tl s))] w fun e w' => e = .returned (.tuple #[deskV A es.length cap, .string r]) ∧ Below w.heap.size w w' := by
  have hb := bel_two (w := w) (.cells #[.slice none 0 0, .string ⟨#[]⟩, .string ⟨#[]⟩, .string ⟨#[]⟩, .string ⟨#[]⟩, .slice A es.length cap] 56) (.cells #[.slice none 0 0, .string ⟨#[]⟩, .string ⟨#[]⟩, .string ⟨#[]⟩, .string ⟨#[]⟩, .slice none 0 0] 56)
  have HML := Lib.hid hml
  have HM := Lib.hid (hml.below hb (Nat.le_refl _)); have HB := Lib.hid hb; clear hb hml
  have HR := Lib.hid h; have HZ := Lib.hid hz; clear h hz
  have HW := Lib.hid hws; have HE := Lib.hid he; have HRR := Lib.hid hr; clear hws he hr
  unfold deskV
  go_enter Tryz.func33, Tryz.ntmps33
  go_wp2_with fail
  refine (cut_word _ [99, 111, 100, 101] s (by decide) HM.out (by omega) (by decide)).mono ?_
  rintro _ w1 ⟨rfl, q1, rfl⟩
  rw [show mk [99, 111, 100, 101] = ⟨#[99, 111, 100, 101]⟩ from rfl]
  go_wp2_with fail
  refine (commands_any _).mono ?_
  rintro _ w2 ⟨b, rfl, hcm, _, hb2⟩
  have hb3 := below_of_drewN hb2
  obtain ⟨p0, p1, p2, p3, p4, p5, p6, hcmap, _⟩ := hcm
  have hlk := hcmap.look Tryz.undM (zeroCmd w2) ⟨#[99, 111, 100, 101]⟩ (by decide)
  rw [show valC (findC (cmdL p0 p1 p2 p3 p4 p5 p6) ⟨#[99, 111, 100, 101]⟩) (.agg #[.int .i64 0, .bool false, .nilFunc]) = .agg #[.int .i64 (-1), .bool false, .func (Fn.func 106) #[] #[]] from rfl, show (findC (cmdL p0 p1 p2 p3 p4 p5 p6) ⟨#[99, 111, 100, 101]⟩).isSome = true from rfl] at hlk
  obtain ⟨hcl, hfr⟩ := bcell hb3
  have hzz : w.heap.size + 1 < w2.heap.size := by have := hb3.size; simp at this; omega
  have hz0 : w.heap.size < w2.heap.size := by omega
  have HB2 := Lib.hid (HB.out.trans (hb3.mono HB.out.size))
  clear hb2 hb3 hcmap HM HB
  go_wp2_with fail
  have hb3 : Below w2.heap.size w2 (w2.alloc (.cells #[.int .i64 (-1), .bool false, .func (Fn.func 106) #[] #[]] 95)) := (Below.refl _ _).alloc (Nat.le_refl _) _
  refine (split_any _ s 32 (HML.out.below (HB2.out.trans (hb3.mono HB2.out.size)) (Nat.le_refl _)) (by omega)).mono ?_
  rintro _ w3 ⟨rfl, rfl⟩
  have hsr := split_rd (w2.alloc (.cells #[.int .i64 (-1), .bool false, .func (Fn.func 106) #[] #[]] 95)) (mkl (spl 32 (tl s)))
  have hb4 : Below w2.heap.size w2 ((w2.alloc (.cells #[.int .i64 (-1), .bool false, .func (Fn.func 106) #[] #[]] 95)).alloc (.cells (strV (mkl (spl 32 (tl s)))).toArray 9)) := hb3.alloc hb3.size _
  rw [szalloc] at hsr ⊢
  have hc9 : ∀ o u, (w2.alloc (.cells #[.int .i64 (-1), .bool false, .func (Fn.func 106) #[] #[]] 95)).cell? ⟨w2.heap.size, o, none⟩ = some u → ((w2.alloc (.cells #[.int .i64 (-1), .bool false, .func (Fn.func 106) #[] #[]] 95)).alloc (.cells (strV (mkl (spl 32 (tl s)))).toArray 9)).cell? ⟨w2.heap.size, o, none⟩ = some u := fun o u h => cell_alloc2 h _
  have d0 := hc9 0 (.int .i64 (-1)) (by simp)
  have d1 := hc9 1 (.bool false) (by simp)
  have d2 := hc9 2 (.func (Fn.func 106) #[] #[]) (by simp)
  have hs3 : w2.heap.size + 1 + 1 ≤ ((w2.alloc (.cells #[.int .i64 (-1), .bool false, .func (Fn.func 106) #[] #[]] 95)).alloc (.cells (strV (mkl (spl 32 (tl s)))).toArray 9)).heap.size := by simp
  clear hc9 hb3
  generalize (w2.alloc (.cells #[.int .i64 (-1), .bool false, .func (Fn.func 106) #[] #[]] 95)).alloc (.cells (strV (mkl (spl 32 (tl s)))).toArray 9) = w3 at hsr hb4 d0 d1 d2 hs3 ⊢
  obtain ⟨hcl3, hfr3⟩ := bcell hb4
  go_wp2_with fail
  rw [HW.out] at hsr
  have hwl : (spl 32 (tl s)).length = ws.length := by rw [← HW.out, length_mkl]
  have hwz : ∀ x ∈ ws, x.size ≤ maxLen := by
    intro x hx
    rw [← HW.out] at hx
    obtain ⟨p, hp, rfl⟩ := List.mem_map.1 hx
    have := (spl_mem hp).2.1
    rw [length_tl] at this
    rw [size_mk]; unfold maxLen; omega
  have hwn : ws.length ≤ 1000 := by have := (encW_some HE.out).2.1; omega
  rw [hwl]
  refine (runCode_any _ A cap es ((HR.out.below (HB2.out.trans (hb4.mono HB2.out.size))).mono (HB2.out.trans (hb4.mono HB2.out.size)).size) hc HZ.out (some ⟨w2.heap.size + 1, 0, none⟩) ws.length ws (hsr.mono hs3) (Nat.le_refl _) hwn hwz r HE.out HRR.out s).mono ?_
  rintro _ w4 ⟨rfl, hb5⟩
  unfold deskV
  have hb6 := hb4.trans (hb5.mono hb4.size)
  obtain ⟨hcl2, hfr2⟩ := bcell hb6
  have hz5 : w.heap.size + 1 < w4.heap.size := Nat.lt_of_lt_of_le hzz hb6.size
  have HB5 := Lib.hid (HB2.out.trans (hb6.mono HB2.out.size))
  clear hb4 hb5 hb6 hlk hsr d0 d1 d2 hs3 hcl3 hfr3
  go_wp2_with fail
  refine bodyPost_ret (v := .tuple #[.agg #[.slice none 0 0, .string ⟨#[]⟩, .string ⟨#[]⟩, .string ⟨#[]⟩, .string ⟨#[]⟩, .slice A es.length cap], .string (r)]) (by simp [results, Tryz.results33, go_sem, hcl2, hcl, hzz]) rfl ⟨rfl, bel_six HB5.out (by omega) _ _ _ _ _ _⟩

set_option maxHeartbeats 4000000 in
set_option maxRecDepth 100000 in
theorem exec_words (w : World) (hml : ML w) (A : Option Addr) (cap : Nat) (es : List Ent) (h : Rd w w.heap.size A (entV es)) (hc : es.length ≤ cap) (hz : ∀ e ∈ es, e.1.size ≤ maxLen ∧ e.2.size ≤ maxLen)
    (s : ByteArray) (hs : s.size ≤ 1000) (ws : List ByteArray) (hd : decW es s = some ws) (h0 : ws ≠ []) (jl : List UInt8) (hjl : Lib.join (ws.map tl) [32] = jl) (hj0 : jl ≠ []) (hj : jl.length ≤ 100000) (hwl : ws.length ≤ 1000) :
    Calls Tryz.prog 33 #[deskV A es.length cap, .string (mk ([119, 111, 114, 100, 115] ++ 32 :: tl s))] w fun e w' => e = .returned (.tuple #[deskV A es.length cap, .string (mk jl)]) ∧ Below w.heap.size w w' := by
  have hb := bel_two (w := w) (.cells #[.slice none 0 0, .string ⟨#[]⟩, .string ⟨#[]⟩, .string ⟨#[]⟩, .string ⟨#[]⟩, .slice A es.length cap] 56) (.cells #[.slice none 0 0, .string ⟨#[]⟩, .string ⟨#[]⟩, .string ⟨#[]⟩, .string ⟨#[]⟩, .slice none 0 0] 56)
  have HML := Lib.hid hml
  have HM := Lib.hid (hml.below hb (Nat.le_refl _)); have HB := Lib.hid hb; clear hb hml
  have HR := Lib.hid h; have HZ := Lib.hid hz; clear h hz
  have HD := Lib.hid hd; have H0 := Lib.hid h0; have HJL := Lib.hid hjl; have HJ0 := Lib.hid hj0; clear hd h0 hjl hj0
  unfold deskV
  go_enter Tryz.func33, Tryz.ntmps33
  go_wp2_with fail
  refine (cut_word _ [119, 111, 114, 100, 115] s (by decide) HM.out (by omega) (by decide)).mono ?_
  rintro _ w1 ⟨rfl, q1, rfl⟩
  rw [show mk [119, 111, 114, 100, 115] = ⟨#[119, 111, 114, 100, 115]⟩ from rfl]
  go_wp2_with fail
  refine (commands_any _).mono ?_
  rintro _ w2 ⟨b, rfl, hcm, _, hb2⟩
  have hb3 := below_of_drewN hb2
  obtain ⟨p0, p1, p2, p3, p4, p5, p6, hcmap, _⟩ := hcm
  have hlk := hcmap.look Tryz.undM (zeroCmd w2) ⟨#[119, 111, 114, 100, 115]⟩ (by decide)
  rw [show valC (findC (cmdL p0 p1 p2 p3 p4 p5 p6) ⟨#[119, 111, 114, 100, 115]⟩) (.agg #[.int .i64 0, .bool false, .nilFunc]) = .agg #[.int .i64 (-1), .bool false, .func (Fn.func 107) #[] #[]] from rfl, show (findC (cmdL p0 p1 p2 p3 p4 p5 p6) ⟨#[119, 111, 114, 100, 115]⟩).isSome = true from rfl] at hlk
  obtain ⟨hcl, hfr⟩ := bcell hb3
  have hzz : w.heap.size + 1 < w2.heap.size := by have := hb3.size; simp at this; omega
  have hz0 : w.heap.size < w2.heap.size := by omega
  have HB2 := Lib.hid (HB.out.trans (hb3.mono HB.out.size))
  clear hb2 hb3 hcmap HM HB
  go_wp2_with fail
  have hb3 : Below w2.heap.size w2 (w2.alloc (.cells #[.int .i64 (-1), .bool false, .func (Fn.func 107) #[] #[]] 95)) := (Below.refl _ _).alloc (Nat.le_refl _) _
  refine (split_any _ s 32 (HML.out.below (HB2.out.trans (hb3.mono HB2.out.size)) (Nat.le_refl _)) (by omega)).mono ?_
  rintro _ w3 ⟨rfl, rfl⟩
  have hsr := split_rd (w2.alloc (.cells #[.int .i64 (-1), .bool false, .func (Fn.func 107) #[] #[]] 95)) (mkl (spl 32 (tl s)))
  have hb4 : Below w2.heap.size w2 ((w2.alloc (.cells #[.int .i64 (-1), .bool false, .func (Fn.func 107) #[] #[]] 95)).alloc (.cells (strV (mkl (spl 32 (tl s)))).toArray 9)) := hb3.alloc hb3.size _
  rw [szalloc] at hsr ⊢
  have hc9 : ∀ o u, (w2.alloc (.cells #[.int .i64 (-1), .bool false, .func (Fn.func 107) #[] #[]] 95)).cell? ⟨w2.heap.size, o, none⟩ = some u → ((w2.alloc (.cells #[.int .i64 (-1), .bool false, .func (Fn.func 107) #[] #[]] 95)).alloc (.cells (strV (mkl (spl 32 (tl s)))).toArray 9)).cell? ⟨w2.heap.size, o, none⟩ = some u := fun o u h => cell_alloc2 h _
  have d0 := hc9 0 (.int .i64 (-1)) (by simp)
  have d1 := hc9 1 (.bool false) (by simp)
  have d2 := hc9 2 (.func (Fn.func 107) #[] #[]) (by simp)
  have hs3 : w2.heap.size + 1 + 1 ≤ ((w2.alloc (.cells #[.int .i64 (-1), .bool false, .func (Fn.func 107) #[] #[]] 95)).alloc (.cells (strV (mkl (spl 32 (tl s)))).toArray 9)).heap.size := by simp
  clear hc9 hb3
  generalize (w2.alloc (.cells #[.int .i64 (-1), .bool false, .func (Fn.func 107) #[] #[]] 95)).alloc (.cells (strV (mkl (spl 32 (tl s)))).toArray 9) = w3 at hsr hb4 d0 d1 d2 hs3 ⊢
  obtain ⟨hcl3, hfr3⟩ := bcell hb4
  go_wp2_with fail
  refine (runWords_any _ A cap es ((HR.out.below (HB2.out.trans (hb4.mono HB2.out.size))).mono (HB2.out.trans (hb4.mono HB2.out.size)).size) hc HZ.out s hs ws HD.out H0.out jl HJL.out HJ0.out hj hwl (.slice (some ⟨w2.heap.size + 1, 0, none⟩) (spl 32 (tl s)).length (spl 32 (tl s)).length)).mono ?_
  rintro _ w4 ⟨rfl, hb5⟩
  unfold deskV
  have hb6 := hb4.trans (hb5.mono hb4.size)
  obtain ⟨hcl2, hfr2⟩ := bcell hb6
  have hz5 : w.heap.size + 1 < w4.heap.size := Nat.lt_of_lt_of_le hzz hb6.size
  have HB5 := Lib.hid (HB2.out.trans (hb6.mono HB2.out.size))
  clear hb4 hb5 hb6 hlk hsr d0 d1 d2 hs3 hcl3 hfr3
  go_wp2_with fail
  refine bodyPost_ret (v := .tuple #[.agg #[.slice none 0 0, .string ⟨#[]⟩, .string ⟨#[]⟩, .string ⟨#[]⟩, .string ⟨#[]⟩, .slice A es.length cap], .string (mk jl)]) (by simp [results, Tryz.results33, go_sem, hcl2, hcl, hzz]) rfl ⟨rfl, bel_six HB5.out (by omega) _ _ _ _ _ _⟩

end Go.Proofs.YteeeaeidocalnaaGreatDoor
