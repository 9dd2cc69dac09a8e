/-
  What impl.RunScript answers to the script of a book: book, code, words, show. Conditions: what the theorem names.
-/
import Derived.Test.YteeeaeidocalnaaGreatDoorScriptA
namespace Go.Proofs.YteeeaeidocalnaaGreatDoor
open Go.RowKit Pl Go.Shelf
set_option linter.unusedVariables false

/-- what has been written behind k lines -/
def outB (r jl f : List UInt8) : Nat → List UInt8
  | 0 => []
  | 1 => [111, 107] ++ [10]
  | 2 => [111, 107] ++ [10] ++ (r ++ [10])
  | 3 => [111, 107] ++ [10] ++ (r ++ [10]) ++ (jl ++ [10])
  | _ => [111, 107] ++ [10] ++ (r ++ [10]) ++ (jl ++ [10]) ++ (([98, 111, 111, 107, 32] ++ f) ++ [10])
/-- the book behind k lines -/
def bkB (es : List Ent) (k : Nat) : List Ent := if k = 0 then [] else es
theorem frozen_cells {w : World} {p : Nat} {cs : Array Value} {T : TypeId} (h : w.heap[p]? = some (.cells cs T (0, 0))) (i : Nat) : w.frozen? ⟨p, i, none⟩ = false := by
  simp [World.frozen?, h]
theorem Run.sz4 {Y : Nat} {w4 : World} (hY : Y + 1 < w4.heap.size) (o : Obj) (u : Value) :
    Y ≤ (((((((w4.alloc o).setCell ⟨Y + 1, 0, none⟩ (.slice none 0 0)).setCell ⟨Y + 1, 1, none⟩ (.string ⟨#[]⟩)).setCell ⟨Y + 1, 2, none⟩ (.string ⟨#[]⟩)).setCell ⟨Y + 1, 3, none⟩ (.string ⟨#[]⟩)).setCell ⟨Y + 1, 4, none⟩ (.string ⟨#[]⟩)).setCell ⟨Y + 1, 5, none⟩ u).heap.size := by
  simp only [World.size_setCell, szalloc]; omega
theorem row_six {w : World} {p : Nat} {a0 a1 a2 a3 a4 a5 : Value} {T : TypeId} {fr : Nat × Nat} (h : w.heap[p]? = some (.cells #[a0, a1, a2, a3, a4, a5] T fr)) :
    w.cell? ⟨p, 0, none⟩ = some a0 ∧ w.cell? ⟨p, 1, none⟩ = some a1 ∧ w.cell? ⟨p, 2, none⟩ = some a2 ∧ w.cell? ⟨p, 3, none⟩ = some a3 ∧ w.cell? ⟨p, 4, none⟩ = some a4 ∧ w.cell? ⟨p, 5, none⟩ = some a5 := by
  refine ⟨?_, ?_, ?_, ?_, ?_, ?_⟩ <;> rw [cell_of_row w p _ _ _ _ h] <;> rfl
theorem Run.start (w : World) (ps : List ByteArray) : Run w.heap.size w ps [] [] none 0 (((w.alloc (.cells #[.pointer none, .slice none 0 0] 49)).alloc (.cells #[.slice none 0 0, .string ⟨#[]⟩, .string ⟨#[]⟩, .string ⟨#[]⟩, .string ⟨#[]⟩, .slice none 0 0] 56)).alloc (.cells (strV ps).toArray 9)) := by
  have h1 := Lib.IsBuilderF.of (Lib.fresh_isBuilder 49 5 w)
  refine ⟨(h1.alloc _).alloc _, ?_, ?_, World.ownsRow_nil _ _ _ _, (((Below.refl _ _).alloc (Nat.le_refl _) _).alloc (by simp) _).alloc (by simp; omega) _⟩
  · have h2 := heap_alloc_new (w.alloc (.cells #[.pointer none, .slice none 0 0] 49)) (.cells #[.slice none 0 0, .string ⟨#[]⟩, .string ⟨#[]⟩, .string ⟨#[]⟩, .string ⟨#[]⟩, .slice none 0 0] 56)
    rw [szalloc] at h2
    exact block_kept h2 (World.grownBy_alloc _ _ none) (by simp)
  · have h2 := heap_alloc_new ((w.alloc (.cells #[.pointer none, .slice none 0 0] 49)).alloc (.cells #[.slice none 0 0, .string ⟨#[]⟩, .string ⟨#[]⟩, .string ⟨#[]⟩, .string ⟨#[]⟩, .slice none 0 0] 56)) (.cells (strV ps).toArray 9)
    rw [szalloc, szalloc] at h2
    exact h2

set_option maxHeartbeats 8000000 in
set_option maxRecDepth 100000 in
theorem run_book (w : World) (hml : ML w) (T F r : ByteArray) (jl : List UInt8) (es : List Ent) (ws : List ByteArray) (hT : T.size ≤ 20000)
    (hsp : mkl (spl 10 (tl T)) = [mk ([98, 111, 111, 107] ++ 32 :: tl F), mk ([99, 111, 100, 101] ++ 32 :: jl), mk ([119, 111, 114, 100, 115] ++ 32 :: tl r), mk [115, 104, 111, 119], mk []])
    (hp : parseW F = some es) (hff : fmtB es = F) (hF : F.size ≤ 1000) (he : encW es ws = some r) (hr : tl r ≠ []) (hrz : r.size ≤ 200) (hd : decW es r = some ws) (h0 : ws ≠ []) (hj : Lib.join (ws.map tl) [32] = jl) (hj0 : jl ≠ []) (hjz : jl.length ≤ 5000)
    (hws : mkl (spl 32 jl) = ws) (hwl : ws.length ≤ 1000) (hez : ∀ e ∈ es, e.1.size ≤ maxLen ∧ e.2.size ≤ maxLen) :
    Calls Tryz.prog 10 #[.string T] w fun e w' => e = .returned (.string (mk (outB (tl r) jl (tl F) 4))) ∧ Below w.heap.size w w' := by
  obtain ⟨Y, hY⟩ : ∃ Y, Y = w.heap.size := ⟨_, rfl⟩
  obtain ⟨ps, hps⟩ : ∃ ps, ps = mkl (spl 10 (tl T)) := ⟨_, rfl⟩
  have hpn : (spl 10 (tl T)).length = 5 := by rw [← length_mkl, hsp]; rfl
  have hpl : ps.length = 5 := by rw [hps, length_mkl, hpn]
  have hst := Run.start w ps
  rw [← hY] at hst
  have hb0 : Below w.heap.size w ((w.alloc (.cells #[.pointer none, .slice none 0 0] 49)).alloc (.cells #[.slice none 0 0, .string ⟨#[]⟩, .string ⟨#[]⟩, .string ⟨#[]⟩, .string ⟨#[]⟩, .slice none 0 0] 56)) := bel_two _ _
  have hm0 := hml.below hb0 (Nat.le_refl _)
  have HY := Lib.hid hY; have HPS := Lib.hid hps; have HSP := Lib.hid hsp; have HPN := Lib.hid hpn; have HST := Lib.hid hst; have HM0 := Lib.hid hm0; have HML := Lib.hid hml
  have HP := Lib.hid hp; have HFF := Lib.hid hff; have HE := Lib.hid he; have HR := Lib.hid hr; have HD := Lib.hid hd; have H0 := Lib.hid h0; have HJ := Lib.hid hj; have HJ0 := Lib.hid hj0; have HWS := Lib.hid hws; have HEZ := Lib.hid hez; have HPL := Lib.hid hpl
  clear hY hps hsp hpn hst hb0 hm0 hml hp hff he hr hd h0 hj hj0 hws hez hpl
  go_enter Tryz.func10, Tryz.ntmps10
  go_wp2_with fail
  refine (split_any _ T 10 HM0.out (by omega)).mono ?_
  rintro _ w1 ⟨rfl, rfl⟩
  rw [HPN.out, ← HPS.out]
  have hq := HST.out
  simp only [szalloc, ← HY.out]
  generalize (((w.alloc (.cells #[.pointer none, .slice none 0 0] 49)).alloc (.cells #[.slice none 0 0, .string ⟨#[]⟩, .string ⟨#[]⟩, .string ⟨#[]⟩, .string ⟨#[]⟩, .slice none 0 0] 56)).alloc (.cells (strV ps).toArray 9)) = w3 at hq ⊢
  have HQ := Lib.hid hq; clear hq HST HM0
  go_wp2_with fail
  go_loopw [15] (fun i wr => ∃ (k : Nat) (A : Option Addr) (cap : Nat), k ≤ 5 ∧ i = .int .i64 k ∧ Run Y w ps (outB (tl r) jl (tl F) k) (bkB es k) A cap wr) (fun i _ => 5 - (intOf i).toNat)
  case atStart => exact ⟨0, none, 0, by omega, rfl, HQ.out⟩
  case round =>
    clear HQ
    obtain ⟨k, A, cap, hk, rfl, hrun⟩ := hrel
    have HRUN := Lib.hid hrun; clear hrun
    have hpl := HPL.out
    have hk0 : k = 0 ∨ k = 1 ∨ k = 2 ∨ k = 3 ∨ k = 4 ∨ k = 5 := by omega
    rcases hk0 with hk0 | hk1 | hk2 | hk3 | hk4 | hk5
    · -- line 0
      subst hk0
      have hbel : Below w.heap.size w wr := HY.out ▸ HRUN.out.bel
      have pc := HRUN.out.piece 0 (by omega)
      have hpk : ps[0]'(by omega) = mk ([98, 111, 111, 107] ++ 32 :: tl F) := by have h1 := HPS.out.trans HSP.out; simp [h1]
      rw [hpk] at pc
      have hne : (mk ([98, 111, 111, 107] ++ 32 :: tl F)).toList.isEmpty = false := by rw [List.isEmpty_eq_false_iff, toList_tl, tl_mk]; simp
      have hof : (outB (tl r) jl (tl F) 0).length ≤ 20000 := by simp [outB]
      have hbf := HRUN.out.bf
      have HBF := Lib.hid hbf; clear hbf hpk
      rw [show bkB es 0 = [] from rfl] at HRUN
      have hex := exec_book wr (HML.out.below hbel (Nat.le_refl _)) A 0 cap F hF es HP.out
      generalize hLL : (mk ([98, 111, 111, 107] ++ 32 :: tl F)) = L at pc hne hex
      have HEX := Lib.hid hex; clear hex hbel hLL
      obtain ⟨c0, c1, c2, c3, c4, c5⟩ := HRUN.out.cells
      rw [show ([] : List Ent).length = 0 from rfl] at c5
      have f0 := frozen_cells HRUN.out.desk 0; have f1 := frozen_cells HRUN.out.desk 1; have f2 := frozen_cells HRUN.out.desk 2; have f3 := frozen_cells HRUN.out.desk 3; have f4 := frozen_cells HRUN.out.desk 4; have f5 := frozen_cells HRUN.out.desk 5
      go_wp2_with fail
      refine (len_k Y _ wr HBF.out).mono ?_
      rintro _ _ ⟨rfl, rfl⟩
      go_wp2_with fail
      refine HEX.out.mono ?_
      rintro _ w4 ⟨A4, cap4, rfl, ho4, hb4⟩
      unfold deskV
      clear c0 c1 c2 c3 c4 c5 f0 f1 f2 f3 f4 f5 pc
      have d4 := block_kept (block_below HRUN.out.desk hb4) (World.grownBy_alloc w4 (.cells #[.slice none 0 0, .string ⟨#[]⟩, .string ⟨#[]⟩, .string ⟨#[]⟩, .string ⟨#[]⟩, .slice A4 es.length cap4] 56) none) (by simp)
      obtain ⟨c0, c1, c2, c3, c4, c5⟩ := row_six d4
      have f0 := frozen_cells d4 0; have f1 := frozen_cells d4 1; have f2 := frozen_cells d4 2; have f3 := frozen_cells d4 3; have f4 := frozen_cells d4 4; have f5 := frozen_cells d4 5
      have hY4 : Y + 1 < w4.heap.size := (Array.getElem?_eq_some_iff.1 (block_below HRUN.out.desk hb4)).1
      have HB4 := Lib.hid hb4; have HO4 := Lib.hid ho4; have HY4 := Lib.hid hY4; clear d4 hb4 ho4 hY4
      have az : (mk [111, 107]).size ≤ 6000 := by rw [size_mk]; simp
      have hnx : outB (tl r) jl (tl F) 0 ++ tl (mk [111, 107] ++ ⟨#[10]⟩) = outB (tl r) jl (tl F) 1 := by
        rw [show (⟨#[10]⟩ : ByteArray) = mk [10] from rfl, append_tl, tl_mk, tl_mk]
        rfl
      have HNX := Lib.hid hnx; clear hnx
      go_wp2_with fail
      have hY4 := HY4.out
      have hbf4 := HRUN.out.bf4 HB4.out (.cells #[.slice none 0 0, .string ⟨#[]⟩, .string ⟨#[]⟩, .string ⟨#[]⟩, .string ⟨#[]⟩, .slice A4 es.length cap4] 56) (.slice A4 es.length cap4)
      have hys := Run.sz4 hY4 (.cells #[.slice none 0 0, .string ⟨#[]⟩, .string ⟨#[]⟩, .string ⟨#[]⟩, .string ⟨#[]⟩, .slice A4 es.length cap4] 56) (.slice A4 es.length cap4)
      have hws : (outB (tl r) jl (tl F) 0).length + (mk [111, 107] ++ ⟨#[10]⟩).size ≤ 100000 := by rw [ByteArray.size_append, show (⟨#[10]⟩ : ByteArray).size = 1 from rfl]; omega
      have hwr := write_k Y _ _ _ hbf4 hws hys
      clear hbf4 hys hws hY4
      refine hwr.mono ?_
      clear hwr
      rintro _ w6 ⟨rfl, hbf6, hb6, hk6⟩
      have hrun6 := HRUN.out.next HB4.out (own_mono2 HO4.out (Nat.zero_le _)) _ hbf6 hb6 hk6
      rw [HNX.out] at hrun6
      have HR6 := Lib.hid hrun6; clear hrun6 hbf6 hb6 hk6 c0 c1 c2 c3 c4 c5 f0 f1 f2 f3 f4 f5
      go_wp2_with fail
      go_roundw
      case rel => exact ⟨1, A4, cap4, by omega, by go_num, HR6.out⟩
      case measure => simp [intOf]
    · -- line 1
      subst hk1
      have hbel : Below w.heap.size w wr := HY.out ▸ HRUN.out.bel
      have pc := HRUN.out.piece 1 (by omega)
      have hpk : ps[1]'(by omega) = mk ([99, 111, 100, 101] ++ 32 :: jl) := by have h1 := HPS.out.trans HSP.out; simp [h1]
      rw [hpk] at pc
      have hne : (mk ([99, 111, 100, 101] ++ 32 :: jl)).toList.isEmpty = false := by rw [List.isEmpty_eq_false_iff, toList_tl, tl_mk]; simp
      have hof : (outB (tl r) jl (tl F) 1).length ≤ 20000 := by simp [outB]
      generalize hOO : outB (tl r) jl (tl F) 1 = OO at HRUN hof
      have HOO := Lib.hid hOO; clear hOO
      have hbf := HRUN.out.bf
      have HBF := Lib.hid hbf; clear hbf hpk
      rw [show bkB es 1 = es from rfl] at HRUN
      have hex := exec_code wr (HML.out.below hbel (Nat.le_refl _)) A cap es (own_rd HRUN.out.own) (own_le HRUN.out.own) HEZ.out (mk jl) (by rw [size_mk]; omega) ws (by rw [tl_mk]; exact HWS.out) r HE.out HR.out
      rw [tl_mk] at hex
      generalize hLL : (mk ([99, 111, 100, 101] ++ 32 :: jl)) = L at pc hne hex
      have HEX := Lib.hid hex; clear hex hbel hLL
      obtain ⟨c0, c1, c2, c3, c4, c5⟩ := HRUN.out.cells
      have f0 := frozen_cells HRUN.out.desk 0; have f1 := frozen_cells HRUN.out.desk 1; have f2 := frozen_cells HRUN.out.desk 2; have f3 := frozen_cells HRUN.out.desk 3; have f4 := frozen_cells HRUN.out.desk 4; have f5 := frozen_cells HRUN.out.desk 5
      go_wp2_with fail
      refine (len_k Y _ wr HBF.out).mono ?_
      rintro _ _ ⟨rfl, rfl⟩
      go_wp2_with fail
      refine HEX.out.mono ?_
      rintro _ w4 ⟨rfl, hb4⟩
      have ho4 := ownsRow_below HRUN.out.own hb4
      unfold deskV
      clear c0 c1 c2 c3 c4 c5 f0 f1 f2 f3 f4 f5 pc
      have d4 := block_kept (block_below HRUN.out.desk hb4) (World.grownBy_alloc w4 (.cells #[.slice none 0 0, .string ⟨#[]⟩, .string ⟨#[]⟩, .string ⟨#[]⟩, .string ⟨#[]⟩, .slice A es.length cap] 56) none) (by simp)
      obtain ⟨c0, c1, c2, c3, c4, c5⟩ := row_six d4
      have f0 := frozen_cells d4 0; have f1 := frozen_cells d4 1; have f2 := frozen_cells d4 2; have f3 := frozen_cells d4 3; have f4 := frozen_cells d4 4; have f5 := frozen_cells d4 5
      have hY4 : Y + 1 < w4.heap.size := (Array.getElem?_eq_some_iff.1 (block_below HRUN.out.desk hb4)).1
      have HB4 := Lib.hid hb4; have HO4 := Lib.hid ho4; have HY4 := Lib.hid hY4; clear d4 hb4 ho4 hY4
      have az : (r).size ≤ 6000 := by omega
      have hnx : OO ++ tl (r ++ ⟨#[10]⟩) = outB (tl r) jl (tl F) 2 := by
        rw [← HOO.out]
        rw [show (⟨#[10]⟩ : ByteArray) = mk [10] from rfl, append_tl, tl_mk, tl_mk]
        rfl
      have HNX := Lib.hid hnx; clear hnx
      go_wp2_with fail
      have hY4 := HY4.out
      have hbf4 := HRUN.out.bf4 HB4.out (.cells #[.slice none 0 0, .string ⟨#[]⟩, .string ⟨#[]⟩, .string ⟨#[]⟩, .string ⟨#[]⟩, .slice A es.length cap] 56) (.slice A es.length cap)
      have hys := Run.sz4 hY4 (.cells #[.slice none 0 0, .string ⟨#[]⟩, .string ⟨#[]⟩, .string ⟨#[]⟩, .string ⟨#[]⟩, .slice A es.length cap] 56) (.slice A es.length cap)
      have hws : OO.length + (r ++ ⟨#[10]⟩).size ≤ 100000 := by rw [ByteArray.size_append, show (⟨#[10]⟩ : ByteArray).size = 1 from rfl]; omega
      have hwr := write_k Y _ _ _ hbf4 hws hys
      clear hbf4 hys hws hY4
      refine hwr.mono ?_
      clear hwr
      rintro _ w6 ⟨rfl, hbf6, hb6, hk6⟩
      have hrun6 := HRUN.out.next HB4.out (own_mono2 HO4.out (Nat.zero_le _)) _ hbf6 hb6 hk6
      rw [HNX.out] at hrun6
      have HR6 := Lib.hid hrun6; clear hrun6 hbf6 hb6 hk6 c0 c1 c2 c3 c4 c5 f0 f1 f2 f3 f4 f5
      go_wp2_with fail
      go_roundw
      case rel => exact ⟨2, A, cap, by omega, by go_num, HR6.out⟩
      case measure => simp [intOf]
    · -- line 2
      subst hk2
      have hbel : Below w.heap.size w wr := HY.out ▸ HRUN.out.bel
      have pc := HRUN.out.piece 2 (by omega)
      have hpk : ps[2]'(by omega) = mk ([119, 111, 114, 100, 115] ++ 32 :: tl r) := by have h1 := HPS.out.trans HSP.out; simp [h1]
      rw [hpk] at pc
      have hne : (mk ([119, 111, 114, 100, 115] ++ 32 :: tl r)).toList.isEmpty = false := by rw [List.isEmpty_eq_false_iff, toList_tl, tl_mk]; simp
      have hof : (outB (tl r) jl (tl F) 2).length ≤ 20000 := by simp [outB, length_tl]; omega
      generalize hOO : outB (tl r) jl (tl F) 2 = OO at HRUN hof
      have HOO := Lib.hid hOO; clear hOO
      have hbf := HRUN.out.bf
      have HBF := Lib.hid hbf; clear hbf hpk
      rw [show bkB es 2 = es from rfl] at HRUN
      have hex := exec_words wr (HML.out.below hbel (Nat.le_refl _)) A cap es (own_rd HRUN.out.own) (own_le HRUN.out.own) HEZ.out r (by omega) ws HD.out H0.out jl HJ.out HJ0.out (by omega) hwl
      generalize hLL : (mk ([119, 111, 114, 100, 115] ++ 32 :: tl r)) = L at pc hne hex
      have HEX := Lib.hid hex; clear hex hbel hLL
      obtain ⟨c0, c1, c2, c3, c4, c5⟩ := HRUN.out.cells
      have f0 := frozen_cells HRUN.out.desk 0; have f1 := frozen_cells HRUN.out.desk 1; have f2 := frozen_cells HRUN.out.desk 2; have f3 := frozen_cells HRUN.out.desk 3; have f4 := frozen_cells HRUN.out.desk 4; have f5 := frozen_cells HRUN.out.desk 5
      go_wp2_with fail
      refine (len_k Y _ wr HBF.out).mono ?_
      rintro _ _ ⟨rfl, rfl⟩
      go_wp2_with fail
      refine HEX.out.mono ?_
      rintro _ w4 ⟨rfl, hb4⟩
      have ho4 := ownsRow_below HRUN.out.own hb4
      unfold deskV
      clear c0 c1 c2 c3 c4 c5 f0 f1 f2 f3 f4 f5 pc
      have d4 := block_kept (block_below HRUN.out.desk hb4) (World.grownBy_alloc w4 (.cells #[.slice none 0 0, .string ⟨#[]⟩, .string ⟨#[]⟩, .string ⟨#[]⟩, .string ⟨#[]⟩, .slice A es.length cap] 56) none) (by simp)
      obtain ⟨c0, c1, c2, c3, c4, c5⟩ := row_six d4
      have f0 := frozen_cells d4 0; have f1 := frozen_cells d4 1; have f2 := frozen_cells d4 2; have f3 := frozen_cells d4 3; have f4 := frozen_cells d4 4; have f5 := frozen_cells d4 5
      have hY4 : Y + 1 < w4.heap.size := (Array.getElem?_eq_some_iff.1 (block_below HRUN.out.desk hb4)).1
      have HB4 := Lib.hid hb4; have HO4 := Lib.hid ho4; have HY4 := Lib.hid hY4; clear d4 hb4 ho4 hY4
      have az : (mk jl).size ≤ 6000 := by rw [size_mk]; omega
      have hnx : OO ++ tl (mk jl ++ ⟨#[10]⟩) = outB (tl r) jl (tl F) 3 := by
        rw [← HOO.out]
        rw [show (⟨#[10]⟩ : ByteArray) = mk [10] from rfl, append_tl, tl_mk, tl_mk]
        rw [tl_mk]; rfl
      have HNX := Lib.hid hnx; clear hnx
      go_wp2_with fail
      have hY4 := HY4.out
      have hbf4 := HRUN.out.bf4 HB4.out (.cells #[.slice none 0 0, .string ⟨#[]⟩, .string ⟨#[]⟩, .string ⟨#[]⟩, .string ⟨#[]⟩, .slice A es.length cap] 56) (.slice A es.length cap)
      have hys := Run.sz4 hY4 (.cells #[.slice none 0 0, .string ⟨#[]⟩, .string ⟨#[]⟩, .string ⟨#[]⟩, .string ⟨#[]⟩, .slice A es.length cap] 56) (.slice A es.length cap)
      have hws : OO.length + (mk jl ++ ⟨#[10]⟩).size ≤ 100000 := by rw [ByteArray.size_append, show (⟨#[10]⟩ : ByteArray).size = 1 from rfl]; omega
      have hwr := write_k Y _ _ _ hbf4 hws hys
      clear hbf4 hys hws hY4
      refine hwr.mono ?_
      clear hwr
      rintro _ w6 ⟨rfl, hbf6, hb6, hk6⟩
      have hrun6 := HRUN.out.next HB4.out (own_mono2 HO4.out (Nat.zero_le _)) _ hbf6 hb6 hk6
      rw [HNX.out] at hrun6
      have HR6 := Lib.hid hrun6; clear hrun6 hbf6 hb6 hk6 c0 c1 c2 c3 c4 c5 f0 f1 f2 f3 f4 f5
      go_wp2_with fail
      go_roundw
      case rel => exact ⟨3, A, cap, by omega, by go_num, HR6.out⟩
      case measure => simp [intOf]
    · -- line 3
      subst hk3
      have hbel : Below w.heap.size w wr := HY.out ▸ HRUN.out.bel
      have pc := HRUN.out.piece 3 (by omega)
      have hpk : ps[3]'(by omega) = mk [115, 104, 111, 119] := by have h1 := HPS.out.trans HSP.out; simp [h1]
      rw [hpk] at pc
      have hne : (mk [115, 104, 111, 119]).toList.isEmpty = false := by rw [List.isEmpty_eq_false_iff, toList_tl, tl_mk]; simp
      have hof : (outB (tl r) jl (tl F) 3).length ≤ 20000 := by simp [outB, length_tl]; omega
      generalize hOO : outB (tl r) jl (tl F) 3 = OO at HRUN hof
      have HOO := Lib.hid hOO; clear hOO
      have hbf := HRUN.out.bf
      have HBF := Lib.hid hbf; clear hbf hpk
      rw [show bkB es 3 = es from rfl] at HRUN
      have hex := exec_show wr (HML.out.below hbel (Nat.le_refl _)) A cap es (own_rd HRUN.out.own) (own_le HRUN.out.own) HEZ.out F HFF.out hF
      generalize hLL : (mk [115, 104, 111, 119]) = L at pc hne hex
      have HEX := Lib.hid hex; clear hex hbel hLL
      obtain ⟨c0, c1, c2, c3, c4, c5⟩ := HRUN.out.cells
      have f0 := frozen_cells HRUN.out.desk 0; have f1 := frozen_cells HRUN.out.desk 1; have f2 := frozen_cells HRUN.out.desk 2; have f3 := frozen_cells HRUN.out.desk 3; have f4 := frozen_cells HRUN.out.desk 4; have f5 := frozen_cells HRUN.out.desk 5
      go_wp2_with fail
      refine (len_k Y _ wr HBF.out).mono ?_
      rintro _ _ ⟨rfl, rfl⟩
      go_wp2_with fail
      refine HEX.out.mono ?_
      rintro _ w4 ⟨rfl, hb4⟩
      have ho4 := ownsRow_below HRUN.out.own hb4
      unfold deskV
      clear c0 c1 c2 c3 c4 c5 f0 f1 f2 f3 f4 f5 pc
      have d4 := block_kept (block_below HRUN.out.desk hb4) (World.grownBy_alloc w4 (.cells #[.slice none 0 0, .string ⟨#[]⟩, .string ⟨#[]⟩, .string ⟨#[]⟩, .string ⟨#[]⟩, .slice A es.length cap] 56) none) (by simp)
      obtain ⟨c0, c1, c2, c3, c4, c5⟩ := row_six d4
      have f0 := frozen_cells d4 0; have f1 := frozen_cells d4 1; have f2 := frozen_cells d4 2; have f3 := frozen_cells d4 3; have f4 := frozen_cells d4 4; have f5 := frozen_cells d4 5
      have hY4 : Y + 1 < w4.heap.size := (Array.getElem?_eq_some_iff.1 (block_below HRUN.out.desk hb4)).1
      have HB4 := Lib.hid hb4; have HO4 := Lib.hid ho4; have HY4 := Lib.hid hY4; clear d4 hb4 ho4 hY4
      have az : (mk [98, 111, 111, 107, 32] ++ F).size ≤ 6000 := by rw [ByteArray.size_append, size_mk]; simp; omega
      have hnx : OO ++ tl (mk [98, 111, 111, 107, 32] ++ F ++ ⟨#[10]⟩) = outB (tl r) jl (tl F) 4 := by
        rw [← HOO.out]
        rw [show (⟨#[10]⟩ : ByteArray) = mk [10] from rfl, append_tl, tl_mk, tl_mk]
        rw [append_tl, tl_mk, tl_mk]; rfl
      have HNX := Lib.hid hnx; clear hnx
      generalize mk [98, 111, 111, 107, 32] ++ F = an at az HNX ⊢
      go_wp2_with fail
      have hY4 := HY4.out
      have hbf4 := HRUN.out.bf4 HB4.out (.cells #[.slice none 0 0, .string ⟨#[]⟩, .string ⟨#[]⟩, .string ⟨#[]⟩, .string ⟨#[]⟩, .slice A es.length cap] 56) (.slice A es.length cap)
      have hys := Run.sz4 hY4 (.cells #[.slice none 0 0, .string ⟨#[]⟩, .string ⟨#[]⟩, .string ⟨#[]⟩, .string ⟨#[]⟩, .slice A es.length cap] 56) (.slice A es.length cap)
      have hws : OO.length + (an ++ ⟨#[10]⟩).size ≤ 100000 := by rw [ByteArray.size_append, show (⟨#[10]⟩ : ByteArray).size = 1 from rfl]; omega
      have hwr := write_k Y _ _ _ hbf4 hws hys
      clear hbf4 hys hws hY4
      refine hwr.mono ?_
      clear hwr
      rintro _ w6 ⟨rfl, hbf6, hb6, hk6⟩
      have hrun6 := HRUN.out.next HB4.out (own_mono2 HO4.out (Nat.zero_le _)) _ hbf6 hb6 hk6
      rw [HNX.out] at hrun6
      have HR6 := Lib.hid hrun6; clear hrun6 hbf6 hb6 hk6 c0 c1 c2 c3 c4 c5 f0 f1 f2 f3 f4 f5
      go_wp2_with fail
      go_roundw
      case rel => exact ⟨4, A, cap, by omega, by go_num, HR6.out⟩
      case measure => simp [intOf]
    · -- the empty piece
      subst hk4
      have pc := HRUN.out.piece 4 (by omega)
      have hpk : ps[4]'(by omega) = mk [] := by have h1 := HPS.out.trans HSP.out; simp [h1]
      rw [hpk] at pc
      have hne : (mk []).toList.isEmpty = true := by rw [toList_tl]; rfl
      clear hpk
      generalize mk [] = L at pc hne
      go_wp2_with fail
      go_roundw
      case rel => exact ⟨5, A, cap, by omega, by go_num, HRUN.out⟩
      case measure => simp [intOf]
    · subst hk5
      have hn0 : outB (tl r) jl (tl F) 5 ≠ [] := by simp [outB]
      have hbel : Below w.heap.size w wr := HY.out ▸ HRUN.out.bel
      have HBE := Lib.hid hbel; have HN0 := Lib.hid hn0; clear hbel hn0
      go_wp2_with fail
      refine (string_k Y _ wr HRUN.out.bf HN0.out).mono ?_
      rintro _ w7 ⟨rfl, hb7⟩
      have HB7 := Lib.hid (HBE.out.trans (HY.out ▸ hb7)); clear hb7
      go_wp2_with fail
      go_ret
      exact ⟨rfl, HB7.out⟩

end Go.Proofs.YteeeaeidocalnaaGreatDoor
