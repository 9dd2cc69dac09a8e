/-
  The walk of the law FnScriptWrong: it returns true whatever the bytes are; nothing that was there is changed. No conditions.
-/
import Derived.Test.YtoakpacpkkmgnaaGreatDoorWrongE
import Derived.Test.YtoakpacpkkmgnaaGreatDoorMachP
import Derived.Test.YtoakpacpkkmgnaaGreatDoorDrawMa
namespace Go.Proofs.YtoakpacpkkmgnaaGreatDoor
open Go.RowKit Pl
set_option linter.unusedVariables false

/-- the wrong lines as the law has them -/
def wrongB (o : ByteArray) : List ByteArray :=
  [⟨#[107, 101, 121, 115]⟩, ⟨#[107, 101, 121, 32]⟩, ⟨#[119, 105, 110, 100, 111, 119, 115, 32, 107]⟩, ⟨#[119, 105, 110, 100, 111, 119, 115, 32]⟩ ++ o ++ ⟨#[97]⟩, ⟨#[115, 116, 101, 112, 32, 50, 48, 48, 49]⟩, ⟨#[115, 116, 101, 112, 32, 120]⟩,
   ⟨#[109, 97, 99, 104, 105, 110, 101, 32, 120]⟩, ⟨#[112, 108, 117, 103, 115, 32, 97, 97]⟩, ⟨#[98, 111, 111, 107, 32, 97]⟩, ⟨#[100, 97, 121, 32, 48]⟩, ⟨#[100, 97, 121, 32, 54, 32, 48]⟩, ⟨#[101, 110, 99, 105, 112, 104, 101, 114, 32, 107]⟩, ⟨#[101, 110, 99, 105, 112, 104, 101, 114, 32]⟩]
theorem wrongB_len (o : ByteArray) : (wrongB o).length = 13 := rfl
theorem wrongs_len (o : ByteArray) : (wrongs o).length = 13 := rfl
theorem wrongB_tl (o : ByteArray) : (wrongB o).map tl = wrongs o := by
  have e : tl ((⟨#[119, 105, 110, 100, 111, 119, 115, 32]⟩ : ByteArray) ++ o ++ ⟨#[97]⟩) = [119, 105, 110, 100, 111, 119, 115, 32] ++ (tl o ++ [97]) := by
    simp only [append_tl, tl_mk, List.append_assoc]; rfl
  unfold wrongB wrongs
  simp only [List.map_cons, List.map_nil]
  rw [e]
  rfl
theorem wrongB_at (o : ByteArray) (k : Nat) (h : k < (wrongB o).length) : tl (wrongB o)[k] = (wrongs o).getD k [] := by
  rw [← wrongB_tl o, List.getD_eq_getElem?_getD, List.getElem?_map, List.getElem?_eq_getElem h]; rfl
theorem wrongs_short (o : ByteArray) (ho : o.size ≤ 3) : ∀ k, ((wrongs o).getD k []).length ≤ 20 := fun k => by
  by_cases hk : k < (wrongs o).length
  · have h2 : ∀ x ∈ wrongs o, x.length ≤ 20 := by
      unfold wrongs
      simp only [List.mem_cons, List.not_mem_nil, or_false]
      intro x hx
      rcases hx with rfl | rfl | rfl | rfl | rfl | rfl | rfl | rfl | rfl | rfl | rfl | rfl | rfl
      all_goals first | decide | (simp only [List.length_append, List.length_cons, List.length_nil, length_tl]; omega)
    rw [List.getD_eq_getElem?_getD, List.getElem?_eq_getElem hk]
    exact h2 _ (List.getElem_mem hk)
  · rw [List.getD_eq_getElem?_getD, List.getElem?_eq_none (by omega)]; exact Nat.zero_le _
theorem pairT_len (o : ByteArray) (ho : o.size ≤ 3) : ∀ k, (pairT (wrongs o) k).length ≤ 26 * k
  | 0 => by rw [pairT_zero]; simp
  | k + 1 => by
    have h1 := pairT_len o ho k
    have h2 := wrongs_short o ho k
    rw [pairT_succ]
    simp only [List.length_append, List.length_cons, List.length_nil]
    omega
/-- the law's text and what it wants, after k lines -/
def textK (S o : ByteArray) (k : Nat) : ByteArray := mk (tl S ++ pairT (wrongs o) k)
def wantK (N : List UInt8) (k : Nat) : ByteArray := mk ([111, 107, 10, 111, 107, 10] ++ wroteL N (2 * k))
theorem textK_zero (S o : ByteArray) : textK S o 0 = S := by unfold textK; rw [pairT_zero, List.append_nil, mk_tl]
theorem textK_next (S o : ByteArray) (k : Nat) (h : k < (wrongB o).length) : textK S o k ++ (wrongB o)[k] ++ ⟨#[10, 115, 104, 111, 119, 10]⟩ = textK S o (k + 1) := by
  apply tl_inj
  unfold textK
  simp only [append_tl, tl_mk]
  rw [wrongB_at o k h, pairT_succ]
  rw [show tl (⟨#[10, 115, 104, 111, 119, 10]⟩ : ByteArray) = [10, 115, 104, 111, 119, 10] from rfl]
  simp only [List.append_assoc]
theorem textK_size (S o : ByteArray) (ho : o.size ≤ 3) (k : Nat) : (textK S o k).size ≤ S.size + 26 * k := by
  have := pairT_len o ho k
  unfold textK; rw [size_mk, List.length_append, length_tl]; omega
theorem wantK_next (N : List UInt8) (H : ByteArray) (hH : tl H = N ++ [10]) (k : Nat) : wantK N k ++ ⟨#[119, 104, 97, 116, 10]⟩ ++ H = wantK N (k + 1) := by
  apply tl_inj
  unfold wantK
  simp only [append_tl, tl_mk]
  rw [hH, wroteL_two]
  rw [show tl (⟨#[119, 104, 97, 116, 10]⟩ : ByteArray) = [119, 104, 97, 116, 10] from rfl]
  simp only [List.append_assoc]
theorem wantK_size (N : List UInt8) (hN : N.length ≤ 200) (k : Nat) : (wantK N k).size ≤ 6 + 412 * k := by
  have h1 := wroteL_len N (2 * k)
  have h2 : (N.length + 6) * (2 * k) ≤ 206 * (2 * k) := Nat.mul_le_mul_right _ (by omega)
  unfold wantK; rw [size_mk, List.length_append]; simp only [List.length_cons, List.length_nil]; omega
theorem wrong_setup (rs : List (ByteArray × ByteArray)) (p g o T : ByteArray) (q : List Nat) (hT : T = mk (machT rs p g q)) :
    tl (⟨#[109, 97, 99, 104, 105, 110, 101, 32]⟩ ++ T ++ ⟨#[10, 119, 105, 110, 100, 111, 119, 115, 32]⟩ ++ o ++ ⟨#[10]⟩) = [machLine rs p g q, windLine o].flatMap (· ++ [10]) := by
  subst hT
  simp only [append_tl, tl_mk]
  rw [show tl (⟨#[109, 97, 99, 104, 105, 110, 101, 32]⟩ : ByteArray) = [109, 97, 99, 104, 105, 110, 101, 32] from rfl, show tl (⟨#[10, 119, 105, 110, 100, 111, 119, 115, 32]⟩ : ByteArray) = [10, 119, 105, 110, 100, 111, 119, 115, 32] from rfl, show tl (⟨#[10]⟩ : ByteArray) = [10] from rfl]
  simp [machLine, windLine]
theorem wrong_show (rs : List (ByteArray × ByteArray)) (p g o T : ByteArray) (q : List Nat) (hT : T = mk (machT rs p g q)) :
    tl (⟨#[109, 97, 99, 104, 105, 110, 101, 32]⟩ ++ T ++ ⟨#[10, 119, 105, 110, 100, 111, 119, 115, 32]⟩ ++ o ++ ⟨#[10, 98, 111, 111, 107, 32, 45, 10]⟩) = showT rs p g q o ++ [10] := by
  subst hT
  unfold showT
  simp only [append_tl, tl_mk]
  rw [show tl (⟨#[109, 97, 99, 104, 105, 110, 101, 32]⟩ : ByteArray) = [109, 97, 99, 104, 105, 110, 101, 32] from rfl, show tl (⟨#[10, 119, 105, 110, 100, 111, 119, 115, 32]⟩ : ByteArray) = [10, 119, 105, 110, 100, 111, 119, 115, 32] from rfl, show tl (⟨#[10, 98, 111, 111, 107, 32, 45, 10]⟩ : ByteArray) = [10, 98, 111, 111, 107, 32, 45, 10] from rfl]
  simp

set_option maxHeartbeats 8000000 in
set_option maxRecDepth 100000 in
theorem fnScriptWrong_walk (w : World) (hml : GW w) (A : Option Addr) (cap : Nat) (bs : List UInt8) (h : Rd w w.heap.size A (bytesV bs)) (hc : bs.length ≤ cap) :
    Calls Tryz.prog 4 #[.slice A bs.length cap] w fun e w' => e = .returned (.bool true) ∧ Below w.heap.size w w' := by
  have HML := Lib.hid hml; clear hml
  by_cases hlen : 1048576 < bs.length
  · go_enter Tryz.func4, Tryz.ntmps4
    go_wp2_with fail
    go_ret
    exact ⟨rfl, Below.refl _ _⟩
  · go_enter Tryz.func4, Tryz.ntmps4
    go_wp2_with fail
    refine (drawKeyPerm_any w A cap bs h hc).mono ?_
    rintro _ w1 ⟨A1, c1, rs, p, g, l, o, rfl, hr1, hc1, hrz, hpz, hgz, hlz, hoz, _, hb1⟩
    have HB1 := Lib.hid hb1; clear hb1 h hc hlen
    obtain ⟨w2, hw2⟩ : ∃ w2, w2 = w1.alloc (.cells #[.slice A1 rs.length c1, .string p, .string g, .string l] 27) := ⟨_, rfl⟩
    have hal : Below w1.heap.size w1 w2 := by rw [hw2]; exact (Below.refl _ _).alloc (Nat.le_refl _) _
    have hs2 := SB.made w1 #[.slice A1 rs.length c1, .string p, .string g, .string l] 27
    rw [← hw2] at hs2
    have HB2 := Lib.hid (HB1.out.trans (hal.mono HB1.out.size)); have HR2 := Lib.hid ((hr1.below hal).mono hal.size)
    clear hal hr1 HB1
    by_cases hm : MachV rs p g l
    · obtain ⟨hv, q, hq, hi, rfl⟩ := hm
      have hfm := fun (w' : World) (h' : Rd w' w'.heap.size A1 (rotV rs)) => formatMachine_yes w' A1 c1 rs p g q h' hc1 hv hq hi
      have hsf := fun (w' : World) (h' : Rd w' w'.heap.size A1 (rotV rs)) => sFormatMachine_yes w' A1 c1 rs p g q h' hc1 hv hq hi
      obtain ⟨b, hb⟩ : ∃ b : Bool, b = true ↔ (wv (tl o) = true ∧ o.size = rs.length) := ⟨decide (wv (tl o) = true ∧ o.size = rs.length), by simp⟩
      have hrf := fun (w' : World) (h' : Rd w' w'.heap.size A1 (rotV rs)) => rcFits_yes w' A1 c1 rs p g (pT q) o b h' hc1 ⟨hv, q, hq, hi, rfl⟩ hb
      have hse := fun (w' : World) (h' : Rd w' w'.heap.size A1 (rotV rs)) => rcSetup_ok w' A1 c1 rs p g o q h' hc1 hv hq hi (by omega)
      have zm := @machT_len rs p g q hv
      have zw : (mk (machT rs p g q)).size ≤ 110 := by rw [size_mk]; exact zm
      obtain ⟨T, hT⟩ : ∃ T, T = mk (machT rs p g q) := ⟨_, rfl⟩
      obtain ⟨SU, hSU⟩ : ∃ SU : ByteArray, SU = ⟨#[109, 97, 99, 104, 105, 110, 101, 32]⟩ ++ T ++ ⟨#[10, 119, 105, 110, 100, 111, 119, 115, 32]⟩ ++ o ++ ⟨#[10]⟩ := ⟨_, rfl⟩
      obtain ⟨SH, hSH⟩ : ∃ SH : ByteArray, SH = ⟨#[109, 97, 99, 104, 105, 110, 101, 32]⟩ ++ T ++ ⟨#[10, 119, 105, 110, 100, 111, 119, 115, 32]⟩ ++ o ++ ⟨#[10, 98, 111, 111, 107, 32, 45, 10]⟩ := ⟨_, rfl⟩
      have hsu := wrong_setup rs p g o T q hT
      rw [← hSU] at hsu
      have hsh := wrong_show rs p g o T q hT
      rw [← hSH] at hsh
      have hNz : (showT rs p g q o).length ≤ 200 := by
        have h1 := congrArg List.length hsh
        rw [length_tl, hSH, hT] at h1
        simp only [ByteArray.size_append, size_mk, List.length_append, List.length_cons, List.length_nil] at h1
        have z1 : (⟨#[109, 97, 99, 104, 105, 110, 101, 32]⟩ : ByteArray).size = 8 := rfl
        have z2 : (⟨#[10, 119, 105, 110, 100, 111, 119, 115, 32]⟩ : ByteArray).size = 9 := rfl
        have z3 : (⟨#[10, 98, 111, 111, 107, 32, 45, 10]⟩ : ByteArray).size = 8 := rfl
        omega
      have hSUz : SU.size ≤ 200 := by
        rw [hSU, hT]
        simp only [ByteArray.size_append, size_mk]
        have z1 : (⟨#[109, 97, 99, 104, 105, 110, 101, 32]⟩ : ByteArray).size = 8 := rfl
        have z2 : (⟨#[10, 119, 105, 110, 100, 111, 119, 115, 32]⟩ : ByteArray).size = 9 := rfl
        have z3 : (⟨#[10]⟩ : ByteArray).size = 1 := rfl
        omega
      have hSHz : SH.size ≤ 201 := by rw [← length_tl, hsh, List.length_append]; simp; omega
      have hTX0 := textK_zero SU o
      have hTXn := textK_next SU o
      have hWNn := wantK_next (showT rs p g q o) SH hsh
      have hWN0 : wantK (showT rs p g q o) 0 = ⟨#[111, 107, 10, 111, 107, 10]⟩ := rfl
      have hTXz : o.size ≤ 3 → ∀ k, k ≤ 13 → (textK SU o k).size ≤ 600 := fun ho k hk => by have := textK_size SU o ho k; omega
      have hWNz : ∀ k, k ≤ 13 → (wantK (showT rs p g q o) k).size ≤ 6000 := fun k hk => by have := wantK_size (showT rs p g q o) hNz k; omega
      have hrun : b = true → ∀ (w' : World), GW w' → Calls Tryz.prog 13 #[.string (textK SU o 13)] w' fun e w'' => e = .returned (.string (wantK (showT rs p g q o) 13)) ∧ Below w'.heap.size w' w'' := fun e w' hg => by
        have hog : o.size = g.size := by have := (hb.1 e).2; have := hv.2.1; omega
        have ho3' : o.size ≤ 3 := by have := (hb.1 e).2; have := hv.1.2.1; omega
        refine run_wrong w' hg (textK SU o 13) rs p g o q (wrongs o) hv hq hi hog (hb.1 e).1 (by rw [wrongs_len]; decide) (wrongs_all rs p g o q hv hq hi hog (hb.1 e).1) (by have := hTXz ho3' 13 (Nat.le_refl _); omega) ?_
        rw [wrongs_len]
        unfold textK
        rw [tl_mk, hsu]
      generalize textK SU o = TX at hTX0 hTXn hTXz hrun
      generalize wantK (showT rs p g q o) = WN at hWN0 hWNn hWNz hrun
      rw [← hT] at hfm hsf hse zw
      rw [← hSU] at hse
      have ho3 : b = true → o.size ≤ 3 := fun e => by have := (hb.1 e).2; have := hv.1.2.1; omega
      have HO3 := Lib.hid ho3; have HSH := Lib.hid hSH; have HTX0 := Lib.hid hTX0; have HTXn := Lib.hid hTXn; have HTXz := Lib.hid hTXz; have HWN0 := Lib.hid hWN0; have HWNn := Lib.hid hWNn; have HWNz := Lib.hid hWNz
      have HSHz := Lib.hid hSHz
      have HFM := Lib.hid hfm; have HSF := Lib.hid hsf; have HRF := Lib.hid hrf; have HSE := Lib.hid hse; have HRUN := Lib.hid hrun
      have HS2 := Lib.hid hs2
      obtain ⟨P, hP⟩ : ∃ P, P = w1.heap.size := ⟨_, rfl⟩
      rw [← hP] at HS2
      clear hfm hsf hrf hse hrun hb hv hq hi hT zm hs2 ho3 hSH hTX0 hTXn hTXz hWN0 hWNn hWNz hSHz hSU hSUz hNz hsu hsh
      generalize pT q = l at hw2 HS2 HFM HSF HRF HSE hlz
      obtain ⟨⟨a0, a1, a2, a3⟩, _⟩ := HS2.out.all4
      go_wp2_with fail
      rw [← hw2]
      rw [← hP]
      clear hw2 hP
      go_wp2_with fail
      refine (HFM.out _ HR2.out).mono ?_
      rintro _ w3 ⟨rfl, hb3⟩
      have HB3 := Lib.hid (HB2.out.trans (hb3.mono HB2.out.size)); have HR3 := Lib.hid ((HR2.out.below hb3).mono hb3.size); have HS3 := Lib.hid (HS2.out.below hb3)
      obtain ⟨⟨d0, d1, d2, d3⟩, _⟩ := HS3.out.all4
      clear hb3 HB2 HR2 HS2 a0 a1 a2 a3 HFM
      go_wp2_with fail
      refine (HSF.out _ HR3.out).mono ?_
      rintro _ w4 ⟨rfl, hb4⟩
      have HB4 := Lib.hid (HB3.out.trans (hb4.mono HB3.out.size)); have HR4 := Lib.hid ((HR3.out.below hb4).mono hb4.size); have HS4 := Lib.hid (HS3.out.below hb4)
      obtain ⟨⟨e0, e1, e2, e3⟩, _⟩ := HS4.out.all4
      have hne : (T.toList == T.toList) = true := beq_self_eq_true _
      clear hb4 HB3 HR3 HS3 d0 d1 d2 d3
      go_wp2_with fail
      refine (HRF.out _ HR4.out).mono ?_
      rintro _ w5 ⟨rfl, hb5⟩
      have HB5 := Lib.hid (HB4.out.trans (hb5.mono HB4.out.size)); have HR5 := Lib.hid ((HR4.out.below hb5).mono hb5.size); have HS5 := Lib.hid (HS4.out.below hb5)
      obtain ⟨⟨f0, f1, f2, f3⟩, _⟩ := HS5.out.all4
      clear hb5 HB4 HR4 HS4 e0 e1 e2 e3 HRF
      cases b with
      | false =>
        go_wp2_with fail
        refine (HSF.out _ HR5.out).mono ?_
        rintro _ w6 ⟨rfl, hb6⟩
        have HB6 := Lib.hid (HB5.out.trans (hb6.mono HB5.out.size))
        clear hb6
        go_wp2_with fail
        go_ret
        exact ⟨rfl, HB6.out⟩
      | true =>
        have ho3 := HO3.out rfl
        have y1 : ¬ 9223372036854775807 < 8 + T.size := by omega
        have y2 : ¬ 9223372036854775807 < 8 + T.size + 9 := by omega
        have y3 : ¬ 9223372036854775807 < 8 + T.size + 9 + o.size := by omega
        have y4 : ¬ 9223372036854775807 < 8 + T.size + 9 + o.size + 8 := by omega
        have y5 : ¬ 9223372036854775807 < 8 + o.size := by omega
        have y6 : ¬ 9223372036854775807 < 8 + o.size + 1 := by omega
        have f0o := fun X => (SB.below HS5.out ((Below.refl _ _).alloc (Nat.le_refl _) X)).cell 0 _ rfl
        have f1o := fun X => (SB.below HS5.out ((Below.refl _ _).alloc (Nat.le_refl _) X)).cell 1 _ rfl
        have f2o := fun X => (SB.below HS5.out ((Below.refl _ _).alloc (Nat.le_refl _) X)).cell 2 _ rfl
        have f3o := fun X => (SB.below HS5.out ((Below.refl _ _).alloc (Nat.le_refl _) X)).cell 3 _ rfl
        go_wp2_with fail
        clear f0o f1o f2o f3o f0 f1 f2 f3 y1 y2 y3 y4 y5 y6
        obtain ⟨w6, hw6⟩ : ∃ w6, w6 = w5.alloc (.cells (strV (wrongB o)).toArray 9) := ⟨_, rfl⟩
        have hal6 : Below w5.heap.size w5 w6 := by rw [hw6]; exact (Below.refl _ _).alloc (Nat.le_refl _) _
        have hrd6 : Rd w6 (w5.heap.size + 1) (some ⟨w5.heap.size, 0, none⟩) (strV (wrongB o)) := by rw [hw6]; exact split_rd w5 (wrongB o)
        have hsz6 : w5.heap.size + 1 ≤ w6.heap.size := by rw [hw6]; simp
        have hg6 : w5.alloc (.cells (strV (wrongB o)).toArray 9) = w6 := hw6.symm
        have HB6 := Lib.hid (HB5.out.trans (hal6.mono HB5.out.size)); have HR6 := Lib.hid ((HR5.out.below hal6).mono hal6.size); have HRD := Lib.hid hrd6
        have hcall := HSE.out w6 HR6.out
        rw [hw6] at hcall
        have HCALL := Lib.hid hcall
        obtain ⟨N, hN⟩ : ∃ N, N = w5.heap.size := ⟨_, rfl⟩
        rw [← hN] at HRD hsz6
        refine HCALL.out.mono ?_
        rintro _ w7 ⟨rfl, hb7⟩
        have hb7' : Below w6.heap.size w6 w7 := by rw [hw6]; exact hb7
        have HB7 := Lib.hid (HB6.out.trans (hb7'.mono HB6.out.size)); have HRD7 := Lib.hid (HRD.out.below (hb7'.mono hsz6)); have HZ7 := Lib.hid (Nat.le_trans hsz6 hb7'.size)
        rw [← hN]
        clear hb7 hb7' hcall HCALL hw6 hal6 hrd6 hsz6 hg6 HB6 HR6 HRD hN HB5 HR5 HS5
        rw [← HSH.out]
        clear HSH
        have hL13 := wrongB_len o
        generalize wrongB o = L at HRD7 HTXn hL13
        have HL13 := Lib.hid hL13; clear hL13
        go_wp2_with fail
        go_loopw [8, 9, 10] (fun x y i wr => ∃ k : Nat, k ≤ 13 ∧ x = .string (TX k) ∧ y = .string (WN k) ∧ i = .int .i64 k ∧ Hid (Rd wr (N + 1) (some ⟨N, 0, none⟩) (strV L)) ∧ Hid (N + 1 ≤ wr.heap.size) ∧ Hid (Below w.heap.size w wr)) (fun _ _ i _ => 13 - (intOf i).toNat)
        case atStart => exact ⟨0, by omega, by rw [HTX0.out], by rw [HWN0.out], rfl, HRD7, HZ7, HB7⟩
        case round =>
          obtain ⟨k, hk, rfl, rfl, rfl, HRW, HZW, HBL⟩ := hrel
          clear HRD7 HZ7 HB7
          by_cases hlt : k < 13
          · have hkl : k < L.length := by rw [HL13.out]; exact hlt
            obtain ⟨b0, off, ee, _, c0⟩ := HRW.out.str hkl
            simp only [Option.some.injEq, Addr.mk.injEq, and_true] at ee
            obtain ⟨rfl, rfl⟩ := ee
            rw [Nat.zero_add] at c0
            have e1 := HTXn.out k hkl
            generalize L[k] = s at c0 e1
            have z1 := HTXz.out ho3 (k + 1) (by omega)
            rw [← e1] at z1
            simp only [ByteArray.size_append] at z1
            have z6 : (⟨#[10, 115, 104, 111, 119, 10]⟩ : ByteArray).size = 6 := rfl
            have e2 := HWNn.out k
            have z2 := HWNz.out k (by omega)
            have z3 := HSHz.out
            have y1 : ¬ 9223372036854775807 < (TX k).size + s.size := by omega
            have y2 : ¬ 9223372036854775807 < (TX k).size + s.size + 6 := by omega
            have y3 : ¬ 9223372036854775807 < (WN k).size + 5 := by omega
            have y4 : ¬ 9223372036854775807 < (WN k).size + 5 + SH.size := by omega
            have v3 : (k : Int) < 13 := by omega
            have E1 := Lib.hid e1; have E2 := Lib.hid e2
            clear e1 e2 z1 z2 z3 z6 hkl
            go_wp2_with fail
            go_roundw
            case rel => exact ⟨k + 1, by omega, by rw [E1.out], by rw [E2.out], by go_num, HRW, HZW, HBL⟩
            case measure => simp [intOf]; omega
          · obtain rfl : k = 13 := by omega
            go_wp2_with fail
            refine (HRUN.out (by first | trivial | rfl) _ (HML.out.below HBL.out (Nat.le_refl _))).mono ?_
            rintro _ w8 ⟨rfl, hb8⟩
            have HB8 := Lib.hid (HBL.out.trans (hb8.mono HBL.out.size))
            clear hb8
            have hfin : ((WN 13).toList == (WN 13).toList) = true := beq_self_eq_true _
            go_wp2_with fail
            go_ret
            exact ⟨rfl, HB8.out⟩
    · have hl : rs.length ≤ 100 := by omega
      have hfm := fun (w' : World) (h' : Rd w' w'.heap.size A1 (rotV rs)) => formatMachine_no w' A1 c1 rs p g l h' hc1 hl hm
      have hsf := fun (w' : World) (h' : Rd w' w'.heap.size A1 (rotV rs)) => sFormatMachine_no w' A1 c1 rs p g l h' hc1 hl hm
      have hrf := fun (w' : World) (h' : Rd w' w'.heap.size A1 (rotV rs)) => rcFits_no w' A1 c1 rs p g l o h' hc1 hl hm
      obtain ⟨T, hT⟩ : ∃ T, T = mk [] := ⟨_, rfl⟩
      rw [← hT] at hfm hsf
      have HFM := Lib.hid hfm; have HSF := Lib.hid hsf; have HRF := Lib.hid hrf
      have HS2 := Lib.hid hs2
      obtain ⟨P, hP⟩ : ∃ P, P = w1.heap.size := ⟨_, rfl⟩
      rw [← hP] at HS2
      clear hfm hsf hrf hT hs2 hm
      obtain ⟨⟨a0, a1, a2, a3⟩, _⟩ := HS2.out.all4
      go_wp2_with fail
      rw [← hw2]
      rw [← hP]
      clear hw2 hP
      go_wp2_with fail
      refine (HFM.out _ HR2.out).mono ?_
      rintro _ w3 ⟨rfl, hb3⟩
      have HB3 := Lib.hid (HB2.out.trans (hb3.mono HB2.out.size)); have HR3 := Lib.hid ((HR2.out.below hb3).mono hb3.size); have HS3 := Lib.hid (HS2.out.below hb3)
      obtain ⟨⟨d0, d1, d2, d3⟩, _⟩ := HS3.out.all4
      clear hb3 HB2 HR2 HS2 a0 a1 a2 a3 HFM
      go_wp2_with fail
      refine (HSF.out _ HR3.out).mono ?_
      rintro _ w4 ⟨rfl, hb4⟩
      have HB4 := Lib.hid (HB3.out.trans (hb4.mono HB3.out.size)); have HR4 := Lib.hid ((HR3.out.below hb4).mono hb4.size); have HS4 := Lib.hid (HS3.out.below hb4)
      obtain ⟨⟨e0, e1, e2, e3⟩, _⟩ := HS4.out.all4
      have hne : (T.toList == T.toList) = true := beq_self_eq_true _
      clear hb4 HB3 HR3 HS3 d0 d1 d2 d3
      go_wp2_with fail
      refine (HRF.out _ HR4.out).mono ?_
      rintro _ w5 ⟨rfl, hb5⟩
      have HB5 := Lib.hid (HB4.out.trans (hb5.mono HB4.out.size)); have HR5 := Lib.hid ((HR4.out.below hb5).mono hb5.size); have HS5 := Lib.hid (HS4.out.below hb5)
      obtain ⟨⟨f0, f1, f2, f3⟩, _⟩ := HS5.out.all4
      clear hb5 HB4 HR4 HS4 e0 e1 e2 e3 HRF
      go_wp2_with fail
      refine (HSF.out _ HR5.out).mono ?_
      rintro _ w6 ⟨rfl, hb6⟩
      have HB6 := Lib.hid (HB5.out.trans (hb6.mono HB5.out.size))
      clear hb6
      go_wp2_with fail
      go_ret
      exact ⟨rfl, HB6.out⟩

end Go.Proofs.YtoakpacpkkmgnaaGreatDoor
