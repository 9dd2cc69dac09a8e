/-
  What impl.RunScript answers to the script of a setting and wrong lines, each followed by show. Conditions: what each theorem names.
-/
import Derived.Test.YtoakpacpkkmgnaaGreatDoorScriptS
import Derived.Test.YtoakpacpkkmgnaaGreatDoorExecN
namespace Go.Proofs.YtoakpacpkkmgnaaGreatDoor
open Go.RowKit Pl
set_option linter.unusedVariables false

/-- the lines behind the setting: each of W, followed by show -/
def pairL (W : List (List UInt8)) (i : Nat) : List UInt8 := if i % 2 = 0 then W.getD (i / 2) [] else [115, 104, 111, 119]
/-- the text of the first k of them -/
def pairT (W : List (List UInt8)) (k : Nat) : List UInt8 := ((List.range (2 * k)).map (pairL W)).flatMap (· ++ [10])
theorem pairT_zero (W : List (List UInt8)) : pairT W 0 = [] := rfl
theorem pairT_succ (W : List (List UInt8)) (k : Nat) : pairT W (k + 1) = pairT W k ++ (W.getD k [] ++ [10, 115, 104, 111, 119, 10]) := by
  unfold pairT
  rw [show 2 * (k + 1) = 2 * k + 1 + 1 from by omega, List.range_succ, List.range_succ, List.map_append, List.map_append, List.flatMap_append, List.flatMap_append]
  have e1 : pairL W (2 * k) = W.getD k [] := by unfold pairL; rw [if_pos (by omega), show 2 * k / 2 = k from by omega]
  have e2 : pairL W (2 * k + 1) = [115, 104, 111, 119] := by unfold pairL; rw [if_neg (by omega)]
  simp [e1, e2]
/-- what is written for the first i of these lines -/
def wroteL (N : List UInt8) : Nat → List UInt8
  | 0 => []
  | i + 1 => wroteL N i ++ (if i % 2 = 0 then [119, 104, 97, 116, 10] else N ++ [10])
theorem wroteL_two (N : List UInt8) (k : Nat) : wroteL N (2 * (k + 1)) = wroteL N (2 * k) ++ ([119, 104, 97, 116, 10] ++ (N ++ [10])) := by
  rw [show 2 * (k + 1) = 2 * k + 1 + 1 from by omega, wroteL, wroteL, if_pos (by omega), if_neg (by omega), List.append_assoc]
theorem wroteL_len (N : List UInt8) : ∀ i, (wroteL N i).length ≤ (N.length + 6) * i
  | 0 => by simp [wroteL]
  | i + 1 => by
    have := wroteL_len N i
    rw [wroteL, List.length_append, Nat.mul_succ]
    split
    · simp only [List.length_cons, List.length_nil]; omega
    · simp only [List.length_append, List.length_cons, List.length_nil]; omega

theorem run_wrong (w : World) (hg : GW w) (T : ByteArray) (rs : List (ByteArray × ByteArray)) (p g o : ByteArray) (q : List Nat) (W : List (List UInt8)) (hv : WinV rs p g) (hq : Prm q) (hi : invP q = q) (ho : o.size = g.size) (hwo : wv (tl o) = true)
    (hWl : W.length ≤ 20) (hW : ∀ x ∈ W, (10 : UInt8) ∉ x ∧ x ≠ [] ∧ Exec (deskM rs p g q o []) (mk x) (deskM rs p g q o []) (mk [119, 104, 97, 116]))
    (hTz : T.size ≤ 20000) (hT : tl T = [machLine rs p g q, windLine o].flatMap (· ++ [10]) ++ pairT W W.length) :
    Calls Tryz.prog 13 #[.string T] w fun e w' => e = .returned (.string (mk ([111, 107, 10, 111, 107, 10] ++ wroteL (showT rs p g q o) (2 * W.length)))) ∧ Below w.heap.size w w' := by
  have hg1 : 1 ≤ g.size ∧ g.size ≤ 3 := ⟨by have := hv.1.1; have := hv.2.1; omega, by have := hv.1.2.1; have := hv.2.1; omega⟩
  have hmz := @machT_len rs p g q hv
  have hon : tl o ≠ [] := by intro e; have := congrArg List.length e; rw [length_tl, List.length_nil] at this; omega
  have hrn : tl (mk (List.replicate g.size (97 : UInt8))) ≠ [] := by rw [tl_mk]; intro e; have := congrArg List.length e; rw [List.length_replicate, List.length_nil] at this; omega
  have hn1 : (10 : UInt8) ∉ machLine rs p g q := by
    unfold machLine
    simp only [List.mem_append, not_or]
    exact ⟨by decide, by rw [List.mem_cons, not_or]; exact ⟨by decide, machT_chars hv hq (by decide) (by decide) (by decide) (by decide) (by decide) (by decide)⟩⟩
  have hn2 : (10 : UInt8) ∉ windLine o := by
    unfold windLine
    simp only [List.mem_append, not_or]
    exact ⟨by decide, by rw [List.mem_cons, not_or]; exact ⟨by decide, wv_not hwo (by decide)⟩⟩
  have hget : ∀ i, i < 2 * W.length → i % 2 = 0 → W.getD (i / 2) [] ∈ W := fun i h1 h2 => by
    have h3 : i / 2 < W.length := by omega
    rw [List.getD_eq_getElem?_getD, List.getElem?_eq_getElem h3]; exact List.getElem_mem h3
  have hpn : ∀ i, i < 2 * W.length → (10 : UInt8) ∉ pairL W i := fun i h => by
    unfold pairL
    split
    · exact (hW _ (hget i h (by assumption))).1
    · decide
  have hnl : ∀ x ∈ machLine rs p g q :: windLine o :: (List.range (2 * W.length)).map (pairL W), (10 : UInt8) ∉ x := by
    intro x hx
    simp only [List.mem_cons, List.mem_map, List.mem_range] at hx
    rcases hx with rfl | rfl | ⟨i, hi2, rfl⟩
    · exact hn1
    · exact hn2
    · exact hpn i hi2
  have hTf : tl T = (machLine rs p g q :: windLine o :: (List.range (2 * W.length)).map (pairL W)).flatMap (· ++ [10]) := by
    rw [hT]; unfold pairT; simp
  have hsp : mkl (spl 10 (tl T)) = mk (machLine rs p g q) :: mk (windLine o) :: ((List.range (2 * W.length)).map (fun i => mk (pairL W i)) ++ [mk []]) := by
    rw [hTf, spl_lines3 10 _ hnl]; simp [mkl]
  have hsz : (showT rs p g q o).length ≤ 200 := by
    unfold showT
    simp only [List.length_append, List.length_cons, List.length_nil, length_tl]; omega
  have e0 := exec_machine Dk.empty rs p g q hv hq hi
  have e1 := exec_windows (deskM rs p g q (mk (List.replicate g.size 97)) []) q o hv hq hi rfl ho hwo hrn
  have e2 := exec_show (deskM rs p g q o []) q hv hq hi rfl (by show o.size ≤ 3; omega) hon rfl
  obtain ⟨N, hN⟩ : ∃ N, N = showT rs p g q o := ⟨_, rfl⟩
  have e2' : Exec (deskM rs p g q o []) (mk [115, 104, 111, 119]) (deskM rs p g q o []) (mk N) := by rw [hN]; exact e2
  rw [← hN] at hsz ⊢
  clear hN e2
  obtain ⟨st, hst⟩ : ∃ st : Nat → Dk, st = fun j => if j = 0 then Dk.empty else if j = 1 then deskM rs p g q (mk (List.replicate g.size 97)) [] else deskM rs p g q o [] := ⟨_, rfl⟩
  obtain ⟨out, hout⟩ : ∃ out : Nat → List UInt8, out = fun j => if j = 0 then [] else if j = 1 then [111, 107, 10] else [111, 107, 10, 111, 107, 10] ++ wroteL N (min (j - 2) (2 * W.length)) := ⟨_, rfl⟩
  have s0 : st 0 = Dk.empty := by rw [hst]; rfl
  have s1 : st 1 = deskM rs p g q (mk (List.replicate g.size 97)) [] := by rw [hst]; rfl
  have s2 : ∀ j, st (j + 2) = deskM rs p g q o [] := fun j => by rw [hst]; simp
  have t0 : out 0 = [] := by rw [hout]; rfl
  have t1 : out 1 = [111, 107, 10] := by rw [hout]; rfl
  have t2 : ∀ j, j ≤ 2 * W.length → out (j + 2) = [111, 107, 10, 111, 107, 10] ++ wroteL N j := fun j hj => by
    rw [hout]; simp only [Nat.add_sub_cancel]; rw [if_neg (by omega), if_neg (by omega), Nat.min_eq_left hj]
  have t3 : out (2 * W.length + 2 + 1) = out (2 * W.length + 2) := by
    rw [t2 _ (Nat.le_refl _), hout]; show (if 2 * W.length + 2 + 1 = 0 then ([] : List UInt8) else if 2 * W.length + 2 + 1 = 1 then [111, 107, 10] else [111, 107, 10, 111, 107, 10] ++ wroteL N (min (2 * W.length + 2 + 1 - 2) (2 * W.length))) = _; rw [if_neg (by omega), if_neg (by omega), show 2 * W.length + 2 + 1 - 2 = 2 * W.length + 1 from by omega, Nat.min_eq_right (by omega)]
  have hlen : (mk (machLine rs p g q) :: mk (windLine o) :: ((List.range (2 * W.length)).map (fun i => mk (pairL W i)) ++ [mk []])).length = 2 * W.length + 2 + 1 := by simp
  clear hst hout
  have hrun := run_lines w hg T hTz _ hsp (by rw [hlen]; omega) st out s0 t0 (fun j hj => by
    rw [hlen] at hj
    rcases j with _ | _ | j
    · exact .inr ⟨by rw [List.getElem_cons_zero, tl_mk]; simp [machLine], by rw [t0]; simp, mk [111, 107], by rw [size_mk]; decide, by rw [t0, t1, tl_mk]; rfl, by rw [s0, s1]; exact e0⟩
    · exact .inr ⟨by rw [List.getElem_cons_succ, List.getElem_cons_zero, tl_mk]; simp [windLine], by rw [t1]; decide, mk [111, 107], by rw [size_mk]; decide, by rw [t1, show (0 + 1 + 1 : Nat) = 0 + 2 from rfl, t2 0 (Nat.zero_le _), tl_mk]; rfl, by rw [s1, show (0 + 1 + 1 : Nat) = 0 + 2 from rfl, s2]; exact e1⟩
    · by_cases hl : j < 2 * W.length
      · have hel : ((mk (machLine rs p g q) :: mk (windLine o) :: ((List.range (2 * W.length)).map (fun i => mk (pairL W i)) ++ [mk []])))[j + 1 + 1] = mk (pairL W j) := by
          rw [List.getElem_cons_succ, List.getElem_cons_succ, List.getElem_append_left (by simpa using hl)]; simp
        rw [hel]
        have hwl := wroteL_len N j
        have hwz : (N.length + 6) * j ≤ 206 * 40 := Nat.mul_le_mul (by omega) (by omega)
        refine .inr ⟨?_, by rw [t2 j (by omega), List.length_append]; simp only [List.length_cons, List.length_nil]; omega, if j % 2 = 0 then mk [119, 104, 97, 116] else mk N, ?_, ?_, ?_⟩
        · rw [tl_mk]; unfold pairL
          split
          · exact (hW _ (hget j hl (by assumption))).2.1
          · simp
        · split
          · rw [size_mk]; decide
          · rw [size_mk]; omega
        · rw [show j + 1 + 1 + 1 = (j + 1) + 2 from rfl, t2 (j + 1) (by omega), show j + 1 + 1 = j + 2 from rfl, t2 j (by omega), wroteL, List.append_assoc]
          split
          · rw [tl_mk]; rfl
          · rw [tl_mk]
        · have a1 : st (j + 1 + 1) = deskM rs p g q o [] := s2 j
          have a2 : st (j + 1 + 1 + 1) = deskM rs p g q o [] := s2 (j + 1)
          rw [a1, a2]
          unfold pairL
          by_cases h2 : j % 2 = 0
          · rw [if_pos h2, if_pos h2]; exact (hW _ (hget j hl h2)).2.2
          · rw [if_neg h2, if_neg h2]; exact e2'
      · obtain rfl : j = 2 * W.length := by omega
        refine .inl ⟨?_, ?_, ?_⟩
        · rw [List.getElem_cons_succ, List.getElem_cons_succ, List.getElem_append_right (by simp)]; simp [tl_mk]
        · have a1 : st (2 * W.length + 1 + 1) = deskM rs p g q o [] := s2 _
          have a2 : st (2 * W.length + 1 + 1 + 1) = deskM rs p g q o [] := s2 (2 * W.length + 1)
          rw [a1, a2]
        · exact t3) (by rw [hlen, t3, t2 _ (Nat.le_refl _)]; simp)
  rw [hlen, t3, t2 _ (Nat.le_refl _)] at hrun
  exact hrun

end Go.Proofs.YtoakpacpkkmgnaaGreatDoor
