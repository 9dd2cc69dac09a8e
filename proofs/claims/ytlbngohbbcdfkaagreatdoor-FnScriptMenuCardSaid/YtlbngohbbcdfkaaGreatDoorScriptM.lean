/-
  What impl.RunScript answers to the script of a crib: crib, menu. Conditions: what each theorem names.
-/
import Derived.Test.YtlbngohbbcdfkaaGreatDoorCribRun
namespace Go.Proofs.YtlbngohbbcdfkaaGreatDoor
open Go.RowKit Pl
set_option linter.unusedVariables false

theorem spl_lines2 (c : UInt8) : ∀ (ls : List (List UInt8)), (∀ p ∈ ls, c ∉ p) → spl c (ls.flatMap (· ++ [c])) = ls ++ [[]]
  | [], _ => by simp [spl_none]
  | p :: r, h => by
    rw [List.flatMap_cons, List.append_assoc, List.singleton_append, spl_cons _ (h p (by simp)), spl_lines2 c r fun q hq => h q (by simp [hq])]
    rfl
def cribLine (c k : ByteArray) : List UInt8 := [99, 114, 105, 98] ++ 32 :: (tl c ++ 32 :: tl k)
def menuLine (c k : ByteArray) (t : Nat) : List UInt8 := [109, 101, 110, 117] ++ 32 :: (tl c ++ 32 :: (tl k ++ 32 :: Lib.itoa (t : Int)))
theorem itoa_not (t : Nat) (ht : t ≤ 1000000) {x : UInt8} (hx : x.toNat < 48) : x ∉ Lib.itoa (t : Int) := by
  rw [itoa_nat]
  intro hm
  have := (dec_bounds 13 t (by omega) x hm).1
  omega

theorem exec_crib (d : Dk) (c k : ByteArray) (hc : wv (tl c) = true) (hk : wv (tl k) = true) (hne : cribP (tl c) (tl k) ≠ []) : Exec d (mk (cribLine c k)) d (mk (numsT (cribP (tl c) (tl k)))) := by
  have zc := wv_length hc
  have zk := wv_length hk
  rw [length_tl] at zc zk
  have hfl : spl 32 (tl (mk (tl c ++ 32 :: tl k))) = [tl c, tl k] := by
    rw [tl_mk, spl_cons _ (wv_not hc (by decide)), spl_none (wv_not hk (by decide))]
  have hsz : (mk (tl c ++ 32 :: tl k)).size ≤ 20000 := by rw [size_mk, List.length_append, List.length_cons, length_tl, length_tl]; omega
  have h := exec_rest d d [99, 114, 105, 98] (mk (tl c ++ 32 :: tl k)) (mk (numsT (cribP (tl c) (tl k)))) (by decide) (by decide) hsz 2 95 (enters_of Tryz.func95 (by kernel_rfl) rfl) (by decide) (fun _ => by rw [hfl]; rfl) (fun _ _ _ _ _ _ _ => rfl)
    (fun w a p0 p1 p2 p3 p4 p5 p6 B hml ho hbx hr hB => by
      rw [hfl] at hr ⊢
      have e2 : mkl [tl c, tl k] = [c, k] := by simp [mkl, mk_tl]
      rw [e2] at hr
      exact runCrib_ok w hml d a B c k _ zc hne ho hr hB)
  rw [tl_mk] at h
  exact h
theorem exec_menu (d : Dk) (c k : ByteArray) (t : Nat) (hf : cribF (tl c) (tl k) t = true) (h1 : k.size ≤ 12) (h2 : t + k.size ≤ 60) (hne : menuT (menuL (tl c) (tl k) t) ≠ []) : Exec d (mk (menuLine c k t)) d (mk (menuT (menuL (tl c) (tl k) t))) := by
  obtain ⟨hc, hk, _⟩ := cribF_iff.1 hf
  have zc := wv_length hc
  have zk := wv_length hk
  rw [length_tl] at zc zk
  have zi := (itoa_len t (by omega)).2
  have hfl : spl 32 (tl (mk (tl c ++ 32 :: (tl k ++ 32 :: Lib.itoa (t : Int))))) = [tl c, tl k, Lib.itoa (t : Int)] := by
    rw [tl_mk, spl_cons _ (wv_not hc (by decide)), spl_cons _ (wv_not hk (by decide)), spl_none (itoa_not t (by omega) (by decide))]
  have hsz : (mk (tl c ++ 32 :: (tl k ++ 32 :: Lib.itoa (t : Int)))).size ≤ 20000 := by simp only [size_mk, List.length_append, List.length_cons, length_tl]; omega
  have h := exec_rest d d [109, 101, 110, 117] (mk (tl c ++ 32 :: (tl k ++ 32 :: Lib.itoa (t : Int)))) (mk (menuT (menuL (tl c) (tl k) t))) (by decide) (by decide) hsz 3 96 (enters_of Tryz.func96 (by kernel_rfl) rfl) (by decide) (fun _ => by rw [hfl]; rfl) (fun _ _ _ _ _ _ _ => rfl)
    (fun w a p0 p1 p2 p3 p4 p5 p6 B hml ho hbx hr hB => by
      rw [hfl] at hr ⊢
      have e2 : mkl [tl c, tl k, Lib.itoa (t : Int)] = [c, k, mk (Lib.itoa (t : Int))] := by simp [mkl, mk_tl]
      rw [e2] at hr
      exact runMenu_ok w hml d a B c k t _ hf h1 h2 ho hr hB hne)
  rw [tl_mk] at h
  exact h

theorem menuT_ne {m : List Lnk} (h : m ≠ []) : menuT m ≠ [] := by
  cases m with
  | nil => exact absurd rfl h
  | cons x r =>
    unfold menuT
    rw [List.map_cons, Lib.join_cons]
    have : Lib.itoa (x.2.2 : Int) ≠ [] := by rw [itoa_nat]; exact dec_ne _
    simp [lnkT, this]
theorem nums_len {l : List Nat} (h : ∀ n ∈ l, n < 200) (hl : l.length ≤ 200) : (numsT l).length ≤ 10000 := by
  unfold numsT
  refine Nat.le_trans (join_le _ _ 30 ?_) ?_
  · intro s hs
    obtain ⟨x, hx, rfl⟩ := List.mem_map.1 hs
    have := h x hx
    have := itoa_size x (by omega)
    rw [size_mk] at this; exact this
  · simp only [List.length_map, List.length_singleton]; omega
theorem menuT_len {m : List Lnk} (h : menuV m) : (menuT m).length ≤ 1000 := by
  obtain ⟨h1, h2, hall, _⟩ := h
  unfold menuT
  refine Nat.le_trans (join_le _ _ 40 ?_) ?_
  · intro s hs
    obtain ⟨x, hx, rfl⟩ := List.mem_map.1 hs
    obtain ⟨y1, y2, _, _, y5, y6⟩ := hall x hx
    have := itoa_size x.2.2 (by omega)
    rw [size_mk] at this
    unfold lnkT
    simp only [List.length_append, length_tl]; omega
  · simp only [List.length_map, List.length_singleton]; omega

theorem run_menu (w : World) (hg : GW w) (T c k : ByteArray) (t : Nat) (hf : cribF (tl c) (tl k) t = true) (h1 : k.size ≤ 12) (h2 : t + k.size ≤ 60)
    (hT : tl T = [cribLine c k, menuLine c k t].flatMap (· ++ [10])) :
    Calls Tryz.prog 12 #[.string T] w fun e w' => e = .returned (.string (mk (numsT (cribP (tl c) (tl k)) ++ [10] ++ (menuT (menuL (tl c) (tl k) t) ++ [10])))) ∧ Below w.heap.size w w' := by
  obtain ⟨hc, hk, hkn, _, hle, _⟩ := cribF_iff.1 hf
  have zc := wv_length hc
  have zk := wv_length hk
  rw [length_tl] at zc zk hle
  rw [length_tl] at hle
  have hkp : 0 < k.size := by rw [← length_tl]; exact List.length_pos_iff.2 hkn
  have hmem : t ∈ cribP (tl c) (tl k) := List.mem_filter.2 ⟨List.mem_range.2 (by rw [length_tl]; omega), hf⟩
  have hpne : cribP (tl c) (tl k) ≠ [] := fun e => by rw [e] at hmem; simp at hmem
  have hmv := menuL_valid hf (by rw [length_tl]; exact h1) (by rw [length_tl]; exact h2)
  have hmne : menuL (tl c) (tl k) t ≠ [] := fun e => by have := hmv.1; rw [e] at this; simp at this
  have hmt := menuT_ne hmne
  have hpm : ∀ n ∈ cribP (tl c) (tl k), n < 200 := fun n hn => by
    have := List.mem_range.1 (List.mem_filter.1 hn).1
    rw [length_tl] at this; omega
  have hpl : (cribP (tl c) (tl k)).length ≤ 200 := by
    unfold cribP
    exact Nat.le_trans (List.length_filter_le _ _) (by rw [List.length_range, length_tl]; exact zc)
  have hnl := nums_len hpm hpl
  have hml := menuT_len hmv
  have zi := (itoa_len t (by omega)).2
  have hn : ∀ p ∈ [cribLine c k, menuLine c k t], (10 : UInt8) ∉ p := by
    intro p hp
    simp only [List.mem_cons, List.not_mem_nil, or_false] at hp
    rcases hp with rfl | rfl
    · unfold cribLine
      simp only [List.mem_append, List.mem_cons, not_or]
      exact ⟨by decide, by decide, wv_not hc (by decide), by decide, wv_not hk (by decide)⟩
    · unfold menuLine
      simp only [List.mem_append, List.mem_cons, not_or]
      exact ⟨by decide, by decide, wv_not hc (by decide), by decide, wv_not hk (by decide), by decide, itoa_not t (by omega) (by decide)⟩
  have hsp : mkl (spl 10 (tl T)) = [mk (cribLine c k), mk (menuLine c k t), mk []] := by rw [hT, spl_lines2 10 _ hn]; rfl
  have hTz : T.size ≤ 20000 := by
    rw [← length_tl, hT]
    unfold cribLine menuLine
    simp only [List.flatMap_cons, List.flatMap_nil, List.append_nil, List.length_append, List.length_cons, List.length_nil, length_tl]
    omega
  have e0 := exec_crib Dk.empty c k hc hk hpne
  have e1 := exec_menu Dk.empty c k t hf h1 h2 hmt
  obtain ⟨N, hN⟩ : ∃ N, N = numsT (cribP (tl c) (tl k)) := ⟨_, rfl⟩
  obtain ⟨M, hM⟩ : ∃ M, M = menuT (menuL (tl c) (tl k) t) := ⟨_, rfl⟩
  rw [← hN] at hnl e0 ⊢
  rw [← hM] at hml e1 hmt ⊢
  have hrun := run_lines w hg T hTz _ hsp (by simp) (fun _ => Dk.empty) (fun j => if j = 0 then [] else if j = 1 then N ++ [10] else N ++ [10] ++ (M ++ [10])) rfl rfl (fun j hj => by
    have hj3 : j = 0 ∨ j = 1 ∨ j = 2 := by simp at hj; omega
    rcases hj3 with rfl | rfl | rfl
    · exact .inr ⟨by simp only [List.getElem_cons_zero]; rw [tl_mk]; simp [cribLine], by simp, mk N, by rw [size_mk]; omega, by simp [tl_mk], e0⟩
    · exact .inr ⟨by simp only [List.getElem_cons_zero, List.getElem_cons_succ]; rw [tl_mk]; simp [menuLine], by simp; omega, mk M, by rw [size_mk]; omega, by simp [tl_mk], e1⟩
    · exact .inl ⟨by simp only [List.getElem_cons_zero, List.getElem_cons_succ]; rw [tl_mk], rfl, by simp⟩) (by simp)
  exact hrun

end Go.Proofs.YtlbngohbbcdfkaaGreatDoor
