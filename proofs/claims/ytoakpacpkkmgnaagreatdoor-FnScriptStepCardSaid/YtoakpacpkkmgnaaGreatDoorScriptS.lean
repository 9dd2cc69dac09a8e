/-
  What impl.RunScript answers to the script of a setting and show. Conditions: what each theorem names.
-/
import Derived.Test.YtoakpacpkkmgnaaGreatDoorShowR
namespace Go.Proofs.YtoakpacpkkmgnaaGreatDoor
open Go.RowKit Pl
set_option linter.unusedVariables false

theorem spl_lines3 (c : UInt8) : ∀ (ls : List (List UInt8)), (∀ p ∈ ls, c ∉ p) → spl c (ls.flatMap (· ++ [c])) = ls ++ [[]]
  | [], _ => by simp [spl_none]
  | p :: r, h => by
    rw [List.flatMap_cons, List.append_assoc, List.singleton_append, spl_cons _ (h p (by simp)), spl_lines3 c r fun q hq => h q (by simp [hq])]
    rfl
def machLine (rs : List (ByteArray × ByteArray)) (p g : ByteArray) (q : List Nat) : List UInt8 := [109, 97, 99, 104, 105, 110, 101] ++ 32 :: machT rs p g q
def windLine (o : ByteArray) : List UInt8 := [119, 105, 110, 100, 111, 119, 115] ++ 32 :: tl o
abbrev deskM (rs : List (ByteArray × ByteArray)) (p g : ByteArray) (q : List Nat) (o : ByteArray) (bk : List Ent) : Dk := ⟨rs, p, g, pT q, o, bk⟩

theorem exec_machine (d : Dk) (rs : List (ByteArray × ByteArray)) (p g : ByteArray) (q : List Nat) (hv : WinV rs p g) (hq : Prm q) (hi : invP q = q) : Exec d (mk (machLine rs p g q)) (deskM rs p g q (mk (List.replicate g.size 97)) d.bk) (mk [111, 107]) := by
  have hz := @machT_len rs p g q hv
  have h := exec_rest d (deskM rs p g q (mk (List.replicate g.size 97)) d.bk) [109, 97, 99, 104, 105, 110, 101] (mk (machT rs p g q)) (mk [111, 107]) (by decide) (by decide) (by rw [size_mk]; omega) (-1) 104 (enters_of Tryz.func104 (by kernel_rfl) rfl) (by decide) (fun h => absurd h (by decide)) (fun _ _ _ _ _ _ _ => rfl)
    (fun w a p0 p1 p2 p3 p4 p5 p6 B hml ho hbx hr hB => runMachine_ok w hml d a rs p g q _ hv hq hi ho)
  rw [tl_mk] at h
  exact h
theorem exec_windows (d : Dk) (q : List Nat) (o : ByteArray) (hv : WinV d.rs d.rf d.ri) (hq : Prm q) (hi : invP q = q) (hp : d.pl = pT q) (hz : o.size = d.ri.size) (hwo : wv (tl o) = true) (hm : tl d.wi ≠ []) : Exec d (mk (windLine o)) ⟨d.rs, d.rf, d.ri, d.pl, o, d.bk⟩ (mk [111, 107]) := by
  have hoz : o.size ≤ 20000 := by have := wv_length hwo; rw [length_tl] at this; omega
  exact exec_restM d ⟨d.rs, d.rf, d.ri, d.pl, o, d.bk⟩ [119, 105, 110, 100, 111, 119, 115] o (mk [111, 107]) (by decide) (by decide) hoz (-1) 105 (enters_of Tryz.func105 (by kernel_rfl) rfl) (by decide) hm (fun h => absurd h (by decide)) (fun _ _ _ _ _ _ _ => rfl)
    (fun w a p0 p1 p2 p3 p4 p5 p6 B hml ho hbx hr hB => runWindows_ok w d a q o _ hv hq hi hp hz hwo ho)
theorem exec_show (d : Dk) (q : List Nat) (hv : WinV d.rs d.rf d.ri) (hq : Prm q) (hi : invP q = q) (hp : d.pl = pT q) (hz : d.wi.size ≤ 3) (hwn : tl d.wi ≠ []) (hbk : d.bk.length = 0) : Exec d (mk [115, 104, 111, 119]) d (mk (showT d.rs d.rf d.ri q d.wi)) :=
  exec_bare d d [115, 104, 111, 119] (mk (showT d.rs d.rf d.ri q d.wi)) (by decide) (by decide) 133 (enters_of Tryz.func133 (by kernel_rfl) rfl) (fun _ _ _ _ _ _ _ => rfl)
    (fun w a p0 p1 p2 p3 p4 p5 p6 hml ho hbx => runShow_ok w d a q _ _ hv hq hi hp hz hwn hbk ho)

theorem run_show (w : World) (hg : GW w) (T : ByteArray) (rs : List (ByteArray × ByteArray)) (p g o : ByteArray) (q : List Nat) (hv : WinV rs p g) (hq : Prm q) (hi : invP q = q) (ho : o.size = g.size) (hwo : wv (tl o) = true)
    (hT : tl T = [machLine rs p g q, windLine o, [115, 104, 111, 119]].flatMap (· ++ [10])) :
    Calls Tryz.prog 13 #[.string T] w fun e w' => e = .returned (.string (mk ([111, 107, 10, 111, 107, 10] ++ (showT rs p g q o ++ [10])))) ∧ Below w.heap.size w w' := by
  have hg1 : 1 ≤ g.size ∧ g.size ≤ 3 := ⟨by have := hv.1.1; have := hv.2.1; omega, by have := hv.1.2.1; have := hv.2.1; omega⟩
  have hmz := @machT_len rs p g q hv
  have hon : tl o ≠ [] := by intro e; have := congrArg List.length e; rw [length_tl, List.length_nil] at this; omega
  have hrn : tl (mk (List.replicate g.size (97 : UInt8))) ≠ [] := by rw [tl_mk]; intro e; have := congrArg List.length e; rw [List.length_replicate, List.length_nil] at this; omega
  have hn : ∀ x ∈ [machLine rs p g q, windLine o, [115, 104, 111, 119]], (10 : UInt8) ∉ x := by
    intro x hx
    simp only [List.mem_cons, List.not_mem_nil, or_false] at hx
    rcases hx with rfl | rfl | rfl
    · unfold machLine
      simp only [List.mem_append, not_or]
      exact ⟨by decide, by rw [List.mem_cons, not_or]; exact ⟨by decide, machT_chars hv hq (by decide) (by decide) (by decide) (by decide) (by decide) (by decide)⟩⟩
    · unfold windLine
      simp only [List.mem_append, not_or]
      exact ⟨by decide, by rw [List.mem_cons, not_or]; exact ⟨by decide, wv_not hwo (by decide)⟩⟩
    · decide
  have hsp : mkl (spl 10 (tl T)) = [mk (machLine rs p g q), mk (windLine o), mk [115, 104, 111, 119], mk []] := by rw [hT, spl_lines3 10 _ hn]; rfl
  have hTz : T.size ≤ 20000 := by
    rw [← length_tl, hT]
    unfold machLine windLine
    simp only [List.flatMap_cons, List.flatMap_nil, List.append_nil, List.length_append, List.length_cons, List.length_nil, length_tl]
    omega
  have hsz : (showT rs p g q o).length ≤ 200 := by
    unfold showT
    simp only [List.length_append, List.length_cons, List.length_nil, length_tl]; omega
  have e0 := exec_machine Dk.empty rs p g q hv hq hi
  have e1 := exec_windows (deskM rs p g q (mk (List.replicate g.size 97)) []) q o hv hq hi rfl ho hwo hrn
  have e2 := exec_show (deskM rs p g q o []) q hv hq hi rfl (by show o.size ≤ 3; omega) hon rfl
  obtain ⟨N, hN⟩ : ∃ N, N = showT rs p g q o := ⟨_, rfl⟩
  have e2' : Exec (deskM rs p g q o []) (mk [115, 104, 111, 119]) (deskM rs p g q o []) (mk N) := by rw [hN]; exact e2
  rw [← hN] at hsz ⊢
  have hrun := run_lines w hg T hTz _ hsp (by simp) (fun j => if j = 0 then Dk.empty else if j = 1 then deskM rs p g q (mk (List.replicate g.size 97)) [] else deskM rs p g q o []) (fun j => if j = 0 then [] else if j = 1 then [111, 107, 10] else if j = 2 then [111, 107, 10, 111, 107, 10] else [111, 107, 10, 111, 107, 10] ++ (N ++ [10])) rfl rfl (fun j hj => by
    have hj3 : j = 0 ∨ j = 1 ∨ j = 2 ∨ j = 3 := by simp at hj; omega
    rcases hj3 with rfl | rfl | rfl | rfl
    · exact .inr ⟨by simp only [List.getElem_cons_zero]; rw [tl_mk]; simp [machLine], by simp, mk [111, 107], by rw [size_mk]; decide, by simp [tl_mk], e0⟩
    · exact .inr ⟨by simp only [List.getElem_cons_zero, List.getElem_cons_succ]; rw [tl_mk]; simp [windLine], by simp, mk [111, 107], by rw [size_mk]; decide, by simp [tl_mk], e1⟩
    · exact .inr ⟨by simp only [List.getElem_cons_zero, List.getElem_cons_succ]; rw [tl_mk]; simp, by simp, mk N, by rw [size_mk]; omega, by simp [tl_mk], e2'⟩
    · exact .inl ⟨by simp only [List.getElem_cons_zero, List.getElem_cons_succ]; rw [tl_mk], rfl, by simp⟩) (by simp)
  exact hrun

end Go.Proofs.YtoakpacpkkmgnaaGreatDoor
