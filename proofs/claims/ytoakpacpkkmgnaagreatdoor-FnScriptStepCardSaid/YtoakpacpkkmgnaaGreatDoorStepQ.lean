/-
  What impl.RunScript answers to the script of a setting, step and period. Conditions: what each theorem names.
-/
import Derived.Test.YtoakpacpkkmgnaaGreatDoorStepR
import Derived.Test.YtoakpacpkkmgnaaGreatDoorScriptS
namespace Go.Proofs.YtoakpacpkkmgnaaGreatDoor
open Go.RowKit Pl
set_option linter.unusedVariables false

def stepLine (n : Nat) : List UInt8 := [115, 116, 101, 112] ++ 32 :: Lib.itoa (n : Int)
theorem itoa_chars (n : Nat) (hn : n ≤ 1000000000000) : ∀ c ∈ Lib.itoa (n : Int), 48 ≤ c.toNat ∧ c.toNat ≤ 57 := by
  rw [itoa_nat]; exact dec_bounds 13 n (by omega)
theorem exec_step (d : Dk) (n : Nat) (hn : n ≤ 2000) (hv : WinV d.rs d.rf d.wi) (hm : tl d.wi ≠ []) : Exec d (mk (stepLine n)) ⟨d.rs, d.rf, d.ri, d.pl, stepW d.rs d.wi n, d.bk⟩ (stepW d.rs d.wi n) := by
  have h1 := (itoa_len n (by omega)).2
  have h := exec_restM d ⟨d.rs, d.rf, d.ri, d.pl, stepW d.rs d.wi n, d.bk⟩ [115, 116, 101, 112] (mk (Lib.itoa (n : Int))) (stepW d.rs d.wi n) (by decide) (by decide) (by rw [size_mk]; omega) (-1) 107 (enters_of Tryz.func107 (by kernel_rfl) rfl) (by decide) hm (fun h => absurd h (by decide)) (fun _ _ _ _ _ _ _ => rfl)
    (fun w a p0 p1 p2 p3 p4 p5 p6 B hml ho hbx hr hB => runStep_ok w hml d a (mk (Lib.itoa (n : Int))) _ n (stepW d.rs d.wi n) (fun w' hg' => readNumber_ok w' hg' n (by omega)) (fun w' A cap h' hc' => stepMany_yes w' A cap d.rs d.rf d.wi n hn h' hc' hv) ho)
  rw [tl_mk] at h
  exact h
theorem exec_period (d : Dk) (le pe : Nat) (hle : le ≤ 1000) (hpe : pe ≤ 2000) (hcy : CycAt d.rs d.rf d.wi le pe) (hv : WinV d.rs d.rf d.wi) (hm : tl d.wi ≠ []) : Exec d (mk [112, 101, 114, 105, 111, 100]) d (mk (Lib.itoa (pe : Int)) ++ ⟨#[32]⟩ ++ mk (Lib.itoa (le : Int))) :=
  exec_bareM d d [112, 101, 114, 105, 111, 100] (mk (Lib.itoa (pe : Int)) ++ ⟨#[32]⟩ ++ mk (Lib.itoa (le : Int))) (by decide) (by decide) 110 (enters_of Tryz.func110 (by kernel_rfl) rfl) hm (fun _ _ _ _ _ _ _ => rfl)
    (fun w a p0 p1 p2 p3 p4 p5 p6 hml ho hbx => runPeriod_ok w hml d a _ _ le pe hle hpe hcy hv ho)

theorem run_step (w : World) (hg : GW w) (T : ByteArray) (rs : List (ByteArray × ByteArray)) (p g o : ByteArray) (q : List Nat) (n le pe : Nat) (hn : n ≤ 2000) (hv : WinV rs p g) (hq : Prm q) (hi : invP q = q) (ho : o.size = g.size) (hwo : wv (tl o) = true)
    (hle : le ≤ 1000) (hpe : pe ≤ 2000) (hcy : CycAt rs p (stepW rs o n) le pe)
    (hT : tl T = [machLine rs p g q, windLine o, stepLine n, [112, 101, 114, 105, 111, 100]].flatMap (· ++ [10])) :
    Calls Tryz.prog 13 #[.string T] w fun e w' => e = .returned (.string (mk ([111, 107, 10, 111, 107, 10] ++ (tl (stepW rs o n) ++ [10]) ++ (tl (mk (Lib.itoa (pe : Int)) ++ ⟨#[32]⟩ ++ mk (Lib.itoa (le : Int))) ++ [10])))) ∧ Below w.heap.size w w' := by
  have hg1 : 1 ≤ g.size ∧ g.size ≤ 3 := ⟨by have := hv.1.1; have := hv.2.1; omega, by have := hv.1.2.1; have := hv.2.1; omega⟩
  have hmz := @machT_len rs p g q hv
  have hvo : WinV rs p o := ⟨hv.1, by rw [ho]; exact hv.2.1, hwo⟩
  have hvs := stepW_ok hvo n
  have hon : tl o ≠ [] := by intro e; have := congrArg List.length e; rw [length_tl, List.length_nil] at this; omega
  have hrn : tl (mk (List.replicate g.size (97 : UInt8))) ≠ [] := by rw [tl_mk]; intro e; have := congrArg List.length e; rw [List.length_replicate, List.length_nil] at this; omega
  have hsz := stepW_size rs o n
  have hsn : tl (stepW rs o n) ≠ [] := by intro e; have := congrArg List.length e; rw [length_tl, List.length_nil] at this; omega
  have zn := (itoa_len n (by omega)).2
  have zp := (itoa_len pe (by omega)).2
  have zl := (itoa_len le (by omega)).2
  have hnl : ∀ x ∈ [machLine rs p g q, windLine o, stepLine n, [112, 101, 114, 105, 111, 100]], (10 : UInt8) ∉ x := by
    intro x hx
    simp only [List.mem_cons, List.not_mem_nil, or_false] at hx
    rcases hx with rfl | rfl | rfl | rfl
    · unfold machLine
      simp only [List.mem_append, not_or]
      exact ⟨by decide, by rw [List.mem_cons, not_or]; exact ⟨by decide, machT_chars hv hq (by decide) (by decide) (by decide) (by decide) (by decide) (by decide)⟩⟩
    · unfold windLine
      simp only [List.mem_append, not_or]
      exact ⟨by decide, by rw [List.mem_cons, not_or]; exact ⟨by decide, wv_not hwo (by decide)⟩⟩
    · unfold stepLine
      simp only [List.mem_append, not_or]
      have hni : (10 : UInt8) ∉ Lib.itoa (n : Int) := fun hm => by
        have h3 := (itoa_chars n (by omega) _ hm).1
        revert h3; decide
      exact ⟨by decide, by rw [List.mem_cons, not_or]; exact ⟨by decide, hni⟩⟩
    · decide
  have hsp : mkl (spl 10 (tl T)) = [mk (machLine rs p g q), mk (windLine o), mk (stepLine n), mk [112, 101, 114, 105, 111, 100], mk []] := by rw [hT, spl_lines3 10 _ hnl]; rfl
  have hTz : T.size ≤ 20000 := by
    rw [← length_tl, hT]
    unfold machLine windLine stepLine
    simp only [List.flatMap_cons, List.flatMap_nil, List.append_nil, List.length_append, List.length_cons, List.length_nil, length_tl]
    omega
  have e0 := exec_machine Dk.empty rs p g q hv hq hi
  have e1 := exec_windows (deskM rs p g q (mk (List.replicate g.size 97)) []) q o hv hq hi rfl ho hwo hrn
  have e2 := exec_step (deskM rs p g q o []) n hn hvo hon
  have e3 := exec_period (deskM rs p g q (stepW rs o n) []) le pe hle hpe hcy hvs hsn
  obtain ⟨s, hs⟩ : ∃ s, s = stepW rs o n := ⟨_, rfl⟩
  obtain ⟨u, hu⟩ : ∃ u, u = mk (Lib.itoa (pe : Int)) ++ ⟨#[32]⟩ ++ mk (Lib.itoa (le : Int)) := ⟨_, rfl⟩
  have huz : u.size ≤ 40 := by
    rw [hu, ByteArray.size_append, ByteArray.size_append, size_mk, size_mk]
    have : (⟨#[32]⟩ : ByteArray).size = 1 := rfl
    omega
  have e2' : Exec (deskM rs p g q o []) (mk (stepLine n)) (deskM rs p g q s []) s := by rw [hs]; exact e2
  have e3' : Exec (deskM rs p g q s []) (mk [112, 101, 114, 105, 111, 100]) (deskM rs p g q s []) u := by rw [hs, hu]; exact e3
  rw [← hs] at hsz ⊢
  rw [← hu]
  clear e2 e3 hs hu zn zp zl hcy
  have hrun := run_lines w hg T hTz _ hsp (by simp) (fun j => if j = 0 then Dk.empty else if j = 1 then deskM rs p g q (mk (List.replicate g.size 97)) [] else if j = 2 then deskM rs p g q o [] else deskM rs p g q s []) (fun j => if j = 0 then [] else if j = 1 then [111, 107, 10] else if j = 2 then [111, 107, 10, 111, 107, 10] else if j = 3 then [111, 107, 10, 111, 107, 10] ++ (tl s ++ [10]) else [111, 107, 10, 111, 107, 10] ++ (tl s ++ [10]) ++ (tl u ++ [10])) rfl rfl (fun j hj => by
    have hj3 : j = 0 ∨ j = 1 ∨ j = 2 ∨ j = 3 ∨ j = 4 := by simp at hj; omega
    rcases hj3 with rfl | rfl | rfl | rfl | rfl
    · exact .inr ⟨by simp only [List.getElem_cons_zero]; rw [tl_mk]; simp [machLine], by simp, mk [111, 107], by rw [size_mk]; decide, by simp [tl_mk], e0⟩
    · exact .inr ⟨by simp only [List.getElem_cons_zero, List.getElem_cons_succ]; rw [tl_mk]; simp [windLine], by simp, mk [111, 107], by rw [size_mk]; decide, by simp [tl_mk], e1⟩
    · exact .inr ⟨by simp only [List.getElem_cons_zero, List.getElem_cons_succ]; rw [tl_mk]; simp [stepLine], by simp, s, by omega, by simp, e2'⟩
    · exact .inr ⟨by simp only [List.getElem_cons_zero, List.getElem_cons_succ]; rw [tl_mk]; simp, by simp [length_tl]; omega, u, by omega, by simp, e3'⟩
    · exact .inl ⟨by simp only [List.getElem_cons_zero, List.getElem_cons_succ]; rw [tl_mk], rfl, by simp⟩) (by simp)
  exact hrun

end Go.Proofs.YtoakpacpkkmgnaaGreatDoor
