/-
  What impl.execute answers to the wrong lines of the law FnScriptWrong. Conditions: what each theorem names.
-/
import Derived.Test.YtoakpacpkkmgnaaGreatDoorWrongP
import Derived.Test.YtoakpacpkkmgnaaGreatDoorWrongD
namespace Go.Proofs.YtoakpacpkkmgnaaGreatDoor
open Go.RowKit Pl
set_option linter.unusedVariables false

theorem dec_2001 : Lib.itoa ((2001 : Nat) : Int) = [50, 48, 48, 49] := by decide +kernel
theorem dec_6 : Lib.itoa ((6 : Nat) : Int) = [54] := by decide +kernel
theorem dec_0 : Lib.itoa ((0 : Nat) : Int) = [48] := by decide +kernel

/-- the wrong lines -/
def wrongs (o : ByteArray) : List (List UInt8) :=
  [[107, 101, 121, 115], [107, 101, 121, 32], [119, 105, 110, 100, 111, 119, 115, 32, 107], [119, 105, 110, 100, 111, 119, 115, 32] ++ (tl o ++ [97]), [115, 116, 101, 112, 32, 50, 48, 48, 49], [115, 116, 101, 112, 32, 120],
   [109, 97, 99, 104, 105, 110, 101, 32, 120], [112, 108, 117, 103, 115, 32, 97, 97], [98, 111, 111, 107, 32, 97], [100, 97, 121, 32, 48], [100, 97, 121, 32, 54, 32, 48], [101, 110, 99, 105, 112, 104, 101, 114, 32, 107], [101, 110, 99, 105, 112, 104, 101, 114, 32]]

theorem wrongs_all (rs : List (ByteArray × ByteArray)) (p g o : ByteArray) (q : List Nat) (hv : WinV rs p g) (hq : Prm q) (hi : invP q = q) (ho : o.size = g.size) (hwo : wv (tl o) = true) :
    ∀ x ∈ wrongs o, (10 : UInt8) ∉ x ∧ x ≠ [] ∧ Exec (deskM rs p g q o []) (mk x) (deskM rs p g q o []) (mk [119, 104, 97, 116]) := by
  have hvo : WinV rs p o := ⟨hv.1, by rw [ho]; exact hv.2.1, hwo⟩
  have hg1 : 1 ≤ g.size ∧ g.size ≤ 3 := ⟨by have := hv.1.1; have := hv.2.1; omega, by have := hv.1.2.1; have := hv.2.1; omega⟩
  have hon : tl o ≠ [] := by intro e; have := congrArg List.length e; rw [length_tl, List.length_nil] at this; omega
  obtain ⟨d, hd⟩ : ∃ d, d = deskM rs p g q o [] := ⟨_, rfl⟩
  have e1 : d.rs = rs := by rw [hd]
  have e2 : d.rf = p := by rw [hd]
  have e3 : d.ri = g := by rw [hd]
  have e4 : d.pl = pT q := by rw [hd]
  have e5 : d.wi = o := by rw [hd]
  rw [← hd]
  clear hd
  rw [← e1, ← e2, ← e3] at hv
  rw [← e1, ← e2, ← e5] at hvo
  have hm : tl d.wi ≠ [] := by rw [e5]; exact hon
  have h32 : spl 32 (tl (mk [54, 32, 48])) = [[54], [48]] := by decide
  have r6 : ∀ w', GW w' → Calls Tryz.prog 163 #[.string (mk [54])] w' fun e w'' => e = .returned (.tuple #[.int .i64 6, .bool true]) ∧ Below w'.heap.size w' w'' := fun w' hg' => by
    have h := readNumber_ok w' hg' 6 (by decide); rw [dec_6] at h; exact h
  have r0 : ∀ w', GW w' → Calls Tryz.prog 163 #[.string (mk [48])] w' fun e w'' => e = .returned (.tuple #[.int .i64 0, .bool true]) ∧ Below w'.heap.size w' w'' := fun w' hg' => by
    have h := readNumber_ok w' hg' 0 (by decide); rw [dec_0] at h; exact h
  intro x hx
  unfold wrongs at hx
  simp only [List.mem_cons, List.not_mem_nil, or_false] at hx
  rcases hx with rfl | rfl | rfl | rfl | rfl | rfl | rfl | rfl | rfl | rfl | rfl | rfl | rfl
  · exact ⟨by decide, by simp, exec_unknown d [107, 101, 121, 115] (by decide) (by decide) (fun _ _ _ _ _ _ _ => rfl)⟩
  · exact ⟨by decide, by simp, exec_misfit d [107, 101, 121] ⟨#[]⟩ (by decide) (by decide) (by decide) 109 true (fun _ _ _ _ _ _ _ => rfl)⟩
  · exact ⟨by decide, by simp, exec_restM d d [119, 105, 110, 100, 111, 119, 115] (mk [107]) (mk [119, 104, 97, 116]) (by decide) (by decide) (by decide) (-1) 105 (enters_of Tryz.func105 (by kernel_rfl) rfl) (by decide) hm (fun h => absurd h (by decide)) (fun _ _ _ _ _ _ _ => rfl)
      (fun w a p0 p1 p2 p3 p4 p5 p6 B hml hoo hbx hr hB => runWindows_no w d a q (mk [107]) _ hv hq hi e4 (by decide) (.inr rfl) hoo)⟩
  · have hoa : tl (o ++ mk [97]) = tl o ++ [97] := by rw [append_tl]; rfl
    refine ⟨?_, by simp, ?_⟩
    · simp only [List.mem_append, not_or]
      exact ⟨by decide, wv_not hwo (by decide), by decide⟩
    · have h := exec_restM d d [119, 105, 110, 100, 111, 119, 115] (o ++ mk [97]) (mk [119, 104, 97, 116]) (by decide) (by decide) (by rw [← length_tl, hoa, List.length_append, length_tl]; simp; omega) (-1) 105 (enters_of Tryz.func105 (by kernel_rfl) rfl) (by decide) hm (fun h => absurd h (by decide)) (fun _ _ _ _ _ _ _ => rfl)
        (fun w a p0 p1 p2 p3 p4 p5 p6 B hml hoo hbx hr hB => runWindows_no w d a q (o ++ mk [97]) _ hv hq hi e4 (by rw [← length_tl, hoa, List.length_append, length_tl]; simp; omega) (.inl (by rw [e3, ← ho]; rw [← length_tl (o ++ mk [97]), hoa, List.length_append, length_tl]; simp)) hoo)
      rw [hoa] at h
      exact h
  · exact ⟨by decide, by simp, exec_restM d d [115, 116, 101, 112] (mk [50, 48, 48, 49]) (mk [119, 104, 97, 116]) (by decide) (by decide) (by decide) (-1) 107 (enters_of Tryz.func107 (by kernel_rfl) rfl) (by decide) hm (fun h => absurd h (by decide)) (fun _ _ _ _ _ _ _ => rfl)
      (fun w a p0 p1 p2 p3 p4 p5 p6 B hml hoo hbx hr hB => runStep_no w hml d a (mk [50, 48, 48, 49]) _ 2001 ⟨#[]⟩ true false (fun w' hg' => by have h := readNumber_ok w' hg' 2001 (by decide); rw [dec_2001] at h; exact h) (fun w' A cap h' hc' => stepMany_far w' A cap d.rs d.rf d.wi h' hc' hvo) (.inr ⟨rfl, rfl⟩) hoo)⟩
  · exact ⟨by decide, by simp, exec_restM d d [115, 116, 101, 112] (mk [120]) (mk [119, 104, 97, 116]) (by decide) (by decide) (by decide) (-1) 107 (enters_of Tryz.func107 (by kernel_rfl) rfl) (by decide) hm (fun h => absurd h (by decide)) (fun _ _ _ _ _ _ _ => rfl)
      (fun w a p0 p1 p2 p3 p4 p5 p6 B hml hoo hbx hr hB => runStep_no w hml d a (mk [120]) _ 0 d.wi false true (fun w' hg' => readNumber_x w' hg') (fun w' A cap h' hc' => stepMany_zero w' A cap d.rs d.rf d.wi h' hc' hvo) (.inl rfl) hoo)⟩
  · exact ⟨by decide, by simp, exec_rest d d [109, 97, 99, 104, 105, 110, 101] (mk [120]) (mk [119, 104, 97, 116]) (by decide) (by decide) (by decide) (-1) 104 (enters_of Tryz.func104 (by kernel_rfl) rfl) (by decide) (fun h => absurd h (by decide)) (fun _ _ _ _ _ _ _ => rfl)
      (fun w a p0 p1 p2 p3 p4 p5 p6 B hml hoo hbx hr hB => runMachine_no w hml d a (mk [120]) _ (fun w' hg' => parseMachine_x w' hg'.ml) hoo)⟩
  · exact ⟨by decide, by simp, exec_restM d d [112, 108, 117, 103, 115] (mk [97, 97]) (mk [119, 104, 97, 116]) (by decide) (by decide) (by decide) (-1) 106 (enters_of Tryz.func106 (by kernel_rfl) rfl) (by decide) hm (fun h => absurd h (by decide)) (fun _ _ _ _ _ _ _ => rfl)
      (fun w a p0 p1 p2 p3 p4 p5 p6 B hml hoo hbx hr hB => runPlugs_no w hml d a (mk [97, 97]) _ (fun w' hg' => parsePlugs_aa w' hg'.ml) hoo)⟩
  · exact ⟨by decide, by simp, exec_rest d d [98, 111, 111, 107] (mk [97]) (mk [119, 104, 97, 116]) (by decide) (by decide) (by decide) (-1) 130 (enters_of Tryz.func130 (by kernel_rfl) rfl) (by decide) (fun h => absurd h (by decide)) (fun _ _ _ _ _ _ _ => rfl)
      (fun w a p0 p1 p2 p3 p4 p5 p6 B hml hoo hbx hr hB => runBook_no w hml d a (mk [97]) _ (fun w' hg' => parseBook_a w' hg'.ml) hoo)⟩
  · exact ⟨by decide, by simp, exec_count d [100, 97, 121] (mk [48]) (by decide) (by decide) (by decide) 2 115 (by decide) hm (by rw [tl_mk, spl_none (by decide)]; decide) (fun _ _ _ _ _ _ _ => rfl)⟩
  · exact ⟨by decide, by simp, exec_restM d d [100, 97, 121] (mk [54, 32, 48]) (mk [119, 104, 97, 116]) (by decide) (by decide) (by decide) 2 115 (enters_of Tryz.func115 (by kernel_rfl) rfl) (by decide) hm (fun h => by rw [h32]; rfl) (fun _ _ _ _ _ _ _ => rfl)
      (fun w a p0 p1 p2 p3 p4 p5 p6 B hml hoo hbx hr hB => by rw [h32] at hr ⊢; exact runDay_no w hml d a B (mk [54]) (mk [48]) (mk [54, 32, 48]) hvo.1 r6 r0 hr hB hoo)⟩
  · exact ⟨by decide, by simp, exec_restM d d [101, 110, 99, 105, 112, 104, 101, 114] (mk [107]) (mk [119, 104, 97, 116]) (by decide) (by decide) (by decide) (-1) 108 (enters_of Tryz.func108 (by kernel_rfl) rfl) (by decide) hm (fun h => absurd h (by decide)) (fun _ _ _ _ _ _ _ => rfl)
      (fun w a p0 p1 p2 p3 p4 p5 p6 B hml hoo hbx hr hB => runEncipher_no w hml d a (mk [107]) _ (fun w' hg' => readWord_no w' (mk [107]) (.inr ⟨by simp [tl_mk], by rw [tl_mk]; decide, by rw [tl_mk]; rfl⟩)) hoo)⟩
  · exact ⟨by decide, by simp, exec_restM d d [101, 110, 99, 105, 112, 104, 101, 114] ⟨#[]⟩ (mk [119, 104, 97, 116]) (by decide) (by decide) (by decide) (-1) 108 (enters_of Tryz.func108 (by kernel_rfl) rfl) (by decide) hm (fun h => absurd h (by decide)) (fun _ _ _ _ _ _ _ => rfl)
      (fun w a p0 p1 p2 p3 p4 p5 p6 B hml hoo hbx hr hB => runEncipher_no w hml d a ⟨#[]⟩ _ (fun w' hg' => readWord_no w' ⟨#[]⟩ (.inl rfl)) hoo)⟩

end Go.Proofs.YtoakpacpkkmgnaaGreatDoor
