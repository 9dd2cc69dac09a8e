/-
  The law FnScriptBoards returns true for every input, and each argument reads afterwards as before; what its row lists is tied to the program's text: the given statement. No conditions.
-/
import Derived.Test.YtnbdimbhklbadaaGreatDoorCards
import Derived.Test.YtnbdimbhklbadaaGreatDoorTie
import Derived.Test.YtnbdimbhklbadaaGreatDoorQBsA
import Derived.Test.YtnbdimbhklbadaaGreatDoorQHead
import Derived.Test.YtnbdimbhklbadaaGreatDoorQDoA
import Derived.Test.YtnbdimbhklbadaaGreatDoorQGreat
import Derived.Test.YtnbdimbhklbadaaGreatDoorQLawBo
namespace Go.Proofs.YtnbdimbhklbadaaGreatDoor.fnScriptBoards
open Go.ChangeShapes Go.WideShapes Go.ChangeAt Go.RowKit Pl Go.Lib
open Go.ChangeMaps (open_string shut_string)
set_option linter.unusedVariables false

theorem laid_met (os : Os) (args : Array Value) : laidMet Tryz.prog Rows.fnScriptBoardsRow.laid ((greatWorld os).forCall (fun _ _ => 0) ⟨#[], args, []⟩).memory :=
  laid_seven os args

theorem witness_row (os : Os) {H : Type} (enc : TypeId × Value → H) :
    (OpenSpec.ofChange Rows.fnScriptBoardsSpec).preRow enc Tryz.prog Tryz.f3 Rows.fnScriptBoardsRow.domain false Rows.fnScriptBoardsRow.laid ((greatWorld os).forCall (fun _ _ => 0) ⟨#[], #[.slice none 0 0], []⟩).memory #[.slice none 0 0] := by
  obtain ⟨x, hx⟩ := Option.isSome_iff_exists.1 (show (DataW.whole enc Tryz.prog ((greatWorld os).forCall (fun _ _ => 0) ⟨#[], #[.slice none 0 0], []⟩).memory Tryz.f3.params.toList (OpenSpec.ofChange Rows.fnScriptBoardsSpec).vars false (#[.slice none 0 0] : Array Value).toList 8).isSome = true by kernel_rfl)
  exact OpenSpec.preRow_of_cond 8 hx rfl (fun k hk => by cases hk) (by kernel_rfl) (laid_met os _)

set_option maxRecDepth 100000 in
theorem lifted (os : Os) (started : os.Started) (H : Type) (enc : TypeId × Value → H) (F : Stop.Interp) :
    ReturnsInHanded {} Tryz.checked os 3 .any ((OpenSpec.ofChange Rows.fnScriptBoardsSpec).preRow enc Tryz.prog Tryz.f3 Rows.fnScriptBoardsRow.domain false Rows.fnScriptBoardsRow.laid) (((OpenSpec.ofChange Rows.fnScriptBoardsSpec).at F).post enc Tryz.prog Tryz.f3 false true false false) := by
  refine returnsInHanded_of_row (C := Tryz.checked) (s := OpenSpec.ofChange Rows.fnScriptBoardsSpec) own started (by kernel_rfl) Tryz.func3
    (witness_row_atRef (enc := enc) (C := Tryz.checked) false (greatWorld os) #[.slice none 0 0] rfl (by kernel_rfl) (by kernel_rfl) (by kernel_rfl) (witness_row os enc)) ?_
  intro W base args ds gs before hval0 hW _ _ _ hlaid hsh _
  have hml : GW W := ⟨ml_of_shaped W hsh, tb_seven hlaid, es_seven hlaid⟩
  have hval : ∀ (j : Nat) t v, Tryz.f3.params[j]? = some t → args[j]? = some v → Value.okWide Tryz.prog W .any base t v := hval0
  have hW' := hW
  obtain ⟨p, q, hA0, hV, rfl, _, _⟩ := hW
  have hA : DataW.TrodAll enc Tryz.prog W 0 (fun _ => true) true Tryz.f3.params.toList args.toList ds p := hA0
  rw [Tryz.params3] at hA hval
  obtain ⟨v0, vs0, d0, ds0, p0, q0, hargs, rfl, rfl, h0, r0⟩ := trodAll_cons hA
  obtain ⟨rfl, rfl, rfl⟩ := trodAll_nil r0
  obtain rfl : args = #[v0] := by cases args; simp_all
  obtain ⟨rfl, rfl⟩ := trodVars_none hV
  obtain ⟨a0, len0, cap0, rfl⟩ := okWide_slice Tryz.underlying22 (hval 0 22 v0 rfl rfl)
  have k0 := h0
  have lt0 : ∀ x ∈ p0, x.block < W.heap.size := by obtain ⟨m, hm⟩ := k0; exact DataW.trod_lt m _ _ _ hm
  obtain ⟨z0, rfl, lc0, cm0, rd0⟩ := open_bytes Tryz.underlying22 Tryz.underlying5 (by kernel_rfl) h0
  clear hA0 hval0
  refine (fnScriptBoards_walk W hml a0 cap0 z0 rd0 lc0).mono fun e W' ⟨he, bel⟩ => ?_
  subst he
  exact ⟨_, rfl, _, _, _, [], _, [], hW', trodAll_mk1 (shut_bool Tryz.underlying4 _), (trodAll_cons_mk (Below.trod laidOut (by kernel_rfl) (of_decide_eq_true (by kernel_rfl)) k0 bel lt0) trodAll_mk0), rfl, bel.frame _, fun h => by cases h⟩

set_option maxHeartbeats 8000000 in
set_option maxRecDepth 100000 in
theorem closed : joinedFacts Tryz.prog 3 Tryz.f3 (OpenSpec.ofChange Rows.fnScriptBoardsSpec).bare Rows.fnScriptBoardsRow = true := by
  unfold joinedFacts
  repeat' (with_reducible refine Bool.and_eq_true_iff.2 ⟨?_, ?_⟩)
  all_goals first
    | with_reducible exact head_laid
    | with_reducible exact head_maps
    | with_reducible exact head_heard
    | as_aux_lemma => kernel_rfl
theorem named : Tryz.prog.funcNamed Rows.fnScriptBoardsRow.func = some 3 := by kernel_rfl

theorem holds : Rows.fnScriptBoardsRow.holds Tryz.pinned (OpenSpec.ofChange Rows.fnScriptBoardsSpec) :=
  OpenClaim.holds_of_cond 3 Tryz.f3 rfl rfl rfl rfl rfl rfl rfl ⟨rfl, rfl, rfl, rfl, rfl⟩ rfl rfl rfl rfl rfl named Tryz.func3 closed
    (of_decide_eq_true (by kernel_rfl)) (by unfold Func.isWrapper; first | (rw [if_pos (by decide +kernel)]; kernel_rfl) | (rw [if_neg (by decide +kernel)]; exact ⟨rfl, rfl⟩))
    (fun os started H enc _ F0 => by rw [OpenClaim.pre_eq_preRow]; exact lifted os started H enc F0)

theorem proved : Rows.FnScriptBoardsCardSaid :=
  Claim7.holds_tied_plain_at .later [] [.data, .data, .data, .data, .sentinel, .sentinel, .pinned] true (true, "8b167bb61f44f83261482d6c1fb1c238caee079e3a37914ab7c7918ee9d08339") true
    holds (fun _ h => by cases h) (by as_aux_lemma => kernel_rfl) (fun _ h => by cases h) fnScriptBoards_row_tie rfl ⟨rfl, rfl⟩ (by as_aux_lemma => kernel_rfl) rfl
    (fun f fn hf hfn => by
      obtain rfl : f = 3 := Option.some.inj (named.symm.trans hf) |>.symm
      obtain rfl : fn = Tryz.f3 := (Option.some.inj (Tryz.func3.symm.trans hfn)).symm
      refine ⟨by as_aux_lemma => kernel_rfl, fun j t ht => ?_⟩
      rw [Tryz.params3] at ht
      have hall : ∀ t ∈ (#[22] : Array TypeId), Tryz.prog.wantsStandIn t = false := by
        intro t ht
        simp only [List.mem_toArray, List.mem_cons, List.not_mem_nil, or_false] at ht
        rcases ht with rfl <;> kernel_rfl
      exact hall t (Array.mem_of_getElem? ht))
    (by as_aux_lemma => kernel_rfl)
#print axioms proved
end Go.Proofs.YtnbdimbhklbadaaGreatDoor.fnScriptBoards
