/-
  The law FnSortLookup returns true for every input, and each argument reads afterwards as before: the given statement. No conditions.
-/
import Derived.Test.YteeeaeidocalnaaRows
import Derived.Test.YteeeaeidocalnaaFrame
import Derived.Test.YteeeaeidocalnaaHead
import Derived.Test.YteeeaeidocalnaaLawLook
namespace Go.Proofs.Yteeeaeidocalnaa.fnSortLookup
open Go.ChangeShapes Go.WideShapes Go.ChangeAt Go.RowKit Pl
open Go.ChangeMaps (open_string shut_string)
set_option linter.unusedVariables false

set_option maxRecDepth 100000 in
theorem lifted (os : Os) (started : os.Started) (H : Type) (enc : TypeId × Value → H) :
    ReturnsInHanded {} Try.checked os 4 .any (Rows.fnSortLookupSpec.pre6 enc Try.prog Try.f4 Rows.fnSortLookupRow.domain false) (Rows.fnSortLookupSpec.post enc Try.prog Try.f4 false true false false) := by
  refine returnsInHanded_of_change (C := Try.checked) own started (by kernel_rfl) Try.func4
    (ChangeSpec.witness6 (enc := enc) (C := Try.checked) false ⟨#[], #[.slice none 0 0], []⟩ 8 (by kernel_rfl) (by kernel_rfl) (by kernel_rfl) (by kernel_rfl)) ?_
  intro W base args ds gs before hval0 hW hcnd _
  have hval : ∀ (j : Nat) t v, Try.f4.params[j]? = some t → args[j]? = some v → Value.okWide Try.prog W .any base t v := hval0
  have hW' := hW
  obtain ⟨p, q, hA0, hV, rfl, hfz, hnd⟩ := hW
  have hA : DataW.TrodAll enc Try.prog W 0 (fun _ => true) true Try.f4.params.toList args.toList ds p := hA0
  rw [Try.params4] at hA hval
  obtain ⟨v0, vs0, d0, ds0, p0, q0, hargs, rfl, rfl, h0, r0⟩ := trodAll_cons hA
  obtain ⟨rfl, rfl, rfl⟩ := trodAll_nil r0
  obtain rfl : args = #[v0] := by cases args; simp_all
  obtain ⟨rfl, rfl⟩ := trodVars_none hV
  obtain ⟨a0, len0, cap0, rfl⟩ := okWide_slice Try.underlying29 (hval 0 29 v0 rfl rfl)
  have k0 := h0
  have lt0 : ∀ x ∈ p0, x.block < W.heap.size := by obtain ⟨m, hm⟩ := k0; exact DataW.trod_lt m _ _ _ hm
  obtain ⟨z0, rfl, lc0, cm0, rd0⟩ := open_bytes Try.underlying29 Try.underlying5 (by kernel_rfl) h0
  clear hA0 hval0
  refine (fnSortLookup_walk W a0 cap0 z0 rd0 lc0).mono fun e W' ⟨he, bel⟩ => ?_
  subst he
  exact ⟨_, rfl, _, _, _, [], _, [], hW', trodAll_mk1 (shut_bool Try.underlying4 _), (trodAll_cons_mk (Below.trod laidOut (by kernel_rfl) (of_decide_eq_true (by kernel_rfl)) k0 bel lt0) trodAll_mk0), rfl, bel.frame _, fun h => by cases h⟩

theorem closed : joinedFacts Try.prog 4 Try.f4 Rows.fnSortLookupSpec Rows.fnSortLookupRow = true := by
  unfold joinedFacts
  repeat' (with_reducible refine Bool.and_eq_true_iff.2 ⟨?_, ?_⟩)
  all_goals first
    | with_reducible exact head_laid
    | with_reducible exact head_maps
    | with_reducible exact head_heard
    | with_reducible exact head_may
    | (rw [head_lifts]; as_aux_lemma => kernel_rfl)
    | (rw [head_make]; as_aux_lemma => kernel_rfl)
    | (rw [head_keys]; as_aux_lemma => kernel_rfl)
    | as_aux_lemma => kernel_rfl
theorem named : Try.prog.funcNamed Rows.fnSortLookupRow.func = some 4 := by kernel_rfl

theorem over : Rows.fnSortLookupRow.holds Try.pinned (OpenSpec.ofChange Rows.fnSortLookupSpec) :=
  OpenClaim.holds_of_wide 4 Try.f4 rfl rfl rfl rfl rfl rfl rfl ⟨rfl, rfl, rfl, rfl, rfl⟩ rfl rfl rfl rfl rfl named Try.func4 closed
    (of_decide_eq_true (by kernel_rfl)) (by unfold Func.isWrapper; first | (rw [if_pos (by decide +kernel)]; kernel_rfl) | (rw [if_neg (by decide +kernel)]; exact ⟨rfl, rfl⟩))
    (fun os started H enc _ => lifted os started H enc)

theorem proved : Rows.FnSortLookupSaid := over
#print axioms proved
end Go.Proofs.Yteeeaeidocalnaa.fnSortLookup
