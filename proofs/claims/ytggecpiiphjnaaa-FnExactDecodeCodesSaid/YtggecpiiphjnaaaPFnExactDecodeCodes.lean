/-
  The law FnExactDecodeCodes returns true for every input, and each argument reads afterwards as before: the given statement. No conditions.
-/
import Derived.Test.YtggecpiiphjnaaaRows
import Derived.Test.YtggecpiiphjnaaaFrame
import Derived.Test.YtggecpiiphjnaaaHead
import Derived.Test.YtggecpiiphjnaaaLawDec
namespace Go.Proofs.Ytggecpiiphjnaaa.fnExactDecodeCodes
open Go.ChangeShapes Go.WideShapes Go.ChangeAt Go.RowKit Pl
open Go.ChangeMaps (open_string shut_string)
set_option linter.unusedVariables false

set_option maxRecDepth 100000 in
theorem lifted (os : Os) (started : os.Started) (H : Type) (enc : TypeId × Value → H) :
    ReturnsInHanded {} Try.checked os 7 .any (Rows.fnExactDecodeCodesSpec.pre6 enc Try.prog Try.f7 Rows.fnExactDecodeCodesRow.domain false) (Rows.fnExactDecodeCodesSpec.post enc Try.prog Try.f7 false true false false) := by
  refine returnsInHanded_of_change (C := Try.checked) own started (by kernel_rfl) Try.func7
    (ChangeSpec.witness6 (enc := enc) (C := Try.checked) false ⟨#[], #[.slice none 0 0, .string ByteArray.empty], []⟩ 8 (by kernel_rfl) (by kernel_rfl) (by kernel_rfl) (by kernel_rfl)) ?_
  intro W base args ds gs before hval0 hW hcnd _
  have hval : ∀ (j : Nat) t v, Try.f7.params[j]? = some t → args[j]? = some v → Value.okWide Try.prog W .any base t v := hval0
  have hW' := hW
  obtain ⟨p, q, hA0, hV, rfl, hfz, hnd⟩ := hW
  have hA : DataW.TrodAll enc Try.prog W 0 (fun _ => true) true Try.f7.params.toList args.toList ds p := hA0
  rw [Try.params7] at hA hval
  obtain ⟨v0, vs0, d0, ds0, p0, q0, hargs, rfl, rfl, h0, r0⟩ := trodAll_cons hA
  obtain ⟨v1, vs1, d1, ds1, p1, q1, rfl, rfl, rfl, h1, r1⟩ := trodAll_cons r0
  obtain ⟨rfl, rfl, rfl⟩ := trodAll_nil r1
  obtain rfl : args = #[v0, v1] := by cases args; simp_all
  obtain ⟨rfl, rfl⟩ := trodVars_none hV
  obtain ⟨a0, len0, cap0, rfl⟩ := okWide_slice Try.underlying34 (hval 0 34 v0 rfl rfl)
  have k0 := h0
  have lt0 : ∀ x ∈ p0, x.block < W.heap.size := by obtain ⟨m, hm⟩ := k0; exact DataW.trod_lt m _ _ _ hm
  obtain ⟨z0, rfl, lc0, cm0, rd0, zm0⟩ := open_entries (st := 0) Try.underlying34 Try.underlying83 Try.underlying9 Try.underlying9 (by kernel_rfl) (by kernel_rfl) h0
  obtain ⟨a1, rfl, rfl, rfl, w1⟩ := open_string Try.underlying9 (hval 1 9 v1 rfl rfl) h1
  clear hA0 hval0
  refine (fnExactDecodeCodes_walk W a0 cap0 z0 rd0 lc0 cm0 zm0 a1 w1).mono fun e W' ⟨he, bel⟩ => ?_
  subst he
  exact ⟨_, rfl, _, _, _, [], _, [], hW', trodAll_mk1 (shut_bool Try.underlying4 _), (trodAll_cons_mk (Below.trod laidOut (by kernel_rfl) (of_decide_eq_true (by kernel_rfl)) k0 bel lt0) (trodAll_cons_mk (shut_string Try.underlying9 w1) trodAll_mk0)), rfl, bel.frame _, fun h => by cases h⟩

theorem closed : joinedFacts Try.prog 7 Try.f7 Rows.fnExactDecodeCodesSpec Rows.fnExactDecodeCodesRow = true := by
  unfold joinedFacts
  repeat' (with_reducible refine Bool.and_eq_true_iff.2 ⟨?_, ?_⟩)
  all_goals first
    | with_reducible exact head_laid
    | with_reducible exact head_maps
    | with_reducible exact head_heard
    | with_reducible exact head_may
    | (rw [head_lifts]; as_aux_lemma => kernel_rfl)
    | (rw [head_make]; as_aux_lemma => kernel_rfl)
    | (rw [head_keys]; as_aux_lemma => kernel_rfl)
    | as_aux_lemma => kernel_rfl
theorem named : Try.prog.funcNamed Rows.fnExactDecodeCodesRow.func = some 7 := by kernel_rfl

theorem over : Rows.fnExactDecodeCodesRow.holds Try.pinned (OpenSpec.ofChange Rows.fnExactDecodeCodesSpec) :=
  OpenClaim.holds_of_wide 7 Try.f7 rfl rfl rfl rfl rfl rfl rfl ⟨rfl, rfl, rfl, rfl, rfl⟩ rfl rfl rfl rfl rfl named Try.func7 closed
    (of_decide_eq_true (by kernel_rfl)) (by unfold Func.isWrapper; first | (rw [if_pos (by decide +kernel)]; kernel_rfl) | (rw [if_neg (by decide +kernel)]; exact ⟨rfl, rfl⟩))
    (fun os started H enc _ => lifted os started H enc)

theorem proved : Rows.FnExactDecodeCodesSaid := over
#print axioms proved
end Go.Proofs.Ytggecpiiphjnaaa.fnExactDecodeCodes
