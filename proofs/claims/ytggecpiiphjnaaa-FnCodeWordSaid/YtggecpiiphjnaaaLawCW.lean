/-
  The walk of the law FnCodeWord: it returns true whatever the bytes are; nothing that was there is changed. No conditions.
-/
import Derived.Test.YtggecpiiphjnaaaHolds
namespace Go.Proofs.Ytggecpiiphjnaaa
open Go.RowKit Pl
set_option linter.unusedVariables false

set_option maxHeartbeats 8000000 in
set_option maxRecDepth 100000 in
theorem fnCodeWord_walk (w : World) (A : Option Addr) (cap : Nat) (bs : List UInt8) (h : Rd w w.heap.size A (bytesV bs)) (hc : bs.length ≤ cap) :
    Calls Try.prog 5 #[.slice A bs.length cap] w fun e w' => e = .returned (.bool true) ∧ Below w.heap.size w w' := by
  by_cases hlen : 1048576 < bs.length
  · go_enter Try.func5, Try.ntmps5
    go_wp2_with fail
    go_ret
    exact ⟨rfl, Below.refl _ _⟩
  · go_enter Try.func5, Try.ntmps5
    go_wp2_with fail
    refine (drawCodeOf_any w A cap bs h hc).mono ?_
    rintro _ w1 ⟨v, es, s, rfl, hbk, hl, hs, hb1⟩
    obtain ⟨A1, cap1, rfl, hc1, _, hr1⟩ := hbk.rd
    have hz : ∀ e ∈ es, e.1.size ≤ maxLen ∧ e.2.size ≤ maxLen := fun e he => ⟨Nat.le_trans (hbk.2 e he).1 (by decide), Nat.le_trans (hbk.2 e he).2 (by decide)⟩
    have hsm : s.size ≤ maxLen := Nat.le_trans hs (by decide)
    have HR := Lib.hid hr1; have HZ := Lib.hid hz; have HSM := Lib.hid hsm; have HB := Lib.hid hb1; clear hr1 hz hsm hb1 hbk h
    go_wp2_with fail
    refine (codeOf_any _ A1 cap1 es s HR.out hc1 HZ.out HSM.out).mono ?_
    rintro _ w2 ⟨rfl, hb2⟩
    replace HB := Lib.hid (HB.out.trans (hb2.mono HB.out.size))
    replace HR := Lib.hid ((HR.out.below hb2).mono hb2.size)
    clear hb2
    go_wp2_with fail
    refine (sCodeOf_any _ _ A1 cap1 es s HR.out hc1 (by omega)).mono ?_
    rintro _ _ ⟨rfl, rfl⟩
    cases hco : codeOf es s with
    | none =>
      simp only [strO, Option.isSome_none]
      clear hco
      go_wp2_with fail
      go_ret
      exact ⟨rfl, HB.out⟩
    | some c =>
      simp only [strO, Option.isSome_some]
      have hcz := (codeOf_size hco).1
      have hw := code_word hco
      have hin := (codeOf_iff.1 hco).2
      have HW := Lib.hid hw; have HIN := Lib.hid hin; clear hco hw hin
      go_wp2_with fail
      refine (wordOf_any _ A1 cap1 es c HR.out hc1 HZ.out (Nat.le_trans (Nat.le_of_eq hcz) (by decide))).mono ?_
      rintro _ w3 ⟨rfl, hb3⟩
      replace HB := Lib.hid (HB.out.trans (hb3.mono HB.out.size))
      replace HR := Lib.hid ((HR.out.below hb3).mono hb3.size)
      clear hb3
      rw [HW.out]
      simp only [strO, Option.isSome_some]
      go_wp2_with fail
      refine (rcHolds_is _ A1 cap1 es (s, c) true (iff_of_true HIN.out rfl) HR.out hc1 (by omega)).mono ?_
      rintro _ w4 ⟨rfl, hb4⟩
      replace HB := Lib.hid (HB.out.trans (hb4.mono HB.out.size))
      clear hb4
      go_wp2_with fail
      go_ret
      exact ⟨rfl, HB.out⟩

end Go.Proofs.Ytggecpiiphjnaaa
