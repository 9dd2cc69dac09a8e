/-
  Contracts of EncodeWords and DecodeCodes, of the program and of the reference. No conditions but those that each theorem names.
-/
import Derived.Test.YtlnppdpbhoapfaaDoorPlainK
import Derived.Test.YtlnppdpbhoapfaaDoorTexts
import Derived.Test.YtlnppdpbhoapfaaDoorBuild
import Derived.BigCall
namespace Go.Proofs.YtlnppdpbhoapfaaDoor
open Go.RowKit Pl
set_option linter.unusedVariables false

theorem enc_bad {es : List (ByteArray × ByteArray)} {ws : List ByteArray} {k : Nat} (hk : k < ws.length) (h : codeOf es ws[k] = none) : encW es ws = none :=
  encW_no fun hh => by have := hh.2.2 _ (List.getElem_mem hk); rw [h] at this; cases this
theorem enc_size_le {es : List (ByteArray × ByteArray)} {ws : List ByteArray} {k : Nat} (h : ∀ j (hj : j < ws.length), j < k → (codeOf es ws[j]).isSome = true) : ((ws.take k).flatMap fun s => tl (strO (codeOf es s))).length ≤ 3 * ws.length := by
  rw [enc_length]
  · rw [List.length_take]; omega
  · intro s hs
    obtain ⟨j, hj, rfl⟩ := List.mem_iff_getElem.1 hs
    rw [List.length_take] at hj
    rw [List.getElem_take]; exact h j (by omega) (by omega)
theorem enc_all {es : List (ByteArray × ByteArray)} {ws : List ByteArray} (hv : bookV es) (hl : 3 * ws.length ≤ 200) (h : ∀ j (hj : j < ws.length), j < ws.length → (codeOf es ws[j]).isSome = true) :
    encW es ws = some (mk ((ws.take ws.length).flatMap fun s => tl (strO (codeOf es s)))) := by
  rw [List.take_of_length_le (Nat.le_refl _)]
  refine encW_ok ⟨hv, hl, fun s hs => ?_⟩
  obtain ⟨j, hj, rfl⟩ := List.mem_iff_getElem.1 hs
  exact h j hj hj

























































































theorem byteCells_tl (s : ByteArray) : Lib.strCells s = Lib.byteCells (tl s) := Lib.strCells_eq s











































































































end Go.Proofs.YtlnppdpbhoapfaaDoor
