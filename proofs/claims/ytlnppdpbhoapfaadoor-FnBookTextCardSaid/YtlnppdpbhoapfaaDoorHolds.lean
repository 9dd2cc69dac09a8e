/-
  The contract of rcHolds: whether a book has an entry. No conditions but those that each theorem names.
-/
import Derived.Test.YtlnppdpbhoapfaaDoorDrawD
import Derived.Test.YtlnppdpbhoapfaaDoorPlainK
import Derived.Laws.StructEq
import Derived.Shelf.SlicesE.Kit
namespace Go.Proofs.YtlnppdpbhoapfaaDoor
open Go.RowKit Pl
set_option linter.unusedVariables false

theorem eqE (a b c d : ByteArray) (w : World) : (binOp .eql 38 (.agg #[.string a, .string b]) (.agg #[.string c, .string d])).run Tryd.prog w = .ok (.bool (a.toList == c.toList && b.toList == d.toList)) w := by
  have u3 := Tryd.underlying9
  have a3 := Tryd.isAgg9
  have z3 := Tryd.sizeOf9
  have hS : Tryd.prog.underlying 38 = some (.struct (Tryd.prog.fieldsOf 38)) := by kernel_rfl
  have hp : Tryd.prog.stoodInHeld 38 = false := by kernel_rfl
  rw [run_eql_struct, show (10000 : Nat) = 9999 + 1 from rfl, run_equalIn_agg w 9999 38 _ _ hS hp]
  simp only [Program.fieldsOf, Tryd.underlying38]
  go_simp
  cases h1 : (a.toList == c.toList) <;> cases h2 : (b.toList == d.toList) <;> simp_all
theorem guardE (op : BinOp) (x y : Operand) (a b c d : ByteArray) (w : World) : (eqGuard op 38 x y (.agg #[.string a, .string b]) (.agg #[.string c, .string d])).run Tryd.prog w = .ok () w :=
  GuardAt.agg (P := Tryd.prog) (T := 38) (fun e : ByteArray × ByteArray => #[.string e.1, .string e.2]) (by kernel_rfl) op x y (a, b) (c, d) w
theorem pair_beq (a b c d : ByteArray) : (a.toList == c.toList && b.toList == d.toList) = true ↔ (a, b) = (c, d) := by
  rw [Bool.and_eq_true, Prod.mk.injEq, beq_iff_eq, beq_iff_eq, ByteArray.toList_eq, ByteArray.toList_eq, ByteArray.toList_eq, ByteArray.toList_eq]
  constructor
  · rintro ⟨h1, h2⟩; exact ⟨ByteArray.ext (Array.toList_inj.1 h1), ByteArray.ext (Array.toList_inj.1 h2)⟩
  · rintro ⟨rfl, rfl⟩; exact ⟨rfl, rfl⟩






























































end Go.Proofs.YtlnppdpbhoapfaaDoor
