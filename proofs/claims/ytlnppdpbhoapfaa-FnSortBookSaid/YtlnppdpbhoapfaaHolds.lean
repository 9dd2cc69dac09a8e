/-
  The contract of rcHolds: whether a book has an entry. No conditions but those that each theorem names.
-/
import Derived.Test.YtlnppdpbhoapfaaDrawD
import Derived.Test.YtlnppdpbhoapfaaPlainK
import Derived.Laws.StructEq
import Derived.Shelf.SlicesE.Kit
namespace Go.Proofs.Ytlnppdpbhoapfaa
open Go.RowKit Pl
set_option linter.unusedVariables false

theorem eqE (a b c d : ByteArray) (w : World) : (binOp .eql 27 (.agg #[.string a, .string b]) (.agg #[.string c, .string d])).run Try.prog w = .ok (.bool (a.toList == c.toList && b.toList == d.toList)) w := by
  have u3 := Try.underlying9
  have a3 := Try.isAgg9
  have z3 := Try.sizeOf9
  have hS : Try.prog.underlying 27 = some (.struct (Try.prog.fieldsOf 27)) := by kernel_rfl
  have hp : Try.prog.stoodInHeld 27 = false := by kernel_rfl
  rw [run_eql_struct, show (10000 : Nat) = 9999 + 1 from rfl, run_equalIn_agg w 9999 27 _ _ hS hp]
  simp only [Program.fieldsOf, Try.underlying27]
  go_simp
  cases h1 : (a.toList == c.toList) <;> cases h2 : (b.toList == d.toList) <;> simp_all
theorem guardE (op : BinOp) (x y : Operand) (a b c d : ByteArray) (w : World) : (eqGuard op 27 x y (.agg #[.string a, .string b]) (.agg #[.string c, .string d])).run Try.prog w = .ok () w :=
  GuardAt.agg (P := Try.prog) (T := 27) (fun e : ByteArray × ByteArray => #[.string e.1, .string e.2]) (by kernel_rfl) op x y (a, b) (c, d) w
theorem pair_beq (a b c d : ByteArray) : (a.toList == c.toList && b.toList == d.toList) = true ↔ (a, b) = (c, d) := by
  rw [Bool.and_eq_true, Prod.mk.injEq, beq_iff_eq, beq_iff_eq, ByteArray.toList_eq, ByteArray.toList_eq, ByteArray.toList_eq, ByteArray.toList_eq]
  constructor
  · rintro ⟨h1, h2⟩; exact ⟨ByteArray.ext (Array.toList_inj.1 h1), ByteArray.ext (Array.toList_inj.1 h2)⟩
  · rintro ⟨rfl, rfl⟩; exact ⟨rfl, rfl⟩

set_option maxHeartbeats 4000000 in
theorem rcHolds_is (w : World) (A : Option Addr) (cap : Nat) (es : List (ByteArray × ByteArray)) (e : ByteArray × ByteArray) (r : Bool) (hr : e ∈ es ↔ r = true) (h : Rd w w.heap.size A (entV es)) (hc : es.length ≤ cap) (hl : es.length ≤ 1000000) :
    Calls Try.prog 13 #[.slice A es.length cap, .agg #[.string e.1, .string e.2]] w fun x w' => x = .returned (.bool r) ∧ Below w.heap.size w w' := by
  have HR := Lib.hid h; have HRR := Lib.hid hr; clear h hr
  go_enter Try.func13, Try.ntmps13
  go_wp2_with fail
  go_loopw [5] (fun i wr => ∃ k : Nat, k ≤ es.length ∧ i = .int .i64 k ∧ (∀ j (hj : j < es.length), j < k → es[j] ≠ e) ∧ wr.cell? ⟨w.heap.size, 0, none⟩ = some (.string e.1) ∧ wr.cell? ⟨w.heap.size, 1, none⟩ = some (.string e.2) ∧ Below w.heap.size w wr) (fun i _ => es.length - (intOf i).toNat)
  case atStart => exact ⟨0, Nat.zero_le _, rfl, fun j _ hj => absurd hj (Nat.not_lt_zero _), by simp, by simp, (Below.refl _ _).alloc (Nat.le_refl _) _⟩
  case round =>
    obtain ⟨k, hk, rfl, hall, x0, x1, hbl⟩ := hrel
    have HA := Lib.hid hall; have HBL := Lib.hid hbl; clear hall hbl
    by_cases hlt : k < es.length
    · obtain ⟨b, off, rfl, hb, c0, c1⟩ := (HR.out.below HBL.out).ent hlt
      have hpb := pair_beq es[k].1 es[k].2 e.1 e.2
      have hmem := List.getElem_mem hlt
      have hnx : es[k] ≠ e → ∀ j (hj : j < es.length), j < k + 1 → es[j] ≠ e := fun hne j hj hjk => by
        by_cases hje : j = k
        · subst hje; exact hne
        · exact HA.out j hj (by omega)
      have HNX := Lib.hid hnx; clear hnx
      generalize es[k] = f at c0 c1 hpb hmem HNX
      have HPB := Lib.hid hpb; have HMEM := Lib.hid hmem; clear hpb hmem
      by_cases h1 : f.1.toList = e.1.toList
      · by_cases h2 : f.2.toList = e.2.toList
        · have hrt : r = true := HRR.out.1 (by have h3 : f = e := HPB.out.1 (by rw [h1, h2]; simp); rw [← h3]; exact HMEM.out)
          subst hrt
          go_wp2_with fail
          go_quiet (fail)
          clear h1 h2
          go_wp2_with fail
          go_ret
          exact ⟨rfl, below_drewN' HBL.out _⟩
        · have HN := Lib.hid (HNX.out fun h3 => h2 (by rw [h3]))
          clear HNX
          go_wp2_with fail
          go_quiet (fail)
          clear h1 h2
          go_wp2_with fail
          go_roundw
          case rel => exact ⟨k + 1, by omega, by go_num, HN.out, x0, x1, below_drewN' HBL.out _⟩
          case measure => simp [intOf]; omega
      · have HN := Lib.hid (HNX.out fun h3 => h1 (by rw [h3]))
        clear HNX
        go_wp2_with fail
        go_quiet (fail)
        clear h1
        go_wp2_with fail
        go_roundw
        case rel => exact ⟨k + 1, by omega, by go_num, HN.out, x0, x1, below_drewN' HBL.out _⟩
        case measure => simp [intOf]; omega
    · have hrf : r = false := by
        cases hr : r with
        | false => rfl
        | true =>
          obtain ⟨j, hj, hje⟩ := List.mem_iff_getElem.1 (HRR.out.2 hr)
          exact absurd hje (HA.out j hj (by omega))
      subst hrf
      go_wp2_with fail
      go_ret
      exact ⟨rfl, HBL.out⟩

end Go.Proofs.Ytlnppdpbhoapfaa
