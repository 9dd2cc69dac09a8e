/-
  The contract of rcBooks: two equal books. No conditions but those that each theorem names.
-/
import Derived.Test.YtlnppdpbhoapfaaDoorHolds
namespace Go.Proofs.YtlnppdpbhoapfaaDoor
open Go.RowKit Pl
set_option linter.unusedVariables false

set_option maxHeartbeats 4000000 in
theorem rcBooks_same (w : World) (A1 A2 : Option Addr) (c1 c2 : Nat) (es : List (ByteArray × ByteArray)) (h1 : Rd w w.heap.size A1 (entV es)) (h2 : Rd w w.heap.size A2 (entV es)) (hl : es.length ≤ 1048576) (k1 : es.length ≤ c1) (k2 : es.length ≤ c2) :
    Calls Tryd.prog 14 #[.slice A1 es.length c1, .slice A2 es.length c2] w fun e w' => e = .returned (.bool true) ∧ Below w.heap.size w w' := by
  have R1 := Lib.hid h1; have R2 := Lib.hid h2; clear h1 h2
  go_enter Tryd.func14, Tryd.ntmps14
  go_wp2_with fail
  go_loopw [5] (fun i wr => ∃ k : Nat, k ≤ es.length ∧ i = .int .i64 k ∧ Below w.heap.size w wr) (fun i _ => es.length - (intOf i).toNat)
  case atStart => exact ⟨0, Nat.zero_le _, rfl, Below.refl _ _⟩
  case round =>
    obtain ⟨k, hk, rfl, hbl⟩ := hrel
    have HBL := Lib.hid hbl; clear hbl
    by_cases hlt : k < es.length
    · obtain ⟨b1, o1, rfl, _, x0, x1⟩ := (R1.out.below HBL.out).ent hlt
      obtain ⟨b2, o2, rfl, _, y0, y1⟩ := (R2.out.below HBL.out).ent hlt
      generalize es[k] = e at x0 x1 y0 y1
      go_wp2_with fail
      go_quiet (fail)
      go_wp2_with fail
      go_roundw
      case rel => exact ⟨k + 1, by omega, by go_num, below_drewN' HBL.out _⟩
      case measure => simp [intOf]; omega
    · go_wp2_with fail
      go_ret
      exact ⟨rfl, HBL.out⟩

end Go.Proofs.YtlnppdpbhoapfaaDoor
