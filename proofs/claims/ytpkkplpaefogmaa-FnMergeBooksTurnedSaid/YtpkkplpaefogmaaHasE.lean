/-
  The contract of slices.Contains at entries. No conditions but those that each theorem names.
-/
import Derived.Test.YtpkkplpaefogmaaHolds
import Derived.Test.YtpkkplpaefogmaaShelfG
import Derived.Test.YtpkkplpaefogmaaPlainM
import Derived.Shelf.SlicesQ.Contains
namespace Go.Proofs.Ytpkkplpaefogmaa
open Go.RowKit Pl
set_option linter.unusedVariables false

def encQ (x : Ent) : List Value := [.string x.1, .string x.2]
def eqQ (x y : Ent) : Bool := x.1.toList == y.1.toList && x.2.toList == y.2.toList
theorem eqQ_iff (x y : Ent) : eqQ x y = true ↔ x = y := pair_beq x.1 x.2 y.1 y.2
theorem eqlQ : EqlAt Try.prog 27 (fun x : Ent => .agg (encQ x).toArray) eqQ := ⟨fun x y w => eqE x.1 x.2 y.1 y.2 w, fun op a b x y w => guardE op a b x.1 x.2 y.1 y.2 w⟩

set_option maxHeartbeats 1000000 in
theorem index_none (x : Ent) (A : Option Addr) (cap : Nat) (w : World) : Calls Try.prog 62 #[.slice A 0 cap, .agg #[.string x.1, .string x.2]] w fun e w' => e = .returned (.int .i64 (-1)) ∧ Below w.heap.size w w' := by
  go_enter Try.func62, Try.ntmps62
  go_wp2_with fail
  go_loopw [8] (fun i wr => i = .int .i64 0 ∧ Below w.heap.size w wr) (fun _ _ => 0)
  case atStart => exact ⟨rfl, (Below.refl _ _).alloc (Nat.le_refl _) _⟩
  case round =>
    obtain ⟨rfl, hbl⟩ := hrel
    go_wp2_with fail
    go_ret
    exact ⟨rfl, hbl⟩

set_option maxHeartbeats 1000000 in
theorem contains_any (w : World) (A : Option Addr) (cap : Nat) (es : List Ent) (x : Ent) (b : Bool) (hb : x ∈ es ↔ b = true) (h : Rd w w.heap.size A (entV es)) (hl : es.length ≤ 1000000) :
    Calls Try.prog 45 #[.slice A es.length cap, .agg #[.string x.1, .string x.2]] w fun e w' => e = .returned (.bool b) ∧ Below w.heap.size w w' := by
  by_cases he : es = []
  · subst he
    obtain rfl : b = false := by
      cases b with
      | false => rfl
      | true => exact absurd (hb.2 rfl) (by simp)
    clear hb h
    go_enter Try.func45, Try.ntmps45
    go_wp2_with fail
    refine (index_none x A cap _).mono ?_
    rintro _ w1 ⟨rfl, hb1⟩
    have HB := Lib.hid (((Below.refl w.heap.size w).alloc (Nat.le_refl _) (.cells #[.string x.1, .string x.2] 27)).trans (hb1.mono (by simp))); clear hb1
    go_wp2_with fail
    go_ret
    exact ⟨rfl, HB.out⟩
  · have hn : entV es ≠ [] := by
      intro e
      have h1 := congrArg List.length e
      rw [length_entV, List.length_nil] at h1
      exact he (List.length_eq_zero_iff.1 (by omega))
    obtain ⟨bk, off, rfl, hbk, hcell⟩ := h hn
    have hcon := AnyQ.slices_Contains (P := Try.prog) (ρ := Try.hasE_ren) Try.hasE 2 Try.isAgg27 Try.sizeOf27 encQ (fun _ => rfl) eqQ eqlQ bk off es.length cap es x w (Nat.le_refl _) (by omega) (by
      intro j hj i v hv
      have hlen := length_entV es
      rw [getElem!_pos es j hj] at hv
      have ha := entV_at es j hj
      match i, hv with
      | 0, hv =>
        simp [encQ] at hv
        subst hv
        rw [Nat.add_zero, show off + j * 2 = off + (2 * j) by omega, hcell (2 * j) (by omega)]
        rw [List.getElem?_eq_getElem (by omega)] at ha
        exact ha.1
      | 1, hv =>
        simp [encQ] at hv
        subst hv
        rw [show off + j * 2 + 1 = off + (2 * j + 1) by omega, hcell (2 * j + 1) (by omega)]
        have h2 := ha.2
        rw [List.getElem?_eq_getElem (by omega)] at h2
        exact h2
      | i + 2, hv => simp [encQ] at hv)
    refine Calls.mono hcon ?_
    rintro _ w1 ⟨rfl, hb1⟩
    refine ⟨?_, hb1⟩
    congr 2
    rw [Bool.eq_iff_iff, ← hb, List.take_of_length_le (Nat.le_refl _), List.any_eq_true]
    constructor
    · rintro ⟨y, hy, hxy⟩; rw [eqQ_iff] at hxy; rw [hxy]; exact hy
    · intro hx; exact ⟨x, hx, (eqQ_iff x x).2 rfl⟩

end Go.Proofs.Ytpkkplpaefogmaa
