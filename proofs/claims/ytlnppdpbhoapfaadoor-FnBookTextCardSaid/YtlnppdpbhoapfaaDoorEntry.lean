/-
  Contracts of the laws' own helpers on entries: their sizes, copies and comparisons. No conditions but those that each theorem names.
-/
import Derived.Test.YtlnppdpbhoapfaaDoorIndex
import Derived.Test.YtlnppdpbhoapfaaDoorOwn
import Derived.Laws.AppendOwn
import Derived.Laws.OwnMore
import Derived.OwnWalk
import Derived.BigQuiet
namespace Go.Proofs.YtlnppdpbhoapfaaDoor
open Go.RowKit Pl
set_option linter.unusedVariables false

theorem Rd.ent {w : World} {B : Nat} {A : Option Addr} {es : List (ByteArray × ByteArray)} (h : Rd w B A (entV es)) {k : Nat} (hk : k < es.length) :
    ∃ b off, A = some ⟨b, off, none⟩ ∧ b < B ∧ w.cell? ⟨b, off + k * 2, none⟩ = some (.string es[k].1) ∧ w.cell? ⟨b, off + k * 2 + 1, none⟩ = some (.string es[k].2) := by
  have hn : entV es ≠ [] := by intro e; have := congrArg List.length e; rw [length_entV, List.length_nil] at this; omega
  obtain ⟨b, off, e, hb, hcell⟩ := h hn
  refine ⟨b, off, e, hb, ?_, ?_⟩
  · rw [Nat.mul_comm k 2, hcell (2 * k) (by rw [length_entV]; omega), ← List.getElem?_eq_getElem, (entV_at es k hk).1]
  · rw [Nat.mul_comm k 2, Nat.add_assoc, hcell (2 * k + 1) (by rw [length_entV]; omega), ← List.getElem?_eq_getElem, (entV_at es k hk).2]



























theorem eqEntry_same (w : World) (s t : ByteArray) :
    Calls Tryd.prog 21 #[.agg #[.string s, .string t], .agg #[.string s, .string t]] w fun e w' => e = .returned (.bool true) ∧ Below w.heap.size w w' := by
  go_enter Tryd.func21, Tryd.ntmps21
  go_wp2_with fail
  go_ret
  exact ⟨rfl, ((Below.refl _ _).alloc (Nat.le_refl _) _).alloc (by simp) _⟩



















































theorem four_keep {wr W W' : World} {a1 a2 a3 a4 : Addr} {u1 u2 u3 u4 : Value} (h : W.cell? a1 = some u1 ∧ W.cell? a2 = some u2 ∧ W.cell? a3 = some u3 ∧ W.cell? a4 = some u4 ∧ Below wr.heap.size wr W) (hb : Below W.heap.size W W') :
    W'.cell? a1 = some u1 ∧ W'.cell? a2 = some u2 ∧ W'.cell? a3 = some u3 ∧ W'.cell? a4 = some u4 ∧ Below wr.heap.size wr W' := by
  obtain ⟨h1, h2, h3, h4, h5⟩ := h
  exact ⟨(hb.cell (World.block_lt_of_cell? _ _ h1)).trans h1, (hb.cell (World.block_lt_of_cell? _ _ h2)).trans h2, (hb.cell (World.block_lt_of_cell? _ _ h3)).trans h3, (hb.cell (World.block_lt_of_cell? _ _ h4)).trans h4, h5.trans (hb.mono h5.size)⟩

set_option maxHeartbeats 2000000 in
theorem eqEntryS_same (w : World) (A1 A2 : Option Addr) (c1 c2 : Nat) (es : List (ByteArray × ByteArray)) (h1 : Rd w w.heap.size A1 (entV es)) (h2 : Rd w w.heap.size A2 (entV es)) (hl : es.length ≤ 1048576) (k1 : es.length ≤ c1) (k2 : es.length ≤ c2) :
    Calls Tryd.prog 7 #[.slice A1 es.length c1, .slice A2 es.length c2] w fun e w' => e = .returned (.bool true) ∧ Below w.heap.size w w' := by
  have R1 := Lib.hid h1; have R2 := Lib.hid h2; clear h1 h2
  go_enter Tryd.func7, Tryd.ntmps7
  go_wp2_with fail
  go_loopw [5] (fun i wr => ∃ k : Nat, k ≤ es.length ∧ i = .int .i64 k ∧ Below w.heap.size w wr) (fun i _ => es.length - (intOf i).toNat)
  case atStart => exact ⟨0, Nat.zero_le _, rfl, Below.refl _ _⟩
  case round =>
    obtain ⟨k, hk, rfl, hbl⟩ := hrel
    have HBL := Lib.hid hbl; clear hbl
    by_cases hlt : k < es.length
    · obtain ⟨b1, o1, rfl, _, x0, x1⟩ := (R1.out.below HBL.out).ent hlt
      obtain ⟨b2, o2, rfl, _, y0, y1⟩ := (R2.out.below HBL.out).ent hlt
      generalize es[k] = e at x0 x1 y0 y1
      go_wp2_with fail
      go_region_held3 (fun W => W.cell? ⟨b1, o1 + k * 2, none⟩ = some (.string e.1) ∧ W.cell? ⟨b1, o1 + k * 2 + 1, none⟩ = some (.string e.2) ∧ W.cell? ⟨b2, o2 + k * 2, none⟩ = some (.string e.1) ∧ W.cell? ⟨b2, o2 + k * 2 + 1, none⟩ = some (.string e.2) ∧ Below wr.heap.size wr W) (first | assumption | exact ⟨x0, x1, y0, y1, (Below.refl _ _).drew⟩ | exact four_keep (by assumption) (by assumption)) ((go_at_call 21; refine (eqEntry_same _ e.1 e.2).mono ?_; rintro _ w7 ⟨rfl, hb7⟩))
      go_wp2_with fail
      go_roundw
      case rel =>
        rename_i hS
        exact ⟨k + 1, by omega, by go_num, HBL.out.trans (hS.2.2.2.2.mono HBL.out.size)⟩
      case measure => simp [intOf]; omega
    · go_wp2_with fail
      go_ret
      exact ⟨rfl, HBL.out⟩

theorem Tryd.infoE : (Tryd.prog.info? 38).map (fun i => (i.zero, i.size, i.bytes)) = some (some (.agg #[.string ByteArray.empty, .string ByteArray.empty]), 2, 32) := by kernel_rfl
theorem Tryd.undE : Tryd.prog.underlying 22 = some (.slice 38) := by kernel_rfl

theorem entV_of {xs : List Value} {es : List (ByteArray × ByteArray)} (hl : xs.length = es.length * 2) (h : ∀ j (hj : j < es.length), xs[2 * j]? = some (.string es[j].1) ∧ xs[2 * j + 1]? = some (.string es[j].2)) : xs = entV es := by
  apply List.ext_getElem?
  intro i
  by_cases hi : i < xs.length
  · rcases Nat.mod_two_eq_zero_or_one i with he | ho
    · obtain ⟨j, rfl⟩ : ∃ j, i = 2 * j := ⟨i / 2, by omega⟩
      rw [(h j (by omega)).1, (entV_at es j (by omega)).1]
    · obtain ⟨j, rfl⟩ : ∃ j, i = 2 * j + 1 := ⟨i / 2, by omega⟩
      rw [(h j (by omega)).2, (entV_at es j (by omega)).2]
  · rw [List.getElem?_eq_none (by omega), List.getElem?_eq_none (by rw [length_entV]; omega)]

/-- the callee has made the entries es -/
def Entries (es : List (ByteArray × ByteArray)) (w : World) (e : Ending) (w' : World) : Prop := ∃ v, e = .returned v ∧ w'.ownsRow w.heap.size 38 2 v es.length (entV es) ∧ Below w.heap.size w w'

theorem ent_more {w wr : World} {n k : Nat} {xs : List Value} {es : List (ByteArray × ByteArray)} (hk : k < es.length) (hown : wr.ownsRow w.heap.size 38 2 (.slice (some ⟨w.heap.size, 0, none⟩) es.length es.length) es.length xs)
    (hall : ∀ j (hj : j < es.length), j < k → xs[2 * j]? = some (.string es[j].1) ∧ xs[2 * j + 1]? = some (.string es[j].2)) (hb : Below w.heap.size w wr) :
    ∃ ys, ((wr.setCell ⟨w.heap.size, k * 2, none⟩ (.string es[k].1)).setCell ⟨w.heap.size, k * 2 + 1, none⟩ (.string es[k].2)).ownsRow w.heap.size 38 2 (.slice (some ⟨w.heap.size, 0, none⟩) es.length es.length) es.length ys ∧
      (∀ j (hj : j < es.length), j < k + 1 → ys[2 * j]? = some (.string es[j].1) ∧ ys[2 * j + 1]? = some (.string es[j].2)) ∧ Below w.heap.size w ((wr.setCell ⟨w.heap.size, k * 2, none⟩ (.string es[k].1)).setCell ⟨w.heap.size, k * 2 + 1, none⟩ (.string es[k].2)) := by
  have hlen := hown.1
  obtain ⟨o1, _⟩ := hown.stored (k * 2) (.string es[k].1)
  obtain ⟨o2, _⟩ := o1.stored (k * 2 + 1) (.string es[k].2)
  refine ⟨_, o2, fun j hj hjk => ?_, (hb.setCell (Nat.le_refl _) _).setCell (Nat.le_refl _) _⟩
  rcases Nat.lt_or_ge j k with hjk' | hjk'
  · rw [List.getElem?_set_ne (by omega), List.getElem?_set_ne (by omega), List.getElem?_set_ne (by omega), List.getElem?_set_ne (by omega)]
    exact hall j hj hjk'
  · have : j = k := by omega
    subst this
    rw [Nat.mul_comm j 2, List.getElem?_set_ne (by omega), List.getElem?_set_self (by omega), List.getElem?_set_self (by simp; omega)]
    exact ⟨rfl, rfl⟩




















































end Go.Proofs.YtlnppdpbhoapfaaDoor
