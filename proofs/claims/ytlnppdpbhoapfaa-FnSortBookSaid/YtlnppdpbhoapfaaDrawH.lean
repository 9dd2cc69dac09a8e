/-
  Contracts of the draws of a book to sort, and of two books to merge. No conditions but those that each theorem names.
-/
import Derived.Test.YtlnppdpbhoapfaaDrawG
import Derived.Test.YtlnppdpbhoapfaaDrawM
import Derived.Test.YtlnppdpbhoapfaaCutRd
namespace Go.Proofs.Ytlnppdpbhoapfaa
open Go.RowKit Pl
set_option linter.unusedVariables false

set_option maxHeartbeats 1000000 in
theorem drawSortBook_any (w : World) (A : Option Addr) (cap : Nat) (bs : List UInt8) (h : Rd w w.heap.size A (bytesV bs)) (hc : bs.length ≤ cap) :
    Calls Try.prog 9 #[.slice A bs.length cap] w (BookOnly w) := by
  go_enter Try.func9, Try.ntmps9
  go_wp2_with fail
  refine (drawBookValid_any w A cap bs h hc).mono ?_
  rintro _ w1 ⟨A1, cap1, es, rfl, hh⟩
  have HH := Lib.hid hh; clear hh
  go_wp2_with fail
  go_ret
  exact ⟨A1, cap1, es, rfl, HH.out⟩
















































/-- two books were drawn -/
def TwoBooks (w : World) (e : Ending) (w' : World) : Prop :=
  ∃ A cap es A' cap' fs, e = .returned (.tuple #[.slice A es.length cap, .slice A' fs.length cap']) ∧ Rd w' w'.heap.size A (entV es) ∧ es.length ≤ cap ∧ (∀ e ∈ es, e.1.size ≤ maxLen ∧ e.2.size ≤ maxLen) ∧ es.length ≤ 100 ∧ cap ≤ maxLen ∧ (A = none → cap = 0) ∧
    Rd w' w'.heap.size A' (entV fs) ∧ fs.length ≤ cap' ∧ (∀ e ∈ fs, e.1.size ≤ maxLen ∧ e.2.size ≤ maxLen) ∧ fs.length ≤ 100 ∧ cap' ≤ maxLen ∧ (A' = none → cap' = 0) ∧ Below w.heap.size w w'

theorem DM.start {w : World} {R N : Nat} {v : Value} {es : List (ByteArray × ByteArray)} (hr : Rdr w R N) (hb : EBk w R v es) : DM w R (fun i => i < w.heap.size ∧ i ≠ R ∧ some i ≠ v.ownBlock) N v es w :=
  ⟨hr, hb, fun k hk hK => hK.2.2 hk.symm, fun hh => hh.2.1 rfl, fun i hi => hi.1, Fr.refl _ _⟩
/-- one book is made worse, and then the other one -/
theorem two_fin {w w2 wr w5 w6 : World} {R N : Nat} {va vb va' vb' : Value} {es fs es' fs' : List (ByteArray × ByteArray)} (hR : R = w.heap.size) (hB2 : Below R w w2) (hA2 : EBk w2 R va es) (hD : DM w2 R (fun i => i < w2.heap.size ∧ i ≠ R) N vb fs wr)
    (d5 : DM wr R (fun i => i < wr.heap.size ∧ i ≠ R ∧ some i ≠ va.ownBlock) (N + 3) va' es' w5) (hl5 : es'.length ≤ 100) :
    EBk w5 R vb fs ∧ (DM w5 R (fun i => i < w5.heap.size ∧ i ≠ R ∧ some i ≠ vb.ownBlock) (N + 3 + 3) vb' fs' w6 → fs'.length ≤ 100 → TwoBooks w (.returned (.tuple #[va', vb'])) w6) := by
  have apart : ∀ k, vb.ownBlock = some k → some k ≠ va.ownBlock := fun k hk e => by
    have h1 := hD.far k hk
    have h2 := (hA2.1.lt k e.symm)
    exact h1 ⟨h2.2, by omega⟩
  refine ⟨⟨d5.fr.owns hD.bk.1 fun k hk => ⟨(hD.bk.1.lt k hk).2, by have := (hD.bk.1.lt k hk).1; omega, apart k hk⟩, hD.bk.2⟩, fun d6 hl6 => ?_⟩
  have ha6 : w6.ownsRow (R + 1) 27 2 va' es'.length (entV es') := d6.fr.owns d5.bk.1 fun k hk => ⟨(d5.bk.1.lt k hk).2, by have := (d5.bk.1.lt k hk).1; omega, fun e => d5.far k hk ⟨(hD.bk.1.lt k e.symm).2, by have := (d5.bk.1.lt k hk).1; omega, apart k e.symm⟩⟩
  have hs2 := hB2.size
  have b2 : Below R w2 wr := hD.fr.below fun i hi => ⟨by omega, by omega⟩
  have b3 : Below R wr w5 := d5.fr.below fun i hi => ⟨by have := b2.size; omega, by omega, fun e => by have := (hA2.1.lt i e.symm).1; omega⟩
  have b4 : Below R w5 w6 := d6.fr.below fun i hi => ⟨by have := b2.size; have := b3.size; omega, by omega, fun e => by have := (hD.bk.1.lt i e.symm).1; omega⟩
  obtain ⟨A1, c1, rfl, l1, m1, r1⟩ := ownsRow_rd ha6
  obtain ⟨A2, c2, e2, l2, m2, r2⟩ := ownsRow_rd d6.bk.1
  subst e2
  have hz : ∀ es : List (ByteArray × ByteArray), (∀ e ∈ es, e.1.size ≤ 100 ∧ e.2.size ≤ 100) → ∀ e ∈ es, e.1.size ≤ maxLen ∧ e.2.size ≤ maxLen := fun es h e he => ⟨Nat.le_trans (h e he).1 (by decide), Nat.le_trans (h e he).2 (by decide)⟩
  exact ⟨A1, c1, es', A2, c2, fs', rfl, r1, l1, hz _ d5.bk.2, hl5, m1, own_none ha6, r2, l2, hz _ d6.bk.2, hl6, m2, own_none d6.bk.1, by rw [← hR]; exact ((hB2.trans b2).trans b3).trans b4⟩
































































































































end Go.Proofs.Ytlnppdpbhoapfaa
