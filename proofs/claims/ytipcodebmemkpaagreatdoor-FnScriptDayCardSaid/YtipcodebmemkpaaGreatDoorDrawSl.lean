/-
  Contracts of the draws of a machine, two windows, and a word. Conditions: what each theorem names.
-/
import Derived.Test.YtipcodebmemkpaaGreatDoorDrawMa
import Derived.Test.YtipcodebmemkpaaGreatDoorGrpI
namespace Go.Proofs.YtipcodebmemkpaaGreatDoor
open Go.RowKit Pl
set_option linter.unusedVariables false

/-- a machine and two windows were drawn, whatever they are -/
def DbD (w : World) (R N : Nat) (e : Ending) (w' : World) : Prop :=
  ∃ (A : Option Addr) (cap : Nat) (rs : List (ByteArray × ByteArray)) (p g l o y : ByteArray), e = .returned (.tuple #[.agg #[.slice A rs.length cap, .string p, .string g, .string l], .string o, .string y]) ∧ Rd w' w'.heap.size A (rotV rs) ∧ rs.length ≤ cap ∧ rs.length ≤ 6 ∧ p.size ≤ 20 ∧ g.size ≤ 10 ∧ l.size ≤ 20 ∧ o.size ≤ 10 ∧ y.size ≤ 10 ∧ (∀ x, A = some x → R < x.block) ∧ Below R w w' ∧ Rdr w' R N

def DbO (w : World) (e : Ending) (w' : World) : Prop :=
  ∃ (A : Option Addr) (cap : Nat) (rs : List (ByteArray × ByteArray)) (p g l o y : ByteArray), e = .returned (.tuple #[.agg #[.slice A rs.length cap, .string p, .string g, .string l], .string o, .string y]) ∧ Rd w' w'.heap.size A (rotV rs) ∧ rs.length ≤ cap ∧ rs.length ≤ 6 ∧ p.size ≤ 20 ∧ g.size ≤ 10 ∧ l.size ≤ 20 ∧ o.size ≤ 10 ∧ y.size ≤ 10 ∧ (∀ x, A = some x → w.heap.size < x.block) ∧ Below w.heap.size w w'





















































































































































theorem results_st_tmp3 {fn : Func} {p u v x : Tmp} {ty : TypeId} (h : fn.results = #[.cell p ty, .tmp u, .tmp v, .tmp x]) (tmps : Array Value) (w : World) (g : Nat) (t : TypeId) (cs : Array Value) (fr : Nat × Nat) (d : TypeDesc)
    (hp : tmps.getD p undef = .pointer (some ⟨g, 0, none⟩)) (hg : w.heap[g]? = some (.cells cs t fr))
    (hu : Tryz.prog.underlying ty = some d) (hd : (∃ fs, d = .struct fs)) (hi : (Tryz.prog.info? ty).map (·.size) = some cs.size) :
    (results fn tmps).run Tryz.prog w = .ok (.tuple #[.agg cs, tmps.getD u undef, tmps.getD v undef, tmps.getD x undef]) w := by
  obtain ⟨fs, rfl⟩ := hd
  have hp' : tmps[p]?.getD undef = .pointer (some ⟨g, 0, none⟩) := by simpa using hp
  simp [results, h, hp', asAddr, run_loadVar_row w g t ty cs fr _ hg hu rfl hi]

theorem Rd.grownR {w w' : World} {A : Option Addr} {xs : List Value} {R : Nat} (h : Rd w w.heap.size A xs) (hA : ∀ x, A = some x → x.block ≠ R) (ho : w.grownBy w' (some R)) : Rd w' w'.heap.size A xs := fun hn => by
  obtain ⟨b, off, e, hb, hc⟩ := h hn
  have hbR : b ≠ R := hA _ e
  exact ⟨b, off, e, Nat.lt_of_lt_of_le hb ho.size, fun j hj => (World.cell?_of_block (a := ⟨b, off + j, none⟩) (ho.block b hb (by intro e2; injection e2 with e2; omega))).trans (hc j hj)⟩

/-- a machine, two windows and a word were drawn, whatever they are -/
def SlD (w : World) (e : Ending) (w' : World) : Prop :=
  ∃ (A : Option Addr) (cap : Nat) (rs : List (ByteArray × ByteArray)) (p g l o y x : ByteArray), e = .returned (.tuple #[.agg #[.slice A rs.length cap, .string p, .string g, .string l], .string o, .string y, .string x]) ∧ Rd w' w'.heap.size A (rotV rs) ∧ rs.length ≤ cap ∧ rs.length ≤ 6 ∧ p.size ≤ 20 ∧ g.size ≤ 10 ∧ l.size ≤ 20 ∧ o.size ≤ 10 ∧ y.size ≤ 10 ∧ x.size ≤ 300 ∧ Below w.heap.size w w'






























































































end Go.Proofs.YtipcodebmemkpaaGreatDoor
