/-
  A set of small numbers as the bits of one number, and the results of a function with an array and a boolean. Conditions: what each theorem names.
-/
import Derived.Test.YtlbngohbbcdfkaaGreatDoorPermN
import Derived.Laws.ResultCell
namespace Go.Proofs.YtlbngohbbcdfkaaGreatDoor
open Go.RowKit Pl
set_option linter.unusedVariables false

theorem and_all : ∀ s : Fin 1024, ∀ n : Fin 10, bits .and .i64 (((s.val / 2 ^ n.val : Nat) : Int)) 1 = if s.val.testBit n.val then 1 else 0 := by decide +kernel
theorem or_all : ∀ s : Fin 1024, ∀ n : Fin 10, bits .or .i64 (s.val : Int) ((2 ^ n.val : Nat) : Int) = ((s.val ||| 2 ^ n.val : Nat) : Int) := by decide +kernel
/-- the bits of s are the numbers of l -/
structure Seen (s : Nat) (l : List Nat) : Prop where
  lt : s < 1024
  bit : ∀ n, n < 10 → (s.testBit n = true ↔ n ∈ l)
theorem seen_none : Seen 0 [] := ⟨by omega, fun n _ => by simp⟩
theorem Seen.put {s : Nat} {l : List Nat} (h : Seen s l) {n : Nat} (hn : n < 10) : Seen (s ||| 2 ^ n) (l ++ [n]) := by
  refine ⟨Nat.or_lt_two_pow (n := 10) h.lt (Nat.pow_lt_pow_right (by omega) hn), fun m hm => ?_⟩
  rw [Nat.testBit_or, Bool.or_eq_true, h.bit m hm, Nat.testBit_two_pow]
  simp [eq_comm]
theorem Seen.and_in {s : Nat} {l : List Nat} (h : Seen s l) {n : Nat} (hn : n < 10) (hm : n ∈ l) : bits .and .i64 ((s : Int) / 2 ^ n) 1 = 1 := by
  have h1 := and_all ⟨s, h.lt⟩ ⟨n, hn⟩
  rw [if_pos ((h.bit n hn).2 hm)] at h1
  rw [← h1]; congr 1
theorem Seen.and_out {s : Nat} {l : List Nat} (h : Seen s l) {n : Nat} (hn : n < 10) (hm : n ∉ l) : bits .and .i64 ((s : Int) / 2 ^ n) 1 = 0 := by
  have h1 := and_all ⟨s, h.lt⟩ ⟨n, hn⟩
  rw [if_neg (fun e => hm ((h.bit n hn).1 e))] at h1
  rw [← h1]; congr 1
theorem Seen.or_ {s : Nat} {l : List Nat} (h : Seen s l) {n : Nat} (hn : n < 10) : bits .or .i64 (s : Int) (2 ^ n) = ((s ||| 2 ^ n : Nat) : Int) := by
  have h1 := or_all ⟨s, h.lt⟩ ⟨n, hn⟩
  rw [← h1]; congr 1

theorem results_row_tmp {fn : Func} {p u : Tmp} {ty : TypeId} (h : fn.results = #[.cell p ty, .tmp u]) (tmps : Array Value) (w : World) (g : Nat) (t : TypeId) (cs : Array Value) (fr : Nat × Nat) (n : Nat) (e : TypeId)
    (hp : tmps.getD p undef = .pointer (some ⟨g, 0, none⟩)) (hg : w.heap[g]? = some (.cells cs t fr))
    (hu : Tryz.prog.underlying ty = some (.array n e)) (hi : (Tryz.prog.info? ty).map (·.size) = some cs.size) :
    (results fn tmps).run Tryz.prog w = .ok (.tuple #[.agg cs, tmps.getD u undef]) w := by
  have hp' : tmps[p]?.getD undef = .pointer (some ⟨g, 0, none⟩) := by simpa using hp
  simp [results, h, hp', asAddr, run_loadVar_row w g t ty cs fr _ hg hu rfl hi]

end Go.Proofs.YtlbngohbbcdfkaaGreatDoor
