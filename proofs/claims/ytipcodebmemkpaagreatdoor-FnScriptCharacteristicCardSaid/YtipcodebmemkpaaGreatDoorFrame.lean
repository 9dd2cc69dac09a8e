/-
  From the readings of a statement's arguments to the words of the walks. No conditions.
-/
import Derived.Test.YtipcodebmemkpaaGreatDoorMem
import Derived.ProofKit
import Derived.OpenShut
import Derived.ShutString
import Derived.ChangeOld
import Derived.Below
import Derived.SliceStrings
import Derived.Deep.Slices
import Derived.Deep.Fields
import Derived.ChangeSame
namespace Go.Proofs.YtipcodebmemkpaaGreatDoor
open Go.RowKit Pl
open Go.ChangeShapes Go.WideShapes Go.ChangeAt Go.Deep
set_option linter.unusedVariables false

theorem own : ownKnob Tryz.prog.godebug = none := by kernel_rfl
theorem laidOut : laidOutB Tryz.prog = true := by kernel_rfl

/-- the cells of a slice of strings -/
def strV (l : List ByteArray) : List Value := l.map Value.string
theorem length_strV (l : List ByteArray) : (strV l).length = l.length := by simp [strV]
/-- the cells of a slice of entries -/
def entV (l : List (ByteArray × ByteArray)) : List Value := l.flatMap fun e => [.string e.1, .string e.2]
theorem length_entV (l : List (ByteArray × ByteArray)) : (entV l).length = 2 * l.length := by
  induction l with
  | nil => rfl
  | cons e l ih => simp [entV] at ih ⊢; omega
theorem entV_at (l : List (ByteArray × ByteArray)) (i : Nat) (h : i < l.length) : (entV l)[2 * i]? = some (.string l[i].1) ∧ (entV l)[2 * i + 1]? = some (.string l[i].2) := by
  induction l generalizing i with
  | nil => simp at h
  | cons e l ih =>
    have hc : entV (e :: l) = .string e.1 :: .string e.2 :: entV l := rfl
    rw [hc]
    cases i with
    | zero => exact ⟨rfl, rfl⟩
    | succ i =>
      have := ih i (by simpa using h)
      rw [show 2 * (i + 1) = 2 * i + 1 + 1 by omega]
      simpa using this

section
variable {H : Type} {enc : TypeId × Value → H} {P : Program} {W : World}
theorem spot_none {a : Addr} {v : Value} (h : W.cell? a = some v) : a = ⟨a.block, a.off, none⟩ := by
  have := World.cell?_spot h
  cases a; simp_all

theorem open_bytes {t e : TypeId} {a : Option Addr} {len cap : Nat} {d : DataW H} {p : List MemPlace} (ht : P.underlying t = some (.slice e)) (he : P.underlying e = some (.int .u8)) (hC : P.cellsOf e = 1)
    (h : DataW.Trod enc P W 0 (fun _ => true) true t (.slice a len cap) d p) : ∃ bs : List UInt8, bs.length = len ∧ len ≤ cap ∧ cap ≤ maxLen ∧ Rd W W.heap.size a (bytesV bs) := by
  obtain ⟨fuel, hf⟩ := h
  rcases open_ints ht he hC hf with ⟨hcs, _⟩ | ⟨x, l, c, zs, hcs, _, hl, hm, hz, _, hcell, hwz⟩
  · simp [Value.cells] at hcs
    obtain ⟨rfl, rfl, rfl⟩ := hcs
    exact ⟨[], rfl, Nat.le_refl _, Nat.zero_le _, Rd.nil⟩
  · simp [Value.cells] at hcs
    obtain ⟨rfl, rfl, rfl⟩ := hcs
    simp at hz
    refine ⟨(zs.take len).map fun z => UInt8.ofNat z.toNat, by simp; omega, hl, hm, fun hn => ?_⟩
    have hpos : 0 < len := by
      rcases Nat.eq_zero_or_pos len with h0 | h0
      · subst h0; exact absurd (by simp [bytesV]) hn
      · exact h0
    have h0 := hcell 0 (by omega)
    have hx : x = ⟨x.block, x.off, none⟩ := spot_none (by simpa [Addr.add] using h0)
    refine ⟨x.block, x.off, by rw [← hx], ?_, fun j hj => ?_⟩
    · exact World.block_lt_of_cell? W x (by simpa [Addr.add] using h0)
    · have hj' : j < len := by rw [length_bytesV] at hj; simp at hj; omega
      have hc := hcell j (by omega)
      rw [hx, add_none] at hc
      rw [hc]
      have hb := bounds_u8 (hwz (zs[j]'(by omega)) (List.getElem_mem _))
      have hmod : (zs[j]'(by omega)).toNat % 256 = (zs[j]'(by omega)).toNat := Nat.mod_eq_of_lt (by omega)
      simp [bytesV, UInt8.toNat_ofNat', List.getD, List.getElem?_eq_getElem (show j < zs.length by omega), hmod]
      omega

theorem open_strs' {t e : TypeId} {a : Option Addr} {len cap : Nat} {d : DataW H} {p : List MemPlace} (ht : P.underlying t = some (.slice e)) (he : P.underlying e = some .string) (hC : P.cellsOf e = 1)
    (h : DataW.Trod enc P W 0 (fun _ => true) true t (.slice a len cap) d p) : ∃ ss : List ByteArray, ss.length = len ∧ len ≤ cap ∧ cap ≤ maxLen ∧ Rd W W.heap.size a (strV ss) ∧ ∀ s ∈ ss, s.size ≤ maxLen := by
  obtain ⟨fuel, hf⟩ := h
  rcases open_strings ht he hC hf with ⟨hcs, _⟩ | ⟨x, l, c, zs, hcs, _, hl, hm, hz, _, hcell, hwz⟩
  · simp [Value.cells] at hcs
    obtain ⟨rfl, rfl, rfl⟩ := hcs
    exact ⟨[], rfl, Nat.le_refl _, Nat.zero_le _, Rd.nil, by simp⟩
  · simp [Value.cells] at hcs
    obtain ⟨rfl, rfl, rfl⟩ := hcs
    simp at hz
    refine ⟨zs.take len, by simp; omega, hl, hm, fun hn => ?_, fun s hs => hwz s (List.mem_of_mem_take hs)⟩
    have hpos : 0 < len := by
      rcases Nat.eq_zero_or_pos len with h0 | h0
      · subst h0; exact absurd (by simp [strV]) hn
      · exact h0
    have h0 := hcell 0 (by omega)
    have hx : x = ⟨x.block, x.off, none⟩ := spot_none (by simpa [Addr.add] using h0)
    refine ⟨x.block, x.off, by rw [← hx], ?_, fun j hj => ?_⟩
    · exact World.block_lt_of_cell? W x (by simpa [Addr.add] using h0)
    · have hj' : j < len := by rw [length_strV] at hj; simp at hj; omega
      have hc := hcell j (by omega)
      rw [hx, add_none] at hc
      rw [hc]
      simp [strV, List.getD, List.getElem?_eq_getElem (show j < zs.length by omega)]

theorem open_entries {t e st : TypeId} {a : Option Addr} {len cap : Nat} {d : DataW H} {p : List MemPlace} {f0 f1 : Field} (ht : P.underlying t = some (.slice e)) (he : P.underlying e = some (.struct #[f0, f1]))
    (h0 : P.underlying f0.type = some .string) (h1 : P.underlying f1.type = some .string) (hone : oneCellFields P #[f0, f1] = true) (hC : P.cellsOf e = 2)
    (h : DataW.Trod enc P W 0 (fun _ => true) true t (.slice a len cap) d p) :
    ∃ es : List (ByteArray × ByteArray), es.length = len ∧ len ≤ cap ∧ cap ≤ maxLen ∧ Rd W W.heap.size a (entV es) ∧ ∀ x ∈ es, x.1.size ≤ maxLen ∧ x.2.size ≤ maxLen := by
  obtain ⟨fuel, hf⟩ := h
  rcases open_slice ht hf with ⟨hcs, _⟩ | ⟨x, l, c, m, n, D, Pl, hcs, hb, hl, hm, hmm, _, hi⟩
  · simp [Value.cells] at hcs
    obtain ⟨rfl, rfl, rfl⟩ := hcs
    exact ⟨[], rfl, Nat.le_refl _, Nat.zero_le _, Rd.nil, by simp⟩
  · simp [Value.cells] at hcs
    obtain ⟨rfl, rfl, rfl⟩ := hcs
    simp at hmm
    subst hmm
    have each : ∀ i, i < len → ∃ s0 s1 : ByteArray, W.cell? (x.add (i * 2)) = some (.string s0) ∧ W.cell? ((x.add (i * 2)).add 1) = some (.string s1) ∧ s0.size ≤ maxLen ∧ s1.size ≤ maxLen := by
      intro i hil
      obtain ⟨cs', hc, ht'⟩ := hi i (by omega)
      rw [hC] at hc
      obtain ⟨ys, n', hn', hy, hlen, hyl, hg⟩ := DataW.trod_struct he ht'
      obtain ⟨_, hcl, hat⟩ := World.cells?_some hc
      obtain ⟨o0, k0⟩ := hone_of hone 0 f0 rfl
      obtain ⟨o1, k1⟩ := hone_of hone 1 f1 rfl
      have g0 := hg 0 f0 rfl
      have g1 := hg 1 f1 rfl
      rw [o0, k0] at g0
      rw [o1, k1] at g1
      match cs', hcl with
      | [c0, c1], _ =>
        match ys, hyl with
        | [y0, y1], _ =>
          obtain ⟨s0, e0, _, z0⟩ := DataW.trod_string h0 (by simpa using g0)
          obtain ⟨s1, e1, _, z1⟩ := DataW.trod_string h1 (by simpa using g1)
          simp at e0 e1
          subst e0 e1
          have a0 := hat 0 (by omega)
          have a1 := hat 1 (by omega)
          exact ⟨s0, s1, by simpa [Addr.add] using a0, by simpa using a1, z0, z1⟩
    let g : Nat → ByteArray × ByteArray := fun i => if h : i < len then ((each i h).choose, (each i h).choose_spec.choose) else (ByteArray.empty, ByteArray.empty)
    have hgs : ∀ i, i < len → W.cell? (x.add (i * 2)) = some (.string (g i).1) ∧ W.cell? ((x.add (i * 2)).add 1) = some (.string (g i).2) ∧ (g i).1.size ≤ maxLen ∧ (g i).2.size ≤ maxLen := fun i hil => by
      have := (each i hil).choose_spec.choose_spec
      simpa [g, hil] using this
    refine ⟨(List.range len).map g, by simp, hl, hm, fun hn => ?_, ?_⟩
    · have hpos : 0 < len := by
        rcases Nat.eq_zero_or_pos len with h0 | h0
        · subst h0; exact absurd (by simp [entV]) hn
        · exact h0
      have c0 := (hgs 0 hpos).1
      have hx : x = ⟨x.block, x.off, none⟩ := spot_none (by simpa [Addr.add] using c0)
      refine ⟨x.block, x.off, by rw [← hx], ?_, fun j hj => ?_⟩
      · exact World.block_lt_of_cell? W x (by simpa [Addr.add] using c0)
      · rw [length_entV] at hj
        simp only [List.length_map, List.length_range] at hj
        have hi2 : j / 2 < len := by omega
        have hv := entV_at ((List.range len).map g) (j / 2) (by simpa using hi2)
        have hc := hgs (j / 2) hi2
        rw [hx, add_none, add_none] at hc
        rcases Nat.mod_two_eq_zero_or_one j with hj2 | hj2
        · have ej : j = 2 * (j / 2) := by omega
          have hs := hv.1
          have := hc.1
          rw [show j / 2 * 2 = j by omega] at this
          rw [this]
          rw [← ej] at hs
          rw [List.getElem?_eq_getElem (by rw [length_entV]; simpa using hj)] at hs
          simp at hs
          rw [hs]
        · have ej : j = 2 * (j / 2) + 1 := by omega
          have hs := hv.2
          have := hc.2.1
          rw [show x.off + j / 2 * 2 + 1 = x.off + j by omega] at this
          rw [this]
          rw [← ej] at hs
          rw [List.getElem?_eq_getElem (by rw [length_entV]; simpa using hj)] at hs
          simp at hs
          rw [hs]
    · intro y hy
      simp only [List.mem_map, List.mem_range] at hy
      obtain ⟨i, hil, rfl⟩ := hy
      exact (hgs i hil).2.2
end

end Go.Proofs.YtipcodebmemkpaaGreatDoor
