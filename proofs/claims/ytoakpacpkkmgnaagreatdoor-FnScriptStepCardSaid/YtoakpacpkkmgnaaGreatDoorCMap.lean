/-
  A word for a map from strings to values of any kind that a call has made, with what a look-up and a store do. No conditions but those that each theorem names.
-/
import Derived.Test.YtoakpacpkkmgnaaGreatDoorSMap
namespace Go.Proofs.YtoakpacpkkmgnaaGreatDoor
open Go.RowKit Pl Go.Maps Go.WideMaps
set_option linter.unusedVariables false

/-- a value reads as itself -/
def selfR (v : Value) : Option (DataW Value × List MemPlace) := some (.held v, [])
/-- the entry with a key -/
def findC (m : List (ByteArray × Value)) (s : ByteArray) : Option (ByteArray × Value) := m.find? fun e => decide (e.1 = s)
/-- the value at a key, or another one -/
def valC (o : Option (ByteArray × Value)) (z : Value) : Value := match o with | some e => e.2 | none => z

/-- block b is a map whose entries are m (no key twice) -/
def CMap (w : World) (b : Nat) (m : List (ByteArray × Value)) : Prop :=
  ∃ D : DataW Value, w.ownsMap Tryz.prog 9 selfR b m.length D ∧
    ∀ s : ByteArray, s.size ≤ maxLen → Maps.has D (.string s.data.toList) = (findC m s).isSome ∧ ∀ z, D.atKey (.string s.data.toList) z = match findC m s with | some e => .held e.2 | none => z

section
variable {w w' : World} {b : Nat} {m : List (ByteArray × Value)}
theorem CMap.lt (h : CMap w b m) : b < w.heap.size := by obtain ⟨D, h, _⟩ := h; exact h.lt
theorem CMap.kept {row : Option Nat} (h : CMap w b m) (hg : w.grownBy w' row) (hne : some b ≠ row) : CMap w' b m := by
  obtain ⟨D, h, h2⟩ := h; exact ⟨D, h.kept hg hne, h2⟩
theorem CMap.alloc (h : CMap w b m) (o : Obj) : CMap (w.alloc o) b m := by obtain ⟨D, h, h2⟩ := h; exact ⟨D, h.alloc o, h2⟩
theorem CMap.below (h : CMap w b m) (hb : Below w.heap.size w w') : CMap w' b m := h.kept (only_of_below hb none) (by simp)
theorem CMap.made (w : World) : CMap (w.alloc (.map #[] 0)) w.heap.size [] :=
  ⟨.map [], World.ownsMap_made w _ _ _, fun s _ => ⟨rfl, fun z => rfl⟩⟩

theorem CMap.look (h : CMap w b m) {t e : TypeId} (ht : Tryz.prog.underlying t = some (.map 9 e)) {z : Value} (hz : (zeroValue e).run Tryz.prog w = .ok z w) (s : ByteArray) (hs : s.size ≤ maxLen) :
    (Instr.lookup t (.map (some b)) (.string s) true).run Tryz.prog w = .ok (.tuple #[valC (findC m s) z, .bool (findC m s).isSome]) w := by
  obtain ⟨D, ho, hD⟩ := h
  obtain ⟨v, ps, hrun, hR⟩ := ho.look_ok keyLaw ht hz (zd := .held z) (zp := []) rfl (keyOf_string_mk Tryz.underlying9 hs)
  rw [hrun, (hD s hs).1]
  have h2 := (hD s hs).2 (.held z)
  simp only [selfR, Option.some.injEq, Prod.mk.injEq] at hR
  rw [← hR.1] at h2
  have e' : v = valC (findC m s) z := by
    cases hf : findC m s with
    | none =>
      simp only [hf, DataW.held.injEq] at h2
      exact h2
    | some e =>
      simp only [hf, DataW.held.injEq] at h2
      exact h2
  rw [e']

theorem findC_append (m : List (ByteArray × Value)) (s : ByteArray) (t : Value) (x : ByteArray) : findC (m ++ [(s, t)]) x = match findC m x with | some e => some e | none => if s = x then some (s, t) else none := by
  unfold findC
  rw [List.find?_append]
  cases hf : List.find? (fun e : ByteArray × Value => decide (e.1 = x)) m with
  | some e => rfl
  | none =>
    by_cases hx : s = x <;> simp [hx]

theorem CMap.put (h : CMap w b m) {t e : TypeId} (ht : Tryz.prog.underlying t = some (.map 9 e)) (s : ByteArray) (v : Value) (hs : s.size ≤ maxLen) (hm : m.length < maxLen) (hn : findC m s = none) :
    ∃ w', (Instr.mapUpdate t (.map (some b)) (.string s) v).run Tryz.prog w = .ok () w' ∧ CMap w' b (m ++ [(s, v)]) ∧ w.grownBy w' (some b) := by
  obtain ⟨D, ho, hD⟩ := h
  obtain ⟨w', hrun, ho', hg⟩ := ho.update keyLaw ht hm (keyOf_string_mk Tryz.underlying9 hs) (val := v) (d := .held v) (ps := []) rfl
  have hisk : WideAt.IsKeyLit (Lit.string s.data.toList) := by simp [WideAt.IsKeyLit]
  refine ⟨w', hrun, ⟨_, by simpa using ho', fun x hx => ?_⟩, hg⟩
  have hDx := hD x hx
  rw [findC_append]
  by_cases e : s = x
  · subst e
    rw [hn]
    simp only [if_true]
    exact ⟨by rw [Maps.has_put_same ho.isMap hisk]; rfl, fun z => Maps.atKey_put_same ho.isMap hisk _ z⟩
  · have hne : Lit.string x.data.toList ≠ Lit.string s.data.toList := by
      intro hh; injection hh with hh; exact e (tl_inj (show tl s = tl x from hh.symm))
    rw [Maps.has_put_other hne, hDx.1]
    refine ⟨?_, fun z => ?_⟩
    · cases findC m x <;> simp [e]
    · rw [Maps.atKey_put_other hne, hDx.2 z]
      cases findC m x <;> simp [e]

/-- an entry of a map's literal, for the walk -/
theorem wpList_insert {ops : Array Oper} {rest : List Oper} {o : Oper} {a : Act} {Q : Exit → Act → World → Prop} (h : CMap w b m) (hgd : o.guard = none) (t : TypeId) (x k v : Operand) (hop : o.op = Op.insert t x k v)
    {e : TypeId} (ht : Tryz.prog.underlying t = some (.map 9 e)) (hx : a.eval x = .map (some b)) (s : ByteArray) (hk : a.eval k = .string s) (val : Value) (hv : a.eval v = val)
    (hs : s.size ≤ maxLen) (hm : m.length < maxLen) (hn : findC m s = none)
    (hK : ∀ w', CMap w' b (m ++ [(s, val)]) → w.grownBy w' (some b) → wpList Tryz.prog ops Q rest (a.put o.dst undef) w') : wpList Tryz.prog ops Q (o :: rest) a w := by
  refine wpList_plain hgd fun K' hK' => ?_
  obtain ⟨w', hrun, r1, r2⟩ := h.put ht s val hs hm hn
  unfold Oper.wp
  simp [execOp, hop, hx, hk, hv, hrun, Result.andThen]
  exact hK' _ _ (hK w' r1 r2)
end

end Go.Proofs.YtoakpacpkkmgnaaGreatDoor
