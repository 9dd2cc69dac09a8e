/-
  Maps with string keys, and the table of commands as such a map. Conditions: what each theorem names.
-/
import Derived.Test.YtipcodebmemkpaaGreatDoorFrame
import Derived.Maps.Own
import Derived.Maps.OwnOps
import Derived.Maps.OwnSet
import Derived.Maps.StringElems
namespace Go.Proofs.YtipcodebmemkpaaGreatDoor
open Go.RowKit Pl Go.Maps Go.WideMaps
set_option linter.unusedVariables false

theorem keyLaw : Keyed Tryz.prog 9 := string_keyed Tryz.underlying9
theorem zeroStr (w : World) : (zeroValue 9).run Tryz.prog w = .ok (.string (mk [])) w := by kernel_rfl

/-- the entry with a key -/
def findE (m : List (ByteArray × ByteArray)) (s : ByteArray) : Option (ByteArray × ByteArray) := m.find? fun e => decide (e.1 = s)
/-- the string at a key, or the empty one -/
def valE (o : Option (ByteArray × ByteArray)) : ByteArray := match o with | some e => e.2 | none => mk []

/-- block b is a map whose entries are m (no key twice) -/
def SMap (w : World) (b : Nat) (m : List (ByteArray × ByteArray)) : Prop :=
  ∃ D : DataW Unit, w.ownsMap Tryz.prog 9 (plainElem Tryz.prog 9) b m.length D ∧ (∀ e ∈ m, e.1.size ≤ maxLen ∧ e.2.size ≤ maxLen) ∧
    ∀ s : ByteArray, s.size ≤ maxLen → Maps.has D (.string s.data.toList) = (findE m s).isSome ∧ ∀ z, D.atKey (.string s.data.toList) z = match findE m s with | some e => .lit (.string e.2.data.toList) | none => z

section
variable {w w' : World} {b : Nat} {m : List (ByteArray × ByteArray)}
theorem SMap.lt (h : SMap w b m) : b < w.heap.size := by obtain ⟨D, h, _⟩ := h; exact h.lt
theorem SMap.kept {row : Option Nat} (h : SMap w b m) (hg : w.grownBy w' row) (hne : some b ≠ row) : SMap w' b m := by
  obtain ⟨D, h, h2⟩ := h; exact ⟨D, h.kept hg hne, h2⟩
theorem SMap.alloc (h : SMap w b m) (o : Obj) : SMap (w.alloc o) b m := by obtain ⟨D, h, h2⟩ := h; exact ⟨D, h.alloc o, h2⟩
theorem SMap.drew (h : SMap w b m) : SMap w.drew b m := by obtain ⟨D, h, h2⟩ := h; exact ⟨D, h.drew, h2⟩
theorem SMap.drewN (h : SMap w b m) (n : Nat) : SMap (w.drewN n) b m := by obtain ⟨D, h, h2⟩ := h; exact ⟨D, h, h2⟩
theorem SMap.setCell (h : SMap w b m) {a : Addr} (ha : b ≠ a.block) (u : Value) : SMap (w.setCell a u) b m := by obtain ⟨D, h, h2⟩ := h; exact ⟨D, h.setCell ha u, h2⟩
theorem SMap.below (h : SMap w b m) (hb : Below w.heap.size w w') : SMap w' b m := h.kept (only_of_below hb none) (by simp)
theorem SMap.made (w : World) : SMap (w.alloc (.map #[] 0)) w.heap.size [] :=
  ⟨.map [], World.ownsMap_made w _ _ _, by simp, fun s _ => ⟨rfl, fun z => rfl⟩⟩

theorem SMap.fresh (h : w.heap[b]? = some (.map #[] 0)) : SMap w b [] :=
  ⟨.map [], ⟨#[], 0, h, ⟨by simp, Go.MapKept.stamped_empty 0, by simp⟩, Nat.le_refl _, rfl⟩, by simp, fun s _ => ⟨rfl, fun z => rfl⟩⟩
theorem SMap.isMap (h : SMap w b m) : ∃ es clock, w.heap[b]? = some (.map es clock) := by obtain ⟨D, ⟨es, clock, h, _⟩, _⟩ := h; exact ⟨es, clock, h⟩

theorem isKeyStr (l : List UInt8) (h : l.length ≤ maxLen) : keyOf Tryz.prog 9 (.string (mk l)) = some (.string l) := keyOf_string_mk Tryz.underlying9 h

theorem SMap.look (h : SMap w b m) (s : ByteArray) (hs : s.size ≤ maxLen) :
    (Instr.lookup 243 (.map (some b)) (.string s) true).run Tryz.prog w = .ok (.tuple #[.string (valE (findE m s)), .bool (findE m s).isSome]) w := by
  obtain ⟨D, ho, hm, hD⟩ := h
  obtain ⟨v, ps, hrun, hR⟩ := ho.look_ok keyLaw Tryz.underlying243 (zeroStr w) (zd := .lit (.string [])) (zp := []) (plainElem_string (H := Unit) Tryz.underlying9 (s := mk []) (by simp [size_mk])) (keyOf_string_mk Tryz.underlying9 hs)
  obtain ⟨s', rfl, hz, _⟩ := plainElem_string_inv Tryz.underlying9 hR
  rw [hrun, (hD s hs).1]
  have h2 := (hD s hs).2 (.lit (.string []))
  simp only [Prod.mk.injEq] at hz
  rw [hz.1] at h2
  have e' : s' = valE (findE m s) := by
    cases hf : findE m s with
    | none =>
      simp only [hf, DataW.lit.injEq, Lit.string.injEq] at h2
      exact tl_inj h2
    | some e =>
      simp only [hf, DataW.lit.injEq, Lit.string.injEq] at h2
      exact tl_inj h2
  rw [e']

theorem findE_append (m : List (ByteArray × ByteArray)) (s t x : ByteArray) : findE (m ++ [(s, t)]) x = match findE m x with | some e => some e | none => if s = x then some (s, t) else none := by
  unfold findE
  rw [List.find?_append]
  cases hf : List.find? (fun e : ByteArray × ByteArray => decide (e.1 = x)) m with
  | some e => rfl
  | none =>
    by_cases hx : s = x <;> simp [hx]

theorem SMap.put (h : SMap w b m) (s t : ByteArray) (hs : s.size ≤ maxLen) (ht : t.size ≤ maxLen) (hm : m.length < maxLen) (hn : findE m s = none) :
    ∃ w', (Instr.mapUpdate 243 (.map (some b)) (.string s) (.string t)).run Tryz.prog w = .ok () w' ∧ SMap w' b (m ++ [(s, t)]) ∧ w.grownBy w' (some b) := by
  obtain ⟨D, ho, hml, hD⟩ := h
  obtain ⟨w', hrun, ho', hg⟩ := ho.update keyLaw Tryz.underlying243 hm (keyOf_string_mk Tryz.underlying9 hs) (plainElem_string (H := Unit) Tryz.underlying9 ht)
  have hisk : WideAt.IsKeyLit (Lit.string s.data.toList) := by simp [WideAt.IsKeyLit]
  refine ⟨w', hrun, ⟨_, by simpa using ho', ?_, fun x hx => ?_⟩, hg⟩
  · intro e he
    rw [List.mem_append] at he
    rcases he with he | he
    · exact hml e he
    · simp at he; subst he; exact ⟨hs, ht⟩
  · have hDx := hD x hx
    rw [findE_append]
    by_cases e : s = x
    · subst e
      rw [hn]
      simp only [if_true]
      exact ⟨by rw [Maps.has_put_same ho.isMap hisk]; rfl, fun z => Maps.atKey_put_same ho.isMap hisk _ z⟩
    · have hne : Lit.string x.data.toList ≠ Lit.string s.data.toList := by
        intro hh; injection hh with hh; exact e (tl_inj (show tl s = tl x from hh.symm))
      rw [Maps.has_put_other hne, hDx.1]
      refine ⟨?_, fun z => ?_⟩
      · cases findE m x <;> simp [e]
      · rw [Maps.atKey_put_other hne, hDx.2 z]
        cases findE m x <;> simp [e]
end

/-- a value reads as itself -/
def selfR (v : Value) : Option (DataW Value × List MemPlace) := some (.held v, [])
/-- the entry with a key -/
def findC (m : List (ByteArray × Value)) (s : ByteArray) : Option (ByteArray × Value) := m.find? fun e => decide (e.1 = s)
/-- the value at a key, or another one -/
def valC (o : Option (ByteArray × Value)) (z : Value) : Value := match o with | some e => e.2 | none => z

/-- block b is a map whose entries are m (no key twice) -/
def CMap (w : World) (b : Nat) (m : List (ByteArray × Value)) : Prop :=
  ∃ D : DataW Value, w.ownsMap Tryz.prog 9 selfR b m.length D ∧
    ∀ s : ByteArray, s.size ≤ maxLen → Maps.has D (.string s.data.toList) = (findC m s).isSome ∧ ∀ z, D.atKey (.string s.data.toList) z = match findC m s with | some e => .held e.2 | none => z

section
variable {w w' : World} {b : Nat} {m : List (ByteArray × Value)}
theorem CMap.lt (h : CMap w b m) : b < w.heap.size := by obtain ⟨D, h, _⟩ := h; exact h.lt
theorem CMap.kept {row : Option Nat} (h : CMap w b m) (hg : w.grownBy w' row) (hne : some b ≠ row) : CMap w' b m := by
  obtain ⟨D, h, h2⟩ := h; exact ⟨D, h.kept hg hne, h2⟩
theorem CMap.alloc (h : CMap w b m) (o : Obj) : CMap (w.alloc o) b m := by obtain ⟨D, h, h2⟩ := h; exact ⟨D, h.alloc o, h2⟩
theorem CMap.below (h : CMap w b m) (hb : Below w.heap.size w w') : CMap w' b m := h.kept (only_of_below hb none) (by simp)
theorem CMap.made (w : World) : CMap (w.alloc (.map #[] 0)) w.heap.size [] :=
  ⟨.map [], World.ownsMap_made w _ _ _, fun s _ => ⟨rfl, fun z => rfl⟩⟩

theorem CMap.look (h : CMap w b m) {t e : TypeId} (ht : Tryz.prog.underlying t = some (.map 9 e)) {z : Value} (hz : (zeroValue e).run Tryz.prog w = .ok z w) (s : ByteArray) (hs : s.size ≤ maxLen) :
    (Instr.lookup t (.map (some b)) (.string s) true).run Tryz.prog w = .ok (.tuple #[valC (findC m s) z, .bool (findC m s).isSome]) w := by
  obtain ⟨D, ho, hD⟩ := h
  obtain ⟨v, ps, hrun, hR⟩ := ho.look_ok keyLaw ht hz (zd := .held z) (zp := []) rfl (keyOf_string_mk Tryz.underlying9 hs)
  rw [hrun, (hD s hs).1]
  have h2 := (hD s hs).2 (.held z)
  simp only [selfR, Option.some.injEq, Prod.mk.injEq] at hR
  rw [← hR.1] at h2
  have e' : v = valC (findC m s) z := by
    cases hf : findC m s with
    | none =>
      simp only [hf, DataW.held.injEq] at h2
      exact h2
    | some e =>
      simp only [hf, DataW.held.injEq] at h2
      exact h2
  rw [e']

theorem findC_append (m : List (ByteArray × Value)) (s : ByteArray) (t : Value) (x : ByteArray) : findC (m ++ [(s, t)]) x = match findC m x with | some e => some e | none => if s = x then some (s, t) else none := by
  unfold findC
  rw [List.find?_append]
  cases hf : List.find? (fun e : ByteArray × Value => decide (e.1 = x)) m with
  | some e => rfl
  | none =>
    by_cases hx : s = x <;> simp [hx]

theorem CMap.put (h : CMap w b m) {t e : TypeId} (ht : Tryz.prog.underlying t = some (.map 9 e)) (s : ByteArray) (v : Value) (hs : s.size ≤ maxLen) (hm : m.length < maxLen) (hn : findC m s = none) :
    ∃ w', (Instr.mapUpdate t (.map (some b)) (.string s) v).run Tryz.prog w = .ok () w' ∧ CMap w' b (m ++ [(s, v)]) ∧ w.grownBy w' (some b) := by
  obtain ⟨D, ho, hD⟩ := h
  obtain ⟨w', hrun, ho', hg⟩ := ho.update keyLaw ht hm (keyOf_string_mk Tryz.underlying9 hs) (val := v) (d := .held v) (ps := []) rfl
  have hisk : WideAt.IsKeyLit (Lit.string s.data.toList) := by simp [WideAt.IsKeyLit]
  refine ⟨w', hrun, ⟨_, by simpa using ho', fun x hx => ?_⟩, hg⟩
  have hDx := hD x hx
  rw [findC_append]
  by_cases e : s = x
  · subst e
    rw [hn]
    simp only [if_true]
    exact ⟨by rw [Maps.has_put_same ho.isMap hisk]; rfl, fun z => Maps.atKey_put_same ho.isMap hisk _ z⟩
  · have hne : Lit.string x.data.toList ≠ Lit.string s.data.toList := by
      intro hh; injection hh with hh; exact e (tl_inj (show tl s = tl x from hh.symm))
    rw [Maps.has_put_other hne, hDx.1]
    refine ⟨?_, fun z => ?_⟩
    · cases findC m x <;> simp [e]
    · rw [Maps.atKey_put_other hne, hDx.2 z]
      cases findC m x <;> simp [e]

/-- an entry of a map's literal, for the walk -/
theorem wpList_insert {ops : Array Oper} {rest : List Oper} {o : Oper} {a : Act} {Q : Exit → Act → World → Prop} (h : CMap w b m) (hgd : o.guard = none) (t : TypeId) (x k v : Operand) (hop : o.op = Op.insert t x k v)
    {e : TypeId} (ht : Tryz.prog.underlying t = some (.map 9 e)) (hx : a.eval x = .map (some b)) (s : ByteArray) (hk : a.eval k = .string s) (val : Value) (hv : a.eval v = val)
    (hs : s.size ≤ maxLen) (hm : m.length < maxLen) (hn : findC m s = none)
    (hK : ∀ w', CMap w' b (m ++ [(s, val)]) → w.grownBy w' (some b) → wpList Tryz.prog ops Q rest (a.put o.dst undef) w') : wpList Tryz.prog ops Q (o :: rest) a w := by
  refine wpList_plain hgd fun K' hK' => ?_
  obtain ⟨w', hrun, r1, r2⟩ := h.put ht s val hs hm hn
  unfold Oper.wp
  simp [execOp, hop, hx, hk, hv, hrun, Result.andThen]
  exact hK' _ _ (hK w' r1 r2)
end

end Go.Proofs.YtipcodebmemkpaaGreatDoor
