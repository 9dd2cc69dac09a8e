/-
  Contracts of functions and plain laws that the law's proof uses (parts: CMap, Cmds, Index). Conditions: what each theorem names.
-/
import Derived.Maps.Own
import Derived.Maps.OwnOps
import Derived.Maps.OwnSet
import Derived.Maps.StringElems
import Derived.Test.YtnbdimbhklbadaaGreatDoorQBsA
import Derived.OwnWalk
import Derived.StillTailTactics
import Derived.BigRegion
import Derived.Deep.RegionHeld3
import Derived.Deep.DeepCutAuto
namespace Go.Proofs.YtnbdimbhklbadaaGreatDoor
open Go.RowKit Pl Go.Maps Go.WideMaps
set_option linter.unusedVariables false
theorem keyLaw : Keyed Tryz.prog 9 := string_keyed Tryz.underlying9
theorem zeroStr (w : World) : (zeroValue 9).run Tryz.prog w = .ok (.string (mk [])) w := by kernel_rfl
def findE (m : List (ByteArray × ByteArray)) (s : ByteArray) : Option (ByteArray × ByteArray) := m.find? fun e => decide (e.1 = s)
def valE (o : Option (ByteArray × ByteArray)) : ByteArray := match o with | some e => e.2 | none => mk []
def SMap (w : World) (b : Nat) (m : List (ByteArray × ByteArray)) : Prop :=
  ∃ D : DataW Unit, w.ownsMap Tryz.prog 9 (plainElem Tryz.prog 9) b m.length D ∧ (∀ e ∈ m, e.1.size ≤ maxLen ∧ e.2.size ≤ maxLen) ∧
    ∀ s : ByteArray, s.size ≤ maxLen → Maps.has D (.string s.data.toList) = (findE m s).isSome ∧ ∀ z, D.atKey (.string s.data.toList) z = match findE m s with | some e => .lit (.string e.2.data.toList) | none => z
section
variable {w w' : World} {b : Nat} {m : List (ByteArray × ByteArray)}
theorem SMap.lt (h : SMap w b m) : b < w.heap.size := by obtain ⟨D, h, _⟩ := h; exact h.lt
theorem SMap.kept {row : Option Nat} (h : SMap w b m) (hg : w.grownBy w' row) (hne : some b ≠ row) : SMap w' b m := by
  obtain ⟨D, h, h2⟩ := h; exact ⟨D, h.kept hg hne, h2⟩
theorem SMap.alloc (h : SMap w b m) (o : Obj) : SMap (w.alloc o) b m := by obtain ⟨D, h, h2⟩ := h; exact ⟨D, h.alloc o, h2⟩
theorem SMap.drew (h : SMap w b m) : SMap w.drew b m := by obtain ⟨D, h, h2⟩ := h; exact ⟨D, h.drew, h2⟩
theorem SMap.drewN (h : SMap w b m) (n : Nat) : SMap (w.drewN n) b m := by obtain ⟨D, h, h2⟩ := h; exact ⟨D, h, h2⟩
theorem SMap.setCell (h : SMap w b m) {a : Addr} (ha : b ≠ a.block) (u : Value) : SMap (w.setCell a u) b m := by obtain ⟨D, h, h2⟩ := h; exact ⟨D, h.setCell ha u, h2⟩
theorem SMap.below (h : SMap w b m) (hb : Below w.heap.size w w') : SMap w' b m := h.kept (only_of_below hb none) (by simp)
theorem SMap.made (w : World) : SMap (w.alloc (.map #[] 0)) w.heap.size [] :=
  ⟨.map [], World.ownsMap_made w _ _ _, by simp, fun s _ => ⟨rfl, fun z => rfl⟩⟩
theorem SMap.isMap (h : SMap w b m) : ∃ es clock, w.heap[b]? = some (.map es clock) := by obtain ⟨D, ⟨es, clock, h, _⟩, _⟩ := h; exact ⟨es, clock, h⟩
theorem SMap.look (h : SMap w b m) (s : ByteArray) (hs : s.size ≤ maxLen) :
    (Instr.lookup 254 (.map (some b)) (.string s) true).run Tryz.prog w = .ok (.tuple #[.string (valE (findE m s)), .bool (findE m s).isSome]) w := by
  obtain ⟨D, ho, hm, hD⟩ := h
  obtain ⟨v, ps, hrun, hR⟩ := ho.look_ok keyLaw Tryz.underlying254 (zeroStr w) (zd := .lit (.string [])) (zp := []) (plainElem_string (H := Unit) Tryz.underlying9 (s := mk []) (by simp [size_mk])) (keyOf_string_mk Tryz.underlying9 hs)
  obtain ⟨s', rfl, hz, _⟩ := plainElem_string_inv Tryz.underlying9 hR
  rw [hrun, (hD s hs).1]
  have h2 := (hD s hs).2 (.lit (.string []))
  simp only [Prod.mk.injEq] at hz
  rw [hz.1] at h2
  have e' : s' = valE (findE m s) := by
    cases hf : findE m s with
    | none =>
      simp only [hf, DataW.lit.injEq, Lit.string.injEq] at h2
      exact tl_inj h2
    | some e =>
      simp only [hf, DataW.lit.injEq, Lit.string.injEq] at h2
      exact tl_inj h2
  rw [e']
theorem findE_append (m : List (ByteArray × ByteArray)) (s t x : ByteArray) : findE (m ++ [(s, t)]) x = match findE m x with | some e => some e | none => if s = x then some (s, t) else none := by
  unfold findE
  rw [List.find?_append]
  cases hf : List.find? (fun e : ByteArray × ByteArray => decide (e.1 = x)) m with
  | some e => rfl
  | none =>
    by_cases hx : s = x <;> simp [hx]
theorem SMap.put (h : SMap w b m) (s t : ByteArray) (hs : s.size ≤ maxLen) (ht : t.size ≤ maxLen) (hm : m.length < maxLen) (hn : findE m s = none) :
    ∃ w', (Instr.mapUpdate 254 (.map (some b)) (.string s) (.string t)).run Tryz.prog w = .ok () w' ∧ SMap w' b (m ++ [(s, t)]) ∧ w.grownBy w' (some b) := by
  obtain ⟨D, ho, hml, hD⟩ := h
  obtain ⟨w', hrun, ho', hg⟩ := ho.update keyLaw Tryz.underlying254 hm (keyOf_string_mk Tryz.underlying9 hs) (plainElem_string (H := Unit) Tryz.underlying9 ht)
  have hisk : WideAt.IsKeyLit (Lit.string s.data.toList) := by simp [WideAt.IsKeyLit]
  refine ⟨w', hrun, ⟨_, by simpa using ho', ?_, fun x hx => ?_⟩, hg⟩
  · intro e he
    rw [List.mem_append] at he
    rcases he with he | he
    · exact hml e he
    · simp at he; subst he; exact ⟨hs, ht⟩
  · have hDx := hD x hx
    rw [findE_append]
    by_cases e : s = x
    · subst e
      rw [hn]
      simp only [if_true]
      exact ⟨by rw [Maps.has_put_same ho.isMap hisk]; rfl, fun z => Maps.atKey_put_same ho.isMap hisk _ z⟩
    · have hne : Lit.string x.data.toList ≠ Lit.string s.data.toList := by
        intro hh; injection hh with hh; exact e (tl_inj (show tl s = tl x from hh.symm))
      rw [Maps.has_put_other hne, hDx.1]
      refine ⟨?_, fun z => ?_⟩
      · cases findE m x <;> simp [e]
      · rw [Maps.atKey_put_other hne, hDx.2 z]
        cases findE m x <;> simp [e]
end
def selfR (v : Value) : Option (DataW Value × List MemPlace) := some (.held v, [])
def findC (m : List (ByteArray × Value)) (s : ByteArray) : Option (ByteArray × Value) := m.find? fun e => decide (e.1 = s)
def valC (o : Option (ByteArray × Value)) (z : Value) : Value := match o with | some e => e.2 | none => z
def CMap (w : World) (b : Nat) (m : List (ByteArray × Value)) : Prop :=
  ∃ D : DataW Value, w.ownsMap Tryz.prog 9 selfR b m.length D ∧
    ∀ s : ByteArray, s.size ≤ maxLen → Maps.has D (.string s.data.toList) = (findC m s).isSome ∧ ∀ z, D.atKey (.string s.data.toList) z = match findC m s with | some e => .held e.2 | none => z
section
variable {w w' : World} {b : Nat} {m : List (ByteArray × Value)}
theorem CMap.lt (h : CMap w b m) : b < w.heap.size := by obtain ⟨D, h, _⟩ := h; exact h.lt
theorem CMap.kept {row : Option Nat} (h : CMap w b m) (hg : w.grownBy w' row) (hne : some b ≠ row) : CMap w' b m := by
  obtain ⟨D, h, h2⟩ := h; exact ⟨D, h.kept hg hne, h2⟩
theorem CMap.alloc (h : CMap w b m) (o : Obj) : CMap (w.alloc o) b m := by obtain ⟨D, h, h2⟩ := h; exact ⟨D, h.alloc o, h2⟩
theorem CMap.below (h : CMap w b m) (hb : Below w.heap.size w w') : CMap w' b m := h.kept (only_of_below hb none) (by simp)
theorem CMap.made (w : World) : CMap (w.alloc (.map #[] 0)) w.heap.size [] :=
  ⟨.map [], World.ownsMap_made w _ _ _, fun s _ => ⟨rfl, fun z => rfl⟩⟩
theorem CMap.look (h : CMap w b m) {t e : TypeId} (ht : Tryz.prog.underlying t = some (.map 9 e)) {z : Value} (hz : (zeroValue e).run Tryz.prog w = .ok z w) (s : ByteArray) (hs : s.size ≤ maxLen) :
    (Instr.lookup t (.map (some b)) (.string s) true).run Tryz.prog w = .ok (.tuple #[valC (findC m s) z, .bool (findC m s).isSome]) w := by
  obtain ⟨D, ho, hD⟩ := h
  obtain ⟨v, ps, hrun, hR⟩ := ho.look_ok keyLaw ht hz (zd := .held z) (zp := []) rfl (keyOf_string_mk Tryz.underlying9 hs)
  rw [hrun, (hD s hs).1]
  have h2 := (hD s hs).2 (.held z)
  simp only [selfR, Option.some.injEq, Prod.mk.injEq] at hR
  rw [← hR.1] at h2
  have e' : v = valC (findC m s) z := by
    cases hf : findC m s with
    | none =>
      simp only [hf, DataW.held.injEq] at h2
      exact h2
    | some e =>
      simp only [hf, DataW.held.injEq] at h2
      exact h2
  rw [e']
theorem findC_append (m : List (ByteArray × Value)) (s : ByteArray) (t : Value) (x : ByteArray) : findC (m ++ [(s, t)]) x = match findC m x with | some e => some e | none => if s = x then some (s, t) else none := by
  unfold findC
  rw [List.find?_append]
  cases hf : List.find? (fun e : ByteArray × Value => decide (e.1 = x)) m with
  | some e => rfl
  | none =>
    by_cases hx : s = x <;> simp [hx]
theorem CMap.put (h : CMap w b m) {t e : TypeId} (ht : Tryz.prog.underlying t = some (.map 9 e)) (s : ByteArray) (v : Value) (hs : s.size ≤ maxLen) (hm : m.length < maxLen) (hn : findC m s = none) :
    ∃ w', (Instr.mapUpdate t (.map (some b)) (.string s) v).run Tryz.prog w = .ok () w' ∧ CMap w' b (m ++ [(s, v)]) ∧ w.grownBy w' (some b) := by
  obtain ⟨D, ho, hD⟩ := h
  obtain ⟨w', hrun, ho', hg⟩ := ho.update keyLaw ht hm (keyOf_string_mk Tryz.underlying9 hs) (val := v) (d := .held v) (ps := []) rfl
  have hisk : WideAt.IsKeyLit (Lit.string s.data.toList) := by simp [WideAt.IsKeyLit]
  refine ⟨w', hrun, ⟨_, by simpa using ho', fun x hx => ?_⟩, hg⟩
  have hDx := hD x hx
  rw [findC_append]
  by_cases e : s = x
  · subst e
    rw [hn]
    simp only [if_true]
    exact ⟨by rw [Maps.has_put_same ho.isMap hisk]; rfl, fun z => Maps.atKey_put_same ho.isMap hisk _ z⟩
  · have hne : Lit.string x.data.toList ≠ Lit.string s.data.toList := by
      intro hh; injection hh with hh; exact e (tl_inj (show tl s = tl x from hh.symm))
    rw [Maps.has_put_other hne, hDx.1]
    refine ⟨?_, fun z => ?_⟩
    · cases findC m x <;> simp [e]
    · rw [Maps.atKey_put_other hne, hDx.2 z]
      cases findC m x <;> simp [e]
end
end Go.Proofs.YtnbdimbhklbadaaGreatDoor
namespace Go.Proofs.YtnbdimbhklbadaaGreatDoor
open Go.RowKit Pl
set_option linter.unusedVariables false
def fnV (k : Nat) : Value := .func (Fn.func k) #[] #[]
def clV (k p : Nat) : Value := .func (Fn.func k) #[] #[.pointer (some ⟨p, 0, none⟩)]
theorem withKey_any (w : World) (k : Nat) :
    Calls Tryz.prog 125 #[.func (Fn.func k) #[] #[]] w fun e w' => e = .returned (clV 189 w.heap.size) ∧ w' = w.alloc (.cells #[fnV k] 159) := by
  go_enter Tryz.func125, Tryz.ntmps125
  go_wp2_with fail
  go_ret
  exact ⟨rfl, rfl⟩
theorem withMenu_any (w : World) (k : Nat) :
    Calls Tryz.prog 121 #[.func (Fn.func k) #[] #[]] w fun e w' => e = .returned (clV 187 w.heap.size) ∧ w' = w.alloc (.cells #[fnV k] 157) := by
  go_enter Tryz.func121, Tryz.ntmps121
  go_wp2_with fail
  go_ret
  exact ⟨rfl, rfl⟩
def cmdL (p0 p1 p2 p3 p4 p5 p6 : Nat) : List (ByteArray × Value) :=
  [(mk [109, 97, 99, 104, 105, 110, 101], .agg #[.int .i64 (-1), .bool false, fnV 104]),
   (mk [119, 105, 110, 100, 111, 119, 115], .agg #[.int .i64 (-1), .bool true, fnV 105]),
   (mk [112, 108, 117, 103, 115], .agg #[.int .i64 (-1), .bool true, fnV 106]),
   (mk [115, 116, 101, 112], .agg #[.int .i64 (-1), .bool true, fnV 107]),
   (mk [101, 110, 99, 105, 112, 104, 101, 114], .agg #[.int .i64 (-1), .bool true, fnV 108]),
   (mk [107, 101, 121], .agg #[.int .i64 (0), .bool true, fnV 109]),
   (mk [112, 101, 114, 105, 111, 100], .agg #[.int .i64 (0), .bool true, fnV 110]),
   (mk [100, 111, 117, 98, 108, 101], .agg #[.int .i64 (-1), .bool true, fnV 111]),
   (mk [114, 101, 97, 100], .agg #[.int .i64 (-1), .bool true, fnV 112]),
   (mk [115, 101, 97, 108], .agg #[.int .i64 (3), .bool true, fnV 113]),
   (mk [111, 112, 101, 110], .agg #[.int .i64 (-1), .bool true, fnV 114]),
   (mk [100, 97, 121], .agg #[.int .i64 (2), .bool true, fnV 115]),
   (mk [110, 117, 109, 98, 101, 114], .agg #[.int .i64 (0), .bool true, fnV 116]),
   (mk [99, 104, 97, 114, 97, 99, 116, 101, 114, 105, 115, 116, 105, 99], .agg #[.int .i64 (0), .bool true, fnV 117]),
   (mk [102, 97, 99, 116, 111, 114, 115], .agg #[.int .i64 (-1), .bool false, fnV 118]),
   (mk [99, 114, 105, 98], .agg #[.int .i64 (2), .bool false, fnV 119]),
   (mk [109, 101, 110, 117], .agg #[.int .i64 (3), .bool false, fnV 120]),
   (mk [115, 116, 111, 112, 115], .agg #[.int .i64 (-1), .bool true, clV 187 p0]),
   (mk [98, 111, 97, 114, 100, 115], .agg #[.int .i64 (-1), .bool true, clV 187 p1]),
   (mk [99, 104, 101, 99, 107], .agg #[.int .i64 (-1), .bool true, clV 187 p2]),
   (mk [116, 114, 97, 110, 115, 112, 111, 115, 101], .agg #[.int .i64 (2), .bool false, clV 189 p3]),
   (mk [114, 101, 115, 116, 111, 114, 101], .agg #[.int .i64 (2), .bool false, clV 189 p4]),
   (mk [97, 100, 100], .agg #[.int .i64 (2), .bool false, clV 189 p5]),
   (mk [115, 117, 98, 116, 114, 97, 99, 116], .agg #[.int .i64 (2), .bool false, clV 189 p6]),
   (mk [98, 111, 111, 107], .agg #[.int .i64 (-1), .bool false, fnV 130]),
   (mk [99, 111, 100, 101], .agg #[.int .i64 (-1), .bool false, fnV 131]),
   (mk [119, 111, 114, 100, 115], .agg #[.int .i64 (-1), .bool false, fnV 132]),
   (mk [115, 104, 111, 119], .agg #[.int .i64 (0), .bool false, fnV 133]),
   (mk [102, 111, 114, 103, 101, 116], .agg #[.int .i64 (0), .bool false, fnV 134])]
def Cmds (w : World) (b : Nat) : Prop :=
  ∃ p0 p1 p2 p3 p4 p5 p6 : Nat, CMap w b (cmdL p0 p1 p2 p3 p4 p5 p6) ∧ w.heap[p0]? = some (.cells #[fnV 122] 157 (0, 0)) ∧ w.heap[p1]? = some (.cells #[fnV 123] 157 (0, 0)) ∧ w.heap[p2]? = some (.cells #[fnV 124] 157 (0, 0)) ∧ w.heap[p3]? = some (.cells #[fnV 126] 159 (0, 0)) ∧ w.heap[p4]? = some (.cells #[fnV 127] 159 (0, 0)) ∧ w.heap[p5]? = some (.cells #[fnV 128] 159 (0, 0)) ∧ w.heap[p6]? = some (.cells #[fnV 129] 159 (0, 0))
theorem block_kept {w w' : World} {row : Option Nat} {p : Nat} {o : Obj} (h : w.heap[p]? = some o) (hg : w.grownBy w' row) (hne : some p ≠ row) : w'.heap[p]? = some o :=
  (hg.block p (Array.getElem?_eq_some_iff.1 h).1 hne).trans h
theorem Tryz.undM : Tryz.prog.underlying 123 = some (.map 9 121) := by kernel_rfl
set_option maxHeartbeats 4000000 in
set_option maxRecDepth 100000 in
theorem commands_any (w : World) :
    Calls Tryz.prog 68 #[] w fun e w' => ∃ b, e = .returned (.map (some b)) ∧ Cmds w' b ∧ w.heap.size ≤ b ∧ Below w.heap.size w w' := by
  have h0 := CMap.made w
  have g0 : Below w.heap.size w (w.alloc (.map #[] 0)) := (Below.refl _ _).alloc (Nat.le_refl _) _
  have HC := Lib.hid h0; have HB := Lib.hid g0; clear h0 g0
  have hmm := @run_makeMap Tryz.prog
  go_enter Tryz.func68, Tryz.ntmps68

  obtain ⟨w1, hrun1, hc1, hg1⟩ := HC.out.put Tryz.undM ⟨#[109, 97, 99, 104, 105, 110, 101]⟩ (.agg #[.int .i64 (-1), .bool false, .func (Fn.func 104) #[] #[]]) (by decide) (by simp [maxLen]) (by rfl)
  have hb1 := HB.out.grown hg1 HB.out.size fun k hk => by injection hk with hk; rw [← hk]; exact Nat.le_refl _
  replace HC := Lib.hid hc1; replace HB := Lib.hid hb1; clear hc1 hb1 hg1
  obtain ⟨w2, hrun2, hc1, hg1⟩ := HC.out.put Tryz.undM ⟨#[119, 105, 110, 100, 111, 119, 115]⟩ (.agg #[.int .i64 (-1), .bool true, .func (Fn.func 105) #[] #[]]) (by decide) (by simp [maxLen]) (by rfl)
  have hb1 := HB.out.grown hg1 HB.out.size fun k hk => by injection hk with hk; rw [← hk]; exact Nat.le_refl _
  replace HC := Lib.hid hc1; replace HB := Lib.hid hb1; clear hc1 hb1 hg1
  obtain ⟨w3, hrun3, hc1, hg1⟩ := HC.out.put Tryz.undM ⟨#[112, 108, 117, 103, 115]⟩ (.agg #[.int .i64 (-1), .bool true, .func (Fn.func 106) #[] #[]]) (by decide) (by simp [maxLen]) (by rfl)
  have hb1 := HB.out.grown hg1 HB.out.size fun k hk => by injection hk with hk; rw [← hk]; exact Nat.le_refl _
  replace HC := Lib.hid hc1; replace HB := Lib.hid hb1; clear hc1 hb1 hg1
  obtain ⟨w4, hrun4, hc1, hg1⟩ := HC.out.put Tryz.undM ⟨#[115, 116, 101, 112]⟩ (.agg #[.int .i64 (-1), .bool true, .func (Fn.func 107) #[] #[]]) (by decide) (by simp [maxLen]) (by rfl)
  have hb1 := HB.out.grown hg1 HB.out.size fun k hk => by injection hk with hk; rw [← hk]; exact Nat.le_refl _
  replace HC := Lib.hid hc1; replace HB := Lib.hid hb1; clear hc1 hb1 hg1
  obtain ⟨w5, hrun5, hc1, hg1⟩ := HC.out.put Tryz.undM ⟨#[101, 110, 99, 105, 112, 104, 101, 114]⟩ (.agg #[.int .i64 (-1), .bool true, .func (Fn.func 108) #[] #[]]) (by decide) (by simp [maxLen]) (by rfl)
  have hb1 := HB.out.grown hg1 HB.out.size fun k hk => by injection hk with hk; rw [← hk]; exact Nat.le_refl _
  replace HC := Lib.hid hc1; replace HB := Lib.hid hb1; clear hc1 hb1 hg1
  obtain ⟨w6, hrun6, hc1, hg1⟩ := HC.out.put Tryz.undM ⟨#[107, 101, 121]⟩ (.agg #[.int .i64 (0), .bool true, .func (Fn.func 109) #[] #[]]) (by decide) (by simp [maxLen]) (by rfl)
  have hb1 := HB.out.grown hg1 HB.out.size fun k hk => by injection hk with hk; rw [← hk]; exact Nat.le_refl _
  replace HC := Lib.hid hc1; replace HB := Lib.hid hb1; clear hc1 hb1 hg1
  obtain ⟨w7, hrun7, hc1, hg1⟩ := HC.out.put Tryz.undM ⟨#[112, 101, 114, 105, 111, 100]⟩ (.agg #[.int .i64 (0), .bool true, .func (Fn.func 110) #[] #[]]) (by decide) (by simp [maxLen]) (by rfl)
  have hb1 := HB.out.grown hg1 HB.out.size fun k hk => by injection hk with hk; rw [← hk]; exact Nat.le_refl _
  replace HC := Lib.hid hc1; replace HB := Lib.hid hb1; clear hc1 hb1 hg1
  obtain ⟨w8, hrun8, hc1, hg1⟩ := HC.out.put Tryz.undM ⟨#[100, 111, 117, 98, 108, 101]⟩ (.agg #[.int .i64 (-1), .bool true, .func (Fn.func 111) #[] #[]]) (by decide) (by simp [maxLen]) (by rfl)
  have hb1 := HB.out.grown hg1 HB.out.size fun k hk => by injection hk with hk; rw [← hk]; exact Nat.le_refl _
  replace HC := Lib.hid hc1; replace HB := Lib.hid hb1; clear hc1 hb1 hg1
  obtain ⟨w9, hrun9, hc1, hg1⟩ := HC.out.put Tryz.undM ⟨#[114, 101, 97, 100]⟩ (.agg #[.int .i64 (-1), .bool true, .func (Fn.func 112) #[] #[]]) (by decide) (by simp [maxLen]) (by rfl)
  have hb1 := HB.out.grown hg1 HB.out.size fun k hk => by injection hk with hk; rw [← hk]; exact Nat.le_refl _
  replace HC := Lib.hid hc1; replace HB := Lib.hid hb1; clear hc1 hb1 hg1
  obtain ⟨w10, hrun10, hc1, hg1⟩ := HC.out.put Tryz.undM ⟨#[115, 101, 97, 108]⟩ (.agg #[.int .i64 (3), .bool true, .func (Fn.func 113) #[] #[]]) (by decide) (by simp [maxLen]) (by rfl)
  have hb1 := HB.out.grown hg1 HB.out.size fun k hk => by injection hk with hk; rw [← hk]; exact Nat.le_refl _
  replace HC := Lib.hid hc1; replace HB := Lib.hid hb1; clear hc1 hb1 hg1
  obtain ⟨w11, hrun11, hc1, hg1⟩ := HC.out.put Tryz.undM ⟨#[111, 112, 101, 110]⟩ (.agg #[.int .i64 (-1), .bool true, .func (Fn.func 114) #[] #[]]) (by decide) (by simp [maxLen]) (by rfl)
  have hb1 := HB.out.grown hg1 HB.out.size fun k hk => by injection hk with hk; rw [← hk]; exact Nat.le_refl _
  replace HC := Lib.hid hc1; replace HB := Lib.hid hb1; clear hc1 hb1 hg1
  obtain ⟨w12, hrun12, hc1, hg1⟩ := HC.out.put Tryz.undM ⟨#[100, 97, 121]⟩ (.agg #[.int .i64 (2), .bool true, .func (Fn.func 115) #[] #[]]) (by decide) (by simp [maxLen]) (by rfl)
  have hb1 := HB.out.grown hg1 HB.out.size fun k hk => by injection hk with hk; rw [← hk]; exact Nat.le_refl _
  replace HC := Lib.hid hc1; replace HB := Lib.hid hb1; clear hc1 hb1 hg1
  obtain ⟨w13, hrun13, hc1, hg1⟩ := HC.out.put Tryz.undM ⟨#[110, 117, 109, 98, 101, 114]⟩ (.agg #[.int .i64 (0), .bool true, .func (Fn.func 116) #[] #[]]) (by decide) (by simp [maxLen]) (by rfl)
  have hb1 := HB.out.grown hg1 HB.out.size fun k hk => by injection hk with hk; rw [← hk]; exact Nat.le_refl _
  replace HC := Lib.hid hc1; replace HB := Lib.hid hb1; clear hc1 hb1 hg1
  obtain ⟨w14, hrun14, hc1, hg1⟩ := HC.out.put Tryz.undM ⟨#[99, 104, 97, 114, 97, 99, 116, 101, 114, 105, 115, 116, 105, 99]⟩ (.agg #[.int .i64 (0), .bool true, .func (Fn.func 117) #[] #[]]) (by decide) (by simp [maxLen]) (by rfl)
  have hb1 := HB.out.grown hg1 HB.out.size fun k hk => by injection hk with hk; rw [← hk]; exact Nat.le_refl _
  replace HC := Lib.hid hc1; replace HB := Lib.hid hb1; clear hc1 hb1 hg1
  obtain ⟨w15, hrun15, hc1, hg1⟩ := HC.out.put Tryz.undM ⟨#[102, 97, 99, 116, 111, 114, 115]⟩ (.agg #[.int .i64 (-1), .bool false, .func (Fn.func 118) #[] #[]]) (by decide) (by simp [maxLen]) (by rfl)
  have hb1 := HB.out.grown hg1 HB.out.size fun k hk => by injection hk with hk; rw [← hk]; exact Nat.le_refl _
  replace HC := Lib.hid hc1; replace HB := Lib.hid hb1; clear hc1 hb1 hg1
  obtain ⟨w16, hrun16, hc1, hg1⟩ := HC.out.put Tryz.undM ⟨#[99, 114, 105, 98]⟩ (.agg #[.int .i64 (2), .bool false, .func (Fn.func 119) #[] #[]]) (by decide) (by simp [maxLen]) (by rfl)
  have hb1 := HB.out.grown hg1 HB.out.size fun k hk => by injection hk with hk; rw [← hk]; exact Nat.le_refl _
  replace HC := Lib.hid hc1; replace HB := Lib.hid hb1; clear hc1 hb1 hg1
  obtain ⟨w17, hrun17, hc1, hg1⟩ := HC.out.put Tryz.undM ⟨#[109, 101, 110, 117]⟩ (.agg #[.int .i64 (3), .bool false, .func (Fn.func 120) #[] #[]]) (by decide) (by simp [maxLen]) (by rfl)
  have hb1 := HB.out.grown hg1 HB.out.size fun k hk => by injection hk with hk; rw [← hk]; exact Nat.le_refl _
  replace HC := Lib.hid hc1; replace HB := Lib.hid hb1; clear hc1 hb1 hg1
  go_wp2_with fail
  clear hrun1 hrun2 hrun3 hrun4 hrun5 hrun6 hrun7 hrun8 hrun9 hrun10 hrun11 hrun12 hrun13 hrun14 hrun15 hrun16 hrun17
  refine (withMenu_any _ _).mono ?_
  rintro _ _ ⟨rfl, rfl⟩
  have hc1 := HC.out.alloc (.cells #[fnV 122] 157)
  have hb1 := HB.out.alloc HB.out.size (.cells #[fnV 122] 157)
  have hp0 := heap_alloc_new w17 (.cells #[fnV 122] 157)
  have ha0 : some (w17.heap.size) ≠ some w.heap.size := by have := HC.out.lt; intro e; injection e; omega
  replace HC := Lib.hid hc1; replace HB := Lib.hid hb1; have HP0 := Lib.hid hp0; have HA0 := Lib.hid ha0; clear hc1 hb1 hp0 ha0
  unfold clV
  obtain ⟨w18, hrun18, hc1, hg1⟩ := HC.out.put Tryz.undM ⟨#[115, 116, 111, 112, 115]⟩ (.agg #[.int .i64 (-1), .bool true, .func (Fn.func 187) #[] #[.pointer (some ⟨w17.heap.size, 0, none⟩)]]) (by decide) (by simp [maxLen]) (by rfl)
  have hb1 := HB.out.grown hg1 HB.out.size fun k hk => by injection hk with hk; rw [← hk]; exact Nat.le_refl _
  replace HP0 := Lib.hid (block_kept HP0.out hg1 HA0.out)
  replace HC := Lib.hid hc1; replace HB := Lib.hid hb1; clear hc1 hb1 hg1
  go_wp2_with fail
  clear hrun18
  refine (withMenu_any _ _).mono ?_
  rintro _ _ ⟨rfl, rfl⟩
  have hc1 := HC.out.alloc (.cells #[fnV 123] 157)
  have hb1 := HB.out.alloc HB.out.size (.cells #[fnV 123] 157)
  have hp1 := heap_alloc_new w18 (.cells #[fnV 123] 157)
  have ha1 : some (w18.heap.size) ≠ some w.heap.size := by have := HC.out.lt; intro e; injection e; omega
  replace HP0 := Lib.hid (block_kept HP0.out (World.grownBy_alloc w18 (.cells #[fnV 123] 157) none) (by simp))
  replace HC := Lib.hid hc1; replace HB := Lib.hid hb1; have HP1 := Lib.hid hp1; have HA1 := Lib.hid ha1; clear hc1 hb1 hp1 ha1
  unfold clV
  obtain ⟨w19, hrun19, hc1, hg1⟩ := HC.out.put Tryz.undM ⟨#[98, 111, 97, 114, 100, 115]⟩ (.agg #[.int .i64 (-1), .bool true, .func (Fn.func 187) #[] #[.pointer (some ⟨w18.heap.size, 0, none⟩)]]) (by decide) (by simp [maxLen]) (by rfl)
  have hb1 := HB.out.grown hg1 HB.out.size fun k hk => by injection hk with hk; rw [← hk]; exact Nat.le_refl _
  replace HP0 := Lib.hid (block_kept HP0.out hg1 HA0.out)
  replace HP1 := Lib.hid (block_kept HP1.out hg1 HA1.out)
  replace HC := Lib.hid hc1; replace HB := Lib.hid hb1; clear hc1 hb1 hg1
  go_wp2_with fail
  clear hrun19
  refine (withMenu_any _ _).mono ?_
  rintro _ _ ⟨rfl, rfl⟩
  have hc1 := HC.out.alloc (.cells #[fnV 124] 157)
  have hb1 := HB.out.alloc HB.out.size (.cells #[fnV 124] 157)
  have hp2 := heap_alloc_new w19 (.cells #[fnV 124] 157)
  have ha2 : some (w19.heap.size) ≠ some w.heap.size := by have := HC.out.lt; intro e; injection e; omega
  replace HP0 := Lib.hid (block_kept HP0.out (World.grownBy_alloc w19 (.cells #[fnV 124] 157) none) (by simp))
  replace HP1 := Lib.hid (block_kept HP1.out (World.grownBy_alloc w19 (.cells #[fnV 124] 157) none) (by simp))
  replace HC := Lib.hid hc1; replace HB := Lib.hid hb1; have HP2 := Lib.hid hp2; have HA2 := Lib.hid ha2; clear hc1 hb1 hp2 ha2
  unfold clV
  obtain ⟨w20, hrun20, hc1, hg1⟩ := HC.out.put Tryz.undM ⟨#[99, 104, 101, 99, 107]⟩ (.agg #[.int .i64 (-1), .bool true, .func (Fn.func 187) #[] #[.pointer (some ⟨w19.heap.size, 0, none⟩)]]) (by decide) (by simp [maxLen]) (by rfl)
  have hb1 := HB.out.grown hg1 HB.out.size fun k hk => by injection hk with hk; rw [← hk]; exact Nat.le_refl _
  replace HP0 := Lib.hid (block_kept HP0.out hg1 HA0.out)
  replace HP1 := Lib.hid (block_kept HP1.out hg1 HA1.out)
  replace HP2 := Lib.hid (block_kept HP2.out hg1 HA2.out)
  replace HC := Lib.hid hc1; replace HB := Lib.hid hb1; clear hc1 hb1 hg1
  go_wp2_with fail
  clear hrun20
  refine (withKey_any _ _).mono ?_
  rintro _ _ ⟨rfl, rfl⟩
  have hc1 := HC.out.alloc (.cells #[fnV 126] 159)
  have hb1 := HB.out.alloc HB.out.size (.cells #[fnV 126] 159)
  have hp3 := heap_alloc_new w20 (.cells #[fnV 126] 159)
  have ha3 : some (w20.heap.size) ≠ some w.heap.size := by have := HC.out.lt; intro e; injection e; omega
  replace HP0 := Lib.hid (block_kept HP0.out (World.grownBy_alloc w20 (.cells #[fnV 126] 159) none) (by simp))
  replace HP1 := Lib.hid (block_kept HP1.out (World.grownBy_alloc w20 (.cells #[fnV 126] 159) none) (by simp))
  replace HP2 := Lib.hid (block_kept HP2.out (World.grownBy_alloc w20 (.cells #[fnV 126] 159) none) (by simp))
  replace HC := Lib.hid hc1; replace HB := Lib.hid hb1; have HP3 := Lib.hid hp3; have HA3 := Lib.hid ha3; clear hc1 hb1 hp3 ha3
  unfold clV
  obtain ⟨w21, hrun21, hc1, hg1⟩ := HC.out.put Tryz.undM ⟨#[116, 114, 97, 110, 115, 112, 111, 115, 101]⟩ (.agg #[.int .i64 (2), .bool false, .func (Fn.func 189) #[] #[.pointer (some ⟨w20.heap.size, 0, none⟩)]]) (by decide) (by simp [maxLen]) (by rfl)
  have hb1 := HB.out.grown hg1 HB.out.size fun k hk => by injection hk with hk; rw [← hk]; exact Nat.le_refl _
  replace HP0 := Lib.hid (block_kept HP0.out hg1 HA0.out)
  replace HP1 := Lib.hid (block_kept HP1.out hg1 HA1.out)
  replace HP2 := Lib.hid (block_kept HP2.out hg1 HA2.out)
  replace HP3 := Lib.hid (block_kept HP3.out hg1 HA3.out)
  replace HC := Lib.hid hc1; replace HB := Lib.hid hb1; clear hc1 hb1 hg1
  go_wp2_with fail
  clear hrun21
  refine (withKey_any _ _).mono ?_
  rintro _ _ ⟨rfl, rfl⟩
  have hc1 := HC.out.alloc (.cells #[fnV 127] 159)
  have hb1 := HB.out.alloc HB.out.size (.cells #[fnV 127] 159)
  have hp4 := heap_alloc_new w21 (.cells #[fnV 127] 159)
  have ha4 : some (w21.heap.size) ≠ some w.heap.size := by have := HC.out.lt; intro e; injection e; omega
  replace HP0 := Lib.hid (block_kept HP0.out (World.grownBy_alloc w21 (.cells #[fnV 127] 159) none) (by simp))
  replace HP1 := Lib.hid (block_kept HP1.out (World.grownBy_alloc w21 (.cells #[fnV 127] 159) none) (by simp))
  replace HP2 := Lib.hid (block_kept HP2.out (World.grownBy_alloc w21 (.cells #[fnV 127] 159) none) (by simp))
  replace HP3 := Lib.hid (block_kept HP3.out (World.grownBy_alloc w21 (.cells #[fnV 127] 159) none) (by simp))
  replace HC := Lib.hid hc1; replace HB := Lib.hid hb1; have HP4 := Lib.hid hp4; have HA4 := Lib.hid ha4; clear hc1 hb1 hp4 ha4
  unfold clV
  obtain ⟨w22, hrun22, hc1, hg1⟩ := HC.out.put Tryz.undM ⟨#[114, 101, 115, 116, 111, 114, 101]⟩ (.agg #[.int .i64 (2), .bool false, .func (Fn.func 189) #[] #[.pointer (some ⟨w21.heap.size, 0, none⟩)]]) (by decide) (by simp [maxLen]) (by rfl)
  have hb1 := HB.out.grown hg1 HB.out.size fun k hk => by injection hk with hk; rw [← hk]; exact Nat.le_refl _
  replace HP0 := Lib.hid (block_kept HP0.out hg1 HA0.out)
  replace HP1 := Lib.hid (block_kept HP1.out hg1 HA1.out)
  replace HP2 := Lib.hid (block_kept HP2.out hg1 HA2.out)
  replace HP3 := Lib.hid (block_kept HP3.out hg1 HA3.out)
  replace HP4 := Lib.hid (block_kept HP4.out hg1 HA4.out)
  replace HC := Lib.hid hc1; replace HB := Lib.hid hb1; clear hc1 hb1 hg1
  go_wp2_with fail
  clear hrun22
  refine (withKey_any _ _).mono ?_
  rintro _ _ ⟨rfl, rfl⟩
  have hc1 := HC.out.alloc (.cells #[fnV 128] 159)
  have hb1 := HB.out.alloc HB.out.size (.cells #[fnV 128] 159)
  have hp5 := heap_alloc_new w22 (.cells #[fnV 128] 159)
  have ha5 : some (w22.heap.size) ≠ some w.heap.size := by have := HC.out.lt; intro e; injection e; omega
  replace HP0 := Lib.hid (block_kept HP0.out (World.grownBy_alloc w22 (.cells #[fnV 128] 159) none) (by simp))
  replace HP1 := Lib.hid (block_kept HP1.out (World.grownBy_alloc w22 (.cells #[fnV 128] 159) none) (by simp))
  replace HP2 := Lib.hid (block_kept HP2.out (World.grownBy_alloc w22 (.cells #[fnV 128] 159) none) (by simp))
  replace HP3 := Lib.hid (block_kept HP3.out (World.grownBy_alloc w22 (.cells #[fnV 128] 159) none) (by simp))
  replace HP4 := Lib.hid (block_kept HP4.out (World.grownBy_alloc w22 (.cells #[fnV 128] 159) none) (by simp))
  replace HC := Lib.hid hc1; replace HB := Lib.hid hb1; have HP5 := Lib.hid hp5; have HA5 := Lib.hid ha5; clear hc1 hb1 hp5 ha5
  unfold clV
  obtain ⟨w23, hrun23, hc1, hg1⟩ := HC.out.put Tryz.undM ⟨#[97, 100, 100]⟩ (.agg #[.int .i64 (2), .bool false, .func (Fn.func 189) #[] #[.pointer (some ⟨w22.heap.size, 0, none⟩)]]) (by decide) (by simp [maxLen]) (by rfl)
  have hb1 := HB.out.grown hg1 HB.out.size fun k hk => by injection hk with hk; rw [← hk]; exact Nat.le_refl _
  replace HP0 := Lib.hid (block_kept HP0.out hg1 HA0.out)
  replace HP1 := Lib.hid (block_kept HP1.out hg1 HA1.out)
  replace HP2 := Lib.hid (block_kept HP2.out hg1 HA2.out)
  replace HP3 := Lib.hid (block_kept HP3.out hg1 HA3.out)
  replace HP4 := Lib.hid (block_kept HP4.out hg1 HA4.out)
  replace HP5 := Lib.hid (block_kept HP5.out hg1 HA5.out)
  replace HC := Lib.hid hc1; replace HB := Lib.hid hb1; clear hc1 hb1 hg1
  go_wp2_with fail
  clear hrun23
  refine (withKey_any _ _).mono ?_
  rintro _ _ ⟨rfl, rfl⟩
  have hc1 := HC.out.alloc (.cells #[fnV 129] 159)
  have hb1 := HB.out.alloc HB.out.size (.cells #[fnV 129] 159)
  have hp6 := heap_alloc_new w23 (.cells #[fnV 129] 159)
  have ha6 : some (w23.heap.size) ≠ some w.heap.size := by have := HC.out.lt; intro e; injection e; omega
  replace HP0 := Lib.hid (block_kept HP0.out (World.grownBy_alloc w23 (.cells #[fnV 129] 159) none) (by simp))
  replace HP1 := Lib.hid (block_kept HP1.out (World.grownBy_alloc w23 (.cells #[fnV 129] 159) none) (by simp))
  replace HP2 := Lib.hid (block_kept HP2.out (World.grownBy_alloc w23 (.cells #[fnV 129] 159) none) (by simp))
  replace HP3 := Lib.hid (block_kept HP3.out (World.grownBy_alloc w23 (.cells #[fnV 129] 159) none) (by simp))
  replace HP4 := Lib.hid (block_kept HP4.out (World.grownBy_alloc w23 (.cells #[fnV 129] 159) none) (by simp))
  replace HP5 := Lib.hid (block_kept HP5.out (World.grownBy_alloc w23 (.cells #[fnV 129] 159) none) (by simp))
  replace HC := Lib.hid hc1; replace HB := Lib.hid hb1; have HP6 := Lib.hid hp6; have HA6 := Lib.hid ha6; clear hc1 hb1 hp6 ha6
  unfold clV
  obtain ⟨w24, hrun24, hc1, hg1⟩ := HC.out.put Tryz.undM ⟨#[115, 117, 98, 116, 114, 97, 99, 116]⟩ (.agg #[.int .i64 (2), .bool false, .func (Fn.func 189) #[] #[.pointer (some ⟨w23.heap.size, 0, none⟩)]]) (by decide) (by simp [maxLen]) (by rfl)
  have hb1 := HB.out.grown hg1 HB.out.size fun k hk => by injection hk with hk; rw [← hk]; exact Nat.le_refl _
  replace HP0 := Lib.hid (block_kept HP0.out hg1 HA0.out)
  replace HP1 := Lib.hid (block_kept HP1.out hg1 HA1.out)
  replace HP2 := Lib.hid (block_kept HP2.out hg1 HA2.out)
  replace HP3 := Lib.hid (block_kept HP3.out hg1 HA3.out)
  replace HP4 := Lib.hid (block_kept HP4.out hg1 HA4.out)
  replace HP5 := Lib.hid (block_kept HP5.out hg1 HA5.out)
  replace HP6 := Lib.hid (block_kept HP6.out hg1 HA6.out)
  replace HC := Lib.hid hc1; replace HB := Lib.hid hb1; clear hc1 hb1 hg1
  obtain ⟨w25, hrun25, hc1, hg1⟩ := HC.out.put Tryz.undM ⟨#[98, 111, 111, 107]⟩ (.agg #[.int .i64 (-1), .bool false, .func (Fn.func 130) #[] #[]]) (by decide) (by simp [maxLen]) (by rfl)
  have hb1 := HB.out.grown hg1 HB.out.size fun k hk => by injection hk with hk; rw [← hk]; exact Nat.le_refl _
  replace HP0 := Lib.hid (block_kept HP0.out hg1 HA0.out)
  replace HP1 := Lib.hid (block_kept HP1.out hg1 HA1.out)
  replace HP2 := Lib.hid (block_kept HP2.out hg1 HA2.out)
  replace HP3 := Lib.hid (block_kept HP3.out hg1 HA3.out)
  replace HP4 := Lib.hid (block_kept HP4.out hg1 HA4.out)
  replace HP5 := Lib.hid (block_kept HP5.out hg1 HA5.out)
  replace HP6 := Lib.hid (block_kept HP6.out hg1 HA6.out)
  replace HC := Lib.hid hc1; replace HB := Lib.hid hb1; clear hc1 hb1 hg1
  obtain ⟨w26, hrun26, hc1, hg1⟩ := HC.out.put Tryz.undM ⟨#[99, 111, 100, 101]⟩ (.agg #[.int .i64 (-1), .bool false, .func (Fn.func 131) #[] #[]]) (by decide) (by simp [maxLen]) (by rfl)
  have hb1 := HB.out.grown hg1 HB.out.size fun k hk => by injection hk with hk; rw [← hk]; exact Nat.le_refl _
  replace HP0 := Lib.hid (block_kept HP0.out hg1 HA0.out)
  replace HP1 := Lib.hid (block_kept HP1.out hg1 HA1.out)
  replace HP2 := Lib.hid (block_kept HP2.out hg1 HA2.out)
  replace HP3 := Lib.hid (block_kept HP3.out hg1 HA3.out)
  replace HP4 := Lib.hid (block_kept HP4.out hg1 HA4.out)
  replace HP5 := Lib.hid (block_kept HP5.out hg1 HA5.out)
  replace HP6 := Lib.hid (block_kept HP6.out hg1 HA6.out)
  replace HC := Lib.hid hc1; replace HB := Lib.hid hb1; clear hc1 hb1 hg1
  obtain ⟨w27, hrun27, hc1, hg1⟩ := HC.out.put Tryz.undM ⟨#[119, 111, 114, 100, 115]⟩ (.agg #[.int .i64 (-1), .bool false, .func (Fn.func 132) #[] #[]]) (by decide) (by simp [maxLen]) (by rfl)
  have hb1 := HB.out.grown hg1 HB.out.size fun k hk => by injection hk with hk; rw [← hk]; exact Nat.le_refl _
  replace HP0 := Lib.hid (block_kept HP0.out hg1 HA0.out)
  replace HP1 := Lib.hid (block_kept HP1.out hg1 HA1.out)
  replace HP2 := Lib.hid (block_kept HP2.out hg1 HA2.out)
  replace HP3 := Lib.hid (block_kept HP3.out hg1 HA3.out)
  replace HP4 := Lib.hid (block_kept HP4.out hg1 HA4.out)
  replace HP5 := Lib.hid (block_kept HP5.out hg1 HA5.out)
  replace HP6 := Lib.hid (block_kept HP6.out hg1 HA6.out)
  replace HC := Lib.hid hc1; replace HB := Lib.hid hb1; clear hc1 hb1 hg1
  obtain ⟨w28, hrun28, hc1, hg1⟩ := HC.out.put Tryz.undM ⟨#[115, 104, 111, 119]⟩ (.agg #[.int .i64 (0), .bool false, .func (Fn.func 133) #[] #[]]) (by decide) (by simp [maxLen]) (by rfl)
  have hb1 := HB.out.grown hg1 HB.out.size fun k hk => by injection hk with hk; rw [← hk]; exact Nat.le_refl _
  replace HP0 := Lib.hid (block_kept HP0.out hg1 HA0.out)
  replace HP1 := Lib.hid (block_kept HP1.out hg1 HA1.out)
  replace HP2 := Lib.hid (block_kept HP2.out hg1 HA2.out)
  replace HP3 := Lib.hid (block_kept HP3.out hg1 HA3.out)
  replace HP4 := Lib.hid (block_kept HP4.out hg1 HA4.out)
  replace HP5 := Lib.hid (block_kept HP5.out hg1 HA5.out)
  replace HP6 := Lib.hid (block_kept HP6.out hg1 HA6.out)
  replace HC := Lib.hid hc1; replace HB := Lib.hid hb1; clear hc1 hb1 hg1
  obtain ⟨w29, hrun29, hc1, hg1⟩ := HC.out.put Tryz.undM ⟨#[102, 111, 114, 103, 101, 116]⟩ (.agg #[.int .i64 (0), .bool false, .func (Fn.func 134) #[] #[]]) (by decide) (by simp [maxLen]) (by rfl)
  have hb1 := HB.out.grown hg1 HB.out.size fun k hk => by injection hk with hk; rw [← hk]; exact Nat.le_refl _
  replace HP0 := Lib.hid (block_kept HP0.out hg1 HA0.out)
  replace HP1 := Lib.hid (block_kept HP1.out hg1 HA1.out)
  replace HP2 := Lib.hid (block_kept HP2.out hg1 HA2.out)
  replace HP3 := Lib.hid (block_kept HP3.out hg1 HA3.out)
  replace HP4 := Lib.hid (block_kept HP4.out hg1 HA4.out)
  replace HP5 := Lib.hid (block_kept HP5.out hg1 HA5.out)
  replace HP6 := Lib.hid (block_kept HP6.out hg1 HA6.out)
  replace HC := Lib.hid hc1; replace HB := Lib.hid hb1; clear hc1 hb1 hg1
  go_wp2_with fail
  go_ret
  exact ⟨w.heap.size, rfl, ⟨_, _, _, _, _, _, _, HC.out, HP0.out, HP1.out, HP2.out, HP3.out, HP4.out, HP5.out, HP6.out⟩, Nat.le_refl _, HB.out⟩
end Go.Proofs.YtnbdimbhklbadaaGreatDoor
namespace Go.Proofs.YtnbdimbhklbadaaGreatDoor
open Go.RowKit Pl
set_option linter.unusedVariables false
structure IdxAt (w : World) (b1 b2 bx : Nat) (m : List (ByteArray × ByteArray)) (wr : World) : Prop where
  x : wr.heap[bx]? = some (.cells #[.map (some b1), .map (some b2)] 256 (0, 0))
  r : wr.heap[w.heap.size]? = some (.cells #[.map none, .map none] 256 (0, 0))
  m1 : SMap wr b1 m
  m2 : SMap wr b2 (m.map Prod.swap)
  l1 : w.heap.size < b1
  l2 : w.heap.size < b2
  lx : w.heap.size < bx
  ne : b1 ≠ b2
  bel : Below w.heap.size w wr
theorem IdxAt.ltx {w wr : World} {b1 b2 bx : Nat} {m : List (ByteArray × ByteArray)} (h : IdxAt w b1 b2 bx m wr) : bx < wr.heap.size := (Array.getElem?_eq_some_iff.1 h.x).1
theorem IdxAt.ltr {w wr : World} {b1 b2 bx : Nat} {m : List (ByteArray × ByteArray)} (h : IdxAt w b1 b2 bx m wr) : w.heap.size < wr.heap.size := (Array.getElem?_eq_some_iff.1 h.r).1
theorem IdxAt.below {w wr w' : World} {b1 b2 bx : Nat} {m : List (ByteArray × ByteArray)} (h : IdxAt w b1 b2 bx m wr) (hb : Below wr.heap.size wr w') : IdxAt w b1 b2 bx m w' :=
  ⟨(hb.block _ h.ltx).trans h.x, (hb.block _ h.ltr).trans h.r, h.m1.below hb, h.m2.below hb, h.l1, h.l2, h.lx, h.ne, h.bel.trans (hb.mono h.bel.size)⟩
theorem four (w : World) (R o1 o2 o3 : Obj) (wr : World) (h : wr = ((((w.alloc R).alloc o1).alloc o2).alloc o3).drew) :
    wr.heap[w.heap.size]? = some R ∧ wr.heap[w.heap.size + 1]? = some o1 ∧ wr.heap[w.heap.size + 1 + 1]? = some o2 ∧ wr.heap[w.heap.size + 1 + 1 + 1]? = some o3 ∧ Below w.heap.size w wr := by
  have e : wr.heap = (((w.heap.push R).push o1).push o2).push o3 := by rw [h]; rfl
  have hb : Below w.heap.size w wr := by
    rw [h]
    exact ⟨rfl, rfl, rfl, by show w.heap.size ≤ ((((w.heap.push R).push o1).push o2).push o3).size; simp; omega, fun k hk => by
      show ((((w.heap.push R).push o1).push o2).push o3)[k]? = _
      have h1 : k ≠ w.heap.size := by omega
      have h2 : k ≠ w.heap.size + 1 := by omega
      have h3 : k ≠ w.heap.size + 1 + 1 := by omega
      have h4 : k ≠ w.heap.size + 1 + 1 + 1 := by omega
      simp [Array.getElem?_push, h1, h2, h3, h4]⟩
  rw [e]
  have z1 : (w.heap.push R).size = w.heap.size + 1 := Array.size_push _
  have z2 : ((w.heap.push R).push o1).size = w.heap.size + 1 + 1 := by rw [Array.size_push, z1]
  have z3 : (((w.heap.push R).push o1).push o2).size = w.heap.size + 1 + 1 + 1 := by rw [Array.size_push, z2]
  refine ⟨?_, ?_, ?_, ?_, hb⟩
  · rw [Array.getElem?_push, z3, if_neg (by omega), Array.getElem?_push, z2, if_neg (by omega), Array.getElem?_push, z1, if_neg (by omega), Array.getElem?_push, if_pos rfl]
  · rw [Array.getElem?_push, z3, if_neg (by omega), Array.getElem?_push, z2, if_neg (by omega), Array.getElem?_push, z1, if_pos rfl]
  · rw [Array.getElem?_push, z3, if_neg (by omega), Array.getElem?_push, z2, if_pos rfl]
  · rw [Array.getElem?_push, z3, if_pos rfl]
theorem IdxAt.drew {w wr : World} {b1 b2 bx : Nat} {m : List (ByteArray × ByteArray)} (h : IdxAt w b1 b2 bx m wr) : IdxAt w b1 b2 bx m wr.drew := h.below (Below.refl _ _).drew
theorem IdxAt.nex {w wr : World} {b1 b2 bx : Nat} {m : List (ByteArray × ByteArray)} (h : IdxAt w b1 b2 bx m wr) : bx ≠ b1 ∧ bx ≠ b2 := by
  obtain ⟨e1, c1, h1⟩ := h.m1.isMap
  obtain ⟨e2, c2, h2⟩ := h.m2.isMap
  have hx := h.x
  constructor
  · rintro rfl; rw [hx] at h1; simp at h1
  · rintro rfl; rw [hx] at h2; simp at h2
theorem IdxAt.put {w wr : World} {b1 b2 bx : Nat} {m : List (ByteArray × ByteArray)} (h : IdxAt w b1 b2 bx m wr) (e : ByteArray × ByteArray) (h1 : e.1.size ≤ maxLen) (h2 : e.2.size ≤ maxLen) (hm : m.length < maxLen)
    (f1 : findE m e.1 = none) (f2 : findE (m.map Prod.swap) e.2 = none) :
    ∃ wA wB, (Instr.mapUpdate 254 (.map (some b1)) (.string e.1) (.string e.2)).run Tryz.prog wr = .ok () wA ∧
      (Instr.mapUpdate 254 (.map (some b2)) (.string e.2) (.string e.1)).run Tryz.prog wA = .ok () wB ∧ IdxAt w b1 b2 bx (m ++ [e]) wB ∧
      ∀ (a : Addr) (u : Value), a.block ≠ b1 → a.block ≠ b2 → wr.cell? a = some u → wA.cell? a = some u ∧ wB.cell? a = some u := by
  obtain ⟨n1, n2⟩ := h.nex
  obtain ⟨wA, r1, s1, g1⟩ := h.m1.put e.1 e.2 h1 h2 hm f1
  have m2 := h.m2.kept g1 (by intro hh; injection hh with hh; exact h.ne hh.symm)
  obtain ⟨wB, r2, s2, g2⟩ := m2.put e.2 e.1 h2 h1 (by simpa using hm) f2
  have hne : ∀ {a b : Nat}, a ≠ b → some a ≠ some b := fun hab hh => hab (by injection hh)
  have l1 := h.l1
  have l2 := h.l2
  have hsz := h.bel.size
  refine ⟨wA, wB, r1, r2, ⟨?_, ?_, s1.kept g2 (hne h.ne), ?_, h.l1, h.l2, h.lx, h.ne, ?_⟩, fun a u a1 a2 hu => ?_⟩
  · rw [g2.block bx (Nat.lt_of_lt_of_le h.ltx g1.size) (hne n2), g1.block bx h.ltx (hne n1)]; exact h.x
  · rw [g2.block _ (Nat.lt_of_lt_of_le h.ltr g1.size) (hne (by omega)), g1.block _ h.ltr (hne (by omega))]; exact h.r
  · rw [List.map_append]; exact s2
  · exact (h.bel.grown g1 hsz (fun k e => by injection e with e; omega)).grown g2 (Nat.le_trans hsz g1.size) (fun k e => by injection e with e; omega)
  · have hA := g1.cell hu (hne a1)
    exact ⟨hA, g2.cell hA (hne a2)⟩
end Go.Proofs.YtnbdimbhklbadaaGreatDoor
