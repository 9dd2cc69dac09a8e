/-
  The table of commands: what impl.commands makes. No conditions but those that each theorem names.
-/
import Derived.Test.YtipcodebmemkpaaGreatDoorCMap
import Derived.Test.YtipcodebmemkpaaGreatDoorMem
import Derived.OwnWalk
namespace Go.Proofs.YtipcodebmemkpaaGreatDoor
open Go.RowKit Pl
set_option linter.unusedVariables false

/-- a function as a value -/
def fnV (k : Nat) : Value := .func (Fn.func k) #[] #[]
/-- a closure that keeps the cell in block p -/
def clV (k p : Nat) : Value := .func (Fn.func k) #[] #[.pointer (some ⟨p, 0, none⟩)]

theorem withKey_any (w : World) (k : Nat) :
    Calls Tryz.prog 150 #[.func (Fn.func k) #[] #[]] w fun e w' => e = .returned (clV 215 w.heap.size) ∧ w' = w.alloc (.cells #[fnV k] 160) := by
  go_enter Tryz.func150, Tryz.ntmps150
  go_wp2_with fail
  go_ret
  exact ⟨rfl, rfl⟩
theorem withMenu_any (w : World) (k : Nat) :
    Calls Tryz.prog 146 #[.func (Fn.func k) #[] #[]] w fun e w' => e = .returned (clV 210 w.heap.size) ∧ w' = w.alloc (.cells #[fnV k] 158) := by
  go_enter Tryz.func146, Tryz.ntmps146
  go_wp2_with fail
  go_ret
  exact ⟨rfl, rfl⟩

/-- the table -/
def cmdL (p0 p1 p2 p3 p4 p5 p6 : Nat) : List (ByteArray × Value) :=
  [(mk [109, 97, 99, 104, 105, 110, 101], .agg #[.int .i64 (-1), .bool false, fnV 129]),
   (mk [119, 105, 110, 100, 111, 119, 115], .agg #[.int .i64 (-1), .bool true, fnV 130]),
   (mk [112, 108, 117, 103, 115], .agg #[.int .i64 (-1), .bool true, fnV 131]),
   (mk [115, 116, 101, 112], .agg #[.int .i64 (-1), .bool true, fnV 132]),
   (mk [101, 110, 99, 105, 112, 104, 101, 114], .agg #[.int .i64 (-1), .bool true, fnV 133]),
   (mk [107, 101, 121], .agg #[.int .i64 (0), .bool true, fnV 134]),
   (mk [112, 101, 114, 105, 111, 100], .agg #[.int .i64 (0), .bool true, fnV 135]),
   (mk [100, 111, 117, 98, 108, 101], .agg #[.int .i64 (-1), .bool true, fnV 136]),
   (mk [114, 101, 97, 100], .agg #[.int .i64 (-1), .bool true, fnV 137]),
   (mk [115, 101, 97, 108], .agg #[.int .i64 (3), .bool true, fnV 138]),
   (mk [111, 112, 101, 110], .agg #[.int .i64 (-1), .bool true, fnV 139]),
   (mk [100, 97, 121], .agg #[.int .i64 (2), .bool true, fnV 140]),
   (mk [110, 117, 109, 98, 101, 114], .agg #[.int .i64 (0), .bool true, fnV 141]),
   (mk [99, 104, 97, 114, 97, 99, 116, 101, 114, 105, 115, 116, 105, 99], .agg #[.int .i64 (0), .bool true, fnV 142]),
   (mk [102, 97, 99, 116, 111, 114, 115], .agg #[.int .i64 (-1), .bool false, fnV 143]),
   (mk [99, 114, 105, 98], .agg #[.int .i64 (2), .bool false, fnV 144]),
   (mk [109, 101, 110, 117], .agg #[.int .i64 (3), .bool false, fnV 145]),
   (mk [115, 116, 111, 112, 115], .agg #[.int .i64 (-1), .bool true, clV 210 p0]),
   (mk [98, 111, 97, 114, 100, 115], .agg #[.int .i64 (-1), .bool true, clV 210 p1]),
   (mk [99, 104, 101, 99, 107], .agg #[.int .i64 (-1), .bool true, clV 210 p2]),
   (mk [116, 114, 97, 110, 115, 112, 111, 115, 101], .agg #[.int .i64 (2), .bool false, clV 215 p3]),
   (mk [114, 101, 115, 116, 111, 114, 101], .agg #[.int .i64 (2), .bool false, clV 215 p4]),
   (mk [97, 100, 100], .agg #[.int .i64 (2), .bool false, clV 215 p5]),
   (mk [115, 117, 98, 116, 114, 97, 99, 116], .agg #[.int .i64 (2), .bool false, clV 215 p6]),
   (mk [98, 111, 111, 107], .agg #[.int .i64 (-1), .bool false, fnV 155]),
   (mk [99, 111, 100, 101], .agg #[.int .i64 (-1), .bool false, fnV 156]),
   (mk [119, 111, 114, 100, 115], .agg #[.int .i64 (-1), .bool false, fnV 157]),
   (mk [115, 104, 111, 119], .agg #[.int .i64 (0), .bool false, fnV 158]),
   (mk [102, 111, 114, 103, 101, 116], .agg #[.int .i64 (0), .bool false, fnV 159])]
/-- block b is the table, with what its closures keep -/
def Cmds (w : World) (b : Nat) : Prop :=
  ∃ p0 p1 p2 p3 p4 p5 p6 : Nat, CMap w b (cmdL p0 p1 p2 p3 p4 p5 p6) ∧ w.heap[p0]? = some (.cells #[fnV 147] 158 (0, 0)) ∧ w.heap[p1]? = some (.cells #[fnV 148] 158 (0, 0)) ∧ w.heap[p2]? = some (.cells #[fnV 149] 158 (0, 0)) ∧ w.heap[p3]? = some (.cells #[fnV 151] 160 (0, 0)) ∧ w.heap[p4]? = some (.cells #[fnV 152] 160 (0, 0)) ∧ w.heap[p5]? = some (.cells #[fnV 153] 160 (0, 0)) ∧ w.heap[p6]? = some (.cells #[fnV 154] 160 (0, 0))

theorem block_kept {w w' : World} {row : Option Nat} {p : Nat} {o : Obj} (h : w.heap[p]? = some o) (hg : w.grownBy w' row) (hne : some p ≠ row) : w'.heap[p]? = some o :=
  (hg.block p (Array.getElem?_eq_some_iff.1 h).1 hne).trans h
theorem grown_size {w w' : World} {row : Option Nat} (hg : w.grownBy w' row) : w.heap.size ≤ w'.heap.size := hg.size
theorem Tryz.undM : Tryz.prog.underlying 130 = some (.map 9 128) := by kernel_rfl

set_option maxHeartbeats 4000000 in
set_option maxRecDepth 100000 in
theorem commands_any (w : World) :
    Calls Tryz.prog 95 #[] w fun e w' => ∃ b, e = .returned (.map (some b)) ∧ Cmds w' b ∧ w.heap.size ≤ b ∧ Below w.heap.size w w' := by
  have h0 := CMap.made w
  have g0 : Below w.heap.size w (w.alloc (.map #[] 0)) := (Below.refl _ _).alloc (Nat.le_refl _) _
  have HC := Lib.hid h0; have HB := Lib.hid g0; clear h0 g0
  have hmm := @run_makeMap Tryz.prog
  go_enter Tryz.func95, Tryz.ntmps95

  obtain ⟨w1, hrun1, hc1, hg1⟩ := HC.out.put Tryz.undM ⟨#[109, 97, 99, 104, 105, 110, 101]⟩ (.agg #[.int .i64 (-1), .bool false, .func (Fn.func 129) #[] #[]]) (by decide) (by simp [maxLen]) (by rfl)
  have hb1 := HB.out.grown hg1 HB.out.size fun k hk => by injection hk with hk; rw [← hk]; exact Nat.le_refl _
  replace HC := Lib.hid hc1; replace HB := Lib.hid hb1; clear hc1 hb1 hg1
  obtain ⟨w2, hrun2, hc1, hg1⟩ := HC.out.put Tryz.undM ⟨#[119, 105, 110, 100, 111, 119, 115]⟩ (.agg #[.int .i64 (-1), .bool true, .func (Fn.func 130) #[] #[]]) (by decide) (by simp [maxLen]) (by rfl)
  have hb1 := HB.out.grown hg1 HB.out.size fun k hk => by injection hk with hk; rw [← hk]; exact Nat.le_refl _
  replace HC := Lib.hid hc1; replace HB := Lib.hid hb1; clear hc1 hb1 hg1
  obtain ⟨w3, hrun3, hc1, hg1⟩ := HC.out.put Tryz.undM ⟨#[112, 108, 117, 103, 115]⟩ (.agg #[.int .i64 (-1), .bool true, .func (Fn.func 131) #[] #[]]) (by decide) (by simp [maxLen]) (by rfl)
  have hb1 := HB.out.grown hg1 HB.out.size fun k hk => by injection hk with hk; rw [← hk]; exact Nat.le_refl _
  replace HC := Lib.hid hc1; replace HB := Lib.hid hb1; clear hc1 hb1 hg1
  obtain ⟨w4, hrun4, hc1, hg1⟩ := HC.out.put Tryz.undM ⟨#[115, 116, 101, 112]⟩ (.agg #[.int .i64 (-1), .bool true, .func (Fn.func 132) #[] #[]]) (by decide) (by simp [maxLen]) (by rfl)
  have hb1 := HB.out.grown hg1 HB.out.size fun k hk => by injection hk with hk; rw [← hk]; exact Nat.le_refl _
  replace HC := Lib.hid hc1; replace HB := Lib.hid hb1; clear hc1 hb1 hg1
  obtain ⟨w5, hrun5, hc1, hg1⟩ := HC.out.put Tryz.undM ⟨#[101, 110, 99, 105, 112, 104, 101, 114]⟩ (.agg #[.int .i64 (-1), .bool true, .func (Fn.func 133) #[] #[]]) (by decide) (by simp [maxLen]) (by rfl)
  have hb1 := HB.out.grown hg1 HB.out.size fun k hk => by injection hk with hk; rw [← hk]; exact Nat.le_refl _
  replace HC := Lib.hid hc1; replace HB := Lib.hid hb1; clear hc1 hb1 hg1
  obtain ⟨w6, hrun6, hc1, hg1⟩ := HC.out.put Tryz.undM ⟨#[107, 101, 121]⟩ (.agg #[.int .i64 (0), .bool true, .func (Fn.func 134) #[] #[]]) (by decide) (by simp [maxLen]) (by rfl)
  have hb1 := HB.out.grown hg1 HB.out.size fun k hk => by injection hk with hk; rw [← hk]; exact Nat.le_refl _
  replace HC := Lib.hid hc1; replace HB := Lib.hid hb1; clear hc1 hb1 hg1
  obtain ⟨w7, hrun7, hc1, hg1⟩ := HC.out.put Tryz.undM ⟨#[112, 101, 114, 105, 111, 100]⟩ (.agg #[.int .i64 (0), .bool true, .func (Fn.func 135) #[] #[]]) (by decide) (by simp [maxLen]) (by rfl)
  have hb1 := HB.out.grown hg1 HB.out.size fun k hk => by injection hk with hk; rw [← hk]; exact Nat.le_refl _
  replace HC := Lib.hid hc1; replace HB := Lib.hid hb1; clear hc1 hb1 hg1
  obtain ⟨w8, hrun8, hc1, hg1⟩ := HC.out.put Tryz.undM ⟨#[100, 111, 117, 98, 108, 101]⟩ (.agg #[.int .i64 (-1), .bool true, .func (Fn.func 136) #[] #[]]) (by decide) (by simp [maxLen]) (by rfl)
  have hb1 := HB.out.grown hg1 HB.out.size fun k hk => by injection hk with hk; rw [← hk]; exact Nat.le_refl _
  replace HC := Lib.hid hc1; replace HB := Lib.hid hb1; clear hc1 hb1 hg1
  obtain ⟨w9, hrun9, hc1, hg1⟩ := HC.out.put Tryz.undM ⟨#[114, 101, 97, 100]⟩ (.agg #[.int .i64 (-1), .bool true, .func (Fn.func 137) #[] #[]]) (by decide) (by simp [maxLen]) (by rfl)
  have hb1 := HB.out.grown hg1 HB.out.size fun k hk => by injection hk with hk; rw [← hk]; exact Nat.le_refl _
  replace HC := Lib.hid hc1; replace HB := Lib.hid hb1; clear hc1 hb1 hg1
  obtain ⟨w10, hrun10, hc1, hg1⟩ := HC.out.put Tryz.undM ⟨#[115, 101, 97, 108]⟩ (.agg #[.int .i64 (3), .bool true, .func (Fn.func 138) #[] #[]]) (by decide) (by simp [maxLen]) (by rfl)
  have hb1 := HB.out.grown hg1 HB.out.size fun k hk => by injection hk with hk; rw [← hk]; exact Nat.le_refl _
  replace HC := Lib.hid hc1; replace HB := Lib.hid hb1; clear hc1 hb1 hg1
  obtain ⟨w11, hrun11, hc1, hg1⟩ := HC.out.put Tryz.undM ⟨#[111, 112, 101, 110]⟩ (.agg #[.int .i64 (-1), .bool true, .func (Fn.func 139) #[] #[]]) (by decide) (by simp [maxLen]) (by rfl)
  have hb1 := HB.out.grown hg1 HB.out.size fun k hk => by injection hk with hk; rw [← hk]; exact Nat.le_refl _
  replace HC := Lib.hid hc1; replace HB := Lib.hid hb1; clear hc1 hb1 hg1
  obtain ⟨w12, hrun12, hc1, hg1⟩ := HC.out.put Tryz.undM ⟨#[100, 97, 121]⟩ (.agg #[.int .i64 (2), .bool true, .func (Fn.func 140) #[] #[]]) (by decide) (by simp [maxLen]) (by rfl)
  have hb1 := HB.out.grown hg1 HB.out.size fun k hk => by injection hk with hk; rw [← hk]; exact Nat.le_refl _
  replace HC := Lib.hid hc1; replace HB := Lib.hid hb1; clear hc1 hb1 hg1
  obtain ⟨w13, hrun13, hc1, hg1⟩ := HC.out.put Tryz.undM ⟨#[110, 117, 109, 98, 101, 114]⟩ (.agg #[.int .i64 (0), .bool true, .func (Fn.func 141) #[] #[]]) (by decide) (by simp [maxLen]) (by rfl)
  have hb1 := HB.out.grown hg1 HB.out.size fun k hk => by injection hk with hk; rw [← hk]; exact Nat.le_refl _
  replace HC := Lib.hid hc1; replace HB := Lib.hid hb1; clear hc1 hb1 hg1
  obtain ⟨w14, hrun14, hc1, hg1⟩ := HC.out.put Tryz.undM ⟨#[99, 104, 97, 114, 97, 99, 116, 101, 114, 105, 115, 116, 105, 99]⟩ (.agg #[.int .i64 (0), .bool true, .func (Fn.func 142) #[] #[]]) (by decide) (by simp [maxLen]) (by rfl)
  have hb1 := HB.out.grown hg1 HB.out.size fun k hk => by injection hk with hk; rw [← hk]; exact Nat.le_refl _
  replace HC := Lib.hid hc1; replace HB := Lib.hid hb1; clear hc1 hb1 hg1
  obtain ⟨w15, hrun15, hc1, hg1⟩ := HC.out.put Tryz.undM ⟨#[102, 97, 99, 116, 111, 114, 115]⟩ (.agg #[.int .i64 (-1), .bool false, .func (Fn.func 143) #[] #[]]) (by decide) (by simp [maxLen]) (by rfl)
  have hb1 := HB.out.grown hg1 HB.out.size fun k hk => by injection hk with hk; rw [← hk]; exact Nat.le_refl _
  replace HC := Lib.hid hc1; replace HB := Lib.hid hb1; clear hc1 hb1 hg1
  obtain ⟨w16, hrun16, hc1, hg1⟩ := HC.out.put Tryz.undM ⟨#[99, 114, 105, 98]⟩ (.agg #[.int .i64 (2), .bool false, .func (Fn.func 144) #[] #[]]) (by decide) (by simp [maxLen]) (by rfl)
  have hb1 := HB.out.grown hg1 HB.out.size fun k hk => by injection hk with hk; rw [← hk]; exact Nat.le_refl _
  replace HC := Lib.hid hc1; replace HB := Lib.hid hb1; clear hc1 hb1 hg1
  obtain ⟨w17, hrun17, hc1, hg1⟩ := HC.out.put Tryz.undM ⟨#[109, 101, 110, 117]⟩ (.agg #[.int .i64 (3), .bool false, .func (Fn.func 145) #[] #[]]) (by decide) (by simp [maxLen]) (by rfl)
  have hb1 := HB.out.grown hg1 HB.out.size fun k hk => by injection hk with hk; rw [← hk]; exact Nat.le_refl _
  replace HC := Lib.hid hc1; replace HB := Lib.hid hb1; clear hc1 hb1 hg1
  go_wp2_with fail
  clear hrun1 hrun2 hrun3 hrun4 hrun5 hrun6 hrun7 hrun8 hrun9 hrun10 hrun11 hrun12 hrun13 hrun14 hrun15 hrun16 hrun17
  refine (withMenu_any _ _).mono ?_
  rintro _ _ ⟨rfl, rfl⟩
  have hc1 := HC.out.alloc (.cells #[fnV 147] 158)
  have hb1 := HB.out.alloc HB.out.size (.cells #[fnV 147] 158)
  have hp0 := heap_alloc_new w17 (.cells #[fnV 147] 158)
  have ha0 : some (w17.heap.size) ≠ some w.heap.size := by have := HC.out.lt; intro e; injection e; omega
  replace HC := Lib.hid hc1; replace HB := Lib.hid hb1; have HP0 := Lib.hid hp0; have HA0 := Lib.hid ha0; clear hc1 hb1 hp0 ha0
  unfold clV
  obtain ⟨w18, hrun18, hc1, hg1⟩ := HC.out.put Tryz.undM ⟨#[115, 116, 111, 112, 115]⟩ (.agg #[.int .i64 (-1), .bool true, .func (Fn.func 210) #[] #[.pointer (some ⟨w17.heap.size, 0, none⟩)]]) (by decide) (by simp [maxLen]) (by rfl)
  have hb1 := HB.out.grown hg1 HB.out.size fun k hk => by injection hk with hk; rw [← hk]; exact Nat.le_refl _
  replace HP0 := Lib.hid (block_kept HP0.out hg1 HA0.out)
  replace HC := Lib.hid hc1; replace HB := Lib.hid hb1; clear hc1 hb1 hg1
  go_wp2_with fail
  clear hrun18
  refine (withMenu_any _ _).mono ?_
  rintro _ _ ⟨rfl, rfl⟩
  have hc1 := HC.out.alloc (.cells #[fnV 148] 158)
  have hb1 := HB.out.alloc HB.out.size (.cells #[fnV 148] 158)
  have hp1 := heap_alloc_new w18 (.cells #[fnV 148] 158)
  have ha1 : some (w18.heap.size) ≠ some w.heap.size := by have := HC.out.lt; intro e; injection e; omega
  replace HP0 := Lib.hid (block_kept HP0.out (World.grownBy_alloc w18 (.cells #[fnV 148] 158) none) (by simp))
  replace HC := Lib.hid hc1; replace HB := Lib.hid hb1; have HP1 := Lib.hid hp1; have HA1 := Lib.hid ha1; clear hc1 hb1 hp1 ha1
  unfold clV
  obtain ⟨w19, hrun19, hc1, hg1⟩ := HC.out.put Tryz.undM ⟨#[98, 111, 97, 114, 100, 115]⟩ (.agg #[.int .i64 (-1), .bool true, .func (Fn.func 210) #[] #[.pointer (some ⟨w18.heap.size, 0, none⟩)]]) (by decide) (by simp [maxLen]) (by rfl)
  have hb1 := HB.out.grown hg1 HB.out.size fun k hk => by injection hk with hk; rw [← hk]; exact Nat.le_refl _
  replace HP0 := Lib.hid (block_kept HP0.out hg1 HA0.out)
  replace HP1 := Lib.hid (block_kept HP1.out hg1 HA1.out)
  replace HC := Lib.hid hc1; replace HB := Lib.hid hb1; clear hc1 hb1 hg1
  go_wp2_with fail
  clear hrun19
  refine (withMenu_any _ _).mono ?_
  rintro _ _ ⟨rfl, rfl⟩
  have hc1 := HC.out.alloc (.cells #[fnV 149] 158)
  have hb1 := HB.out.alloc HB.out.size (.cells #[fnV 149] 158)
  have hp2 := heap_alloc_new w19 (.cells #[fnV 149] 158)
  have ha2 : some (w19.heap.size) ≠ some w.heap.size := by have := HC.out.lt; intro e; injection e; omega
  replace HP0 := Lib.hid (block_kept HP0.out (World.grownBy_alloc w19 (.cells #[fnV 149] 158) none) (by simp))
  replace HP1 := Lib.hid (block_kept HP1.out (World.grownBy_alloc w19 (.cells #[fnV 149] 158) none) (by simp))
  replace HC := Lib.hid hc1; replace HB := Lib.hid hb1; have HP2 := Lib.hid hp2; have HA2 := Lib.hid ha2; clear hc1 hb1 hp2 ha2
  unfold clV
  obtain ⟨w20, hrun20, hc1, hg1⟩ := HC.out.put Tryz.undM ⟨#[99, 104, 101, 99, 107]⟩ (.agg #[.int .i64 (-1), .bool true, .func (Fn.func 210) #[] #[.pointer (some ⟨w19.heap.size, 0, none⟩)]]) (by decide) (by simp [maxLen]) (by rfl)
  have hb1 := HB.out.grown hg1 HB.out.size fun k hk => by injection hk with hk; rw [← hk]; exact Nat.le_refl _
  replace HP0 := Lib.hid (block_kept HP0.out hg1 HA0.out)
  replace HP1 := Lib.hid (block_kept HP1.out hg1 HA1.out)
  replace HP2 := Lib.hid (block_kept HP2.out hg1 HA2.out)
  replace HC := Lib.hid hc1; replace HB := Lib.hid hb1; clear hc1 hb1 hg1
  go_wp2_with fail
  clear hrun20
  refine (withKey_any _ _).mono ?_
  rintro _ _ ⟨rfl, rfl⟩
  have hc1 := HC.out.alloc (.cells #[fnV 151] 160)
  have hb1 := HB.out.alloc HB.out.size (.cells #[fnV 151] 160)
  have hp3 := heap_alloc_new w20 (.cells #[fnV 151] 160)
  have ha3 : some (w20.heap.size) ≠ some w.heap.size := by have := HC.out.lt; intro e; injection e; omega
  replace HP0 := Lib.hid (block_kept HP0.out (World.grownBy_alloc w20 (.cells #[fnV 151] 160) none) (by simp))
  replace HP1 := Lib.hid (block_kept HP1.out (World.grownBy_alloc w20 (.cells #[fnV 151] 160) none) (by simp))
  replace HP2 := Lib.hid (block_kept HP2.out (World.grownBy_alloc w20 (.cells #[fnV 151] 160) none) (by simp))
  replace HC := Lib.hid hc1; replace HB := Lib.hid hb1; have HP3 := Lib.hid hp3; have HA3 := Lib.hid ha3; clear hc1 hb1 hp3 ha3
  unfold clV
  obtain ⟨w21, hrun21, hc1, hg1⟩ := HC.out.put Tryz.undM ⟨#[116, 114, 97, 110, 115, 112, 111, 115, 101]⟩ (.agg #[.int .i64 (2), .bool false, .func (Fn.func 215) #[] #[.pointer (some ⟨w20.heap.size, 0, none⟩)]]) (by decide) (by simp [maxLen]) (by rfl)
  have hb1 := HB.out.grown hg1 HB.out.size fun k hk => by injection hk with hk; rw [← hk]; exact Nat.le_refl _
  replace HP0 := Lib.hid (block_kept HP0.out hg1 HA0.out)
  replace HP1 := Lib.hid (block_kept HP1.out hg1 HA1.out)
  replace HP2 := Lib.hid (block_kept HP2.out hg1 HA2.out)
  replace HP3 := Lib.hid (block_kept HP3.out hg1 HA3.out)
  replace HC := Lib.hid hc1; replace HB := Lib.hid hb1; clear hc1 hb1 hg1
  go_wp2_with fail
  clear hrun21
  refine (withKey_any _ _).mono ?_
  rintro _ _ ⟨rfl, rfl⟩
  have hc1 := HC.out.alloc (.cells #[fnV 152] 160)
  have hb1 := HB.out.alloc HB.out.size (.cells #[fnV 152] 160)
  have hp4 := heap_alloc_new w21 (.cells #[fnV 152] 160)
  have ha4 : some (w21.heap.size) ≠ some w.heap.size := by have := HC.out.lt; intro e; injection e; omega
  replace HP0 := Lib.hid (block_kept HP0.out (World.grownBy_alloc w21 (.cells #[fnV 152] 160) none) (by simp))
  replace HP1 := Lib.hid (block_kept HP1.out (World.grownBy_alloc w21 (.cells #[fnV 152] 160) none) (by simp))
  replace HP2 := Lib.hid (block_kept HP2.out (World.grownBy_alloc w21 (.cells #[fnV 152] 160) none) (by simp))
  replace HP3 := Lib.hid (block_kept HP3.out (World.grownBy_alloc w21 (.cells #[fnV 152] 160) none) (by simp))
  replace HC := Lib.hid hc1; replace HB := Lib.hid hb1; have HP4 := Lib.hid hp4; have HA4 := Lib.hid ha4; clear hc1 hb1 hp4 ha4
  unfold clV
  obtain ⟨w22, hrun22, hc1, hg1⟩ := HC.out.put Tryz.undM ⟨#[114, 101, 115, 116, 111, 114, 101]⟩ (.agg #[.int .i64 (2), .bool false, .func (Fn.func 215) #[] #[.pointer (some ⟨w21.heap.size, 0, none⟩)]]) (by decide) (by simp [maxLen]) (by rfl)
  have hb1 := HB.out.grown hg1 HB.out.size fun k hk => by injection hk with hk; rw [← hk]; exact Nat.le_refl _
  replace HP0 := Lib.hid (block_kept HP0.out hg1 HA0.out)
  replace HP1 := Lib.hid (block_kept HP1.out hg1 HA1.out)
  replace HP2 := Lib.hid (block_kept HP2.out hg1 HA2.out)
  replace HP3 := Lib.hid (block_kept HP3.out hg1 HA3.out)
  replace HP4 := Lib.hid (block_kept HP4.out hg1 HA4.out)
  replace HC := Lib.hid hc1; replace HB := Lib.hid hb1; clear hc1 hb1 hg1
  go_wp2_with fail
  clear hrun22
  refine (withKey_any _ _).mono ?_
  rintro _ _ ⟨rfl, rfl⟩
  have hc1 := HC.out.alloc (.cells #[fnV 153] 160)
  have hb1 := HB.out.alloc HB.out.size (.cells #[fnV 153] 160)
  have hp5 := heap_alloc_new w22 (.cells #[fnV 153] 160)
  have ha5 : some (w22.heap.size) ≠ some w.heap.size := by have := HC.out.lt; intro e; injection e; omega
  replace HP0 := Lib.hid (block_kept HP0.out (World.grownBy_alloc w22 (.cells #[fnV 153] 160) none) (by simp))
  replace HP1 := Lib.hid (block_kept HP1.out (World.grownBy_alloc w22 (.cells #[fnV 153] 160) none) (by simp))
  replace HP2 := Lib.hid (block_kept HP2.out (World.grownBy_alloc w22 (.cells #[fnV 153] 160) none) (by simp))
  replace HP3 := Lib.hid (block_kept HP3.out (World.grownBy_alloc w22 (.cells #[fnV 153] 160) none) (by simp))
  replace HP4 := Lib.hid (block_kept HP4.out (World.grownBy_alloc w22 (.cells #[fnV 153] 160) none) (by simp))
  replace HC := Lib.hid hc1; replace HB := Lib.hid hb1; have HP5 := Lib.hid hp5; have HA5 := Lib.hid ha5; clear hc1 hb1 hp5 ha5
  unfold clV
  obtain ⟨w23, hrun23, hc1, hg1⟩ := HC.out.put Tryz.undM ⟨#[97, 100, 100]⟩ (.agg #[.int .i64 (2), .bool false, .func (Fn.func 215) #[] #[.pointer (some ⟨w22.heap.size, 0, none⟩)]]) (by decide) (by simp [maxLen]) (by rfl)
  have hb1 := HB.out.grown hg1 HB.out.size fun k hk => by injection hk with hk; rw [← hk]; exact Nat.le_refl _
  replace HP0 := Lib.hid (block_kept HP0.out hg1 HA0.out)
  replace HP1 := Lib.hid (block_kept HP1.out hg1 HA1.out)
  replace HP2 := Lib.hid (block_kept HP2.out hg1 HA2.out)
  replace HP3 := Lib.hid (block_kept HP3.out hg1 HA3.out)
  replace HP4 := Lib.hid (block_kept HP4.out hg1 HA4.out)
  replace HP5 := Lib.hid (block_kept HP5.out hg1 HA5.out)
  replace HC := Lib.hid hc1; replace HB := Lib.hid hb1; clear hc1 hb1 hg1
  go_wp2_with fail
  clear hrun23
  refine (withKey_any _ _).mono ?_
  rintro _ _ ⟨rfl, rfl⟩
  have hc1 := HC.out.alloc (.cells #[fnV 154] 160)
  have hb1 := HB.out.alloc HB.out.size (.cells #[fnV 154] 160)
  have hp6 := heap_alloc_new w23 (.cells #[fnV 154] 160)
  have ha6 : some (w23.heap.size) ≠ some w.heap.size := by have := HC.out.lt; intro e; injection e; omega
  replace HP0 := Lib.hid (block_kept HP0.out (World.grownBy_alloc w23 (.cells #[fnV 154] 160) none) (by simp))
  replace HP1 := Lib.hid (block_kept HP1.out (World.grownBy_alloc w23 (.cells #[fnV 154] 160) none) (by simp))
  replace HP2 := Lib.hid (block_kept HP2.out (World.grownBy_alloc w23 (.cells #[fnV 154] 160) none) (by simp))
  replace HP3 := Lib.hid (block_kept HP3.out (World.grownBy_alloc w23 (.cells #[fnV 154] 160) none) (by simp))
  replace HP4 := Lib.hid (block_kept HP4.out (World.grownBy_alloc w23 (.cells #[fnV 154] 160) none) (by simp))
  replace HP5 := Lib.hid (block_kept HP5.out (World.grownBy_alloc w23 (.cells #[fnV 154] 160) none) (by simp))
  replace HC := Lib.hid hc1; replace HB := Lib.hid hb1; have HP6 := Lib.hid hp6; have HA6 := Lib.hid ha6; clear hc1 hb1 hp6 ha6
  unfold clV
  obtain ⟨w24, hrun24, hc1, hg1⟩ := HC.out.put Tryz.undM ⟨#[115, 117, 98, 116, 114, 97, 99, 116]⟩ (.agg #[.int .i64 (2), .bool false, .func (Fn.func 215) #[] #[.pointer (some ⟨w23.heap.size, 0, none⟩)]]) (by decide) (by simp [maxLen]) (by rfl)
  have hb1 := HB.out.grown hg1 HB.out.size fun k hk => by injection hk with hk; rw [← hk]; exact Nat.le_refl _
  replace HP0 := Lib.hid (block_kept HP0.out hg1 HA0.out)
  replace HP1 := Lib.hid (block_kept HP1.out hg1 HA1.out)
  replace HP2 := Lib.hid (block_kept HP2.out hg1 HA2.out)
  replace HP3 := Lib.hid (block_kept HP3.out hg1 HA3.out)
  replace HP4 := Lib.hid (block_kept HP4.out hg1 HA4.out)
  replace HP5 := Lib.hid (block_kept HP5.out hg1 HA5.out)
  replace HP6 := Lib.hid (block_kept HP6.out hg1 HA6.out)
  replace HC := Lib.hid hc1; replace HB := Lib.hid hb1; clear hc1 hb1 hg1
  obtain ⟨w25, hrun25, hc1, hg1⟩ := HC.out.put Tryz.undM ⟨#[98, 111, 111, 107]⟩ (.agg #[.int .i64 (-1), .bool false, .func (Fn.func 155) #[] #[]]) (by decide) (by simp [maxLen]) (by rfl)
  have hb1 := HB.out.grown hg1 HB.out.size fun k hk => by injection hk with hk; rw [← hk]; exact Nat.le_refl _
  replace HP0 := Lib.hid (block_kept HP0.out hg1 HA0.out)
  replace HP1 := Lib.hid (block_kept HP1.out hg1 HA1.out)
  replace HP2 := Lib.hid (block_kept HP2.out hg1 HA2.out)
  replace HP3 := Lib.hid (block_kept HP3.out hg1 HA3.out)
  replace HP4 := Lib.hid (block_kept HP4.out hg1 HA4.out)
  replace HP5 := Lib.hid (block_kept HP5.out hg1 HA5.out)
  replace HP6 := Lib.hid (block_kept HP6.out hg1 HA6.out)
  replace HC := Lib.hid hc1; replace HB := Lib.hid hb1; clear hc1 hb1 hg1
  obtain ⟨w26, hrun26, hc1, hg1⟩ := HC.out.put Tryz.undM ⟨#[99, 111, 100, 101]⟩ (.agg #[.int .i64 (-1), .bool false, .func (Fn.func 156) #[] #[]]) (by decide) (by simp [maxLen]) (by rfl)
  have hb1 := HB.out.grown hg1 HB.out.size fun k hk => by injection hk with hk; rw [← hk]; exact Nat.le_refl _
  replace HP0 := Lib.hid (block_kept HP0.out hg1 HA0.out)
  replace HP1 := Lib.hid (block_kept HP1.out hg1 HA1.out)
  replace HP2 := Lib.hid (block_kept HP2.out hg1 HA2.out)
  replace HP3 := Lib.hid (block_kept HP3.out hg1 HA3.out)
  replace HP4 := Lib.hid (block_kept HP4.out hg1 HA4.out)
  replace HP5 := Lib.hid (block_kept HP5.out hg1 HA5.out)
  replace HP6 := Lib.hid (block_kept HP6.out hg1 HA6.out)
  replace HC := Lib.hid hc1; replace HB := Lib.hid hb1; clear hc1 hb1 hg1
  obtain ⟨w27, hrun27, hc1, hg1⟩ := HC.out.put Tryz.undM ⟨#[119, 111, 114, 100, 115]⟩ (.agg #[.int .i64 (-1), .bool false, .func (Fn.func 157) #[] #[]]) (by decide) (by simp [maxLen]) (by rfl)
  have hb1 := HB.out.grown hg1 HB.out.size fun k hk => by injection hk with hk; rw [← hk]; exact Nat.le_refl _
  replace HP0 := Lib.hid (block_kept HP0.out hg1 HA0.out)
  replace HP1 := Lib.hid (block_kept HP1.out hg1 HA1.out)
  replace HP2 := Lib.hid (block_kept HP2.out hg1 HA2.out)
  replace HP3 := Lib.hid (block_kept HP3.out hg1 HA3.out)
  replace HP4 := Lib.hid (block_kept HP4.out hg1 HA4.out)
  replace HP5 := Lib.hid (block_kept HP5.out hg1 HA5.out)
  replace HP6 := Lib.hid (block_kept HP6.out hg1 HA6.out)
  replace HC := Lib.hid hc1; replace HB := Lib.hid hb1; clear hc1 hb1 hg1
  obtain ⟨w28, hrun28, hc1, hg1⟩ := HC.out.put Tryz.undM ⟨#[115, 104, 111, 119]⟩ (.agg #[.int .i64 (0), .bool false, .func (Fn.func 158) #[] #[]]) (by decide) (by simp [maxLen]) (by rfl)
  have hb1 := HB.out.grown hg1 HB.out.size fun k hk => by injection hk with hk; rw [← hk]; exact Nat.le_refl _
  replace HP0 := Lib.hid (block_kept HP0.out hg1 HA0.out)
  replace HP1 := Lib.hid (block_kept HP1.out hg1 HA1.out)
  replace HP2 := Lib.hid (block_kept HP2.out hg1 HA2.out)
  replace HP3 := Lib.hid (block_kept HP3.out hg1 HA3.out)
  replace HP4 := Lib.hid (block_kept HP4.out hg1 HA4.out)
  replace HP5 := Lib.hid (block_kept HP5.out hg1 HA5.out)
  replace HP6 := Lib.hid (block_kept HP6.out hg1 HA6.out)
  replace HC := Lib.hid hc1; replace HB := Lib.hid hb1; clear hc1 hb1 hg1
  obtain ⟨w29, hrun29, hc1, hg1⟩ := HC.out.put Tryz.undM ⟨#[102, 111, 114, 103, 101, 116]⟩ (.agg #[.int .i64 (0), .bool false, .func (Fn.func 159) #[] #[]]) (by decide) (by simp [maxLen]) (by rfl)
  have hb1 := HB.out.grown hg1 HB.out.size fun k hk => by injection hk with hk; rw [← hk]; exact Nat.le_refl _
  replace HP0 := Lib.hid (block_kept HP0.out hg1 HA0.out)
  replace HP1 := Lib.hid (block_kept HP1.out hg1 HA1.out)
  replace HP2 := Lib.hid (block_kept HP2.out hg1 HA2.out)
  replace HP3 := Lib.hid (block_kept HP3.out hg1 HA3.out)
  replace HP4 := Lib.hid (block_kept HP4.out hg1 HA4.out)
  replace HP5 := Lib.hid (block_kept HP5.out hg1 HA5.out)
  replace HP6 := Lib.hid (block_kept HP6.out hg1 HA6.out)
  replace HC := Lib.hid hc1; replace HB := Lib.hid hb1; clear hc1 hb1 hg1
  go_wp2_with fail
  go_ret
  exact ⟨w.heap.size, rfl, ⟨_, _, _, _, _, _, _, HC.out, HP0.out, HP1.out, HP2.out, HP3.out, HP4.out, HP5.out, HP6.out⟩, Nat.le_refl _, HB.out⟩

end Go.Proofs.YtipcodebmemkpaaGreatDoor
