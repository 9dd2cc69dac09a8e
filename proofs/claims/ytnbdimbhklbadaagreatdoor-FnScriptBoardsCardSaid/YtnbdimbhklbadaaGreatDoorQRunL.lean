/-
  Contracts of functions and plain laws that the law's proof uses (parts: RunL). Conditions: what each theorem names.
-/
import Derived.Lib.LaidTab
import Derived.Lib.ItoaNum
import Derived.Shelf.Strings.BuilderK
import Derived.Test.YtnbdimbhklbadaaGreatDoorQCmA
import Derived.Test.YtnbdimbhklbadaaGreatDoorQDoA
import Derived.Test.YtnbdimbhklbadaaGreatDoorQShelf
namespace Go.Proofs.YtnbdimbhklbadaaGreatDoor
open Go.RowKit Pl Go.Shelf
set_option linter.unusedVariables false
theorem bcell {W w1 : World} (hb : Below W.heap.size W w1) : (∀ b o, b < W.heap.size → w1.cell? ⟨b, o, none⟩ = W.cell? ⟨b, o, none⟩) ∧ (∀ b o, b < W.heap.size → w1.frozen? ⟨b, o, none⟩ = W.frozen? ⟨b, o, none⟩) :=
  ⟨fun b o h => hb.cell (p := ⟨b, o, none⟩) h, fun b o h => hb.frozen (p := ⟨b, o, none⟩) h⟩
theorem bel_six {a w : World} {B p : Nat} (h : Below B a w) (hp : B ≤ p) (u0 u1 u2 u3 u4 u5 : Value) :
    Below B a ((((((w.setCell ⟨p, 0, none⟩ u0).setCell ⟨p, 1, none⟩ u1).setCell ⟨p, 2, none⟩ u2).setCell ⟨p, 3, none⟩ u3).setCell ⟨p, 4, none⟩ u4).setCell ⟨p, 5, none⟩ u5) :=
  (((((h.setCell hp _).setCell hp _).setCell hp _).setCell hp _).setCell hp _).setCell hp _
theorem bel_two {w : World} (o1 o2 : Obj) : Below w.heap.size w ((w.alloc o1).alloc o2) := ((Below.refl _ _).alloc (Nat.le_refl _) _).alloc (by simp) _
theorem only_six (w : World) (p : Nat) (u0 u1 u2 u3 u4 u5 : Value) :
    w.grownBy ((((((w.setCell ⟨p, 0, none⟩ u0).setCell ⟨p, 1, none⟩ u1).setCell ⟨p, 2, none⟩ u2).setCell ⟨p, 3, none⟩ u3).setCell ⟨p, 4, none⟩ u4).setCell ⟨p, 5, none⟩ u5) (some p) :=
  only_setCell (only_setCell (only_setCell (only_setCell (only_setCell (only_setCell (only_refl w _) 0 u0) 1 u1) 2 u2) 3 u3) 4 u4) 5 u5
theorem below_of_drewN {n : Nat} {a b : World} (h : Below (a.drewN n).heap.size (a.drewN n) b) : Below a.heap.size a b := ⟨h.os, h.tape, h.output, h.size, h.block⟩
theorem zeroCmd (w : World) : (zeroValue 121).run Tryz.prog w = .ok (.agg #[.int .i64 0, .bool false, .nilFunc]) w := by kernel_rfl
theorem cut_word (w : World) (wd : List UInt8) (s : ByteArray) (hn : 32 ∉ wd) (hml : ML w) (hs : s.size ≤ 100000) (hw : wd.length ≤ 1000) :
    Calls Tryz.prog 67 #[.string (mk (wd ++ 32 :: tl s)), .string ⟨#[32]⟩] w fun e w' => e = .returned (.tuple #[.string (mk wd), .string s, .bool true]) ∧ ∃ n, w' = w.drewN n := by
  have h := cut_any w (mk (wd ++ 32 :: tl s)) 32 hml (by rw [size_mk, List.length_append, List.length_cons, length_tl]; omega)
  have e1 : mk (bef 32 (tl (mk (wd ++ 32 :: tl s)))) = mk wd := by rw [tl_mk, (bef_of hn).1]
  have e2 : mk (aft 32 (tl (mk (wd ++ 32 :: tl s)))) = s := by rw [tl_mk, (bef_of hn).2, mk_tl]
  have e3 : decide (32 ∈ tl (mk (wd ++ 32 :: tl s))) = true := by rw [tl_mk]; simp
  rw [e1, e2, e3] at h
  exact h
structure GW (w : World) : Prop where
  ml : ML w
  tb : Lib.TabIs Tryz.prog w "internal/strconv.uint64pow10" .u64 Lib.pow10Tab
  es : ∃ ev, w.cell? ⟨6, 0, none⟩ = some ev ∧ (ev = .nilIface ∨ ∃ te pe, ev = .iface te pe)
theorem gw_glob : Tryz.prog.globalNamed "internal/strconv.uint64pow10" = some 0 := by kernel_rfl
theorem GW.lt {w : World} (h : GW w) : 0 < w.heap.size := World.block_lt_of_cell? _ _ (h.tb.cell gw_glob 0 (by decide))
theorem GW.below {w w' : World} {B : Nat} (h : GW w) (hb : Below B w w') (hB : w.heap.size ≤ B) : GW w' := by
  refine ⟨h.ml.below hb hB, ?_, ?_⟩
  rotate_left
  · obtain ⟨ev, h1, h2⟩ := h.es
    exact ⟨ev, (hb.cell (p := ⟨6, 0, none⟩) (Nat.lt_of_lt_of_le (World.block_lt_of_cell? _ _ h1) hB)).trans h1, h2⟩
  have h1 := h.tb
  have hk := hb.block 0 (Nat.lt_of_lt_of_le h.lt hB)
  unfold Lib.TabIs World.var? at h1 ⊢
  rw [gw_glob] at h1 ⊢
  simp only [Option.bind_some] at h1 ⊢
  rw [hk]; exact h1
abbrev BF (Y : Nat) (l : List UInt8) (w : World) : Prop := Lib.IsBuilderF 68 5 Y Y (Lib.byteCells l) w
theorem write_k (Y : Nat) (l : List UInt8) (s : ByteArray) (w : World) (h : BF Y l w) (hl : l.length + s.size ≤ 100000) (hY : Y ≤ w.heap.size) :
    Calls Tryz.prog 37 #[.pointer (some ⟨Y, 0, none⟩), .string s] w fun e w' => e = .returned (.tuple #[.int .i64 s.size, .nilIface]) ∧ BF Y (l ++ tl s) w' ∧ Below Y w w' ∧ Lib.OthersKept 5 (some Y) w w' := by
  refine (Any.Builder_WriteString_k (ρ := Tryz.lays156_ren) { Tryz.lays156 with } Tryz.Builder_Extra_156 Y Y _ s w h (by rw [Lib.byteCells_length]; omega) hY).mono ?_
  rintro e w' ⟨he, h1, h2, h3⟩
  refine ⟨he, .inr ?_, h2, h3⟩
  have : Lib.byteCells (l ++ tl s) = Lib.byteCells l ++ Lib.strCells s := by rw [Lib.byteCells_append]; rfl
  rw [this]; exact h1
theorem len_k (Y : Nat) (l : List UInt8) (w : World) (h : BF Y l w) :
    Calls Tryz.prog 36 #[.pointer (some ⟨Y, 0, none⟩)] w fun e w' => e = .returned (.int .i64 l.length) ∧ w = w' := by
  refine (Any.Builder_Len_f Tryz.lays170 Y Y _ w h).mono ?_
  rintro e w' ⟨he, h1⟩
  rw [Lib.byteCells_length] at he
  exact ⟨he, h1.symm⟩
theorem string_k (Y : Nat) (l : List UInt8) (w : World) (h : BF Y l w) (h0 : l ≠ []) :
    Calls Tryz.prog 39 #[.pointer (some ⟨Y, 0, none⟩)] w fun e w' => e = .returned (.string (mk l)) ∧ Below Y w w' := by
  refine (Any.Builder_String_f Tryz.lays169 Tryz.Builder_Extra_169 Y Y l w h h0).mono ?_
  rintro e w' ⟨he, _, h2⟩
  exact ⟨he, h2⟩
theorem bf_block {Y : Nat} {l : List UInt8} {w : World} (h : BF Y l w) : ∃ cs, w.heap[Y]? = some (.cells cs 68 (0, 0)) := by
  rcases h with ⟨_, v, hb, _⟩ | ⟨_, v, hb, _⟩
  · exact ⟨_, hb⟩
  · exact ⟨_, hb⟩
theorem bf_kept {Y p : Nat} {l : List UInt8} {w w' : World} {cs : Array Value} {T : TypeId} {fr : Nat × Nat} (h : BF Y l w) (hg : w.grownBy w' (some p)) (hp : w.heap[p]? = some (.cells cs T fr)) (hT : T ≠ 5) (hY : Y ≠ p) : BF Y l w' := by
  have key : ∀ q, Lib.BuilderAtF 68 5 Y Y q (Lib.byteCells l) w → Lib.BuilderAtF 68 5 Y Y q (Lib.byteCells l) w' := by
    rintro q ⟨h1, v, hb, ho, hn⟩
    refine ⟨h1, v, (hg.block Y (Array.getElem?_eq_some_iff.1 hb).1 (by intro e; injection e with e; exact hY e)).trans hb, ho.kept hg ?_, hn⟩
    exact .inr (Lib.ownBlock_neF ho hp hT)
  rcases h with h | h
  · exact .inl (key _ h)
  · exact .inr (key _ h)
theorem bf_below {Y : Nat} {l : List UInt8} {w w' : World} (h : BF Y l w) (hb : Below w.heap.size w w') : BF Y l w' := by
  have key : ∀ q, Lib.BuilderAtF 68 5 Y Y q (Lib.byteCells l) w → Lib.BuilderAtF 68 5 Y Y q (Lib.byteCells l) w' := by
    rintro q ⟨h1, v, hb', ho, hn⟩
    refine ⟨h1, v, (hb.block Y (Array.getElem?_eq_some_iff.1 hb').1).trans hb', ho.kept (only_of_below hb none) ?_, hn⟩
    cases v.ownBlock with
    | none => exact .inl rfl
    | some k => exact .inr (by simp)
  rcases h with h | h
  · exact .inl (key _ h)
  · exact .inr (key _ h)
theorem own_others {w w' : World} {Y base : Nat} {e : TypeId} {size : Nat} {v : Value} {n : Nat} {xs : List Value} (h : w.ownsRow base e size v n xs) (hk : Lib.OthersKept 5 (some Y) w w') (he : e ≠ 5) {cs : Array Value} {T : TypeId} {fr : Nat × Nat}
    (hY : w.heap[Y]? = some (.cells cs T fr)) (hT : T ≠ e) : w'.ownsRow base e size v n xs := by
  obtain ⟨h1, h2 | ⟨g, cap, cur, hv, hb, hg, h3, h4, h5⟩⟩ := h
  · exact ⟨h1, .inl h2⟩
  · refine ⟨h1, .inr ⟨g, cap, cur, hv, hb, hk g _ hg ?_ ?_, h3, h4, h5⟩⟩
    · intro e'; injection e' with e'; subst e'
      rw [hY] at hg; injection hg with hg; injection hg with _ hg; exact hT hg
    · intro c fz e'; injection e' with _ e'; exact he e'
theorem own_ne {w : World} {base : Nat} {e : TypeId} {size : Nat} {v : Value} {n : Nat} {xs : List Value} (h : w.ownsRow base e size v n xs) {p : Nat} {cs : Array Value} {T : TypeId} {fr : Nat × Nat} (hp : w.heap[p]? = some (.cells cs T fr)) (hT : T ≠ e) : v.ownBlock = none ∨ v.ownBlock ≠ some p := by
  obtain ⟨h1, ⟨rfl, _⟩ | ⟨g, cap, cur, rfl, hb, hg, _⟩⟩ := h
  · exact .inl rfl
  · refine .inr fun e' => ?_
    have e2 : g = p := by simpa [Value.ownBlock] using e'
    subst e2
    rw [hp] at hg; injection hg with hg; injection hg with _ hg; exact hT hg
theorem set_block {w : World} {p i : Nat} {cs : Array Value} {T : TypeId} {fr : Nat × Nat} (h : w.heap[p]? = some (.cells cs T fr)) (u : Value) : (w.setCell ⟨p, i, none⟩ u).heap[p]? = some (.cells (cs.setIfInBounds i u) T fr) := by
  rw [setCell_eq_setRow w p i cs T fr u h]
  exact setRow_heap w p cs _ T fr h
theorem six_block {w : World} {p : Nat} {a0 a1 a2 a3 a4 a5 : Value} {T : TypeId} {fr : Nat × Nat} (h : w.heap[p]? = some (.cells #[a0, a1, a2, a3, a4, a5] T fr)) (u0 u1 u2 u3 u4 u5 : Value) :
    ((((((w.setCell ⟨p, 0, none⟩ u0).setCell ⟨p, 1, none⟩ u1).setCell ⟨p, 2, none⟩ u2).setCell ⟨p, 3, none⟩ u3).setCell ⟨p, 4, none⟩ u4).setCell ⟨p, 5, none⟩ u5).heap[p]? = some (.cells #[u0, u1, u2, u3, u4, u5] T fr) :=
  set_block (set_block (set_block (set_block (set_block (set_block h u0) u1) u2) u3) u4) u5
theorem block_below {w w' : World} {p : Nat} {o : Obj} (h : w.heap[p]? = some o) (hb : Below w.heap.size w w') : w'.heap[p]? = some o := (hb.block p (Array.getElem?_eq_some_iff.1 h).1).trans h
structure Run (Y : Nat) (w0 : World) (ps : List ByteArray) (l : List UInt8) (es : List Ent) (A : Option Addr) (cap : Nat) (w : World) : Prop where
  bf : BF Y l w
  desk : w.heap[Y + 1]? = some (.cells #[.slice none 0 0, .string ⟨#[]⟩, .string ⟨#[]⟩, .string ⟨#[]⟩, .string ⟨#[]⟩, .slice A es.length cap] 71 (0, 0))
  ps : w.heap[Y + 2]? = some (.cells (strV ps).toArray 9 (0, 0))
  own : w.ownsRow 0 253 2 (.slice A es.length cap) es.length (entV es)
  bel : Below Y w0 w
theorem Run.cells {Y : Nat} {w0 : World} {ps : List ByteArray} {l : List UInt8} {es : List Ent} {A : Option Addr} {cap : Nat} {w : World} (h : Run Y w0 ps l es A cap w) :
    w.cell? ⟨Y + 1, 0, none⟩ = some (.slice none 0 0) ∧ w.cell? ⟨Y + 1, 1, none⟩ = some (.string ⟨#[]⟩) ∧ w.cell? ⟨Y + 1, 2, none⟩ = some (.string ⟨#[]⟩) ∧ w.cell? ⟨Y + 1, 3, none⟩ = some (.string ⟨#[]⟩) ∧ w.cell? ⟨Y + 1, 4, none⟩ = some (.string ⟨#[]⟩) ∧ w.cell? ⟨Y + 1, 5, none⟩ = some (.slice A es.length cap) := by
  refine ⟨?_, ?_, ?_, ?_, ?_, ?_⟩ <;> rw [cell_of_row w (Y + 1) _ _ _ _ h.desk] <;> rfl
theorem Run.piece {Y : Nat} {w0 : World} {ps : List ByteArray} {l : List UInt8} {es : List Ent} {A : Option Addr} {cap : Nat} {w : World} (h : Run Y w0 ps l es A cap w) (k : Nat) (hk : k < ps.length) : w.cell? ⟨Y + 2, k, none⟩ = some (.string ps[k]) := by
  rw [cell_of_row w (Y + 2) _ _ _ _ h.ps]; simp [strV, hk]
theorem Run.next {Y : Nat} {w0 : World} {ps : List ByteArray} {l l' : List UInt8} {es es' : List Ent} {A A' : Option Addr} {cap cap' : Nat} {w w4 w6 : World} (h : Run Y w0 ps l es A cap w) (hb : Below w.heap.size w w4)
    (ho : w4.ownsRow 0 253 2 (.slice A' es'.length cap') es'.length (entV es')) (o : Obj)
    (hbf : BF Y l' w6) (hb6 : Below Y ((((((w4.alloc o).setCell ⟨Y + 1, 0, none⟩ (.slice none 0 0)).setCell ⟨Y + 1, 1, none⟩ (.string ⟨#[]⟩)).setCell ⟨Y + 1, 2, none⟩ (.string ⟨#[]⟩)).setCell ⟨Y + 1, 3, none⟩ (.string ⟨#[]⟩)).setCell ⟨Y + 1, 4, none⟩ (.string ⟨#[]⟩) |>.setCell ⟨Y + 1, 5, none⟩ (.slice A' es'.length cap')) w6)
    (hk6 : Lib.OthersKept 5 (some Y) ((((((w4.alloc o).setCell ⟨Y + 1, 0, none⟩ (.slice none 0 0)).setCell ⟨Y + 1, 1, none⟩ (.string ⟨#[]⟩)).setCell ⟨Y + 1, 2, none⟩ (.string ⟨#[]⟩)).setCell ⟨Y + 1, 3, none⟩ (.string ⟨#[]⟩)).setCell ⟨Y + 1, 4, none⟩ (.string ⟨#[]⟩) |>.setCell ⟨Y + 1, 5, none⟩ (.slice A' es'.length cap')) w6) :
    Run Y w0 ps l' es' A' cap' w6 := by
  have hY : Y ≤ w4.heap.size := by
    obtain ⟨cs, hc⟩ := bf_block h.bf
    have := (Array.getElem?_eq_some_iff.1 hc).1
    have := hb.size
    omega
  have d4 := block_kept (block_below h.desk hb) (World.grownBy_alloc w4 o none) (by simp)
  have p4 := block_kept (block_below h.ps hb) (World.grownBy_alloc w4 o none) (by simp)
  have b4 := bf_block (bf_below h.bf hb)
  obtain ⟨cs, b4⟩ := b4
  have b5 := block_kept b4 (World.grownBy_alloc w4 o none) (by simp)
  have hg := only_six (w4.alloc o) (Y + 1) (.slice none 0 0) (.string ⟨#[]⟩) (.string ⟨#[]⟩) (.string ⟨#[]⟩) (.string ⟨#[]⟩) (.slice A' es'.length cap')
  have o5 := (ho.alloc o).kept hg (own_ne (ho.alloc o) d4 (by decide))
  have p5 := block_kept p4 hg (by simp)
  have b6 := block_kept b5 hg (by simp)
  refine ⟨hbf, hk6 _ _ (six_block d4 _ _ _ _ _ _) (by simp) (by intro c fz e; injection e with _ e; revert e; decide), hk6 _ _ p5 (by simp) (by intro c fz e; injection e with _ e; revert e; decide), own_others o5 hk6 (by decide) b6 (by decide), ?_⟩
  have hbY : Below Y w0 w4 := h.bel.trans (hb.mono (by obtain ⟨cs, hc⟩ := bf_block h.bf; have := (Array.getElem?_eq_some_iff.1 hc).1; omega))
  exact (bel_six (hbY.alloc hY o) (Nat.le_succ Y) _ _ _ _ _ _).trans hb6
theorem Run.bf4 {Y : Nat} {w0 : World} {ps : List ByteArray} {l : List UInt8} {es : List Ent} {A : Option Addr} {cap : Nat} {w w4 : World} (h : Run Y w0 ps l es A cap w) (hb : Below w.heap.size w w4) (o : Obj) (u : Value) :
    BF Y l (((((((w4.alloc o).setCell ⟨Y + 1, 0, none⟩ (.slice none 0 0)).setCell ⟨Y + 1, 1, none⟩ (.string ⟨#[]⟩)).setCell ⟨Y + 1, 2, none⟩ (.string ⟨#[]⟩)).setCell ⟨Y + 1, 3, none⟩ (.string ⟨#[]⟩)).setCell ⟨Y + 1, 4, none⟩ (.string ⟨#[]⟩)).setCell ⟨Y + 1, 5, none⟩ u) := by
  have d4 := block_kept (block_below h.desk hb) (World.grownBy_alloc w4 o none) (by simp)
  exact bf_kept ((bf_below h.bf hb).alloc o) (only_six (w4.alloc o) (Y + 1) (.slice none 0 0) (.string ⟨#[]⟩) (.string ⟨#[]⟩) (.string ⟨#[]⟩) (.string ⟨#[]⟩) u) d4 (by decide) (by omega)
structure Dk where
  rs : List Ent
  rf : ByteArray
  ri : ByteArray
  pl : ByteArray
  wi : ByteArray
  bk : List Ent
def Dk.empty : Dk := ⟨[], ⟨#[]⟩, ⟨#[]⟩, ⟨#[]⟩, ⟨#[]⟩, []⟩
structure At where
  Ar : Option Addr
  cr : Nat
  Ab : Option Addr
  cb : Nat
abbrev dkC (d : Dk) (a : At) : Array Value := #[.slice a.Ar d.rs.length a.cr, .string d.rf, .string d.ri, .string d.pl, .string d.wi, .slice a.Ab d.bk.length a.cb]
abbrev dkV (d : Dk) (a : At) : Value := .agg #[.slice a.Ar d.rs.length a.cr, .string d.rf, .string d.ri, .string d.pl, .string d.wi, .slice a.Ab d.bk.length a.cb]
structure Own (d : Dk) (a : At) (w : World) : Prop where
  r : w.ownsRow 0 142 2 (.slice a.Ar d.rs.length a.cr) d.rs.length (entV d.rs)
  b : w.ownsRow 0 253 2 (.slice a.Ab d.bk.length a.cb) d.bk.length (entV d.bk)
theorem Own.below {d : Dk} {a : At} {w w' : World} (h : Own d a w) (hb : Below w.heap.size w w') : Own d a w' := ⟨ownsRow_below h.r hb, ownsRow_below h.b hb⟩
theorem Own.empty (w : World) : Own Dk.empty ⟨none, 0, none, 0⟩ w := ⟨World.ownsRow_nil _ _ _ _, World.ownsRow_nil _ _ _ _⟩
def Answered (d : Dk) (ans : ByteArray) (w : World) (e : Ending) (w' : World) : Prop :=
  ∃ a', e = .returned (.tuple #[dkV d a', .string ans]) ∧ Own d a' w' ∧ Below w.heap.size w w'
def Exec (d : Dk) (s : ByteArray) (d' : Dk) (ans : ByteArray) : Prop :=
  ∀ (w : World) (a : At), GW w → Own d a w → Calls Tryz.prog 38 #[dkV d a, .string s] w (Answered d' ans w)
theorem frozen_cells {w : World} {p : Nat} {cs : Array Value} {T : TypeId} (h : w.heap[p]? = some (.cells cs T (0, 0))) (i : Nat) : w.frozen? ⟨p, i, none⟩ = false := by
  simp [World.frozen?, h]
theorem row_six {w : World} {p : Nat} {a0 a1 a2 a3 a4 a5 : Value} {T : TypeId} {fr : Nat × Nat} (h : w.heap[p]? = some (.cells #[a0, a1, a2, a3, a4, a5] T fr)) :
    w.cell? ⟨p, 0, none⟩ = some a0 ∧ w.cell? ⟨p, 1, none⟩ = some a1 ∧ w.cell? ⟨p, 2, none⟩ = some a2 ∧ w.cell? ⟨p, 3, none⟩ = some a3 ∧ w.cell? ⟨p, 4, none⟩ = some a4 ∧ w.cell? ⟨p, 5, none⟩ = some a5 := by
  refine ⟨?_, ?_, ?_, ?_, ?_, ?_⟩ <;> rw [cell_of_row w p _ _ _ _ h] <;> rfl
abbrev six (w : World) (p : Nat) (u0 u1 u2 u3 u4 u5 : Value) : World := (((((w.setCell ⟨p, 0, none⟩ u0).setCell ⟨p, 1, none⟩ u1).setCell ⟨p, 2, none⟩ u2).setCell ⟨p, 3, none⟩ u3).setCell ⟨p, 4, none⟩ u4).setCell ⟨p, 5, none⟩ u5
structure RunD (Y : Nat) (w0 : World) (ps : List ByteArray) (l : List UInt8) (d : Dk) (a : At) (w : World) : Prop where
  bf : BF Y l w
  desk : w.heap[Y + 1]? = some (.cells (dkC d a) 71 (0, 0))
  ps : w.heap[Y + 2]? = some (.cells (strV ps).toArray 9 (0, 0))
  own : Own d a w
  bel : Below Y w0 w
theorem RunD.piece {Y : Nat} {w0 : World} {ps : List ByteArray} {l : List UInt8} {d : Dk} {a : At} {w : World} (h : RunD Y w0 ps l d a w) (k : Nat) (hk : k < ps.length) : w.cell? ⟨Y + 2, k, none⟩ = some (.string ps[k]) := by
  rw [cell_of_row w (Y + 2) _ _ _ _ h.ps]; simp [strV, hk]
theorem RunD.next {Y : Nat} {w0 : World} {ps : List ByteArray} {l l' : List UInt8} {d d' : Dk} {a a' : At} {w w4 w6 : World} (h : RunD Y w0 ps l d a w) (hb : Below w.heap.size w w4)
    (ho : Own d' a' w4) (o : Obj)
    (hbf : BF Y l' w6) (hb6 : Below Y (six (w4.alloc o) (Y + 1) (.slice a'.Ar d'.rs.length a'.cr) (.string d'.rf) (.string d'.ri) (.string d'.pl) (.string d'.wi) (.slice a'.Ab d'.bk.length a'.cb)) w6)
    (hk6 : Lib.OthersKept 5 (some Y) (six (w4.alloc o) (Y + 1) (.slice a'.Ar d'.rs.length a'.cr) (.string d'.rf) (.string d'.ri) (.string d'.pl) (.string d'.wi) (.slice a'.Ab d'.bk.length a'.cb)) w6) :
    RunD Y w0 ps l' d' a' w6 := by
  have hY : Y ≤ w4.heap.size := by
    obtain ⟨cs, hc⟩ := bf_block h.bf
    have := (Array.getElem?_eq_some_iff.1 hc).1
    have := hb.size
    omega
  have d4 := block_kept (block_below h.desk hb) (World.grownBy_alloc w4 o none) (by simp)
  have p4 := block_kept (block_below h.ps hb) (World.grownBy_alloc w4 o none) (by simp)
  have b4 := bf_block (bf_below h.bf hb)
  obtain ⟨cs, b4⟩ := b4
  have b5 := block_kept b4 (World.grownBy_alloc w4 o none) (by simp)
  have hg := only_six (w4.alloc o) (Y + 1) (.slice a'.Ar d'.rs.length a'.cr) (.string d'.rf) (.string d'.ri) (.string d'.pl) (.string d'.wi) (.slice a'.Ab d'.bk.length a'.cb)
  have r5 := (ho.r.alloc o).kept hg (own_ne (ho.r.alloc o) d4 (by decide))
  have o5 := (ho.b.alloc o).kept hg (own_ne (ho.b.alloc o) d4 (by decide))
  have p5 := block_kept p4 hg (by simp)
  have b6 := block_kept b5 hg (by simp)
  refine ⟨hbf, hk6 _ _ (six_block d4 _ _ _ _ _ _) (by simp) (by intro c fz e; injection e with _ e; revert e; decide), hk6 _ _ p5 (by simp) (by intro c fz e; injection e with _ e; revert e; decide), ⟨own_others r5 hk6 (by decide) b6 (by decide), own_others o5 hk6 (by decide) b6 (by decide)⟩, ?_⟩
  have hbY : Below Y w0 w4 := h.bel.trans (hb.mono (by obtain ⟨cs, hc⟩ := bf_block h.bf; have := (Array.getElem?_eq_some_iff.1 hc).1; omega))
  exact (bel_six (hbY.alloc hY o) (Nat.le_succ Y) _ _ _ _ _ _).trans hb6
theorem RunD.bf4 {Y : Nat} {w0 : World} {ps : List ByteArray} {l : List UInt8} {d : Dk} {a : At} {w w4 : World} (h : RunD Y w0 ps l d a w) (hb : Below w.heap.size w w4) (o : Obj) (u0 u1 u2 u3 u4 u5 : Value) :
    BF Y l (six (w4.alloc o) (Y + 1) u0 u1 u2 u3 u4 u5) := by
  have d4 := block_kept (block_below h.desk hb) (World.grownBy_alloc w4 o none) (by simp)
  exact bf_kept ((bf_below h.bf hb).alloc o) (only_six (w4.alloc o) (Y + 1) u0 u1 u2 u3 u4 u5) d4 (by decide) (by omega)
theorem RunD.start (w : World) (ps : List ByteArray) : RunD w.heap.size w ps [] Dk.empty ⟨none, 0, none, 0⟩ (((w.alloc (.cells #[.pointer none, .slice none 0 0] 68)).alloc (.cells #[.slice none 0 0, .string ⟨#[]⟩, .string ⟨#[]⟩, .string ⟨#[]⟩, .string ⟨#[]⟩, .slice none 0 0] 71)).alloc (.cells (strV ps).toArray 9)) := by
  have h1 := Lib.IsBuilderF.of (Lib.fresh_isBuilder 68 5 w)
  refine ⟨(h1.alloc _).alloc _, ?_, ?_, Own.empty _, (((Below.refl _ _).alloc (Nat.le_refl _) _).alloc (by simp) _).alloc (by simp; omega) _⟩
  · have h2 := heap_alloc_new (w.alloc (.cells #[.pointer none, .slice none 0 0] 68)) (.cells #[.slice none 0 0, .string ⟨#[]⟩, .string ⟨#[]⟩, .string ⟨#[]⟩, .string ⟨#[]⟩, .slice none 0 0] 71)
    rw [szalloc] at h2
    exact block_kept h2 (World.grownBy_alloc _ _ none) (by simp)
  · have h2 := heap_alloc_new ((w.alloc (.cells #[.pointer none, .slice none 0 0] 68)).alloc (.cells #[.slice none 0 0, .string ⟨#[]⟩, .string ⟨#[]⟩, .string ⟨#[]⟩, .string ⟨#[]⟩, .slice none 0 0] 71)) (.cells (strV ps).toArray 9)
    rw [szalloc, szalloc] at h2
    exact h2
theorem sz_six {Y : Nat} {w4 : World} (hY : Y + 1 < w4.heap.size) (o : Obj) (u0 u1 u2 u3 u4 u5 : Value) : Y ≤ (six (w4.alloc o) (Y + 1) u0 u1 u2 u3 u4 u5).heap.size := by
  simp only [six, World.size_setCell, szalloc]; omega
def Step1 (s : ByteArray) (d d' : Dk) (o o' : List UInt8) : Prop :=
  (tl s = [] ∧ d' = d ∧ o' = o) ∨ (tl s ≠ [] ∧ o.length ≤ 40000 ∧ ∃ ans : ByteArray, ans.size ≤ 50000 ∧ o' = o ++ (tl ans ++ [10]) ∧ Exec d s d' ans)
set_option maxHeartbeats 8000000 in
set_option maxRecDepth 100000 in
theorem run_lines (w : World) (hml : GW w) (T : ByteArray) (hT : T.size ≤ 20000) (ls : List ByteArray) (hsp : mkl (spl 10 (tl T)) = ls) (hn : ls.length ≤ 100) (st : Nat → Dk) (out : Nat → List UInt8) (h0 : st 0 = Dk.empty) (o0 : out 0 = [])
    (hst : ∀ k (hk : k < ls.length), Step1 ls[k] (st k) (st (k + 1)) (out k) (out (k + 1))) (hne : out ls.length ≠ []) :
    Calls Tryz.prog 11 #[.string T] w fun e w' => e = .returned (.string (mk (out ls.length))) ∧ Below w.heap.size w w' := by
  obtain ⟨Y, hY⟩ : ∃ Y, Y = w.heap.size := ⟨_, rfl⟩
  obtain ⟨n, hnn⟩ : ∃ n, n = ls.length := ⟨_, rfl⟩
  have hpn : (spl 10 (tl T)).length = n := by rw [hnn, ← hsp, length_mkl]
  have hss := RunD.start w ls
  rw [← hY] at hss
  have hb0 : Below w.heap.size w ((w.alloc (.cells #[.pointer none, .slice none 0 0] 68)).alloc (.cells #[.slice none 0 0, .string ⟨#[]⟩, .string ⟨#[]⟩, .string ⟨#[]⟩, .string ⟨#[]⟩, .slice none 0 0] 71)) := bel_two _ _
  have hm0 := hml.below hb0 (Nat.le_refl _)
  rw [← hnn] at hn hne ⊢
  have HY := Lib.hid hY; have HSP := Lib.hid hsp; have HPN := Lib.hid hpn; have HSS := Lib.hid hss; have HM0 := Lib.hid hm0; have HML := Lib.hid hml; have HN := Lib.hid hnn
  have HST := Lib.hid hst; have HNE := Lib.hid hne; have HS0 := Lib.hid h0; have HO0 := Lib.hid o0
  clear hY hsp hpn hss hb0 hm0 hml hst hne h0 o0 hnn
  go_enter Tryz.func11, Tryz.ntmps11
  go_wp2_with fail
  refine (split_any _ T 10 HM0.out.ml (by omega)).mono ?_
  rintro _ w1 ⟨rfl, rfl⟩
  rw [HPN.out, HSP.out]
  have hq := HSS.out
  simp only [szalloc, ← HY.out]
  generalize (((w.alloc (.cells #[.pointer none, .slice none 0 0] 68)).alloc (.cells #[.slice none 0 0, .string ⟨#[]⟩, .string ⟨#[]⟩, .string ⟨#[]⟩, .string ⟨#[]⟩, .slice none 0 0] 71)).alloc (.cells (strV ls).toArray 9)) = w3 at hq ⊢
  rw [← HO0.out, ← HS0.out] at hq
  have HQ := Lib.hid hq; clear hq HSS HM0
  go_wp2_with fail
  go_loopw [15] (fun i wr => ∃ (k : Nat) (a : At), k ≤ n ∧ i = .int .i64 k ∧ RunD Y w ls (out k) (st k) a wr) (fun i _ => n - (intOf i).toNat)
  case atStart => exact ⟨0, _, by omega, rfl, HQ.out⟩
  case round =>
    clear HQ
    obtain ⟨k, a, hk, rfl, hrun⟩ := hrel
    have HRUN := Lib.hid hrun; clear hrun
    have hbel : Below w.heap.size w wr := HY.out ▸ HRUN.out.bel
    by_cases hkn : k < n
    · have hkl : k < ls.length := by rw [← HN.out]; exact hkn
      have pc := HRUN.out.piece k hkl
      have hs1 := HST.out k hkl
      obtain ⟨L, hL⟩ : ∃ L, L = ls[k] := ⟨_, rfl⟩
      rw [← hL] at pc hs1
      rcases hs1 with ⟨h1, h2, h3⟩ | ⟨h1, h2, ans, haz, h3, hex⟩
      · have hte : L.toList.isEmpty = true := by rw [toList_tl, h1]; rfl
        have hr2 := HRUN.out
        rw [← h2, ← h3] at hr2
        have HR2 := Lib.hid hr2
        clear h1 h2 h3 hL hr2
        go_wp2_with fail
        go_roundw
        case rel => exact ⟨k + 1, a, by omega, by go_num, HR2.out⟩
        case measure => simp [intOf]; omega
      · have hte : L.toList.isEmpty = false := by rw [List.isEmpty_eq_false_iff, toList_tl]; exact h1
        have hbf := HRUN.out.bf
        have HBF := Lib.hid hbf
        have hex2 := hex wr a (HML.out.below hbel (Nat.le_refl _)) HRUN.out.own
        have HEX := Lib.hid hex2; have H3 := Lib.hid h3
        clear hbf hex hex2 h3 hL h1
        generalize hOO : out k = OO at HRUN h2 HBF
        have HOO := Lib.hid hOO; clear hOO
        obtain ⟨c0, c1, c2, c3, c4, c5⟩ := row_six HRUN.out.desk
        have f0 := frozen_cells HRUN.out.desk 0; have f1 := frozen_cells HRUN.out.desk 1; have f2 := frozen_cells HRUN.out.desk 2; have f3 := frozen_cells HRUN.out.desk 3; have f4 := frozen_cells HRUN.out.desk 4; have f5 := frozen_cells HRUN.out.desk 5
        have HBE := Lib.hid hbel; clear hbel
        go_wp2_with fail
        refine (len_k Y _ wr HBF.out).mono ?_
        rintro _ _ ⟨rfl, rfl⟩
        go_wp2_with fail
        refine HEX.out.mono ?_
        rintro _ w4 ⟨a4, rfl, ho4, hb4⟩
        clear c0 c1 c2 c3 c4 c5 f0 f1 f2 f3 f4 f5 pc
        generalize hd' : st (k + 1) = d' at ho4 ⊢
        have d4 := block_kept (block_below HRUN.out.desk hb4) (World.grownBy_alloc w4 (.cells #[.slice a4.Ar d'.rs.length a4.cr, .string d'.rf, .string d'.ri, .string d'.pl, .string d'.wi, .slice a4.Ab d'.bk.length a4.cb] 71) none) (by simp)
        obtain ⟨c0, c1, c2, c3, c4, c5⟩ := row_six d4
        have f0 := frozen_cells d4 0; have f1 := frozen_cells d4 1; have f2 := frozen_cells d4 2; have f3 := frozen_cells d4 3; have f4 := frozen_cells d4 4; have f5 := frozen_cells d4 5
        have hY4 : Y + 1 < w4.heap.size := (Array.getElem?_eq_some_iff.1 (block_below HRUN.out.desk hb4)).1
        have HB4 := Lib.hid hb4; have HO4 := Lib.hid ho4; have HY4 := Lib.hid hY4; have HD := Lib.hid hd'; clear d4 hb4 ho4 hY4 hd'
        have hnx : OO ++ tl (ans ++ ⟨#[10]⟩) = out (k + 1) := by
          rw [H3.out, HOO.out, show (⟨#[10]⟩ : ByteArray) = mk [10] from rfl, append_tl, tl_mk, tl_mk]
        have HNX := Lib.hid hnx; clear hnx
        go_wp2_with fail
        have hY4 := HY4.out
        have hbf4 := HRUN.out.bf4 HB4.out (.cells #[.slice a4.Ar d'.rs.length a4.cr, .string d'.rf, .string d'.ri, .string d'.pl, .string d'.wi, .slice a4.Ab d'.bk.length a4.cb] 71) (.slice a4.Ar d'.rs.length a4.cr) (.string d'.rf) (.string d'.ri) (.string d'.pl) (.string d'.wi) (.slice a4.Ab d'.bk.length a4.cb)
        have hys := sz_six hY4 (.cells #[.slice a4.Ar d'.rs.length a4.cr, .string d'.rf, .string d'.ri, .string d'.pl, .string d'.wi, .slice a4.Ab d'.bk.length a4.cb] 71) (.slice a4.Ar d'.rs.length a4.cr) (.string d'.rf) (.string d'.ri) (.string d'.pl) (.string d'.wi) (.slice a4.Ab d'.bk.length a4.cb)
        have hws : OO.length + (ans ++ ⟨#[10]⟩).size ≤ 100000 := by rw [ByteArray.size_append, show (⟨#[10]⟩ : ByteArray).size = 1 from rfl]; omega
        have hwr := write_k Y _ _ _ hbf4 hws hys
        clear hbf4 hys hws hY4
        refine hwr.mono ?_
        clear hwr
        rintro _ w6 ⟨rfl, hbf6, hb6, hk6⟩
        have hrun6 := HRUN.out.next HB4.out HO4.out _ hbf6 hb6 hk6
        rw [HNX.out, ← HD.out] at hrun6
        have HR6 := Lib.hid hrun6; clear hrun6 hbf6 hb6 hk6 c0 c1 c2 c3 c4 c5 f0 f1 f2 f3 f4 f5
        go_wp2_with fail
        go_roundw
        case rel => exact ⟨k + 1, a4, by omega, by go_num, HR6.out⟩
        case measure => simp [intOf]; omega
    · have hke : k = n := by omega
      subst hke
      have HBE := Lib.hid hbel; clear hbel
      go_wp2_with fail
      refine (string_k Y _ wr HRUN.out.bf HNE.out).mono ?_
      rintro _ w7 ⟨rfl, hb7⟩
      have HB7 := Lib.hid (HBE.out.trans (HY.out ▸ hb7)); clear hb7
      go_wp2_with fail
      go_ret
      exact ⟨rfl, HB7.out⟩
end Go.Proofs.YtnbdimbhklbadaaGreatDoor
