/-
  What the walks of the interpreter lean on. Conditions: what each theorem names.
-/
import Derived.Test.YtoakpacpkkmgnaaGreatDoorCmds
import Derived.Test.YtoakpacpkkmgnaaGreatDoorCutD
import Derived.Lib.LaidTab
import Derived.Lib.ItoaNum
namespace Go.Proofs.YtoakpacpkkmgnaaGreatDoor
open Go.RowKit Pl
set_option linter.unusedVariables false

theorem bcell {W w1 : World} (hb : Below W.heap.size W w1) : (∀ b o, b < W.heap.size → w1.cell? ⟨b, o, none⟩ = W.cell? ⟨b, o, none⟩) ∧ (∀ b o, b < W.heap.size → w1.frozen? ⟨b, o, none⟩ = W.frozen? ⟨b, o, none⟩) :=
  ⟨fun b o h => hb.cell (p := ⟨b, o, none⟩) h, fun b o h => hb.frozen (p := ⟨b, o, none⟩) h⟩
theorem bel_six {a w : World} {B p : Nat} (h : Below B a w) (hp : B ≤ p) (u0 u1 u2 u3 u4 u5 : Value) :
    Below B a ((((((w.setCell ⟨p, 0, none⟩ u0).setCell ⟨p, 1, none⟩ u1).setCell ⟨p, 2, none⟩ u2).setCell ⟨p, 3, none⟩ u3).setCell ⟨p, 4, none⟩ u4).setCell ⟨p, 5, none⟩ u5) :=
  (((((h.setCell hp _).setCell hp _).setCell hp _).setCell hp _).setCell hp _).setCell hp _
theorem bel_two {w : World} (o1 o2 : Obj) : Below w.heap.size w ((w.alloc o1).alloc o2) := ((Below.refl _ _).alloc (Nat.le_refl _) _).alloc (by simp) _

theorem own_far {w w' : World} {base p : Nat} {e : TypeId} {size : Nat} {v : Value} {n : Nat} {xs : List Value} (h : w.ownsRow base e size v n xs) (hg : w.grownBy w' (some p)) (hp : p < base) : w'.ownsRow base e size v n xs :=
  h.kept hg (by
    cases hv : v.ownBlock with
    | none => exact .inl rfl
    | some k => exact .inr (by have := (h.lt k hv).1; intro e; injection e with e; omega))
theorem only_six (w : World) (p : Nat) (u0 u1 u2 u3 u4 u5 : Value) :
    w.grownBy ((((((w.setCell ⟨p, 0, none⟩ u0).setCell ⟨p, 1, none⟩ u1).setCell ⟨p, 2, none⟩ u2).setCell ⟨p, 3, none⟩ u3).setCell ⟨p, 4, none⟩ u4).setCell ⟨p, 5, none⟩ u5) (some p) :=
  only_setCell (only_setCell (only_setCell (only_setCell (only_setCell (only_setCell (only_refl w _) 0 u0) 1 u1) 2 u2) 3 u3) 4 u4) 5 u5

theorem below_of_drewN {n : Nat} {a b : World} (h : Below (a.drewN n).heap.size (a.drewN n) b) : Below a.heap.size a b := ⟨h.os, h.tape, h.output, h.size, h.block⟩
theorem zeroCmd (w : World) : (zeroValue 92).run Tryz.prog w = .ok (.agg #[.int .i64 0, .bool false, .nilFunc]) w := by kernel_rfl
theorem cut_word (w : World) (wd : List UInt8) (s : ByteArray) (hn : 32 ∉ wd) (hml : ML w) (hs : s.size ≤ 100000) (hw : wd.length ≤ 1000) :
    Calls Tryz.prog 64 #[.string (mk (wd ++ 32 :: tl s)), .string ⟨#[32]⟩] w fun e w' => e = .returned (.tuple #[.string (mk wd), .string s, .bool true]) ∧ ∃ n, w' = w.drewN n := by
  have h := cut_any w (mk (wd ++ 32 :: tl s)) 32 hml (by rw [size_mk, List.length_append, List.length_cons, length_tl]; omega)
  have e1 : mk (bef 32 (tl (mk (wd ++ 32 :: tl s)))) = mk wd := by rw [tl_mk, (bef_of hn).1]
  have e2 : mk (aft 32 (tl (mk (wd ++ 32 :: tl s)))) = s := by rw [tl_mk, (bef_of hn).2, mk_tl]
  have e3 : decide (32 ∈ tl (mk (wd ++ 32 :: tl s))) = true := by rw [tl_mk]; simp
  rw [e1, e2, e3] at h
  exact h


/-- what the world must hold: the library's bound, its table of powers of ten, its error for a wrong numeral -/
structure GW (w : World) : Prop where
  ml : ML w
  tb : Lib.TabIs Tryz.prog w "internal/strconv.uint64pow10" .u64 Lib.pow10Tab
  es : ∃ ev, w.cell? ⟨3, 0, none⟩ = some ev ∧ (ev = .nilIface ∨ ∃ te pe, ev = .iface te pe)
theorem gw_glob : Tryz.prog.globalNamed "internal/strconv.uint64pow10" = some 5 := by kernel_rfl
theorem GW.lt {w : World} (h : GW w) : 5 < w.heap.size := World.block_lt_of_cell? _ _ (h.tb.cell gw_glob 0 (by decide))
theorem GW.below {w w' : World} {B : Nat} (h : GW w) (hb : Below B w w') (hB : w.heap.size ≤ B) : GW w' := by
  refine ⟨h.ml.below hb hB, ?_, ?_⟩
  rotate_left
  · obtain ⟨ev, h1, h2⟩ := h.es
    exact ⟨ev, (hb.cell (p := ⟨3, 0, none⟩) (Nat.lt_of_lt_of_le (World.block_lt_of_cell? _ _ h1) hB)).trans h1, h2⟩
  have h1 := h.tb
  have hk := hb.block 5 (Nat.lt_of_lt_of_le h.lt hB)
  unfold Lib.TabIs World.var? at h1 ⊢
  rw [gw_glob] at h1 ⊢
  simp only [Option.bind_some] at h1 ⊢
  rw [hk]; exact h1

end Go.Proofs.YtoakpacpkkmgnaaGreatDoor
