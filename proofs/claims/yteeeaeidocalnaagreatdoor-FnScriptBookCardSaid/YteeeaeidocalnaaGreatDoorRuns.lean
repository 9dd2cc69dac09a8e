/-
  What impl.execute does with the lines about a book, where no machine is set. Conditions: what each theorem names.
-/
import Derived.Test.YteeeaeidocalnaaGreatDoorCmds
import Derived.Test.YteeeaeidocalnaaGreatDoorParse
import Derived.Test.YteeeaeidocalnaaGreatDoorDec
namespace Go.Proofs.YteeeaeidocalnaaGreatDoor
open Go.RowKit Pl
set_option linter.unusedVariables false

/-- a desk without a machine -/
def deskV (A : Option Addr) (n cap : Nat) : Value := .agg #[.slice none 0 0, .string ⟨#[]⟩, .string ⟨#[]⟩, .string ⟨#[]⟩, .string ⟨#[]⟩, .slice A n cap]

theorem bcell {W w1 : World} (hb : Below W.heap.size W w1) : (∀ b o, b < W.heap.size → w1.cell? ⟨b, o, none⟩ = W.cell? ⟨b, o, none⟩) ∧ (∀ b o, b < W.heap.size → w1.frozen? ⟨b, o, none⟩ = W.frozen? ⟨b, o, none⟩) :=
  ⟨fun b o h => hb.cell (p := ⟨b, o, none⟩) h, fun b o h => hb.frozen (p := ⟨b, o, none⟩) h⟩
theorem bel_six {a w : World} {B p : Nat} (h : Below B a w) (hp : B ≤ p) (u0 u1 u2 u3 u4 u5 : Value) :
    Below B a ((((((w.setCell ⟨p, 0, none⟩ u0).setCell ⟨p, 1, none⟩ u1).setCell ⟨p, 2, none⟩ u2).setCell ⟨p, 3, none⟩ u3).setCell ⟨p, 4, none⟩ u4).setCell ⟨p, 5, none⟩ u5) :=
  (((((h.setCell hp _).setCell hp _).setCell hp _).setCell hp _).setCell hp _).setCell hp _
theorem bel_two {w : World} (o1 o2 : Obj) : Below w.heap.size w ((w.alloc o1).alloc o2) := ((Below.refl _ _).alloc (Nat.le_refl _) _).alloc (by simp) _

set_option maxHeartbeats 4000000 in
set_option maxRecDepth 100000 in
theorem runShow_any (w : World) (A : Option Addr) (cap : Nat) (es : List Ent) (h : Rd w w.heap.size A (entV es)) (hc : es.length ≤ cap) (hz : ∀ e ∈ es, e.1.size ≤ maxLen ∧ e.2.size ≤ maxLen) (hf : (fmtB es).size ≤ 1000) (s : ByteArray) (F : Value) :
    Calls Tryz.prog 108 #[deskV A es.length cap, .string s, F] w fun e w' => e = .returned (.tuple #[deskV A es.length cap, .string (mk [98, 111, 111, 107, 32] ++ fmtB es)]) ∧ Below w.heap.size w w' := by
  have hb := bel_two (w := w) (.cells #[.slice none 0 0, .string ⟨#[]⟩, .string ⟨#[]⟩, .string ⟨#[]⟩, .string ⟨#[]⟩, .slice A es.length cap] 56) (.cells #[.slice none 0 0, .string ⟨#[]⟩, .string ⟨#[]⟩, .string ⟨#[]⟩, .string ⟨#[]⟩, .slice none 0 0] 56)
  obtain ⟨tx, htx⟩ : ∃ tx, tx = fmtB es := ⟨_, rfl⟩
  rw [← htx] at hf ⊢
  have HTX := Lib.hid htx; clear htx
  have HR := Lib.hid (h.below hb |>.mono hb.size); have HZ := Lib.hid hz; have HB := Lib.hid hb; clear h hz hb
  unfold deskV
  go_enter Tryz.func108, Tryz.ntmps108
  go_wp2_with fail
  refine (format_any _ A cap es HR.out hc HZ.out).mono ?_
  rintro _ w1 ⟨rfl, hb1⟩
  rw [← HTX.out]
  obtain ⟨hcl, hfr⟩ := bcell hb1
  have hzz : w.heap.size + 1 < w1.heap.size := by have := hb1.size; simp at this; omega
  have HB1 := Lib.hid (HB.out.trans (hb1.mono HB.out.size)); clear hb1
  have q1 : (mk [98, 111, 111, 107, 32]).size = 5 := rfl
  go_wp2_with fail
  refine bodyPost_ret (v := .tuple #[.agg #[.slice none 0 0, .string ⟨#[]⟩, .string ⟨#[]⟩, .string ⟨#[]⟩, .string ⟨#[]⟩, .slice A es.length cap], .string (mk [98, 111, 111, 107, 32] ++ tx)]) (by simp [results, Tryz.results108, go_sem, hcl]; rfl) rfl ⟨rfl, bel_six HB1.out (by omega) _ _ _ _ _ _⟩

theorem own_far {w w' : World} {base p : Nat} {e : TypeId} {size : Nat} {v : Value} {n : Nat} {xs : List Value} (h : w.ownsRow base e size v n xs) (hg : w.grownBy w' (some p)) (hp : p < base) : w'.ownsRow base e size v n xs :=
  h.kept hg (by
    cases hv : v.ownBlock with
    | none => exact .inl rfl
    | some k => exact .inr (by have := (h.lt k hv).1; intro e; injection e with e; omega))
theorem only_six (w : World) (p : Nat) (u0 u1 u2 u3 u4 u5 : Value) :
    w.grownBy ((((((w.setCell ⟨p, 0, none⟩ u0).setCell ⟨p, 1, none⟩ u1).setCell ⟨p, 2, none⟩ u2).setCell ⟨p, 3, none⟩ u3).setCell ⟨p, 4, none⟩ u4).setCell ⟨p, 5, none⟩ u5) (some p) :=
  only_setCell (only_setCell (only_setCell (only_setCell (only_setCell (only_setCell (only_refl w _) 0 u0) 1 u1) 2 u2) 3 u3) 4 u4) 5 u5

/-- the desk has the book es, which the call has made; the answer is ok -/
def BookSet (es : List Ent) (w : World) (e : Ending) (w' : World) : Prop :=
  ∃ A' cap', e = .returned (.tuple #[deskV A' es.length cap', .string (mk [111, 107])]) ∧ w'.ownsRow w.heap.size 77 2 (.slice A' es.length cap') es.length (entV es) ∧ Below w.heap.size w w'

set_option maxHeartbeats 4000000 in
set_option maxRecDepth 100000 in
theorem runBook_any (w : World) (hml : ML w) (A : Option Addr) (n cap : Nat) (s : ByteArray) (hs : s.size ≤ 1000) (F : Value) (es : List Ent) (hp : parseW s = some es) :
    Calls Tryz.prog 105 #[deskV A n cap, .string s, F] w (BookSet es w) := by
  have hb := bel_two (w := w) (.cells #[.slice none 0 0, .string ⟨#[]⟩, .string ⟨#[]⟩, .string ⟨#[]⟩, .string ⟨#[]⟩, .slice A n cap] 56) (.cells #[.slice none 0 0, .string ⟨#[]⟩, .string ⟨#[]⟩, .string ⟨#[]⟩, .string ⟨#[]⟩, .slice none 0 0] 56)
  have HM := Lib.hid (hml.below hb (Nat.le_refl _)); have HB := Lib.hid hb; have HP := Lib.hid hp; clear hb hp hml
  unfold deskV
  go_enter Tryz.func105, Tryz.ntmps105
  go_wp2_with fail
  refine (parse_any _ s HM.out (by omega)).mono ?_
  rintro _ w1 ⟨v1, rfl, ho1, hb1⟩
  rw [HP.out] at ho1 ⊢
  simp only [Option.isSome_some, Option.getD_some] at ho1 ⊢
  obtain ⟨A1, cap1, rfl⟩ := slot_slice ho1
  obtain ⟨hcl, hfr⟩ := bcell hb1
  have hzz : w.heap.size + 1 < w1.heap.size := by have := hb1.size; simp at this; omega
  have HB1 := Lib.hid (HB.out.trans (hb1.mono HB.out.size)); have HO := Lib.hid ho1; clear hb1 ho1
  have c5 : w1.cell? ⟨w.heap.size, 5, none⟩ = some (.slice A n cap) := by rw [hcl _ _ (by simp; omega)]; simp
  have hx5 := World.cell?_setCell_same' w1 ⟨w.heap.size, 5, none⟩ (.slice A1 es.length cap1) (by rw [c5]; rfl)
  clear c5
  go_wp2_with fail
  refine bodyPost_ret (v := .tuple #[.agg #[.slice none 0 0, .string ⟨#[]⟩, .string ⟨#[]⟩, .string ⟨#[]⟩, .string ⟨#[]⟩, .slice A1 es.length cap1], .string ⟨#[111, 107]⟩]) (by simp [results, Tryz.results105, go_sem, hcl]) rfl ⟨A1, cap1, rfl, ?_, bel_six (HB1.out.setCell (Nat.le_refl _) _) (by omega) _ _ _ _ _ _⟩
  exact own_mono2 (own_far (own_far HO.out (only_setCell (only_refl w1 _) 5 _) (by simp; omega)) (only_six _ (w.heap.size + 1) _ _ _ _ _ _) (by simp)) (by simp; omega)

theorem orAbsent_any (w : World) (s : ByteArray) (ok : Bool) :
    Calls Tryz.prog 137 #[.string s, .bool ok] w fun e w' => e = .returned (.string (if ok && !(tl s).isEmpty then s else mk [110, 111, 110, 101])) ∧ w = w' := by
  cases ok with
  | false =>
    go_enter Tryz.func137, Tryz.ntmps137
    go_wp2_with fail
    go_ret
    exact ⟨rfl, rfl⟩
  | true =>
    by_cases h0 : tl s = []
    · have hq : s.toList.isEmpty = true := by rw [toList_tl, h0]; rfl
      have fin : (if (true && !(tl s).isEmpty) = true then s else mk [110, 111, 110, 101]) = mk [110, 111, 110, 101] := by rw [h0]; rfl
      rw [fin]
      clear fin h0
      go_enter Tryz.func137, Tryz.ntmps137
      go_wp2_with fail
      go_ret
      exact ⟨rfl, rfl⟩
    · have hq : s.toList.isEmpty = false := by rw [List.isEmpty_eq_false_iff, toList_tl]; exact h0
      have hq2 : (tl s).isEmpty = false := by rw [← toList_tl]; exact hq
      have fin : (if (true && !(tl s).isEmpty) = true then s else mk [110, 111, 110, 101]) = s := by rw [hq2]; rfl
      rw [fin]
      clear fin h0 hq2
      go_enter Tryz.func137, Tryz.ntmps137
      go_wp2_with fail
      go_ret
      exact ⟨rfl, rfl⟩

set_option maxHeartbeats 4000000 in
set_option maxRecDepth 100000 in
theorem runCode_any (w : World) (A : Option Addr) (cap : Nat) (es : List Ent) (h : Rd w w.heap.size A (entV es)) (hc : es.length ≤ cap) (hz : ∀ e ∈ es, e.1.size ≤ maxLen ∧ e.2.size ≤ maxLen)
    (Af : Option Addr) (capf : Nat) (ws : List ByteArray) (hf : Rd w w.heap.size Af (strV ws)) (hcf : ws.length ≤ capf) (hl : ws.length ≤ 1000) (hzf : ∀ s ∈ ws, s.size ≤ maxLen) (r : ByteArray) (he : encW es ws = some r) (hr : tl r ≠ []) (s : ByteArray) :
    Calls Tryz.prog 106 #[deskV A es.length cap, .string s, .slice Af ws.length capf] w fun e w' => e = .returned (.tuple #[deskV A es.length cap, .string r]) ∧ Below w.heap.size w w' := by
  have hb := bel_two (w := w) (.cells #[.slice none 0 0, .string ⟨#[]⟩, .string ⟨#[]⟩, .string ⟨#[]⟩, .string ⟨#[]⟩, .slice A es.length cap] 56) (.cells #[.slice none 0 0, .string ⟨#[]⟩, .string ⟨#[]⟩, .string ⟨#[]⟩, .string ⟨#[]⟩, .slice none 0 0] 56)
  have hor : (if (true && !(tl r).isEmpty) = true then r else mk [110, 111, 110, 101]) = r := by
    have : (tl r).isEmpty = false := by rw [List.isEmpty_eq_false_iff]; exact hr
    rw [this]; rfl
  have HR := Lib.hid (h.below hb |>.mono hb.size); have HF := Lib.hid (hf.below hb |>.mono hb.size); have HZ := Lib.hid hz; have HZF := Lib.hid hzf; have HB := Lib.hid hb; have HE := Lib.hid he; have HOR := Lib.hid hor; clear h hz hb hf hzf he hr hor
  unfold deskV
  go_enter Tryz.func106, Tryz.ntmps106
  go_wp2_with fail
  refine (encode_any _ A Af cap capf es ws HR.out hc HZ.out HF.out hcf (by omega) HZF.out).mono ?_
  rintro _ w1 ⟨rfl, hb1⟩
  rw [HE.out]
  simp only [strO, Option.isSome_some]
  obtain ⟨hcl, hfr⟩ := bcell hb1
  have hzz : w.heap.size + 1 < w1.heap.size := by have := hb1.size; simp at this; omega
  have HB1 := Lib.hid (HB.out.trans (hb1.mono HB.out.size)); clear hb1
  go_wp2_with fail
  go_region_with (go_at_call 137; refine (orAbsent_any _ _ _).mono ?_; rintro _ _ ⟨rfl, rfl⟩; rw [HOR.out])
  all_goals
    go_wp2_with fail
    refine bodyPost_ret (v := .tuple #[.agg #[.slice none 0 0, .string ⟨#[]⟩, .string ⟨#[]⟩, .string ⟨#[]⟩, .string ⟨#[]⟩, .slice A es.length cap], .string r]) (by simp [results, Tryz.results106, go_sem, hcl]) rfl ⟨rfl, ?_⟩
    exact (bel_six HB1.out (by omega) _ _ _ _ _ _).drew

set_option maxHeartbeats 4000000 in
set_option maxRecDepth 100000 in
theorem runWords_any (w : World) (A : Option Addr) (cap : Nat) (es : List Ent) (h : Rd w w.heap.size A (entV es)) (hc : es.length ≤ cap) (hz : ∀ e ∈ es, e.1.size ≤ maxLen ∧ e.2.size ≤ maxLen)
    (s : ByteArray) (hs : s.size ≤ 1000) (ws : List ByteArray) (hd : decW es s = some ws) (h0 : ws ≠ []) (jl : List UInt8) (hjl : Lib.join (ws.map tl) [32] = jl) (hj0 : jl ≠ []) (hj : jl.length ≤ 100000) (hwl : ws.length ≤ 1000) (F : Value) :
    Calls Tryz.prog 107 #[deskV A es.length cap, .string s, F] w fun e w' => e = .returned (.tuple #[deskV A es.length cap, .string (mk jl)]) ∧ Below w.heap.size w w' := by
  have hb := bel_two (w := w) (.cells #[.slice none 0 0, .string ⟨#[]⟩, .string ⟨#[]⟩, .string ⟨#[]⟩, .string ⟨#[]⟩, .slice A es.length cap] 56) (.cells #[.slice none 0 0, .string ⟨#[]⟩, .string ⟨#[]⟩, .string ⟨#[]⟩, .string ⟨#[]⟩, .slice none 0 0] 56)
  have hor : (if (true && !(tl (mk jl)).isEmpty) = true then mk jl else mk [110, 111, 110, 101]) = mk jl := by
    have : (tl (mk jl)).isEmpty = false := by rw [tl_mk, List.isEmpty_eq_false_iff]; exact hj0
    rw [this]; rfl
  have HR := Lib.hid (h.below hb |>.mono hb.size); have HZ := Lib.hid hz; have HB := Lib.hid hb; have HD := Lib.hid hd; have HOR := Lib.hid hor; have H0 := Lib.hid h0; have HJL := Lib.hid hjl; clear h hz hb hd hor h0 hjl hj0
  unfold deskV
  go_enter Tryz.func107, Tryz.ntmps107
  go_wp2_with fail
  refine (decode_any _ A cap es s HR.out hc HZ.out (by unfold maxLen; omega)).mono ?_
  rintro _ w1 ⟨v1, rfl, ho1, hb1⟩
  rw [HD.out] at ho1 ⊢
  simp only [Option.isSome_some, Option.getD_some] at ho1 ⊢
  obtain ⟨A1, cap1, rfl⟩ := slot_slice ho1
  obtain ⟨b1, o1, rfl, hbk, hcells⟩ := (own_rd ho1) (by intro e; have := congrArg List.length e; rw [length_strV, List.length_nil] at this; exact H0.out (List.length_eq_zero_iff.1 this))
  have hjn := Tryz.strings_Join b1 o1 cap1 ws (mk [32]) w1.drew (by
    intro j x hx
    obtain ⟨hj, rfl⟩ := List.getElem?_eq_some_iff.1 hx
    show w1.cell? _ = _
    rw [hcells j (by rw [length_strV]; exact hj)]; simp [strV]) hbk (by omega) (own_le ho1) (by show (Lib.join (ws.map tl) [32]).length ≤ _; rw [HJL.out]; omega)
  have hjn2 : Calls Tryz.prog 42 #[.slice (some ⟨b1, o1, none⟩) ws.length cap1, .string ⟨#[32]⟩] w1.drew fun e w' => e = .returned (.string (mk jl)) ∧ Below w1.drew.heap.size w1.drew w' := by
    rw [show (⟨(Lib.join (ws.map (·.data.toList)) (mk [32]).data.toList).toArray⟩ : ByteArray) = mk jl from congrArg mk HJL.out] at hjn
    exact hjn
  have HJN := Lib.hid hjn2
  obtain ⟨hcl, hfr⟩ := bcell hb1
  have hzz : w.heap.size + 1 < w1.heap.size := by have := hb1.size; simp at this; omega
  have hz0 : w.heap.size < w1.heap.size := by omega
  have HB1 := Lib.hid (HB.out.trans (hb1.mono HB.out.size)); clear hb1 hjn hjn2 hcells ho1
  go_wp2_with fail
  go_region_with (first | (go_at_call 137; refine (orAbsent_any _ _ _).mono ?_; rintro _ _ ⟨rfl, rfl⟩; rw [HOR.out]) | (go_at_call 42; refine HJN.out.mono ?_; rintro _ w2 ⟨rfl, hb2⟩; have hb3 : Below w1.heap.size w1 w2 := below_of_drew hb2; obtain ⟨hcl2, hfr2⟩ := bcell hb3; have HB2 := Lib.hid hb3; have hz3 : w.heap.size + 1 < w2.heap.size := Nat.lt_of_lt_of_le hzz hb3.size; clear hb2 hb3) | fail)
  all_goals
    have HB3 := Lib.hid (HB1.out.trans (HB2.out.mono HB1.out.size))
    go_wp2_with fail
    refine bodyPost_ret (v := .tuple #[.agg #[.slice none 0 0, .string ⟨#[]⟩, .string ⟨#[]⟩, .string ⟨#[]⟩, .string ⟨#[]⟩, .slice A es.length cap], .string (mk jl)]) (by simp [results, Tryz.results107, go_sem, hcl2, hcl, hzz]) rfl ⟨rfl, ?_⟩
    exact bel_six HB3.out (by omega) _ _ _ _ _ _

end Go.Proofs.YteeeaeidocalnaaGreatDoor
