/-
  Contracts of SortBook and OnePart of the program. No conditions but those that each theorem names.
-/
import Derived.Test.YteeeaeidocalnaaSortK
import Derived.Test.YteeeaeidocalnaaEntry
namespace Go.Proofs.Yteeeaeidocalnaa
open Go.RowKit Pl
set_option linter.unusedVariables false

open Classical in
/-- the sorted book -/
noncomputable def sortW (es : List Ent) : Option (List Ent) := if bookV es then some (sortE es) else none
theorem sortW_ok {es : List Ent} (h : bookV es) : sortW es = some (sortE es) := if_pos h
theorem sortW_no {es : List Ent} (h : ¬ bookV es) : sortW es = none := if_neg h
/-- the callee has made a book, or none -/
def BookO (o : Option (List Ent)) (w : World) (e : Ending) (w' : World) : Prop :=
  ∃ v, e = .returned (.tuple #[v, .bool o.isSome]) ∧ w'.ownsRow w.heap.size 42 2 v (o.getD []).length (entV (o.getD [])) ∧ Below w.heap.size w w'
theorem BookO.no {o : Option (List Ent)} (hn : o = none) {w w' : World} (hb : Below w.heap.size w w') : BookO o w (.returned (.tuple #[.slice none 0 0, .bool false])) w' :=
  ⟨.slice none 0 0, by rw [hn]; rfl, by rw [hn]; exact World.ownsRow_nil _ _ _ _, hb⟩
theorem BookO.yes {o : Option (List Ent)} {l : List Ent} (hn : o = some l) {w w' : World} {v : Value} (ho : w'.ownsRow w.heap.size 42 2 v l.length (entV l)) (hb : Below w.heap.size w w') : BookO o w (.returned (.tuple #[v, .bool true])) w' :=
  ⟨v, by rw [hn]; rfl, by rw [hn]; exact ho, hb⟩

set_option maxHeartbeats 4000000 in
set_option maxRecDepth 100000 in
theorem sort_any (w : World) (A : Option Addr) (cap : Nat) (es : List Ent) (h : Rd w w.heap.size A (entV es)) (hc : es.length ≤ cap) (hA : A = none → cap = 0) (hz : ∀ e ∈ es, e.1.size ≤ maxLen ∧ e.2.size ≤ maxLen) :
    Calls Try.prog 14 #[.slice A es.length cap] w (BookO (sortW es) w) := by
  have HB := Lib.hid (Below.refl w.heap.size w)
  have HR := Lib.hid h; have HZ := Lib.hid hz; have HA := Lib.hid hA; clear h hz hA
  by_cases hv : bookV es
  · have hl : es.length ≤ 20 := hv.1
    have hs := sortW_ok hv
    have HV := Lib.hid hv; have HS := Lib.hid hs; clear hv hs
    go_enter Try.func14, Try.ntmps14
    go_wp2_with fail
    refine (bookValid_is _ A cap es HR.out hc HZ.out true (bkT HV.out)).mono ?_
    rintro _ w1 ⟨rfl, hb1⟩
    replace HB := Lib.hid (HB.out.trans (hb1.mono HB.out.size))
    replace HR := Lib.hid ((HR.out.below hb1).mono hb1.size)
    clear hb1
    go_wp2_with fail
    refine (sortedBook_any _ A cap es HR.out HA.out (by omega) HV.out.2).mono ?_
    rintro _ w2 ⟨v2, rfl, ho2, hb2⟩
    have ho2' := own_mono ho2 HB.out.size
    replace HB := Lib.hid (HB.out.trans (hb2.mono HB.out.size))
    replace HR := Lib.hid ((HR.out.below hb2).mono hb2.size)
    clear hb2
    obtain ⟨A2, cap2, rfl⟩ := slot_slice ho2
    rw [← length_sortE es] at ho2'
    have HO := Lib.hid ho2'; clear ho2 ho2'
    go_wp2_with fail
    go_ret2
    exact BookO.yes HS.out (by have := HO.out; rw [length_sortE] at this ⊢; exact this) HB.out
  · have hs := sortW_no hv
    have HV := Lib.hid hv; have HS := Lib.hid hs; clear hv hs
    go_enter Try.func14, Try.ntmps14
    go_wp2_with fail
    refine (bookValid_is _ A cap es HR.out hc HZ.out false (bkF HV.out)).mono ?_
    rintro _ w1 ⟨rfl, hb1⟩
    replace HB := Lib.hid (HB.out.trans (hb1.mono HB.out.size))
    replace HR := Lib.hid ((HR.out.below hb1).mono hb1.size)
    clear hb1
    go_wp2_with fail
    go_ret2
    exact BookO.no HS.out HB.out

set_option maxHeartbeats 1000000 in
theorem cmpCode (x y : Ent) (W : World) : Calls Try.prog 31 #[.agg #[.string x.1, .string x.2], .agg #[.string y.1, .string y.2]] W fun e w' => e = .returned (.int .i64 (Lib.compareBytes x.2.data.toList y.2.data.toList)) ∧ Below W.heap.size W w' := by
  have hcon := fun W' => Try.strings_Compare x.2 y.2 W'
  generalize Lib.compareBytes x.2.data.toList y.2.data.toList = r at hcon ⊢
  go_enter Try.func31, Try.ntmps31
  go_wp2_with (go_at_call 32; refine (hcon _).mono ?_; rintro e w' ⟨rfl, rfl⟩)
  go_ret
  exact ⟨rfl, ((Below.refl _ _).alloc (Nat.le_refl _) _).alloc (by simp) _⟩

/-- of each two neighbours the second code is not less -/
def upC (es : List Ent) : Prop := ∀ j (hj : j + 1 < es.length), ltE es[j + 1].2 es[j].2 = false

set_option maxHeartbeats 4000000 in
set_option maxRecDepth 100000 in
theorem isSorted_any (w : World) (A : Option Addr) (cap : Nat) (es : List Ent) (b : Bool) (hb : upC es ↔ b = true) (h : Rd w w.heap.size A (entV es)) (hc : es.length ≤ cap) (hl : es.length ≤ 1000000) :
    Calls Try.prog 30 #[.slice A es.length cap, .func (.func 31) #[] #[]] w fun e w' => e = .returned (.bool b) ∧ Below w.heap.size w w' := by
  have HR := Lib.hid h; have HBB := Lib.hid hb; clear h hb
  have eg : ∀ args w, (callFunc 31 args).run Try.prog w = .ok (.enter 31 args) w := enters_of Try.func31 (by kernel_rfl) rfl
  have EG := Lib.hid eg; clear eg
  go_enter Try.func30, Try.ntmps30
  go_wp2_with fail
  go_loopw [5] (fun i wr => ∃ iz : Int, -1 ≤ iz ∧ iz < es.length ∧ i = .int .i64 iz ∧ (∀ j (hj : j + 1 < es.length), iz ≤ j → ltE es[j + 1].2 es[j].2 = false) ∧ Below w.heap.size w wr) (fun i _ => (intOf i).toNat)
  case atStart => exact ⟨(es.length : Int) - 1, by omega, by omega, by go_num, fun j hj h1 => by omega, Below.refl _ _⟩
  case round =>
    obtain ⟨iz, h0, h1, rfl, hall, hbl⟩ := hrel
    have HA := Lib.hid hall; have HBL := Lib.hid hbl; clear hall hbl
    by_cases hpos : 0 < iz
    · obtain ⟨t, rfl⟩ : ∃ t : Nat, iz = ((t + 1 : Nat) : Int) := ⟨(iz - 1).toNat, by omega⟩
      have ht : t + 1 < es.length := by omega
      obtain ⟨b1, o1, rfl, _, x0, x1⟩ := (HR.out.below HBL.out).ent ht
      obtain ⟨b2, o2, e2, _, y0, y1⟩ := (HR.out.below HBL.out).ent (show t < es.length by omega)
      simp only [Option.some.injEq, Addr.mk.injEq, and_true] at e2
      obtain ⟨rfl, rfl⟩ := e2
      have hnx : ltE es[t + 1].2 es[t].2 = false → ∀ j (hj : j + 1 < es.length), (t : Int) ≤ j → ltE es[j + 1].2 es[j].2 = false := fun hf j hj hjt => by
        by_cases hjt' : j = t
        · subst hjt'; exact hf
        · exact HA.out j hj (by omega)
      have hbad : ltE es[t + 1].2 es[t].2 = true → b = false := fun hf => by
        cases hbb : b with
        | false => rfl
        | true => have := HBB.out.2 hbb t ht; rw [hf] at this; cases this
      have HNX := Lib.hid hnx; have HBAD := Lib.hid hbad; clear hnx hbad
      have hcd : (Lib.compareBytes es[t + 1].2.data.toList es[t].2.data.toList < 0) ↔ ltE es[t + 1].2 es[t].2 = true := by rw [ltE, decide_eq_true_eq]; exact cmp_lt _ _
      have hcon := fun W => cmpCode es[t + 1] es[t] W
      generalize es[t + 1] = x at x0 x1 HNX HBAD hcd hcon
      generalize es[t]'(by omega) = y at y0 y1 HNX HBAD hcd hcon
      generalize Lib.compareBytes x.2.data.toList y.2.data.toList = r at hcd hcon
      have HCD := Lib.hid hcd; have HCON := Lib.hid hcon; clear hcd hcon
      have eg := EG.out
      have hqz : ((t + 1 : Nat) : Int) = (t : Int) + 1 := by omega
      rw [hqz] at hpos h0 h1 ⊢
      obtain ⟨iN, hiN⟩ : ∃ q, q = t + 1 := ⟨_, rfl⟩
      obtain ⟨jN, hjN⟩ : ∃ q, q = t := ⟨_, rfl⟩
      have ea : ((t : Int) + 1).toNat = iN := by omega
      have pa : (0 : Int) ≤ (t : Int) + 1 := by omega
      have ba : (t : Int) + 1 < (es.length : Int) := by omega
      have ra : IntKind.i64.wrap ((t : Int) + 1) = (t : Int) + 1 := by rw [IntKind.wrap_i64]; omega
      have ec : ((t : Int)).toNat = jN := by omega
      have pc : (0 : Int) ≤ (t : Int) := by omega
      have bc : (t : Int) < (es.length : Int) := by omega
      have rc : IntKind.i64.wrap ((t : Int)) = (t : Int) := by rw [IntKind.wrap_i64]; omega
      rw [← hiN] at x0 x1
      rw [← hjN] at y0 y1
      clear hiN hjN hqz
      cases hlv : ltE x.2 y.2 with
      | true =>
        have hr : r < 0 := HCD.out.2 hlv
        have hbf := HBAD.out hlv
        subst hbf
        clear hlv
        go_wp2_with fail
        go_region_held3 (fun W => W.cell? ⟨b1, o1 + iN * 2, none⟩ = some (.string x.1) ∧ W.cell? ⟨b1, o1 + iN * 2 + 1, none⟩ = some (.string x.2) ∧ W.cell? ⟨b1, o1 + jN * 2, none⟩ = some (.string y.1) ∧ W.cell? ⟨b1, o1 + jN * 2 + 1, none⟩ = some (.string y.2) ∧ Below wr.heap.size wr W) (first | assumption | exact ⟨x0, x1, y0, y1, (Below.refl _ _).drew⟩ | exact four_keep (by assumption) (by assumption)) ((go_at_fn 31; refine (HCON.out _).mono ?_; rintro _ w7 ⟨rfl, hb7⟩))
        rename_i hS
        have HB2 := Lib.hid (HBL.out.trans (hS.2.2.2.2.mono HBL.out.size))
        clear hS x0 x1 y0 y1 ea ec
        go_wp2_with fail
        go_ret
        exact ⟨rfl, HB2.out⟩
      | false =>
        have hr : ¬ r < 0 := fun hh => by have := HCD.out.1 hh; rw [hlv] at this; cases this
        have HN := Lib.hid (HNX.out hlv)
        clear hlv
        go_wp2_with fail
        go_region_held3 (fun W => W.cell? ⟨b1, o1 + iN * 2, none⟩ = some (.string x.1) ∧ W.cell? ⟨b1, o1 + iN * 2 + 1, none⟩ = some (.string x.2) ∧ W.cell? ⟨b1, o1 + jN * 2, none⟩ = some (.string y.1) ∧ W.cell? ⟨b1, o1 + jN * 2 + 1, none⟩ = some (.string y.2) ∧ Below wr.heap.size wr W) (first | assumption | exact ⟨x0, x1, y0, y1, (Below.refl _ _).drew⟩ | exact four_keep (by assumption) (by assumption)) ((go_at_fn 31; refine (HCON.out _).mono ?_; rintro _ w7 ⟨rfl, hb7⟩))
        rename_i hS
        have HB2 := Lib.hid (HBL.out.trans (hS.2.2.2.2.mono HBL.out.size))
        clear hS x0 x1 y0 y1
        go_wp2_with fail
        go_roundw
        case rel => exact ⟨(t : Int), by omega, by omega, by go_num, HN.out, HB2.out⟩
        case measure => simp [intOf]
    · have hbt : b = true := HBB.out.1 fun j hj => HA.out j hj (by omega)
      subst hbt
      go_wp2_with fail
      go_ret
      exact ⟨rfl, HBL.out⟩

theorem upC_iff (l : List Ent) : upC l ↔ l.Pairwise fun x y => ltE y.2 x.2 = false :=
  ⟨fun h => sorted_near (f := Prod.snd) h, fun h j hj => List.pairwise_iff_getElem.1 h j (j + 1) (by omega) hj (by omega)⟩

set_option maxHeartbeats 4000000 in
set_option maxRecDepth 100000 in
theorem onePart_any (w : World) (A : Option Addr) (cap : Nat) (es : List Ent) (b : Bool) (hb : oneP es ↔ b = true) (h : Rd w w.heap.size A (entV es)) (hc : es.length ≤ cap) (hA : A = none → cap = 0) (hz : ∀ e ∈ es, e.1.size ≤ maxLen ∧ e.2.size ≤ maxLen) :
    Calls Try.prog 15 #[.slice A es.length cap] w fun e w' => e = .returned (.bool b) ∧ Below w.heap.size w w' := by
  have HB := Lib.hid (Below.refl w.heap.size w)
  have HR := Lib.hid h; have HZ := Lib.hid hz; have HA := Lib.hid hA; have HBB := Lib.hid hb; clear h hz hA hb
  by_cases hv : bookV es
  · have hl : es.length ≤ 20 := hv.1
    have hu : upC (sortE es) ↔ b = true := by rw [upC_iff, ← HBB.out]; exact ⟨fun h => ⟨hv, h⟩, fun h => h.2⟩
    have HV := Lib.hid hv; have HU := Lib.hid hu; clear hv hu
    go_enter Try.func15, Try.ntmps15
    go_wp2_with fail
    refine (bookValid_is _ A cap es HR.out hc HZ.out true (bkT HV.out)).mono ?_
    rintro _ w1 ⟨rfl, hb1⟩
    replace HB := Lib.hid (HB.out.trans (hb1.mono HB.out.size))
    replace HR := Lib.hid ((HR.out.below hb1).mono hb1.size)
    clear hb1
    go_wp2_with fail
    refine (sortedBook_any _ A cap es HR.out HA.out (by omega) HV.out.2).mono ?_
    rintro _ w2 ⟨v2, rfl, ho2, hb2⟩
    replace HB := Lib.hid (HB.out.trans (hb2.mono HB.out.size))
    replace HR := Lib.hid ((HR.out.below hb2).mono hb2.size)
    clear hb2
    rw [← length_sortE es] at ho2
    obtain ⟨A2, cap2, rfl, hc2, _, hr2⟩ := ownsRow_rd ho2
    have HR2 := Lib.hid hr2; clear ho2 hr2
    go_wp2_with fail
    refine (isSorted_any _ A2 cap2 (sortE es) b HU.out HR2.out hc2 (by rw [length_sortE]; omega)).mono ?_
    rintro _ w3 ⟨rfl, hb3⟩
    replace HB := Lib.hid (HB.out.trans (hb3.mono HB.out.size))
    replace HR := Lib.hid ((HR.out.below hb3).mono hb3.size)
    clear hb3
    go_wp2_with fail
    go_ret
    exact ⟨rfl, HB.out⟩
  · have hbf : b = false := by
      cases hbb : b with
      | false => rfl
      | true => exact absurd (HBB.out.2 hbb).1 hv
    subst hbf
    have HV := Lib.hid hv; clear hv
    go_enter Try.func15, Try.ntmps15
    go_wp2_with fail
    refine (bookValid_is _ A cap es HR.out hc HZ.out false (bkF HV.out)).mono ?_
    rintro _ w1 ⟨rfl, hb1⟩
    replace HB := Lib.hid (HB.out.trans (hb1.mono HB.out.size))
    replace HR := Lib.hid ((HR.out.below hb1).mono hb1.size)
    clear hb1
    go_wp2_with fail
    go_ret
    exact ⟨rfl, HB.out⟩

end Go.Proofs.Yteeeaeidocalnaa
