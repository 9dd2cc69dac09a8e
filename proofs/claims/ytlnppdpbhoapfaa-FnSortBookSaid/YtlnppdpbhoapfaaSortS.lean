/-
  Contracts of SortBook and OnePart of the reference. No conditions but those that each theorem names.
-/
import Derived.Test.YtlnppdpbhoapfaaSortB
import Derived.Test.YtlnppdpbhoapfaaDrawB
import Derived.BigCall
import Derived.BigQuiet
namespace Go.Proofs.Ytlnppdpbhoapfaa
open Go.RowKit Pl
set_option linter.unusedVariables false

theorem ins_none (e : Ent) : ∀ l : List Ent, (∀ x ∈ l, ltE e.1 x.1 = false) → insE e l = l ++ [e]
  | [], _ => rfl
  | x :: r, h => by
    unfold insE
    have hx := h x (by simp)
    rw [if_neg (by rw [hx]; simp), ins_none e r fun y hy => h y (by simp [hy])]; rfl
theorem ins_here (e y : Ent) : ∀ l : List Ent, (∀ x ∈ l, ltE e.1 x.1 = false) → ltE e.1 y.1 = true → insE e (l ++ [y]) = l ++ [e] ++ [y]
  | [], _, hy => by simp [insE, hy]
  | x :: r, h, hy => by
    have hx := h x (by simp)
    rw [List.cons_append]
    unfold insE
    rw [if_neg (by rw [hx]; simp), ins_here e y r (fun z hz => h z (by simp [hz])) hy]; rfl
theorem ins_done (e y : Ent) : ∀ l : List Ent, (∃ x ∈ l, ltE e.1 x.1 = true) → insE e (l ++ [y]) = insE e l ++ [y]
  | [], h => by obtain ⟨x, hx, _⟩ := h; simp at hx
  | x :: r, h => by
    rw [List.cons_append]
    unfold insE
    by_cases hx : ltE e.1 x.1 = true
    · rw [if_pos hx, if_pos hx]; rfl
    · rw [if_neg hx, if_neg hx, ins_done e y r (by
        obtain ⟨z, hz, hzt⟩ := h
        rcases List.mem_cons.1 hz with rfl | hz
        · exact absurd hzt hx
        · exact ⟨z, hz, hzt⟩)]; rfl
theorem entV_snoc' (l : List Ent) (e : Ent) : entV l ++ [.string e.1, .string e.2] = entV (l ++ [e]) := by simp [entV]

/-- what the insertion has made of the first k entries -/
def Ins (e : Ent) (l : List Ent) (d : Bool) (out : List Ent) : Prop :=
  (d = true ∧ out = insE e l ∧ ∃ x ∈ l, ltE e.1 x.1 = true) ∨ (d = false ∧ out = l ∧ ∀ x ∈ l, ltE e.1 x.1 = false)
theorem Ins.len {e : Ent} {l : List Ent} {d : Bool} {out : List Ent} (h : Ins e l d out) : out.length ≤ l.length + 1 := by
  rcases h with ⟨_, rfl, _⟩ | ⟨_, rfl, _⟩
  · rw [(insE_perm e l).length_eq]; simp
  · omega

set_option maxHeartbeats 8000000 in
set_option maxRecDepth 100000 in
theorem insert_any (w : World) (A : Option Addr) (cap : Nat) (es : List Ent) (e : Ent) (h : Rd w w.heap.size A (entV es)) (hc : es.length ≤ cap) (hl : es.length ≤ 1000) :
    Calls Try.prog 28 #[.slice A es.length cap, .agg #[.string e.1, .string e.2]] w (Entries (insE e es) w) := by
  obtain ⟨iE, hi, hz0, hz1, hz2⟩ := info_parts Try.infoE
  have HI := Lib.hid hi; have HZ0 := Lib.hid hz0; have HZ1 := Lib.hid hz1; have HZ2 := Lib.hid hz2
  clear hi hz0 hz1 hz2
  have HR := Lib.hid h; clear h
  have hw1 : ∃ w1, w1 = w.alloc (.cells #[.string e.1, .string e.2] 27) ∧ w1.cell? ⟨w.heap.size, 0, none⟩ = some (.string e.1) ∧ w1.cell? ⟨w.heap.size, 1, none⟩ = some (.string e.2) ∧ w1.heap.size = w.heap.size + 1 ∧ Below w.heap.size w w1 :=
    ⟨_, rfl, by simp, by simp, by simp, (Below.refl _ _).alloc (Nat.le_refl _) _⟩
  obtain ⟨w1, hw, k0, k1, hs1, hb1⟩ := hw1
  have K0 := Lib.hid k0; have K1 := Lib.hid k1; have HB1 := Lib.hid hb1; clear k0 k1 hb1
  have hm0 : (w1.alloc (.cells #[] 27)).ownsRow (w.heap.size + 1) 27 2 (.slice (some ⟨w.heap.size + 1, 0, none⟩) 0 0) 0 [] := by have := World.ownsRow_made (base := w.heap.size + 1) (e := 27) (size := 2) w1 #[] 0 (by omega) (by decide) rfl; rw [hs1] at this; exact this
  have hb2 : Below (w.heap.size + 1) w1 (w1.alloc (.cells #[] 27)) := (Below.refl _ _).alloc (by omega) _
  have HM0 := Lib.hid hm0; have HB2 := Lib.hid hb2; clear hm0 hb2
  have mono1 : ∀ W, Below (w.heap.size + 1) w1 W → Below w.heap.size w W := fun W hb => HB1.out.trans (hb.mono (by omega))
  have MONO := Lib.hid mono1; clear mono1
  go_enter Try.func28, Try.ntmps28
  go_wp2_with fail
  rw [← hw]
  clear hw
  go_loopw [5, 6, 7] (fun v d i wr => ∃ (k : Nat) (db : Bool) (out : List Ent), k ≤ es.length ∧ i = .int .i64 k ∧ d = .bool db ∧ Ins e (es.take k) db out ∧ wr.ownsRow (w.heap.size + 1) 27 2 v out.length (entV out) ∧ Below (w.heap.size + 1) w1 wr) (fun _ _ i _ => es.length - (intOf i).toNat)
  case atStart => exact ⟨0, false, [], Nat.zero_le _, rfl, rfl, .inr ⟨rfl, by rw [List.take_zero], by rw [List.take_zero]; simp⟩, HM0.out, HB2.out⟩
  case round =>
    clear HM0 HB2
    obtain ⟨k, db, out, hk, rfl, rfl, hins, hown, hbr⟩ := hrel
    have hol := hins.len
    rw [List.length_take] at hol
    replace hol : out.length ≤ 1001 := by omega
    have HIN := Lib.hid hins; have HO := Lib.hid hown; have HBR := Lib.hid hbr; clear hins hown hbr
    have k0 : wr.cell? ⟨w.heap.size, 0, none⟩ = some (.string e.1) := (HBR.out.cell (by show w.heap.size < w.heap.size + 1; omega)).trans K0.out
    have k1 : wr.cell? ⟨w.heap.size, 1, none⟩ = some (.string e.2) := (HBR.out.cell (by show w.heap.size < w.heap.size + 1; omega)).trans K1.out
    have hsz : w.heap.size + 1 ≤ wr.heap.size := by have := HBR.out.size; omega
    obtain ⟨A4, cap4, e4, hc4, _, _⟩ := ownsRow_rd HO.out
    subst e4
    by_cases hlt : k < es.length
    · obtain ⟨b0, off, rfl, hb0, c0, c1⟩ := (HR.out.below (MONO.out _ HBR.out)).ent hlt
      have htk := List.take_succ_eq_append_getElem hlt
      obtain ⟨y, hy⟩ : ∃ y, y = es[k] := ⟨_, rfl⟩
      rw [← hy] at c0 c1 htk
      have HY := Lib.hid hy; clear hy
      have HTK := Lib.hid htk; clear htk
      rcases HIN.out with ⟨hd, ho, hx⟩ | ⟨hd, ho, hx⟩
      · subst hd
        have nx : Ins e (es.take (k + 1)) true (out ++ [y]) := by
          rw [HTK.out]; exact .inl ⟨rfl, by rw [ins_done e y _ hx, ← ho], by obtain ⟨x, hx1, hx2⟩ := hx; exact ⟨x, by simp [hx1], hx2⟩⟩
        have NX := Lib.hid nx; clear nx hx ho HIN
        go_wp2_with fail
        go_quiet (fail)
        go_wp2_with (at_builtin; refine wpList_append_own _ rfl _ _ 23 rfl (w.heap.size + 1) 27 iE (.agg #[.string ByteArray.empty, .string ByteArray.empty]) 2 32 Try.undE HI.out HZ0.out HZ1.out HZ2.out rfl (by decide) _ out.length _ rfl ((show World.ownsRow (World.drewN wr _) _ _ _ _ _ _ from HO.out).alloc _) ⟨wr.heap.size, 0, none⟩ 1 1 [.string y.1, .string y.2] rfl rfl (cell_two_new (World.drewN wr _) (.string y.1) (.string y.2) 27) two_cell (by unfold maxLen; omega) (by omega) (by rw [heapsize_alloc]; show w.heap.size + 1 ≤ wr.heap.size + 1; omega) ?_)
        intro v6 w6 ho hg _
        have hln : out.length + 1 = (out ++ [y]).length := by rw [List.length_append]; rfl
        rw [entV_snoc', hln] at ho
        clear hln
        have hb : Below (w.heap.size + 1) w1 w6 := ((below_drewN' HBR.out _).alloc (by show w.heap.size + 1 ≤ wr.heap.size; omega) _).grown hg (by rw [heapsize_alloc]; show w.heap.size + 1 ≤ wr.heap.size + 1; omega) fun j ej => (HO.out.lt j ej).1
        have HO6 := Lib.hid ho; have HB6 := Lib.hid hb; clear ho hg hb
        obtain ⟨A6, cap6, e6, _⟩ := ownsRow_rd HO6.out
        subst e6
        go_wp2_with fail
        go_roundw
        case rel => exact ⟨k + 1, _, _, by omega, by go_num, rfl, NX.out, HO6.out, HB6.out⟩
        case measure => simp [intOf]; omega
      · subst hd
        cases hlv : ltE e.1 y.1 with
        | false =>
          have nx : Ins e (es.take (k + 1)) false (out ++ [y]) := by
            rw [HTK.out]
            refine .inr ⟨rfl, by rw [← ho], fun x hx1 => ?_⟩
            rcases List.mem_append.1 hx1 with h1 | h1
            · exact hx x h1
            · simp at h1; subst h1; exact hlv
          have NX := Lib.hid nx; clear nx hx ho HIN
          have hcmp : Op.bytesLess e.1.toList y.1.toList = false := by rw [less_ltE]; exact hlv
          clear hlv
          go_wp2_with fail
          go_quiet (fail)
          clear hcmp
          go_wp2_with (at_builtin; refine wpList_append_own _ rfl _ _ 23 rfl (w.heap.size + 1) 27 iE (.agg #[.string ByteArray.empty, .string ByteArray.empty]) 2 32 Try.undE HI.out HZ0.out HZ1.out HZ2.out rfl (by decide) _ out.length _ rfl ((show World.ownsRow (World.drewN wr _) _ _ _ _ _ _ from HO.out).alloc _) ⟨wr.heap.size, 0, none⟩ 1 1 [.string y.1, .string y.2] rfl rfl (cell_two_new (World.drewN wr _) (.string y.1) (.string y.2) 27) two_cell (by unfold maxLen; omega) (by omega) (by rw [heapsize_alloc]; show w.heap.size + 1 ≤ wr.heap.size + 1; omega) ?_)
          intro v6 w6 ho hg _
          have hln : out.length + 1 = (out ++ [y]).length := by rw [List.length_append]; rfl
          rw [entV_snoc', hln] at ho
          clear hln
          have hb : Below (w.heap.size + 1) w1 w6 := ((below_drewN' HBR.out _).alloc (by show w.heap.size + 1 ≤ wr.heap.size; omega) _).grown hg (by rw [heapsize_alloc]; show w.heap.size + 1 ≤ wr.heap.size + 1; omega) fun j ej => (HO.out.lt j ej).1
          have HO6 := Lib.hid ho; have HB6 := Lib.hid hb; clear ho hg hb
          obtain ⟨A6, cap6, e6, _⟩ := ownsRow_rd HO6.out
          subst e6
          go_wp2_with fail
          go_roundw
          case rel => exact ⟨k + 1, _, _, by omega, by go_num, rfl, NX.out, HO6.out, HB6.out⟩
          case measure => simp [intOf]; omega
        | true =>
          have nx : Ins e (es.take (k + 1)) true (out ++ [e] ++ [y]) := by
            rw [HTK.out]
            exact .inl ⟨rfl, by rw [ins_here e y _ hx hlv, ← ho], y, by simp, hlv⟩
          have NX := Lib.hid nx; clear nx hx ho HIN
          have hcmp : Op.bytesLess e.1.toList y.1.toList = true := by rw [less_ltE]; exact hlv
          clear hlv
          go_wp2_with fail
          go_quiet (fail)
          clear hcmp
          go_wp2_with (at_builtin; refine wpList_append_own _ rfl _ _ 23 rfl (w.heap.size + 1) 27 iE (.agg #[.string ByteArray.empty, .string ByteArray.empty]) 2 32 Try.undE HI.out HZ0.out HZ1.out HZ2.out rfl (by decide) _ out.length _ rfl ((show World.ownsRow (World.drewN wr _) _ _ _ _ _ _ from HO.out).alloc _) ⟨wr.heap.size, 0, none⟩ 1 1 [.string e.1, .string e.2] rfl rfl (cell_two_new (World.drewN wr _) (.string e.1) (.string e.2) 27) two_cell (by unfold maxLen; omega) (by omega) (by rw [heapsize_alloc]; show w.heap.size + 1 ≤ wr.heap.size + 1; omega) ?_)
          intro v6 w6 ho hg _
          have hln : out.length + 1 = (out ++ [e]).length := by rw [List.length_append]; rfl
          rw [entV_snoc', hln] at ho
          clear hln
          have hb : Below (w.heap.size + 1) w1 w6 := ((below_drewN' HBR.out _).alloc (by show w.heap.size + 1 ≤ wr.heap.size; omega) _).grown hg (by rw [heapsize_alloc]; show w.heap.size + 1 ≤ wr.heap.size + 1; omega) fun j ej => (HO.out.lt j ej).1
          have HO6 := Lib.hid ho; have HB6 := Lib.hid hb; clear ho hg hb
          obtain ⟨A6, cap6, e6, _⟩ := ownsRow_rd HO6.out
          subst e6
          have hsz6 : w.heap.size + 1 ≤ w6.heap.size := by have := HB6.out.size; omega
          clear c0 c1
          obtain ⟨b9, o9, e9, _, c0, c1⟩ := (HR.out.below (MONO.out _ HB6.out)).ent hlt
          simp only [Option.some.injEq, Addr.mk.injEq, and_true] at e9
          obtain ⟨rfl, rfl⟩ := e9
          have hol2 : (out ++ [e]).length ≤ 1002 := by rw [List.length_append]; simp; omega
          obtain ⟨out2, hout2⟩ : ∃ o, o = out ++ [e] := ⟨_, rfl⟩
          rw [← hout2] at HO6 NX hol2 ⊢
          clear hout2
          rw [← HY.out] at c0 c1
          go_wp2_with (at_builtin; refine wpList_append_own _ rfl _ _ 23 rfl (w.heap.size + 1) 27 iE (.agg #[.string ByteArray.empty, .string ByteArray.empty]) 2 32 Try.undE HI.out HZ0.out HZ1.out HZ2.out rfl (by decide) _ out2.length _ rfl (HO6.out.alloc _) ⟨w6.heap.size, 0, none⟩ 1 1 [.string y.1, .string y.2] rfl rfl (cell_two_new w6 (.string y.1) (.string y.2) 27) two_cell (by unfold maxLen; omega) (by omega) (by rw [heapsize_alloc]; omega) ?_)
          intro v7 w7 ho hg _
          have hln : out2.length + 1 = (out2 ++ [y]).length := by rw [List.length_append]; rfl
          rw [entV_snoc', hln] at ho
          clear hln
          have hb : Below (w.heap.size + 1) w1 w7 := (HB6.out.alloc (by omega) _).grown hg (by rw [heapsize_alloc]; omega) fun j ej => (HO6.out.lt j ej).1
          have HO7 := Lib.hid ho; have HB7 := Lib.hid hb; clear ho hg hb
          obtain ⟨A7, cap7, e7, _⟩ := ownsRow_rd HO7.out
          subst e7
          go_wp2_with fail
          go_roundw
          case rel => exact ⟨k + 1, _, _, by omega, by go_num, rfl, NX.out, HO7.out, HB7.out⟩
          case measure => simp [intOf]; omega
    · have hkl : k = es.length := by omega
      subst hkl
      have hin := HIN.out
      rw [List.take_of_length_le (Nat.le_refl _)] at hin
      rcases hin with ⟨hd, ho, hx⟩ | ⟨hd, ho, hx⟩
      · subst hd
        clear HIN
        go_wp2_with fail
        go_ret
        exact ⟨_, rfl, by rw [← ho]; exact own_mono HO.out (by omega), MONO.out _ HBR.out⟩
      · subst hd
        have hfi : insE e es = out ++ [e] := by rw [ins_none e es hx, ho]
        have HFI := Lib.hid hfi; clear hfi hx HIN ho
        go_wp2_with (at_builtin; refine wpList_append_own _ rfl _ _ 23 rfl (w.heap.size + 1) 27 iE (.agg #[.string ByteArray.empty, .string ByteArray.empty]) 2 32 Try.undE HI.out HZ0.out HZ1.out HZ2.out rfl (by decide) _ out.length _ rfl (HO.out.alloc _) ⟨wr.heap.size, 0, none⟩ 1 1 [.string e.1, .string e.2] rfl rfl (cell_two_new wr (.string e.1) (.string e.2) 27) two_cell (by unfold maxLen; omega) (by omega) (by rw [heapsize_alloc]; show w.heap.size + 1 ≤ wr.heap.size + 1; omega) ?_)
        intro v6 w6 ho hg _
        have hln : out.length + 1 = (out ++ [e]).length := by rw [List.length_append]; rfl
        rw [entV_snoc', hln] at ho
        clear hln
        have hb : Below (w.heap.size + 1) w1 w6 := (HBR.out.alloc (by omega) _).grown hg (by rw [heapsize_alloc]; show w.heap.size + 1 ≤ wr.heap.size + 1; omega) fun j ej => (HO.out.lt j ej).1
        have HO6 := Lib.hid ho; have HB6 := Lib.hid hb; clear ho hg hb
        obtain ⟨A6, cap6, e6, _⟩ := ownsRow_rd HO6.out
        subst e6
        go_wp2_with fail
        go_ret
        exact ⟨_, rfl, by rw [HFI.out]; exact own_mono HO6.out (by omega), MONO.out _ HB6.out⟩

set_option maxHeartbeats 4000000 in
set_option maxRecDepth 100000 in
theorem sSort_any (w : World) (A : Option Addr) (cap : Nat) (es : List Ent) (h : Rd w w.heap.size A (entV es)) (hc : es.length ≤ cap) (hl : es.length ≤ 1048576) :
    Calls Try.prog 11 #[.slice A es.length cap] w (BookO (sortW es) w) := by
  have HR := Lib.hid h; clear h
  have hm0 : (w.alloc (.cells #[] 27)).ownsRow w.heap.size 27 2 (.slice (some ⟨w.heap.size, 0, none⟩) 0 0) 0 [] := World.ownsRow_made w #[] 0 (Nat.le_refl _) (by decide) rfl
  have hb0 : Below w.heap.size w (w.alloc (.cells #[] 27)) := (Below.refl _ _).alloc (Nat.le_refl _) _
  have HM0 := Lib.hid hm0; have HB0 := Lib.hid hb0; clear hm0 hb0
  by_cases hv : bookV es
  · have hl2 : es.length ≤ 20 := hv.1
    have hs := sortW_ok hv
    have HV := Lib.hid hv; have HS := Lib.hid hs; clear hv hs
    go_enter Try.func11, Try.ntmps11
    go_wp2_with fail
    refine (sBookValid_is _ w.heap.size A cap es (HR.out.below HB0.out) hc hl true (bkT HV.out)).mono ?_
    rintro _ _ ⟨rfl, rfl⟩
    go_wp2_with fail
    go_loopw [4, 5] (fun v i wr => ∃ k : Nat, k ≤ es.length ∧ i = .int .i64 k ∧ wr.ownsRow w.heap.size 27 2 v (sortE (es.take k)).length (entV (sortE (es.take k))) ∧ Below w.heap.size w wr) (fun _ i _ => es.length - (intOf i).toNat)
    case atStart => exact ⟨0, Nat.zero_le _, rfl, HM0.out, HB0.out⟩
    case round =>
      clear HM0 HB0
      obtain ⟨k, hk, rfl, hown, hbr⟩ := hrel
      have hsl := length_sortE (es.take k)
      rw [List.length_take] at hsl
      replace hsl : (sortE (es.take k)).length ≤ 20 := by omega
      have HO := Lib.hid hown; have HBR := Lib.hid hbr; clear hown hbr
      obtain ⟨A4, cap4, e4, hc4, _, hr4⟩ := ownsRow_rd HO.out
      subst e4
      have HR4 := Lib.hid hr4; clear hr4
      by_cases hlt : k < es.length
      · obtain ⟨b0, off, rfl, hb0, c0, c1⟩ := (HR.out.below HBR.out).ent hlt
        have hsn := sortE_snoc es k hlt
        generalize es[k] = y at c0 c1 hsn
        have HSN := Lib.hid hsn; clear hsn
        go_wp2_with fail
        refine (insert_any _ A4 cap4 (sortE (es.take k)) y HR4.out hc4 (by omega)).mono ?_
        rintro _ w5 ⟨v5, rfl, ho5, hb5⟩
        rw [← HSN.out] at ho5
        have HO5 := Lib.hid (own_mono ho5 HBR.out.size)
        obtain ⟨A5, cap5, rfl⟩ := slot_slice ho5
        have HB5 := Lib.hid (HBR.out.trans (hb5.mono HBR.out.size)); clear ho5 hb5 c0 c1
        go_wp2_with fail
        go_roundw
        case rel => exact ⟨k + 1, by omega, by go_num, HO5.out, HB5.out⟩
        case measure => simp [intOf]; omega
      · have hkl : k = es.length := by omega
        subst hkl
        rw [List.take_of_length_le (Nat.le_refl _)] at HO ⊢
        go_wp2_with fail
        go_ret2
        exact BookO.yes HS.out HO.out HBR.out
  · have hs := sortW_no hv
    have HV := Lib.hid hv; have HS := Lib.hid hs; clear hv hs
    go_enter Try.func11, Try.ntmps11
    go_wp2_with fail
    refine (sBookValid_is _ w.heap.size A cap es (HR.out.below HB0.out) hc hl false (bkF HV.out)).mono ?_
    rintro _ _ ⟨rfl, rfl⟩
    go_wp2_with fail
    go_ret2
    exact ⟨_, by rw [HS.out]; rfl, by rw [HS.out]; exact HM0.out, HB0.out⟩



















































































































end Go.Proofs.Ytlnppdpbhoapfaa
