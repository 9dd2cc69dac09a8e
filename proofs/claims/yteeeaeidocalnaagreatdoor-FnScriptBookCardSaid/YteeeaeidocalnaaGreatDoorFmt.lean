/-
  Contracts of FormatBook, of the program and of the reference. No conditions but those that each theorem names.
-/
import Derived.Test.YteeeaeidocalnaaGreatDoorPlainF
import Derived.Test.YteeeaeidocalnaaGreatDoorEnc
import Derived.BigQuiet
namespace Go.Proofs.YteeeaeidocalnaaGreatDoor
open Go.RowKit Pl
set_option linter.unusedVariables false

theorem sz_alloc (w : World) (o : Obj) : (w.alloc o).heap.size = w.heap.size + 1 := by simp
/-- the texts of the entries -/
def texts (es : List Ent) : List ByteArray := es.map fun e => mk (entT e)
theorem length_texts (es : List Ent) : (texts es).length = es.length := by simp [texts]
theorem texts_join (es : List Ent) : Lib.join ((texts es).map (·.data.toList)) (mk [32]).data.toList = fmtL es := by
  unfold texts fmtL
  rw [List.map_map]; rfl
theorem ent_text (e : Ent) : e.1 ++ mk [61] ++ e.2 = mk (entT e) := by
  rw [append_tl (e.1 ++ mk [61]), append_tl e.1, tl_mk, tl_mk]; rfl

set_option maxHeartbeats 4000000 in
set_option maxRecDepth 100000 in
theorem format_any (w : World) (A : Option Addr) (cap : Nat) (es : List Ent) (h : Rd w w.heap.size A (entV es)) (hc : es.length ≤ cap) (hz : ∀ e ∈ es, e.1.size ≤ maxLen ∧ e.2.size ≤ maxLen) :
    Calls Tryz.prog 15 #[.slice A es.length cap] w fun e w' => e = .returned (.string (fmtB es)) ∧ Below w.heap.size w w' := by
  obtain ⟨iS, hi, hz0, hz1, hz2⟩ := info_parts Tryz.infoS
  have HI := Lib.hid hi; have HZ0 := Lib.hid hz0; have HZ1 := Lib.hid hz1; have HZ2 := Lib.hid hz2
  clear hi hz0 hz1 hz2
  have HR := Lib.hid h; have HZ := Lib.hid hz; clear h hz
  by_cases hv : bookV es
  · have hl : es.length ≤ 20 := hv.1
    have hsm := book_small hv
    by_cases h0 : es.length = 0
    · rw [fmtB_none hv h0]
      obtain rfl : es = [] := List.length_eq_zero_iff.1 h0
      have HV := Lib.hid hv; clear hv hsm h0
      go_enter Tryz.func15, Tryz.ntmps15
      go_wp2_with fail
      refine (bookValid_is w A cap [] HR.out hc HZ.out true (bkT HV.out)).mono ?_
      rintro _ w1 ⟨rfl, hb1⟩
      go_wp2_with fail
      go_ret
      exact ⟨rfl, hb1⟩
    · rw [fmtB_some hv h0]
      have hpos : 0 < es.length := by omega
      have hj := fmtL_le hsm es.length (Nat.le_refl _)
      rw [List.take_of_length_le (Nat.le_refl _)] at hj
      have hb : ((es.length : Int) == 0) = false := by rw [beq_eq_false_iff_ne]; omega
      have HV := Lib.hid hv; have HSM := Lib.hid hsm; have HJ := Lib.hid hj; clear hv hsm h0 hj
      go_enter Tryz.func15, Tryz.ntmps15
      go_wp2_with fail
      refine (bookValid_is w A cap es HR.out hc HZ.out true (bkT HV.out)).mono ?_
      rintro _ w1 ⟨rfl, hb1⟩
      have HB1 := Lib.hid hb1; clear hb1
      go_wp2_with fail
      clear hb
      go_loopw [3, 14] (fun v i wr => ∃ k : Nat, k ≤ es.length ∧ i = .int .i64 k ∧ wr.ownsRow w1.heap.size 9 1 v k (strV ((texts es).take k)) ∧ Below w1.heap.size w1 wr) (fun _ i _ => es.length - (intOf i).toNat)
      case atStart => exact ⟨0, Nat.zero_le _, rfl, World.ownsRow_nil _ _ _ _, Below.refl _ _⟩
      case round =>
        obtain ⟨k, hk, rfl, hown, hbl⟩ := hrel
        have HO := Lib.hid hown; have HBL := Lib.hid hbl; clear hown hbl
        obtain ⟨A5, cap5, e5, hc5, _, hr5⟩ := ownsRow_rd HO.out
        subst e5
        have HR5 := Lib.hid hr5; clear hr5
        by_cases hlt : k < es.length
        · obtain ⟨b, off, rfl, hb, c0, c1⟩ := (HR.out.below (HB1.out.trans (HBL.out.mono HB1.out.size))).ent hlt
          have hsn := strV_snoc (l := texts es) (k := k) (by rw [length_texts]; exact hlt)
          have hge : (texts es)[k]'(by rw [length_texts]; exact hlt) = mk (entT es[k]) := by simp [texts]
          have hek := HSM.out _ (List.getElem_mem hlt)
          rw [hge] at hsn
          have HSN := Lib.hid hsn; clear hsn hge
          generalize es[k] = e at c0 c1 HSN hek
          have q1 : (mk [61]).size = 1 := rfl
          have hbw := HBL.out.size
          have hh0 : (wr.alloc (.cells #[.string e.1, .string e.2] 77)).ownsRow w1.heap.size 9 1 (.slice A5 k cap5) k (strV ((texts es).take k)) := HO.out.alloc _
          have HH0 := Lib.hid hh0; clear hh0
          go_wp2_with (at_builtin; refine wpList_append_own _ rfl _ _ 30 rfl w1.heap.size 9 iS (.string ByteArray.empty) 1 16 Tryz.undS HI.out HZ0.out HZ1.out HZ2.out rfl (by decide) _ k _ rfl (HH0.out.alloc _) ⟨wr.heap.size + 1, 0, none⟩ 1 1 [.string (e.1 ++ mk [61] ++ e.2)] rfl rfl (by have := one_new (wr.alloc (.cells #[.string e.1, .string e.2] 77)) (.string (e.1 ++ mk [61] ++ e.2)) 9; rw [sz_alloc] at this; exact this) one_cell (by unfold maxLen; omega) (by omega) (by rw [sz_alloc, sz_alloc]; omega) ?_)
          intro v' w6 ho' hg' _
          rw [ent_text, HSN.out] at ho'
          have hb6 : Below w1.heap.size w1 w6 := ((HBL.out.alloc hbw _).alloc (by rw [sz_alloc]; omega) _).grown hg' (by rw [sz_alloc, sz_alloc]; omega) fun k' e' => (HO.out.lt k' e').1
          obtain ⟨A6, cap6, e6, _⟩ := ownsRow_rd ho'
          subst e6
          have HO6 := Lib.hid ho'; have HB6 := Lib.hid hb6; clear ho' hg' hb6
          go_wp2_with fail
          go_roundw
          case rel => exact ⟨k + 1, by omega, by go_num, HO6.out, HB6.out⟩
          case measure => simp [intOf]; omega
        · have hkl : k = es.length := by omega
          subst hkl
          have hr5 := HR5.out
          rw [List.take_of_length_le (by rw [length_texts]; exact Nat.le_refl _)] at hr5
          obtain ⟨b5, o5, rfl, hb5, hcell⟩ := hr5 (by intro e; have := congrArg List.length e; rw [length_strV, length_texts, List.length_nil] at this; omega)
          have hjn := Tryz.strings_Join b5 o5 cap5 (texts es) (mk [32]) wr (by
            intro j x hx
            obtain ⟨hj, rfl⟩ := List.getElem?_eq_some_iff.1 hx
            rw [hcell j (by rw [length_strV]; exact hj)]; simp [strV]) hb5 (by rw [length_texts]; omega) (by rw [length_texts]; exact hc5) (by rw [texts_join]; have := HJ.out; omega)
          rw [length_texts, texts_join] at hjn
          have HJN := Lib.hid hjn; clear hjn hcell
          go_wp2_with fail
          refine HJN.out.mono ?_
          rintro _ w7 ⟨rfl, hb7⟩
          have HB7 := Lib.hid (HBL.out.trans (hb7.mono HBL.out.size)); clear hb7
          go_wp2_with fail
          go_ret
          exact ⟨rfl, HB1.out.trans (HB7.out.mono HB1.out.size)⟩
  · rw [fmtB_no hv]
    have HV := Lib.hid hv; clear hv
    go_enter Tryz.func15, Tryz.ntmps15
    go_wp2_with fail
    refine (bookValid_is w A cap es HR.out hc HZ.out false (bkF HV.out)).mono ?_
    rintro _ w1 ⟨rfl, hb1⟩
    go_wp2_with fail
    go_ret
    exact ⟨rfl, hb1⟩




























































































end Go.Proofs.YteeeaeidocalnaaGreatDoor
