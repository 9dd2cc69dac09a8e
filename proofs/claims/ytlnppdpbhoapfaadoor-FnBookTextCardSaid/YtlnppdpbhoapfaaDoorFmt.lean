/-
  Contracts of FormatBook, of the program and of the reference. No conditions but those that each theorem names.
-/
import Derived.Test.YtlnppdpbhoapfaaDoorPlainF
import Derived.Test.YtlnppdpbhoapfaaDoorEnc
import Derived.BigQuiet
namespace Go.Proofs.YtlnppdpbhoapfaaDoor
open Go.RowKit Pl
set_option linter.unusedVariables false

theorem sz_alloc (w : World) (o : Obj) : (w.alloc o).heap.size = w.heap.size + 1 := by simp
/-- the texts of the entries -/
def texts (es : List Ent) : List ByteArray := es.map fun e => mk (entT e)
theorem length_texts (es : List Ent) : (texts es).length = es.length := by simp [texts]
theorem texts_join (es : List Ent) : Lib.join ((texts es).map (·.data.toList)) (mk [32]).data.toList = fmtL es := by
  unfold texts fmtL
  rw [List.map_map]; rfl
theorem ent_text (e : Ent) : e.1 ++ mk [61] ++ e.2 = mk (entT e) := by
  rw [append_tl (e.1 ++ mk [61]), append_tl e.1, tl_mk, tl_mk]; rfl

set_option maxHeartbeats 4000000 in
set_option maxRecDepth 100000 in
theorem format_any (w : World) (A : Option Addr) (cap : Nat) (es : List Ent) (h : Rd w w.heap.size A (entV es)) (hc : es.length ≤ cap) (hz : ∀ e ∈ es, e.1.size ≤ maxLen ∧ e.2.size ≤ maxLen) :
    Calls Tryd.prog 11 #[.slice A es.length cap] w fun e w' => e = .returned (.string (fmtB es)) ∧ Below w.heap.size w w' := by
  obtain ⟨iS, hi, hz0, hz1, hz2⟩ := info_parts Tryd.infoS
  have HI := Lib.hid hi; have HZ0 := Lib.hid hz0; have HZ1 := Lib.hid hz1; have HZ2 := Lib.hid hz2
  clear hi hz0 hz1 hz2
  have HR := Lib.hid h; have HZ := Lib.hid hz; clear h hz
  by_cases hv : bookV es
  · have hl : es.length ≤ 20 := hv.1
    have hsm := book_small hv
    by_cases h0 : es.length = 0
    · rw [fmtB_none hv h0]
      obtain rfl : es = [] := List.length_eq_zero_iff.1 h0
      have HV := Lib.hid hv; clear hv hsm h0
      go_enter Tryd.func11, Tryd.ntmps11
      go_wp2_with fail
      refine (bookValid_is w A cap [] HR.out hc HZ.out true (bkT HV.out)).mono ?_
      rintro _ w1 ⟨rfl, hb1⟩
      go_wp2_with fail
      go_ret
      exact ⟨rfl, hb1⟩
    · rw [fmtB_some hv h0]
      have hpos : 0 < es.length := by omega
      have hj := fmtL_le hsm es.length (Nat.le_refl _)
      rw [List.take_of_length_le (Nat.le_refl _)] at hj
      have hb : ((es.length : Int) == 0) = false := by rw [beq_eq_false_iff_ne]; omega
      have HV := Lib.hid hv; have HSM := Lib.hid hsm; have HJ := Lib.hid hj; clear hv hsm h0 hj
      go_enter Tryd.func11, Tryd.ntmps11
      go_wp2_with fail
      refine (bookValid_is w A cap es HR.out hc HZ.out true (bkT HV.out)).mono ?_
      rintro _ w1 ⟨rfl, hb1⟩
      have HB1 := Lib.hid hb1; clear hb1
      go_wp2_with fail
      clear hb
      go_loopw [3, 14] (fun v i wr => ∃ k : Nat, k ≤ es.length ∧ i = .int .i64 k ∧ wr.ownsRow w1.heap.size 9 1 v k (strV ((texts es).take k)) ∧ Below w1.heap.size w1 wr) (fun _ i _ => es.length - (intOf i).toNat)
      case atStart => exact ⟨0, Nat.zero_le _, rfl, World.ownsRow_nil _ _ _ _, Below.refl _ _⟩
      case round =>
        obtain ⟨k, hk, rfl, hown, hbl⟩ := hrel
        have HO := Lib.hid hown; have HBL := Lib.hid hbl; clear hown hbl
        obtain ⟨A5, cap5, e5, hc5, _, hr5⟩ := ownsRow_rd HO.out
        subst e5
        have HR5 := Lib.hid hr5; clear hr5
        by_cases hlt : k < es.length
        · obtain ⟨b, off, rfl, hb, c0, c1⟩ := (HR.out.below (HB1.out.trans (HBL.out.mono HB1.out.size))).ent hlt
          have hsn := strV_snoc (l := texts es) (k := k) (by rw [length_texts]; exact hlt)
          have hge : (texts es)[k]'(by rw [length_texts]; exact hlt) = mk (entT es[k]) := by simp [texts]
          have hek := HSM.out _ (List.getElem_mem hlt)
          rw [hge] at hsn
          have HSN := Lib.hid hsn; clear hsn hge
          generalize es[k] = e at c0 c1 HSN hek
          have q1 : (mk [61]).size = 1 := rfl
          have hbw := HBL.out.size
          have hh0 : (wr.alloc (.cells #[.string e.1, .string e.2] 38)).ownsRow w1.heap.size 9 1 (.slice A5 k cap5) k (strV ((texts es).take k)) := HO.out.alloc _
          have HH0 := Lib.hid hh0; clear hh0
          go_wp2_with (at_builtin; refine wpList_append_own _ rfl _ _ 34 rfl w1.heap.size 9 iS (.string ByteArray.empty) 1 16 Tryd.undS HI.out HZ0.out HZ1.out HZ2.out rfl (by decide) _ k _ rfl (HH0.out.alloc _) ⟨wr.heap.size + 1, 0, none⟩ 1 1 [.string (e.1 ++ mk [61] ++ e.2)] rfl rfl (by have := one_new (wr.alloc (.cells #[.string e.1, .string e.2] 38)) (.string (e.1 ++ mk [61] ++ e.2)) 9; rw [sz_alloc] at this; exact this) one_cell (by unfold maxLen; omega) (by omega) (by rw [sz_alloc, sz_alloc]; omega) ?_)
          intro v' w6 ho' hg' _
          rw [ent_text, HSN.out] at ho'
          have hb6 : Below w1.heap.size w1 w6 := ((HBL.out.alloc hbw _).alloc (by rw [sz_alloc]; omega) _).grown hg' (by rw [sz_alloc, sz_alloc]; omega) fun k' e' => (HO.out.lt k' e').1
          obtain ⟨A6, cap6, e6, _⟩ := ownsRow_rd ho'
          subst e6
          have HO6 := Lib.hid ho'; have HB6 := Lib.hid hb6; clear ho' hg' hb6
          go_wp2_with fail
          go_roundw
          case rel => exact ⟨k + 1, by omega, by go_num, HO6.out, HB6.out⟩
          case measure => simp [intOf]; omega
        · have hkl : k = es.length := by omega
          subst hkl
          have hr5 := HR5.out
          rw [List.take_of_length_le (by rw [length_texts]; exact Nat.le_refl _)] at hr5
          obtain ⟨b5, o5, rfl, hb5, hcell⟩ := hr5 (by intro e; have := congrArg List.length e; rw [length_strV, length_texts, List.length_nil] at this; omega)
          have hjn := Tryd.strings_Join b5 o5 cap5 (texts es) (mk [32]) wr (by
            intro j x hx
            obtain ⟨hj, rfl⟩ := List.getElem?_eq_some_iff.1 hx
            rw [hcell j (by rw [length_strV]; exact hj)]; simp [strV]) hb5 (by rw [length_texts]; omega) (by rw [length_texts]; exact hc5) (by rw [texts_join]; have := HJ.out; omega)
          rw [length_texts, texts_join] at hjn
          have HJN := Lib.hid hjn; clear hjn hcell
          go_wp2_with fail
          refine HJN.out.mono ?_
          rintro _ w7 ⟨rfl, hb7⟩
          have HB7 := Lib.hid (HBL.out.trans (hb7.mono HBL.out.size)); clear hb7
          go_wp2_with fail
          go_ret
          exact ⟨rfl, HB1.out.trans (HB7.out.mono HB1.out.size)⟩
  · rw [fmtB_no hv]
    have HV := Lib.hid hv; clear hv
    go_enter Tryd.func11, Tryd.ntmps11
    go_wp2_with fail
    refine (bookValid_is w A cap es HR.out hc HZ.out false (bkF HV.out)).mono ?_
    rintro _ w1 ⟨rfl, hb1⟩
    go_wp2_with fail
    go_ret
    exact ⟨rfl, hb1⟩

set_option maxHeartbeats 4000000 in
set_option maxRecDepth 100000 in
theorem sFormat_any (w : World) (B : Nat) (A : Option Addr) (cap : Nat) (es : List Ent) (h : Rd w B A (entV es)) (hc : es.length ≤ cap) (hm : es.length ≤ 1048576) :
    Calls Tryd.prog 12 #[.slice A es.length cap] w fun e w' => e = .returned (.string (fmtB es)) ∧ ∃ q, w' = w.drewN q := by
  have HR := Lib.hid h; clear h
  by_cases hv : bookV es
  · have hl : es.length ≤ 20 := hv.1
    have hsm := book_small hv
    obtain ⟨t, ht⟩ : ∃ t, t = fmtB es := ⟨_, rfl⟩
    rw [← ht]
    have HT := Lib.hid ht; clear ht
    have HV := Lib.hid hv; have HSM := Lib.hid hsm; clear hv hsm
    go_enter Tryd.func12, Tryd.ntmps12
    go_wp2_with fail
    refine (sBookValid_is _ B _ cap es HR.out hc hm true (bkT HV.out)).mono ?_
    rintro _ _ ⟨rfl, rfl⟩
    go_wp2_with fail
    go_loopw [3, 4] (fun o i wr => ∃ k : Nat, k ≤ es.length ∧ i = .int .i64 k ∧ o = .string (mk (fmtL (es.take k))) ∧ ∃ q, wr = w.drewN q) (fun _ i _ => es.length - (intOf i).toNat)
    case atStart => exact ⟨0, Nat.zero_le _, rfl, rfl, 0, rfl⟩
    case round =>
      obtain ⟨k, hk, rfl, rfl, q, rfl⟩ := hrel
      have hz := fmtL_le HSM.out k hk
      have hzm : (mk (fmtL (es.take k))).size ≤ 260 := by rw [size_mk]; omega
      by_cases hlt : k < es.length
      · have hsn := fmtL_snoc es k hlt
        obtain ⟨b, off, rfl, hb, c0, c1⟩ := HR.out.ent hlt
        have hek := HSM.out _ (List.getElem_mem hlt)
        have d0 : ∀ n, (w.drewN n).cell? ⟨b, off + k * 2, none⟩ = some (.string es[k].1) := fun n => c0
        have d1 : ∀ n, (w.drewN n).cell? ⟨b, off + k * 2 + 1, none⟩ = some (.string es[k].2) := fun n => c1
        have q1 : (mk [61]).size = 1 := rfl
        have q2 : (mk [32]).size = 1 := rfl
        clear c0 c1
        by_cases hk0 : k = 0
        · subst hk0
          have hnx : mk (fmtL (es.take (0 + 1))) = mk (fmtL (es.take 0)) ++ es[0].1 ++ mk [61] ++ es[0].2 := by
            rw [hsn, if_pos rfl]
            simp only [append_tl, tl_mk, List.take_zero]
            simp [fmtL, Lib.join_nil, entT]
          have HNX := Lib.hid hnx; clear hnx hsn
          simp only [Nat.zero_mul, Nat.add_zero] at d0 d1
          generalize es[0] = e at d0 d1 HNX hek
          generalize mk (fmtL (es.take 0)) = acc at hzm HNX ⊢
          go_wp2_with fail
          go_quiet (fail)
          go_wp2_with fail
          go_roundw
          case rel => exact ⟨0 + 1, by omega, by go_num, by rw [HNX.out]; rfl, _, rfl⟩
          case measure => simp [intOf]; omega
        · have hnx : mk (fmtL (es.take (k + 1))) = mk (fmtL (es.take k)) ++ mk [32] ++ es[k].1 ++ mk [61] ++ es[k].2 := by
            rw [hsn, if_neg hk0]
            simp only [append_tl, tl_mk]
            simp [entT]
          have hkp : 0 < k := by omega
          have HNX := Lib.hid hnx; clear hnx hsn hk0
          generalize es[k] = e at d0 d1 HNX hek
          generalize mk (fmtL (es.take k)) = acc at hzm HNX ⊢
          go_wp2_with fail
          go_quiet (fail)
          go_wp2_with fail
          go_roundw
          case rel => exact ⟨k + 1, by omega, by go_num, by rw [HNX.out]; rfl, _, rfl⟩
          case measure => simp [intOf]; omega
      · have hkl : k = es.length := by omega
        subst hkl
        rw [List.take_of_length_le (Nat.le_refl _)] at hzm ⊢
        by_cases h0 : es.length = 0
        · obtain rfl : t = mk [45] := HT.out.trans (fmtB_none HV.out h0)
          obtain rfl : es = [] := List.length_eq_zero_iff.1 h0
          have hcmp : (mk (fmtL [])).toList.isEmpty = true := by rw [toList_tl, tl_mk]; rfl
          go_wp2_with fail
          go_ret
          exact ⟨rfl, _, rfl⟩
        · obtain rfl : t = mk (fmtL es) := HT.out.trans (fmtB_some HV.out h0)
          have hcmp : (mk (fmtL es)).toList.isEmpty = false := by
            rw [toList_tl, tl_mk, List.isEmpty_eq_false_iff]; exact fmtL_ne (show 0 < es.length by omega)
          clear h0 HT
          generalize hacc : mk (fmtL es) = acc at hzm hcmp ⊢
          have HACC := Lib.hid hacc; clear hacc
          go_wp2_with fail
          go_ret
          exact ⟨by rw [HACC.out]; rfl, _, rfl⟩
  · rw [fmtB_no hv]
    have HV := Lib.hid hv; clear hv
    go_enter Tryd.func12, Tryd.ntmps12
    go_wp2_with fail
    refine (sBookValid_is _ B _ cap es HR.out hc hm false (bkF HV.out)).mono ?_
    rintro _ _ ⟨rfl, rfl⟩
    go_wp2_with fail
    go_ret
    exact ⟨rfl, 0, rfl⟩

end Go.Proofs.YtlnppdpbhoapfaaDoor
