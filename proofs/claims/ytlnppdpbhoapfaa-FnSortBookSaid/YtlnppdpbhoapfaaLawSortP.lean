/-
  The walk of the law FnSortBook: it returns true whatever the bytes are; nothing that was there is changed. No conditions.
-/
import Derived.Test.YtlnppdpbhoapfaaSortS
import Derived.Test.YtlnppdpbhoapfaaDrawH
import Derived.Test.YtlnppdpbhoapfaaBooks
import Derived.Test.YtlnppdpbhoapfaaMark
import Derived.Test.YtlnppdpbhoapfaaHoldsG
namespace Go.Proofs.Ytlnppdpbhoapfaa
open Go.RowKit Pl Go.Sort
set_option linter.unusedVariables false

theorem two_keep {wr W W' : World} {a1 a2 : Addr} {u1 u2 : Value} (h : W.cell? a1 = some u1 ∧ W.cell? a2 = some u2 ∧ Below wr.heap.size wr W) (hb : Below W.heap.size W W') :
    W'.cell? a1 = some u1 ∧ W'.cell? a2 = some u2 ∧ Below wr.heap.size wr W' := by
  obtain ⟨h1, h2, h5⟩ := h
  exact ⟨(hb.cell (World.block_lt_of_cell? _ _ h1)).trans h1, (hb.cell (World.block_lt_of_cell? _ _ h2)).trans h2, h5.trans (hb.mono h5.size)⟩

set_option maxHeartbeats 8000000 in
set_option maxRecDepth 100000 in
theorem fnSortBook_walk (w : World) (A : Option Addr) (cap : Nat) (bs : List UInt8) (h : Rd w w.heap.size A (bytesV bs)) (hc : bs.length ≤ cap) :
    Calls Try.prog 4 #[.slice A bs.length cap] w fun e w' => e = .returned (.bool true) ∧ Below w.heap.size w w' := by
  by_cases hlen : 1048576 < bs.length
  · go_enter Try.func4, Try.ntmps4
    go_wp2_with fail
    go_ret
    exact ⟨rfl, Below.refl _ _⟩
  · go_enter Try.func4, Try.ntmps4
    go_wp2_with fail
    refine (drawSortBook_any w A cap bs h hc).mono ?_
    rintro _ w1 ⟨A1, cap1, es, rfl, hr1, hc1, hz, hl, hm1, hA1, hb1⟩
    have HR := Lib.hid hr1; have HZ := Lib.hid hz; have HA := Lib.hid hA1; have HB := Lib.hid hb1; clear hr1 hz hA1 hb1 h
    go_wp2_with fail
    refine (sort_any _ A1 cap1 es HR.out hc1 HA.out HZ.out).mono ?_
    rintro _ w2 ⟨v2, rfl, ho2, hb2⟩
    replace HB := Lib.hid (HB.out.trans (hb2.mono HB.out.size))
    replace HR := Lib.hid ((HR.out.below hb2).mono hb2.size)
    clear hb2
    obtain ⟨A2, cap2, rfl⟩ := slot_slice ho2
    have HO := Lib.hid ho2; clear ho2
    go_wp2_with fail
    refine (sSort_any _ A1 cap1 es HR.out hc1 (by omega)).mono ?_
    rintro _ w3 ⟨v3, rfl, ho3, hb3⟩
    replace HB := Lib.hid (HB.out.trans (hb3.mono HB.out.size))
    replace HR := Lib.hid ((HR.out.below hb3).mono hb3.size)
    replace HO := Lib.hid (ownsRow_below HO.out hb3)
    clear hb3
    obtain ⟨A3, cap3, rfl⟩ := slot_slice ho3
    have HP := Lib.hid ho3; clear ho3
    by_cases hv : bookV es
    · have hs := sortW_ok hv
      have hmem : ∀ x, x ∈ sortE es → x ∈ es := fun x hx => mem_sortE.1 hx
      have hstr := sortE_strict hv.2
      have hfl := length_sortE es
      have hfv : bookV (sortE es) := (bookV_perm (sortE_perm es)).2 hv
      have hff : sortW (sortE es) = some (sortE es) := by rw [sortW_ok hfv, sortE_sortE hv.2]
      have hfz : ∀ e ∈ sortE es, e.1.size ≤ maxLen ∧ e.2.size ≤ maxLen := fun e he => HZ.out e (hmem e he)
      rw [hs] at HO HP ⊢
      simp only [Option.isSome_some, Option.getD_some] at HO HP ⊢
      obtain ⟨fs, hfs⟩ : ∃ fs, fs = sortE es := ⟨_, rfl⟩
      rw [← hfs] at HO HP hmem hstr hfl hfv hff hfz ⊢
      have hf100 : fs.length ≤ 100 := by omega
      have HFL := Lib.hid hfl; clear hfl
      have HV := Lib.hid hv; have HMEM := Lib.hid hmem; have HSTR := Lib.hid hstr; have HFV := Lib.hid hfv; have HFF := Lib.hid hff; have HFZ := Lib.hid hfz; clear hv hs hmem hstr hfv hff hfz hfs
      go_wp2_with fail
      refine (rcBooks_same _ A2 A3 cap2 cap3 fs (own_rd HO.out) (own_rd HP.out) (by omega) (own_le HO.out) (own_le HP.out)).mono ?_
      rintro _ w4 ⟨rfl, hb4⟩
      replace HB := Lib.hid (HB.out.trans (hb4.mono HB.out.size))
      replace HR := Lib.hid ((HR.out.below hb4).mono hb4.size)
      replace HO := Lib.hid (ownsRow_below HO.out hb4)
      clear hb4
      clear HP
      go_wp2_with fail
      refine (bookValid_is _ A1 cap1 es HR.out hc1 HZ.out true (bkT HV.out)).mono ?_
      rintro _ w5 ⟨rfl, hb5⟩
      replace HB := Lib.hid (HB.out.trans (hb5.mono HB.out.size))
      replace HR := Lib.hid ((HR.out.below hb5).mono hb5.size)
      replace HO := Lib.hid (ownsRow_below HO.out hb5)
      clear hb5
      go_wp2_with fail
      have hcl := own_le HO.out
      go_loopw [8] (fun i wr => ∃ k : Nat, k ≤ fs.length ∧ i = .int .i64 k ∧ Below w5.heap.size w5 wr) (fun i _ => fs.length - (intOf i).toNat)
      case atStart => exact ⟨0, Nat.zero_le _, rfl, Below.refl _ _⟩
      case round =>
        obtain ⟨k, hk, rfl, hbr⟩ := hrel
        have HBR := Lib.hid hbr; clear hbr
        have HOR := Lib.hid (ownsRow_below HO.out HBR.out)
        by_cases hlt : k < fs.length
        · have HRR := Lib.hid ((HR.out.below HBR.out).mono HBR.out.size)
          rcases Nat.eq_zero_or_pos k with hk0 | hkp
          · subst hk0
            obtain ⟨b1, o1, rfl, _, x0, x1⟩ := (own_rd HOR.out).ent hlt
            have hxm := HMEM.out _ (List.getElem_mem hlt)
            simp only [Nat.zero_mul, Nat.add_zero] at x0 x1
            generalize fs[0] = x at x0 x1 hxm
            have hcon := fun (n : Nat) (os : Array Obj) => rcHolds_grow (grow (wr.drewN n) os) A1 cap1 es x true (by simp [hxm]) (HRR.out.grown n os) hc1 (by omega)
            have d0 := fun (n : Nat) (os : Array Obj) => cell_grown (World.block_lt_of_cell? _ _ x0) x0 n os
            have d1 := fun (n : Nat) (os : Array Obj) => cell_grown (World.block_lt_of_cell? _ _ x1) x1 n os
            have HCON := Lib.hid hcon; clear hcon hxm
            have mixed : Try.prog.follows .mixedOrders = true := by kernel_rfl
            rw [show ((0 : Nat) : Int) = 0 from rfl]
            go_wp2_with fail
            refine wp_region_quiet_grown (by assumption) (by kernel_rfl) ?_
            iterate 5 (with_reducible refine wpQuiet_step (fun K hK => ?_); go_simp; with_reducible refine hK _ ?_; clear hK K)
            with_reducible refine wpQuiet_step (fun K hK => ?_)
            go_simp
            refine ⟨.bool true, fun a => ?_, ?_⟩
            · exact Calls.grown_of (HCON.out _ _)
            with_reducible refine hK _ ?_
            clear hK K
            iterate 19 (with_reducible refine wpQuiet_step (fun K hK => ?_); go_simp; with_reducible refine hK _ ?_; clear hK K)
            refine wpQuiet_nil ?_
            intro _ hw'
            obtain ⟨⟨nq, osq⟩, hw''⟩ := hw'
            subst hw''
            have HB2 := Lib.hid (HBR.out.trans ((below_grown wr nq osq).mono HBR.out.size))
            clear x0 x1 d0 d1
            obtain ⟨w7, hw7⟩ : ∃ w7, w7 = grow (wr.drewN nq) osq := ⟨_, rfl⟩
            rw [← hw7] at HB2 ⊢
            clear hw7
            go_wp2_with fail
            go_roundw
            case rel => exact ⟨0 + 1, by omega, by go_num, HB2.out⟩
            case measure => simp [intOf]; omega
          · obtain ⟨t, rfl⟩ : ∃ t, k = t + 1 := ⟨k - 1, by omega⟩
            obtain ⟨b1, o1, rfl, _, x0, x1⟩ := (own_rd HOR.out).ent hlt
            obtain ⟨b2, o2, e2, _, y0, y1⟩ := (own_rd HOR.out).ent (show t < fs.length by omega)
            simp only [Option.some.injEq, Addr.mk.injEq, and_true] at e2
            obtain ⟨rfl, rfl⟩ := e2
            have hxm := HMEM.out _ (List.getElem_mem hlt)
            have hst := List.pairwise_iff_getElem.1 HSTR.out t (t + 1) (by omega) hlt (by omega)
            generalize fs[t + 1] = x at x0 x1 hxm hst
            generalize fs[t]'(by omega) = y at y0 y1 hst
            have hcmp : Op.bytesLess x.1.toList y.1.toList = false := by rw [less_ltE]; exact ltE_asymm hst
            have hce : (x.1.toList == y.1.toList) = false := bytes_beq fun e => by rw [e, ltE_irrefl] at hst; cases hst
            have hqz : ((t + 1 : Nat) : Int) = (t : Int) + 1 := by omega
            rw [hqz]
            obtain ⟨iN, hiN⟩ : ∃ q, q = t + 1 := ⟨_, rfl⟩
            obtain ⟨jN, hjN⟩ : ∃ q, q = t := ⟨_, rfl⟩
            have ea : ((t : Int) + 1).toNat = iN := by omega
            have pa : (0 : Int) ≤ (t : Int) + 1 := by omega
            have ba : (t : Int) + 1 < (fs.length : Int) := by omega
            have pp : (0 : Int) < (t : Int) + 1 := by omega
            have ra : IntKind.i64.wrap ((t : Int) + 1) = (t : Int) + 1 := by rw [IntKind.wrap_i64]; omega
            have ec : ((t : Int)).toNat = jN := by omega
            have pc : (0 : Int) ≤ (t : Int) := by omega
            have bc : (t : Int) < (fs.length : Int) := by omega
            have rc : IntKind.i64.wrap ((t : Int)) = (t : Int) := by rw [IntKind.wrap_i64]; omega
            rw [← hiN] at x0 x1
            rw [← hjN] at y0 y1
            have hcon : ∀ W, (W.cell? ⟨b1, o1 + iN * 2, none⟩ = some (.string x.1) ∧ W.cell? ⟨b1, o1 + iN * 2 + 1, none⟩ = some (.string x.2) ∧ W.cell? ⟨b1, o1 + jN * 2, none⟩ = some (.string y.1) ∧ W.cell? ⟨b1, o1 + jN * 2 + 1, none⟩ = some (.string y.2) ∧ Below wr.heap.size wr W) → Calls Try.prog 13 #[.slice A1 es.length cap1, .agg #[.string x.1, .string x.2]] W fun e w' => e = .returned (.bool true) ∧ Below W.heap.size W w' := fun W hW =>
              rcHolds_is W A1 cap1 es x true (by simp [hxm]) ((HRR.out.below hW.2.2.2.2).mono hW.2.2.2.2.size) hc1 (by omega)
            have HCON := Lib.hid hcon; clear hcon hxm hiN hjN hqz hst
            go_wp2_with fail
            go_region_held3 (fun W => W.cell? ⟨b1, o1 + iN * 2, none⟩ = some (.string x.1) ∧ W.cell? ⟨b1, o1 + iN * 2 + 1, none⟩ = some (.string x.2) ∧ W.cell? ⟨b1, o1 + jN * 2, none⟩ = some (.string y.1) ∧ W.cell? ⟨b1, o1 + jN * 2 + 1, none⟩ = some (.string y.2) ∧ Below wr.heap.size wr W) (first | assumption | exact ⟨x0, x1, y0, y1, (Below.refl _ _).drew⟩ | exact four_keep (by assumption) (by assumption)) ((go_at_call 13; refine (HCON.out _ (by assumption)).mono ?_; rintro _ w7 ⟨rfl, hb7⟩))
            rename_i hS
            have HB2 := Lib.hid (HBR.out.trans (hS.2.2.2.2.mono HBR.out.size))
            clear hS x0 x1 y0 y1 hcmp hce ea ec
            go_wp2_with fail
            go_roundw
            case rel => exact ⟨t + 1 + 1, by omega, by go_num, HB2.out⟩
            case measure => simp [intOf]; omega
        · have HBW := Lib.hid (HB.out.trans (HBR.out.mono HB.out.size))
          have hfe : ((fs.length : Int) == (es.length : Int)) = true := by rw [HFL.out]; simp
          go_wp2_with fail
          refine (sort_any _ A2 cap2 fs (own_rd HOR.out) (own_le HOR.out) (own_none HOR.out) HFZ.out).mono ?_
          rintro _ w7 ⟨v7, rfl, ho7, hb7⟩
          rw [HFF.out] at ho7 ⊢
          simp only [Option.isSome_some, Option.getD_some] at ho7 ⊢
          replace HBW := Lib.hid (HBW.out.trans (hb7.mono HBW.out.size))
          replace HOR := Lib.hid (ownsRow_below HOR.out hb7)
          obtain ⟨A7, cap7, rfl⟩ := slot_slice ho7
          have HQ := Lib.hid ho7; clear ho7 hb7
          go_wp2_with fail
          refine (rcBooks_same _ A7 A2 cap7 cap2 fs (own_rd HQ.out) (own_rd HOR.out) (by omega) (own_le HQ.out) (own_le HOR.out)).mono ?_
          rintro _ w8 ⟨rfl, hb8⟩
          replace HBW := Lib.hid (HBW.out.trans (hb8.mono HBW.out.size))
          replace HOR := Lib.hid (ownsRow_below HOR.out hb8)
          clear hb8 HQ
          go_wp2_with fail
          refine (bookValid_is _ A2 cap2 fs (own_rd HOR.out) (own_le HOR.out) HFZ.out true (bkT HFV.out)).mono ?_
          rintro _ w9 ⟨rfl, hb9⟩
          replace HBW := Lib.hid (HBW.out.trans (hb9.mono HBW.out.size))
          clear hb9
          go_wp2_with fail
          go_ret
          exact ⟨rfl, HBW.out⟩
    · have hs := sortW_no hv
      rw [hs] at HO HP ⊢
      simp only [Option.isSome_none, Option.getD_none] at HO HP ⊢
      have HV := Lib.hid hv; clear hv hs
      go_wp2_with fail
      refine (rcBooks_same _ A2 A3 cap2 cap3 [] (own_rd HO.out) (own_rd HP.out) (by simp) (own_le HO.out) (own_le HP.out)).mono ?_
      rintro _ w4 ⟨rfl, hb4⟩
      replace HB := Lib.hid (HB.out.trans (hb4.mono HB.out.size))
      replace HR := Lib.hid ((HR.out.below hb4).mono hb4.size)
      replace HO := Lib.hid (ownsRow_below HO.out hb4)
      replace HP := Lib.hid (ownsRow_below HP.out hb4)
      clear hb4
      go_wp2_with fail
      refine (bookValid_is _ A1 cap1 es HR.out hc1 HZ.out false (bkF HV.out)).mono ?_
      rintro _ w5 ⟨rfl, hb5⟩
      replace HB := Lib.hid (HB.out.trans (hb5.mono HB.out.size))
      replace HR := Lib.hid ((HR.out.below hb5).mono hb5.size)
      replace HO := Lib.hid (ownsRow_below HO.out hb5)
      replace HP := Lib.hid (ownsRow_below HP.out hb5)
      clear hb5
      go_wp2_with fail
      refine (rcBooks_same _ A2 A3 cap2 cap3 [] (own_rd HO.out) (own_rd HP.out) (by simp) (own_le HO.out) (own_le HP.out)).mono ?_
      rintro _ w6 ⟨rfl, hb6⟩
      replace HB := Lib.hid (HB.out.trans (hb6.mono HB.out.size))
      replace HR := Lib.hid ((HR.out.below hb6).mono hb6.size)
      replace HO := Lib.hid (ownsRow_below HO.out hb6)
      replace HP := Lib.hid (ownsRow_below HP.out hb6)
      clear hb6
      go_wp2_with fail
      refine (bookValid_is _ A1 cap1 es HR.out hc1 HZ.out false (bkF HV.out)).mono ?_
      rintro _ w7 ⟨rfl, hb7⟩
      replace HB := Lib.hid (HB.out.trans (hb7.mono HB.out.size))
      clear hb7
      go_wp2_with fail
      go_ret
      exact ⟨rfl, HB.out⟩

end Go.Proofs.Ytlnppdpbhoapfaa
