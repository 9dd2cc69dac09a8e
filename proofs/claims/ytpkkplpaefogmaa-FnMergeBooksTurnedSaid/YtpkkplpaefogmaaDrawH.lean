/-
  Contracts of the draws of a book to sort, and of two books to merge. No conditions but those that each theorem names.
-/
import Derived.Test.YtpkkplpaefogmaaDrawG
import Derived.Test.YtpkkplpaefogmaaDrawM
import Derived.Test.YtpkkplpaefogmaaCutRd
namespace Go.Proofs.Ytpkkplpaefogmaa
open Go.RowKit Pl
set_option linter.unusedVariables false

set_option maxHeartbeats 1000000 in
theorem drawSortBook_any (w : World) (A : Option Addr) (cap : Nat) (bs : List UInt8) (h : Rd w w.heap.size A (bytesV bs)) (hc : bs.length ≤ cap) :
    Calls Try.prog 30 #[.slice A bs.length cap] w (BookOnly w) := by
  go_enter Try.func30, Try.ntmps30
  go_wp2_with fail
  refine (drawBookValid_any w A cap bs h hc).mono ?_
  rintro _ w1 ⟨A1, cap1, es, rfl, hh⟩
  have HH := Lib.hid hh; clear hh
  go_wp2_with fail
  go_ret
  exact ⟨A1, cap1, es, rfl, HH.out⟩

set_option maxHeartbeats 4000000 in
set_option maxRecDepth 100000 in
theorem drawOnePart_any (w : World) (A : Option Addr) (cap : Nat) (bs : List UInt8) (h : Rd w w.heap.size A (bytesV bs)) (hc : bs.length ≤ cap) :
    Calls Try.prog 29 #[.slice A bs.length cap] w (BookOnly w) := by
  go_enter Try.func29, Try.ntmps29
  go_wp2_with fail
  refine (l21Open_any w A cap bs h hc).mono ?_
  rintro e w1 ⟨rfl, hr1, hb1, hs1⟩
  have HB1 := Lib.hid hb1; clear hb1 h
  obtain ⟨R, hR⟩ : ∃ R, R = w.heap.size := ⟨_, rfl⟩
  rw [← hR] at hr1 HB1 ⊢
  have HRE := Lib.hid hR; clear hR hs1
  go_wp2_with fail
  refine (l19Open_any w1 R 0 hr1 (by omega)).mono ?_
  rintro e w2 ⟨v, es, rfl, hd, hl⟩
  have H2 := Lib.hid (hd.base HB1.out); clear hd hr1
  obtain ⟨A2, cap2, rfl, hcap, hcm, _⟩ := H2.out.bk.rd
  have fin : ∀ (N k : Nat) (w' : World), DS w R N (.slice A2 es.length cap2) es w' → k ≤ es.length → BookOnly w (.returned (.slice A2 k cap2)) w' := by
    intro N k w' h1 hk
    rw [HRE.out] at h1
    obtain ⟨A9, c9, es9, e9, q1, q2, q3, q4, q5, q6, q7⟩ := h1.only1 (by omega)
    obtain ⟨h9, h9b⟩ : A9 = A2 ∧ es9.length = es.length ∧ c9 = cap2 := by simp at e9; exact ⟨e9.1.symm, e9.2.1.symm, e9.2.2.symm⟩
    obtain ⟨A8, c8, e8, _, _, r8⟩ := h1.bk.rd
    simp only [Value.slice.injEq] at e8
    obtain ⟨rfl, _, rfl⟩ := e8
    have hz : ∀ e ∈ es, e.1.size ≤ maxLen ∧ e.2.size ≤ maxLen := fun e he => ⟨Nat.le_trans (h1.bk.2 e he).1 (by decide), Nat.le_trans (h1.bk.2 e he).2 (by decide)⟩
    refine ⟨A2, cap2, es.take k, by rw [List.length_take, Nat.min_eq_left hk], by rw [entV_take]; exact r8.take _, by rw [List.length_take]; omega, fun e he => hz e (List.mem_of_mem_take he), by rw [List.length_take]; omega, hcm, own_none h1.bk.1, h1.bel⟩
  have FIN := Lib.hid fin; clear fin
  go_wp2_with fail
  refine (pick_pos _ R _ _ H2.out.rdr (by omega) (by omega) (by omega)).mono ?_
  rintro e w3 ⟨y, rfl, hy, hr3, ho3⟩
  have H3 := Lib.hid (H2.out.only hr3 ho3); clear hr3 ho3 H2
  by_cases hy0 : y = 0
  · subst hy0
    by_cases hlt : 2 < es.length
    · go_wp2_with fail
      go_ret
      exact FIN.out _ 2 _ H3.out (by omega)
    · go_wp2_with fail
      go_ret
      exact FIN.out _ es.length _ H3.out (by omega)
  · have hyb : ((y : Int) == 0) = false := by rw [beq_eq_false_iff_ne]; omega
    clear hy0
    go_wp2_with fail
    go_ret
    exact FIN.out _ es.length _ H3.out (by omega)

/-- two books were drawn -/
def TwoBooks (w : World) (e : Ending) (w' : World) : Prop :=
  ∃ A cap es A' cap' fs, e = .returned (.tuple #[.slice A es.length cap, .slice A' fs.length cap']) ∧ Rd w' w'.heap.size A (entV es) ∧ es.length ≤ cap ∧ (∀ e ∈ es, e.1.size ≤ maxLen ∧ e.2.size ≤ maxLen) ∧ es.length ≤ 100 ∧ cap ≤ maxLen ∧ (A = none → cap = 0) ∧
    Rd w' w'.heap.size A' (entV fs) ∧ fs.length ≤ cap' ∧ (∀ e ∈ fs, e.1.size ≤ maxLen ∧ e.2.size ≤ maxLen) ∧ fs.length ≤ 100 ∧ cap' ≤ maxLen ∧ (A' = none → cap' = 0) ∧ Below w.heap.size w w'

theorem DM.start {w : World} {R N : Nat} {v : Value} {es : List (ByteArray × ByteArray)} (hr : Rdr w R N) (hb : EBk w R v es) : DM w R (fun i => i < w.heap.size ∧ i ≠ R ∧ some i ≠ v.ownBlock) N v es w :=
  ⟨hr, hb, fun k hk hK => hK.2.2 hk.symm, fun hh => hh.2.1 rfl, fun i hi => hi.1, Fr.refl _ _⟩
/-- one book is made worse, and then the other one -/
theorem two_fin {w w2 wr w5 w6 : World} {R N : Nat} {va vb va' vb' : Value} {es fs es' fs' : List (ByteArray × ByteArray)} (hR : R = w.heap.size) (hB2 : Below R w w2) (hA2 : EBk w2 R va es) (hD : DM w2 R (fun i => i < w2.heap.size ∧ i ≠ R) N vb fs wr)
    (d5 : DM wr R (fun i => i < wr.heap.size ∧ i ≠ R ∧ some i ≠ va.ownBlock) (N + 3) va' es' w5) (hl5 : es'.length ≤ 100) :
    EBk w5 R vb fs ∧ (DM w5 R (fun i => i < w5.heap.size ∧ i ≠ R ∧ some i ≠ vb.ownBlock) (N + 3 + 3) vb' fs' w6 → fs'.length ≤ 100 → TwoBooks w (.returned (.tuple #[va', vb'])) w6) := by
  have apart : ∀ k, vb.ownBlock = some k → some k ≠ va.ownBlock := fun k hk e => by
    have h1 := hD.far k hk
    have h2 := (hA2.1.lt k e.symm)
    exact h1 ⟨h2.2, by omega⟩
  refine ⟨⟨d5.fr.owns hD.bk.1 fun k hk => ⟨(hD.bk.1.lt k hk).2, by have := (hD.bk.1.lt k hk).1; omega, apart k hk⟩, hD.bk.2⟩, fun d6 hl6 => ?_⟩
  have ha6 : w6.ownsRow (R + 1) 27 2 va' es'.length (entV es') := d6.fr.owns d5.bk.1 fun k hk => ⟨(d5.bk.1.lt k hk).2, by have := (d5.bk.1.lt k hk).1; omega, fun e => d5.far k hk ⟨(hD.bk.1.lt k e.symm).2, by have := (d5.bk.1.lt k hk).1; omega, apart k e.symm⟩⟩
  have hs2 := hB2.size
  have b2 : Below R w2 wr := hD.fr.below fun i hi => ⟨by omega, by omega⟩
  have b3 : Below R wr w5 := d5.fr.below fun i hi => ⟨by have := b2.size; omega, by omega, fun e => by have := (hA2.1.lt i e.symm).1; omega⟩
  have b4 : Below R w5 w6 := d6.fr.below fun i hi => ⟨by have := b2.size; have := b3.size; omega, by omega, fun e => by have := (hD.bk.1.lt i e.symm).1; omega⟩
  obtain ⟨A1, c1, rfl, l1, m1, r1⟩ := ownsRow_rd ha6
  obtain ⟨A2, c2, e2, l2, m2, r2⟩ := ownsRow_rd d6.bk.1
  subst e2
  have hz : ∀ es : List (ByteArray × ByteArray), (∀ e ∈ es, e.1.size ≤ 100 ∧ e.2.size ≤ 100) → ∀ e ∈ es, e.1.size ≤ maxLen ∧ e.2.size ≤ maxLen := fun es h e he => ⟨Nat.le_trans (h e he).1 (by decide), Nat.le_trans (h e he).2 (by decide)⟩
  exact ⟨A1, c1, es', A2, c2, fs', rfl, r1, l1, hz _ d5.bk.2, hl5, m1, own_none ha6, r2, l2, hz _ d6.bk.2, hl6, m2, own_none d6.bk.1, by rw [← hR]; exact ((hB2.trans b2).trans b3).trans b4⟩

set_option maxHeartbeats 8000000 in
set_option maxRecDepth 100000 in
theorem drawMergeBooks_any (w : World) (A : Option Addr) (cap : Nat) (bs : List UInt8) (h : Rd w w.heap.size A (bytesV bs)) (hc : bs.length ≤ cap) :
    Calls Try.prog 22 #[.slice A bs.length cap] w (TwoBooks w) := by
  obtain ⟨iE, hi, hz0, hz1, hz2⟩ := info_parts Try.infoE
  have HI := Lib.hid hi; have HZ0 := Lib.hid hz0; have HZ1 := Lib.hid hz1; have HZ2 := Lib.hid hz2
  clear hi hz0 hz1 hz2
  go_enter Try.func22, Try.ntmps22
  go_wp2_with fail
  refine (l21Open_any w A cap bs h hc).mono ?_
  rintro e w1 ⟨rfl, hr1, hb1, hs1⟩
  have HB1 := Lib.hid hb1; clear hb1 h
  obtain ⟨R, hR⟩ : ∃ R, R = w.heap.size := ⟨_, rfl⟩
  rw [← hR] at hr1 HB1 ⊢
  have HRE := Lib.hid hR; clear hR hs1
  go_wp2_with fail
  refine (l19Some_any w1 R 0 hr1 (by omega)).mono ?_
  rintro e w2 ⟨v2, es, rfl, hbk2, hl2, hr2, hb2⟩
  have HA2 := Lib.hid hbk2; have HB2 := Lib.hid (HB1.out.trans hb2); clear hbk2 hb2 hr1 HB1
  obtain ⟨A2, cap2, rfl, hcap2, hcm2, _⟩ := HA2.out.rd
  go_wp2_with fail
  refine (l19Some_at w2 R (fun i => i < w2.heap.size ∧ i ≠ R) (0 + 100) hr2 (fun hh => hh.2 rfl) (fun i hi => hi.1) (by omega)).mono ?_
  rintro e w3 ⟨v3, fs0, rfl, hd3, hl3⟩
  have H3 := Lib.hid hd3; clear hd3 hr2
  obtain ⟨A3, cap3, rfl, hcap3, hcm3, _⟩ := H3.out.bk.rd
  -- the first book in whatever world the second one is drawn in
  have keepA : ∀ (N : Nat) (v : Value) (fs : List (ByteArray × ByteArray)) (wr : World), DM w2 R (fun i => i < w2.heap.size ∧ i ≠ R) N v fs wr → EBk wr R (.slice A2 es.length cap2) es := fun N v fs wr hd =>
    ⟨hd.fr.owns HA2.out.1 fun k hk => ⟨(HA2.out.1.lt k hk).2, by have := (HA2.out.1.lt k hk).1; omega⟩, HA2.out.2⟩
  have KA := Lib.hid keepA; clear keepA
  go_wp2_with fail
  go_loopw [6, 7] (fun v i wr => ∃ (k : Nat) (fs : List (ByteArray × ByteArray)), k ≤ es.length ∧ i = .int .i64 k ∧ fs.length ≤ 8 + k ∧ DM w2 R (fun i => i < w2.heap.size ∧ i ≠ R) (200 + k) v fs wr) (fun _ i _ => es.length - (intOf i).toNat)
  case atStart => exact ⟨0, fs0, Nat.zero_le _, rfl, by omega, H3.out.mono (by omega)⟩
  case round =>
    clear H3
    obtain ⟨k, fs, hk, rfl, hfl, hd⟩ := hrel
    have HD := Lib.hid hd; clear hd
    obtain ⟨A4, cap4, rfl, hcap4, hcm4, _⟩ := HD.out.bk.rd
    by_cases hlt : k < es.length
    · go_wp2_with fail
      refine (pick_pos _ R _ _ HD.out.rdr (by omega) (by omega) (by omega)).mono ?_
      rintro e w5 ⟨y, rfl, hy, hr5, ho5⟩
      obtain ⟨M, hM, H5⟩ : ∃ M, M = 200 + k + 1 ∧ Hid (DM w2 R (fun i => i < w2.heap.size ∧ i ≠ R) M (.slice A4 fs.length cap4) fs w5) := ⟨_, rfl, Lib.hid (HD.out.only hr5 ho5)⟩
      clear hr5 ho5 HD
      by_cases hy0 : 0 < y
      · obtain ⟨g, cg, hv, hRg, hcl, c0, c1, _⟩ := (KA.out _ _ _ _ H5.out).at hlt
        simp only [Value.slice.injEq] at hv
        obtain ⟨rfl, _, rfl⟩ := hv
        have hsz := HA2.out.2 _ (List.getElem_mem hlt)
        generalize es[k] = e at c0 c1 hsz
        obtain ⟨_, _, e7, _, _, r7⟩ := H5.out.bk.rd
        simp only [Value.slice.injEq] at e7
        obtain ⟨rfl, _, rfl⟩ := e7
        have HR7 := Lib.hid r7; clear r7
        obtain ⟨f1, hf1⟩ : ∃ f, f = firstOf (fun x => decide (x.1 = e.1)) fs := ⟨_, rfl⟩
        obtain ⟨f2, hf2⟩ : ∃ f, f = firstOf (fun x => decide (x.2 = e.2)) fs := ⟨_, rfl⟩
        have HF1 := Lib.hid hf1; have HF2 := Lib.hid hf2; clear hf1 hf2
        by_cases h1 : f1 < 0
        · by_cases h2 : f2 < 0
          · go_wp2_with fail
            refine (l19Index_any _ _ A4 cap4 fs e.1 HR7.out hcap4 (by omega)).mono ?_
            rintro _ _ ⟨rfl, rfl⟩
            rw [← HF1.out]
            go_wp2_with fail
            refine (l19Coded_any _ _ A4 cap4 fs e.2 HR7.out hcap4 (by omega)).mono ?_
            rintro _ _ ⟨rfl, rfl⟩
            rw [← HF2.out]
            go_wp2_with (at_builtin; refine wpList_append_lies _ rfl _ _ 23 rfl (R + 1) 27 iE (.agg #[.string ByteArray.empty, .string ByteArray.empty]) 2 32 Try.undE HI.out HZ0.out HZ1.out HZ2.out rfl (by decide) _ fs.length _ rfl (H5.out.alloc _).bk.1 ⟨w5.heap.size, 0, none⟩ 1 1 [.string e.1, .string e.2] rfl rfl (cell_two_new w5 (.string e.1) (.string e.2) 27) two_cell (by decide) (by unfold maxLen; omega) (by omega) (by have := H5.out.lt; rw [heapsize_alloc]; omega) _ rfl ?_)
            intro g6 cap6 w6 ho' hg' hl' _
            have H6 := Lib.hid ((H5.out.alloc _).app e hsz.1 hsz.2 ho' hg' (hl'.imp id fun h => by rw [h]; simp)); clear ho' hg' hl' H5 HR7
            clear h1 h2 c0 c1
            go_wp2_with fail
            go_roundw
            case rel => exact ⟨k + 1, fs ++ [e], by omega, by go_num, by simp; omega, H6.out.mono (by omega)⟩
            case measure => simp [intOf]; omega
          · go_wp2_with fail
            refine (l19Index_any _ _ A4 cap4 fs e.1 HR7.out hcap4 (by omega)).mono ?_
            rintro _ _ ⟨rfl, rfl⟩
            rw [← HF1.out]
            go_wp2_with fail
            refine (l19Coded_any _ _ A4 cap4 fs e.2 HR7.out hcap4 (by omega)).mono ?_
            rintro _ _ ⟨rfl, rfl⟩
            rw [← HF2.out]
            go_wp2_with fail
            go_roundw
            case rel => exact ⟨k + 1, fs, by omega, by go_num, by omega, H5.out.mono (by omega)⟩
            case measure => simp [intOf]; omega
        · go_wp2_with fail
          refine (l19Index_any _ _ A4 cap4 fs e.1 HR7.out hcap4 (by omega)).mono ?_
          rintro _ _ ⟨rfl, rfl⟩
          rw [← HF1.out]
          go_wp2_with fail
          go_roundw
          case rel => exact ⟨k + 1, fs, by omega, by go_num, by omega, H5.out.mono (by omega)⟩
          case measure => simp [intOf]; omega
      · obtain rfl : y = 0 := by omega
        clear hy0
        go_wp2_with fail
        refine (l19Bad_at w5 w5 R _ _ _ es (DM.start H5.out.rdr (KA.out _ _ _ _ H5.out)) (by omega) (by omega)).mono ?_
        rintro e wx5 ⟨v5, es5, rfl, hd5, hl5⟩
        obtain ⟨hb5, hfin⟩ := two_fin (vb' := .slice none 0 0) (fs' := []) (w6 := wx5) HRE.out HB2.out HA2.out H5.out hd5 (by omega)
        have HX5 := Lib.hid hd5; have HB5 := Lib.hid hb5; clear hd5 hb5 hfin
        obtain ⟨A5, cap5, rfl, _⟩ := HX5.out.bk.rd
        go_wp2_with fail
        refine (l19Bad_at wx5 wx5 R _ _ _ fs (DM.start HX5.out.rdr HB5.out) (by omega) (by omega)).mono ?_
        rintro e w6 ⟨v6, fs6, rfl, hd6, hl6⟩
        have HF := Lib.hid ((two_fin HRE.out HB2.out HA2.out H5.out HX5.out (by omega)).2 hd6 (by omega))
        obtain ⟨A6, cap6, rfl, _⟩ := hd6.bk.rd
        clear hd6
        go_wp2_with fail
        go_ret2
        exact HF.out
    · go_wp2_with fail
      refine (l19Bad_at wr wr R _ _ _ es (DM.start HD.out.rdr (KA.out _ _ _ _ HD.out)) (by omega) (by omega)).mono ?_
      rintro e w5 ⟨v5, es5, rfl, hd5, hl5⟩
      obtain ⟨hb5, hfin⟩ := two_fin (vb' := .slice none 0 0) (fs' := []) (w6 := w5) HRE.out HB2.out HA2.out HD.out hd5 (by omega)
      have H5 := Lib.hid hd5; have HB5 := Lib.hid hb5; clear hd5 hb5 hfin
      obtain ⟨A5, cap5, rfl, _⟩ := H5.out.bk.rd
      go_wp2_with fail
      refine (l19Bad_at w5 w5 R _ _ _ fs (DM.start H5.out.rdr HB5.out) (by omega) (by omega)).mono ?_
      rintro e w6 ⟨v6, fs6, rfl, hd6, hl6⟩
      have HF := Lib.hid ((two_fin HRE.out HB2.out HA2.out HD.out H5.out (by omega)).2 hd6 (by omega))
      obtain ⟨A6, cap6, rfl, _⟩ := hd6.bk.rd
      clear hd6
      go_wp2_with fail
      go_ret2
      exact HF.out

end Go.Proofs.Ytpkkplpaefogmaa
