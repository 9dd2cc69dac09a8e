/-
  Contracts of the draws of a book with words: l19Words and the draws over it. No conditions but those that each theorem names.
-/
import Derived.Test.YteeeaeidocalnaaGreatDoorDrawD
import Derived.Deep.AppendLies
namespace Go.Proofs.YteeeaeidocalnaaGreatDoor
open Go.RowKit Pl
set_option linter.unusedVariables false

/-- a drawing that has a book and, from block B on, a slice of short strings -/
structure DSW (w0 : World) (R N B : Nat) (v : Value) (es : List (ByteArray × ByteArray)) (v2 : Value) (ws : List ByteArray) (w : World) : Prop where
  ds : DS w0 R N v es w
  lt : ∀ k, v.ownBlock = some k → k < B
  rlt : R < B
  own : w.ownsRow B 9 1 v2 ws.length (strV ws)
  siz : ∀ s ∈ ws, s.size ≤ 100
  ble : B ≤ w.heap.size
section
variable {w0 w w' : World} {R N N' B : Nat} {v v2 v2' : Value} {es : List (ByteArray × ByteArray)} {ws : List ByteArray}
theorem DSW.only (h : DSW w0 R N B v es v2 ws w) (hr : Rdr w' R N') (hg : w.grownBy w' (some R)) : DSW w0 R N' B v es v2 ws w' :=
  ⟨h.ds.only hr hg, h.lt, h.rlt, h.own.kept hg (by
    cases hv : v2.ownBlock with
    | none => exact .inl rfl
    | some k => exact .inr (by have := (h.own.lt k hv).1; have := h.rlt; intro e; injection e with e; omega)), h.siz, Nat.le_trans h.ble hg.size⟩
theorem DSW.below (h : DSW w0 R N B v es v2 ws w) (hb : Below w.heap.size w w') : DSW w0 R N B v es v2 ws w' :=
  ⟨h.ds.below hb, h.lt, h.rlt, ownsRow_below h.own hb, h.siz, Nat.le_trans h.ble hb.size⟩
theorem DSW.alloc (h : DSW w0 R N B v es v2 ws w) (o : Obj) : DSW w0 R N B v es v2 ws (w.alloc o) := h.below ((Below.refl _ _).alloc (Nat.le_refl _) o)
theorem DSW.drew (h : DSW w0 R N B v es v2 ws w) : DSW w0 R N B v es v2 ws w.drew := h.below (Below.refl _ _).drew
theorem DSW.drewN (h : DSW w0 R N B v es v2 ws w) (n : Nat) : DSW w0 R N B v es v2 ws (w.drewN n) := h.below (below_drewN' (Below.refl _ _) n)
theorem DSW.mono (h : DSW w0 R N B v es v2 ws w) (hN : N ≤ N') : DSW w0 R N' B v es v2 ws w := ⟨h.ds.mono hN, h.lt, h.rlt, h.own, h.siz, h.ble⟩
theorem strV_append (a b : List ByteArray) : strV (a ++ b) = strV a ++ strV b := by simp [strV]
/-- behind an append of one string -/
theorem DSW.app (h : DSW w0 R N B v es v2 ws w) (s : ByteArray) (hs : s.size ≤ 100)
    (ho : w'.ownsRow B 9 1 v2' (ws.length + 1) (strV ws ++ [.string s])) (hg : w.grownBy w' v2.ownBlock) : DSW w0 R N B v es v2' (ws ++ [s]) w' := by
  refine ⟨h.ds.own ((Below.refl _ _).grown hg h.ds.lt fun k e => ?_) ⟨h.ds.bk.1.kept hg ?_, h.ds.bk.2⟩, h.lt, h.rlt, ?_, ?_, Nat.le_trans h.ble hg.size⟩
  · have := (h.own.lt k e).1; have := h.rlt; omega
  · cases hv : v.ownBlock with
    | none => exact .inl rfl
    | some k => exact .inr (by
        have h1 := h.lt k hv
        intro e
        have := (h.own.lt k e.symm).1
        omega)
  · rw [strV_append, List.length_append]; exact ho
  · intro x hx
    rw [List.mem_append] at hx
    rcases hx with hx | hx
    · exact h.siz x hx
    · simp at hx; subst hx; exact hs
theorem DSW.slice (h : DSW w0 R N B v es v2 ws w) : ∃ A cap, v2 = .slice A ws.length cap ∧ ws.length ≤ cap ∧ Rd w w.heap.size A (strV ws) := by
  obtain ⟨A, cap, h1, h2, _, h3⟩ := ownsRow_rd h.own
  exact ⟨A, cap, h1, h2, h3⟩
end

set_option maxHeartbeats 4000000 in
set_option maxRecDepth 100000 in
theorem l19Words_any (w0 w : World) (R N : Nat) (v : Value) (es : List (ByteArray × ByteArray)) (h : DS w0 R N v es w) (hN : N ≤ 200000) (hl : es.length ≤ 100) :
    Calls Tryz.prog 36 #[.pointer (some ⟨R, 0, none⟩), v] w fun e w' => ∃ v2 ws, e = .returned v2 ∧ ws.length ≤ 7 ∧ DSW w0 R (N + 10) w.heap.size v es v2 ws w' := by
  obtain ⟨iS, hi, hz0, hz1, hz2⟩ := info_parts Tryz.infoS
  have HI := Lib.hid hi; have HZ0 := Lib.hid hz0; have HZ1 := Lib.hid hz1; have HZ2 := Lib.hid hz2
  clear hi hz0 hz1 hz2
  have hlt := h.lt
  have h0 : DSW w0 R N w.heap.size v es (.slice (some ⟨w.heap.size, 0, none⟩) 0 0) [] (w.alloc (.cells #[] 9)) :=
    ⟨h.alloc _, fun k hk => (h.bk.1.lt k hk).2, hlt, World.ownsRow_made w #[] 0 (Nat.le_refl _) (by decide) rfl, by simp, by simp⟩
  have H0 := Lib.hid h0; clear h0
  obtain ⟨A, cap, rfl, hcap, _, _⟩ := h.bk.rd
  clear h
  obtain ⟨B, hB⟩ : ∃ B, B = w.heap.size := ⟨_, rfl⟩
  rw [← hB] at H0 hlt
  have HBE := Lib.hid hB
  go_enter Tryz.func36, Tryz.ntmps36
  go_wp2_with fail
  rw [← hB]
  clear hB
  refine (pick_pos _ R N _ H0.out.ds.rdr (by omega) (by omega) (by omega)).mono ?_
  rintro e w1 ⟨x, rfl, hx, hr1, ho1⟩
  have H1 := Lib.hid (H0.out.only hr1 ho1); clear hr1 ho1 H0
  go_wp2_with fail
  go_loopw [5, 6] (fun v2 i wr => ∃ (k : Nat) (ws : List ByteArray), k ≤ 6 ∧ i = .int .i64 k ∧ ws.length + k ≤ 6 ∧ DSW w0 R (N + 1 + (6 - k)) B (.slice A es.length cap) es v2 ws wr) (fun _ i _ => (intOf i).toNat)
  case atStart => exact ⟨x, [], by omega, rfl, by simp; omega, H1.out.mono (by omega)⟩
  case round =>
    obtain ⟨k, ws, hk, rfl, hws, hds⟩ := hrel
    have HD := Lib.hid hds; clear hds H1
    obtain ⟨A2, cap2, rfl, hcap2, _⟩ := HD.out.slice
    by_cases hpos : 0 < k ∧ 0 < es.length
    · obtain ⟨hpos, hpe⟩ := hpos
      obtain ⟨g, cap', hv, _⟩ := HD.out.ds.at hpe
      simp only [Value.slice.injEq] at hv
      obtain ⟨rfl, _, rfl⟩ := hv
      go_wp2_with fail
      refine (pick_pos _ R _ _ HD.out.ds.rdr (by omega) (by omega) (by omega)).mono ?_
      rintro e w5 ⟨x, rfl, hx, hr5, ho5⟩
      have HD5 := Lib.hid (HD.out.only hr5 ho5); clear hr5 ho5 HD
      obtain ⟨s, hc5, hs5⟩ := HD5.out.ds.cell0 (show x < es.length by omega)
      go_wp2_with (at_builtin; refine wpList_append_own _ rfl _ _ 30 rfl B 9 iS (.string ByteArray.empty) 1 16 Tryz.undS HI.out HZ0.out HZ1.out HZ2.out rfl (by decide) _ ws.length _ rfl (HD5.out.alloc _).own ⟨w5.heap.size, 0, none⟩ 1 1 [.string s] rfl rfl (one_new w5 (.string s) 9) one_cell (by unfold maxLen; omega) (by omega) (by have := HD5.out.ble; rw [heapsize_alloc]; omega) ?_)
      intro v' w6 ho' hg' _
      have H6 := Lib.hid ((HD5.out.alloc _).app s hs5 ho' hg')
      obtain ⟨A6, cap6, e6, _⟩ := ownsRow_rd ho'
      subst e6
      clear ho' hg' HD5
      go_wp2_with fail
      go_roundw
      case rel => exact ⟨k - 1, ws ++ [s], by omega, by go_num, by simp; omega, H6.out.mono (by omega)⟩
      case measure => simp [intOf]; omega
    · obtain ⟨M, hM, HM⟩ : ∃ M, M ≤ N + 7 ∧ Hid (DSW w0 R M B (.slice A es.length cap) es (.slice A2 ws.length cap2) ws wr) := ⟨_, by omega, HD⟩
      clear HD
      have hor : k = 0 ∨ (0 < k ∧ es = []) := by
        rcases Nat.eq_zero_or_pos k with h | h
        · exact .inl h
        · exact .inr ⟨h, List.length_eq_zero_iff.1 (by omega)⟩
      clear hpos
      rcases hor with rfl | ⟨hk1, rfl⟩
      all_goals
        go_wp2_with fail
        refine (pick_pos _ R _ _ HM.out.ds.rdr (by omega) (by omega) (by omega)).mono ?_
        rintro e w5 ⟨y, rfl, hy, hr5, ho5⟩
        have H5 := Lib.hid (HM.out.only hr5 ho5); clear hr5 ho5 HM
        by_cases hy0 : y = 0
        · subst hy0
          go_wp2_with fail
          refine (of_any _ R _ w5.heap.size 3 [mk [], mk [107], mk [106, 106, 106]] (H5.out.ds.rdr.alloc _) (by omega) (by simp) (by simp) (heap_alloc_new _ _)).mono ?_
          rintro e w6 ⟨s, ht, rfl, hr6, ho6⟩
          have htz : s.size ≤ 100 := by
            simp at ht; rcases ht with rfl | rfl | rfl <;> simp [size_mk]
          have H6 := Lib.hid ((H5.out.alloc (.cells #[.string (mk []), .string (mk [107]), .string (mk [106, 106, 106])] 9)).only hr6 ho6); clear hr6 ho6 ht H5
          go_wp2_with (at_builtin; refine wpList_append_own _ rfl _ _ 30 rfl B 9 iS (.string ByteArray.empty) 1 16 Tryz.undS HI.out HZ0.out HZ1.out HZ2.out rfl (by decide) _ ws.length _ rfl (H6.out.alloc _).own ⟨w6.heap.size, 0, none⟩ 1 1 [.string s] rfl rfl (one_new w6 (.string s) 9) one_cell (by unfold maxLen; omega) (by omega) (by have := H6.out.ble; rw [heapsize_alloc]; omega) ?_)
          intro v' w7 ho' hg' _
          have H7 := Lib.hid ((H6.out.alloc _).app s htz ho' hg')
          obtain ⟨A7, cap7, e7, _⟩ := ownsRow_rd ho'
          subst e7
          clear ho' hg' H6
          go_wp2_with fail
          go_ret
          exact ⟨_, _, rfl, by simp; omega, HBE.out ▸ H7.out.mono (by omega)⟩
        · have hyb : ((y : Int) == 0) = false := by rw [beq_eq_false_iff_ne]; omega
          clear hy0
          go_wp2_with fail
          go_ret
          exact ⟨_, ws, rfl, by omega, HBE.out ▸ H5.out.mono (by omega)⟩

theorem own_none' {w : World} {base : Nat} {e : TypeId} {size n m cap : Nat} {A : Option Addr} {xs : List Value} (h : w.ownsRow base e size (.slice A n cap) m xs) : A = none → cap = 0 := by
  rintro rfl
  obtain ⟨_, ⟨h2, _⟩ | ⟨g, cap', cur, h2, _⟩⟩ := h
  · simp only [Value.slice.injEq] at h2; exact h2.2.2
  · simp at h2
/-- a book and words were drawn -/
def BookWords (w : World) (e : Ending) (w' : World) : Prop :=
  ∃ A cap es A2 cap2 ws, e = .returned (.tuple #[.slice A es.length cap, .slice A2 ws.length cap2]) ∧ Rd w' w'.heap.size A (entV es) ∧ es.length ≤ cap ∧ (∀ e ∈ es, e.1.size ≤ maxLen ∧ e.2.size ≤ maxLen) ∧ es.length ≤ 100 ∧
    Rd w' w'.heap.size A2 (strV ws) ∧ ws.length ≤ cap2 ∧ (∀ s ∈ ws, s.size ≤ maxLen) ∧ ws.length ≤ 100 ∧ cap2 ≤ maxLen ∧ (A = none → cap = 0) ∧ Below w.heap.size w w'
theorem DSW.words {w w' : World} {N B : Nat} {v v2 : Value} {es : List (ByteArray × ByteArray)} {ws : List ByteArray} (h : DSW w w.heap.size N B v es v2 ws w') (hl : es.length ≤ 100) (hl2 : ws.length ≤ 100) : BookWords w (.returned (.tuple #[v, v2])) w' := by
  obtain ⟨A1, c1, e1, l1, m1, r1⟩ := h.ds.bk.rd
  obtain ⟨A2, c2, e2, l2, m2, r2⟩ := ownsRow_rd h.own
  exact ⟨A1, c1, es, A2, c2, ws, by rw [e1, e2], r1, l1, fun e he => ⟨Nat.le_trans (h.ds.bk.2 e he).1 (by decide), Nat.le_trans (h.ds.bk.2 e he).2 (by decide)⟩, hl, r2, l2, fun s hs => Nat.le_trans (h.siz s hs) (by decide), hl2, m2, own_none' (e1 ▸ h.ds.bk.1), h.ds.bel⟩

/-- how far a slice is from the length 67 -/
def to67 (v : Value) : Nat := match v with | .slice _ n _ => 67 - n | _ => 0

set_option maxHeartbeats 4000000 in
set_option maxRecDepth 100000 in
theorem drawEncodeWords_any (w : World) (A : Option Addr) (cap : Nat) (bs : List UInt8) (h : Rd w w.heap.size A (bytesV bs)) (hc : bs.length ≤ cap) :
    Calls Tryz.prog 11 #[.slice A bs.length cap] w (BookWords w) := by
  obtain ⟨iS, hi, hz0, hz1, hz2⟩ := info_parts Tryz.infoS
  have HI := Lib.hid hi; have HZ0 := Lib.hid hz0; have HZ1 := Lib.hid hz1; have HZ2 := Lib.hid hz2
  clear hi hz0 hz1 hz2
  go_enter Tryz.func11, Tryz.ntmps11
  go_wp2_with fail
  refine (l21Open_any w A cap bs h hc).mono ?_
  rintro e w1 ⟨rfl, hr1, hb1, hs1⟩
  have HB1 := Lib.hid hb1; clear hb1 h
  obtain ⟨R, hR⟩ : ∃ R, R = w.heap.size := ⟨_, rfl⟩
  rw [← hR] at hr1 HB1 ⊢
  have HRE := Lib.hid hR; clear hR hs1
  go_wp2_with fail
  refine (l19Open_any w1 R 0 hr1 (by omega)).mono ?_
  rintro e w2 ⟨v, es, rfl, hd, hl⟩
  have H2 := Lib.hid (hd.base HB1.out); clear hd hr1
  obtain ⟨A2, cap2, rfl, hcap, hcm, _⟩ := H2.out.bk.rd
  go_wp2_with fail
  refine (l19Words_any w w2 R _ _ es H2.out (by omega) (by omega)).mono ?_
  rintro e w3 ⟨v3, ws, rfl, hws, hd3⟩
  have H3 := Lib.hid hd3; clear hd3
  have hRw : R < w2.heap.size := H2.out.lt
  clear H2
  obtain ⟨B, hB⟩ : ∃ B, B = w2.heap.size := ⟨_, rfl⟩
  rw [← hB] at H3 hRw
  clear hB
  have fin : ∀ (N : Nat) (v3 : Value) (ws : List ByteArray) (w' : World), DSW w R N B (.slice A2 es.length cap2) es v3 ws w' → ws.length ≤ 100 → BookWords w (.returned (.tuple #[.slice A2 es.length cap2, v3])) w' := by
    intro N v3 ws w' h1 h2
    rw [HRE.out] at h1
    exact h1.words (by omega) h2
  have FIN := Lib.hid fin; clear fin
  obtain ⟨A3, cap3, rfl, hc3, _⟩ := H3.out.slice
  by_cases hw0 : ws.length = 0
  · obtain rfl : ws = [] := List.length_eq_zero_iff.1 hw0
    clear hw0
    go_wp2_with fail
    go_ret2
    exact FIN.out _ _ _ _ H3.out (by simp)
  · have hpos : 0 < ws.length := by omega
    clear hw0
    go_wp2_with fail
    refine (pick_pos _ R _ _ H3.out.ds.rdr (by omega) (by omega) (by omega)).mono ?_
    rintro e w4 ⟨y, rfl, hy, hr4, ho4⟩
    have H4 := Lib.hid (H3.out.only hr4 ho4); clear hr4 ho4 H3
    by_cases hy0 : y = 0
    · subst hy0
      obtain ⟨M, HM⟩ : ∃ M, Hid (DSW w R M B (.slice A2 es.length cap2) es (.slice A3 ws.length cap3) ws w4) := ⟨_, H4⟩
      clear H4
      go_wp2_with fail
      go_loopw [6] (fun v3 wr => ∃ ws : List ByteArray, 0 < ws.length ∧ ws.length ≤ 67 ∧ DSW w R M B (.slice A2 es.length cap2) es v3 ws wr) (fun v3 _ => to67 v3)
      case atStart => exact ⟨ws, hpos, by omega, HM.out⟩
      case round =>
        obtain ⟨us, hup, hul, hds⟩ := hrel
        have HD := Lib.hid hds; clear hds HM
        obtain ⟨A5, cap5, rfl, hc5, hr5⟩ := HD.out.slice
        by_cases hlt : us.length < 67
        · obtain ⟨b, off, rfl, hb, c0⟩ := hr5.str hup
          have hs0 := HD.out.siz _ (List.getElem_mem hup)
          rw [Nat.add_zero] at c0
          have hbB := HD.out.ds.lt
          generalize us[0] = s at c0 hs0
          clear hr5
          go_wp2_with (at_builtin; refine wpList_append_own _ rfl _ _ 30 rfl B 9 iS (.string ByteArray.empty) 1 16 Tryz.undS HI.out HZ0.out HZ1.out HZ2.out rfl (by decide) _ us.length _ rfl (HD.out.alloc _).own ⟨wr.heap.size, 0, none⟩ 1 1 [.string s] rfl rfl (one_new wr (.string s) 9) one_cell (by unfold maxLen; omega) (by omega) (by have := HD.out.ble; rw [heapsize_alloc]; omega) ?_)
          intro v' w6 ho' hg' _
          have H6 := Lib.hid ((HD.out.alloc _).app s hs0 ho' hg')
          obtain ⟨A6, cap6, e6, _⟩ := ownsRow_rd ho'
          subst e6
          clear ho' hg'
          go_wp2_with fail
          go_roundw
          case rel => exact ⟨us ++ [s], by simp, by simp; omega, H6.out⟩
          case measure => simp [to67]; omega
        · go_wp2_with fail
          go_ret2
          exact FIN.out _ _ _ _ HD.out (by omega)
    · have hyb : ((y : Int) == 0) = false := by rw [beq_eq_false_iff_ne]; omega
      clear hy0
      go_wp2_with fail
      go_ret2
      exact FIN.out _ _ _ _ H4.out (by omega)

/-- a book and a string were drawn -/
def BookText (n : Nat) (w : World) (e : Ending) (w' : World) : Prop :=
  ∃ A cap es s, e = .returned (.tuple #[.slice A es.length cap, .string s]) ∧ Rd w' w'.heap.size A (entV es) ∧ es.length ≤ cap ∧ (∀ e ∈ es, e.1.size ≤ maxLen ∧ e.2.size ≤ maxLen) ∧ es.length ≤ 100 ∧ s.size ≤ n ∧ Below w.heap.size w w'
theorem DS.text {w w' : World} {N n : Nat} {v : Value} {es : List (ByteArray × ByteArray)} (h : DS w w.heap.size N v es w') (hl : es.length ≤ 100) (s : ByteArray) (hs : s.size ≤ n) : BookText n w (.returned (.tuple #[v, .string s])) w' := by
  obtain ⟨A1, c1, e1, l1, m1, r1⟩ := h.bk.rd
  exact ⟨A1, c1, es, s, by rw [e1], r1, l1, fun e he => ⟨Nat.le_trans (h.bk.2 e he).1 (by decide), Nat.le_trans (h.bk.2 e he).2 (by decide)⟩, hl, hs, h.bel⟩
























































































theorem results_tmp4 {fn : Func} {t u v x : Tmp} (h : fn.results = #[.tmp t, .tmp u, .tmp v, .tmp x]) (tmps : Array Value) (P : Program) (w : World) :
    (results fn tmps).run P w = .ok (.tuple #[tmps.getD t undef, tmps.getD u undef, tmps.getD v undef, tmps.getD x undef]) w := by
  simp [results, h]

/-- a book, words, a sheet and a place in it were drawn -/
def BookSheet (w : World) (e : Ending) (w' : World) : Prop :=
  ∃ A cap es A2 cap2 ws sheet st, e = .returned (.tuple #[.slice A es.length cap, .slice A2 ws.length cap2, .string sheet, .int .i64 st]) ∧ Rd w' w'.heap.size A (entV es) ∧ es.length ≤ cap ∧ (∀ e ∈ es, e.1.size ≤ maxLen ∧ e.2.size ≤ maxLen) ∧ es.length ≤ 100 ∧
    Rd w' w'.heap.size A2 (strV ws) ∧ ws.length ≤ cap2 ∧ (∀ s ∈ ws, s.size ≤ maxLen) ∧ ws.length ≤ 100 ∧ cap2 ≤ maxLen ∧ sheet.size ≤ 1000 ∧ (0 ≤ st ∧ st ≤ 100) ∧ Below w.heap.size w w'
theorem DSW.sheet {w w' : World} {N B : Nat} {v v2 : Value} {es : List (ByteArray × ByteArray)} {ws : List ByteArray} (h : DSW w w.heap.size N B v es v2 ws w') (hl : es.length ≤ 100) (hl2 : ws.length ≤ 100) (sheet : ByteArray) (st : Int) (hs : sheet.size ≤ 1000) (h0 : 0 ≤ st) (h1 : st ≤ 100) :
    BookSheet w (.returned (.tuple #[v, v2, .string sheet, .int .i64 st])) w' := by
  obtain ⟨A1, c1, e1, l1, m1, r1⟩ := h.ds.bk.rd
  obtain ⟨A2, c2, e2, l2, m2, r2⟩ := ownsRow_rd h.own
  exact ⟨A1, c1, es, A2, c2, ws, sheet, st, by rw [e1, e2], r1, l1, fun e he => ⟨Nat.le_trans (h.ds.bk.2 e he).1 (by decide), Nat.le_trans (h.ds.bk.2 e he).2 (by decide)⟩, hl, r2, l2, fun s hs => Nat.le_trans (h.siz s hs) (by decide), hl2, m2, hs, ⟨h0, h1⟩, h.ds.bel⟩




















































end Go.Proofs.YteeeaeidocalnaaGreatDoor
