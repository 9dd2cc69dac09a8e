/-
  Contracts of the drawing of books: l19Some, l19Bad, l19Open. No conditions but those that each theorem names.
-/
import Derived.Test.YteeeaeidocalnaaGreatDoorBook
import Derived.Test.YteeeaeidocalnaaGreatDoorDraw
namespace Go.Proofs.YteeeaeidocalnaaGreatDoor
open Go.RowKit Pl
set_option linter.unusedVariables false

theorem Rdr.keep {w w' : World} {R N : Nat} (h : Rdr w R N) (hk : Below (R + 1) w w') : Rdr w' R N := by
  obtain ⟨A, cap, p, bs, hb', hp, h1, h2, h3⟩ := h
  exact ⟨A, cap, p, bs, (hk.block R (by omega)).trans hb', hp, h1, h2, h3.keep fun k hk' => hk.block k (by omega)⟩

/-- v is a slice behind block R that holds the entries es, all of them short -/
def EBk (w : World) (R : Nat) (v : Value) (es : List (ByteArray × ByteArray)) : Prop :=
  w.ownsRow (R + 1) 77 2 v es.length (entV es) ∧ ∀ e ∈ es, e.1.size ≤ 100 ∧ e.2.size ≤ 100

theorem EBk.only {w w' : World} {R : Nat} {v : Value} {es : List (ByteArray × ByteArray)} (h : EBk w R v es) (hg : w.grownBy w' (some R)) : EBk w' R v es :=
  ⟨h.1.kept hg (by
    cases hv : v.ownBlock with
    | none => exact .inl rfl
    | some k => exact .inr (by have := (h.1.lt k hv).1; intro e; injection e with e; omega)), h.2⟩
theorem EBk.below {w w' : World} {R : Nat} {v : Value} {es : List (ByteArray × ByteArray)} (h : EBk w R v es) (hb : Below w.heap.size w w') : EBk w' R v es := ⟨ownsRow_below h.1 hb, h.2⟩
theorem EBk.alloc {w : World} {R : Nat} {v : Value} {es : List (ByteArray × ByteArray)} (h : EBk w R v es) (o : Obj) : EBk (w.alloc o) R v es := ⟨h.1.alloc o, h.2⟩
theorem entV_append (a b : List (ByteArray × ByteArray)) : entV (a ++ b) = entV a ++ entV b := by simp [entV]
theorem EBk.put {w w' : World} {R : Nat} {v v' : Value} {es : List (ByteArray × ByteArray)} (h : EBk w R v es) (e : ByteArray × ByteArray) (h1 : e.1.size ≤ 100) (h2 : e.2.size ≤ 100)
    (ho : w'.ownsRow (R + 1) 77 2 v' (es.length + 1) (entV es ++ [.string e.1, .string e.2])) : EBk w' R v' (es ++ [e]) := by
  refine ⟨?_, ?_⟩
  · rw [entV_append, List.length_append]; exact ho
  · intro x hx
    rw [List.mem_append] at hx
    rcases hx with hx | hx
    · exact h.2 x hx
    · simp at hx; subst hx; exact ⟨h1, h2⟩
theorem entV_set1 (es : List (ByteArray × ByteArray)) (k : Nat) (hk : k < es.length) (s : ByteArray) : (entV es).set (k * 2) (.string s) = entV (es.set k (s, es[k].2)) := by
  refine entV_of (by rw [List.length_set, length_entV, List.length_set]; omega) fun j hj => ?_
  have hj' : j < es.length := by rw [List.length_set] at hj; exact hj
  have hlen := length_entV es
  by_cases hjk : j = k
  · subst hjk
    rw [Nat.mul_comm j 2, List.getElem?_set_self (by omega), List.getElem?_set_ne (by omega), (entV_at es j hj').2]
    simp
  · rw [List.getElem?_set_ne (by omega), List.getElem?_set_ne (by omega), (entV_at es j hj').1, (entV_at es j hj').2]
    simp [Ne.symm hjk]
theorem entV_set2 (es : List (ByteArray × ByteArray)) (k : Nat) (hk : k < es.length) (s : ByteArray) : (entV es).set (k * 2 + 1) (.string s) = entV (es.set k (es[k].1, s)) := by
  refine entV_of (by rw [List.length_set, length_entV, List.length_set]; omega) fun j hj => ?_
  have hj' : j < es.length := by rw [List.length_set] at hj; exact hj
  have hlen := length_entV es
  by_cases hjk : j = k
  · subst hjk
    rw [Nat.mul_comm j 2, List.getElem?_set_self (by omega), List.getElem?_set_ne (by omega), (entV_at es j hj').1]
    simp
  · rw [List.getElem?_set_ne (by omega), List.getElem?_set_ne (by omega), (entV_at es j hj').1, (entV_at es j hj').2]
    simp [Ne.symm hjk]

/-- an entry of the slice: where it lies, and what a store to one of its two cells does -/
theorem EBk.at {w : World} {R : Nat} {v : Value} {es : List (ByteArray × ByteArray)} (h : EBk w R v es) {k : Nat} (hk : k < es.length) :
    ∃ g cap, v = .slice (some ⟨g, 0, none⟩) es.length cap ∧ R < g ∧ es.length ≤ cap ∧ w.cell? ⟨g, k * 2, none⟩ = some (.string es[k].1) ∧ w.cell? ⟨g, k * 2 + 1, none⟩ = some (.string es[k].2) ∧
      w.frozen? ⟨g, k * 2, none⟩ = false ∧ w.frozen? ⟨g, k * 2 + 1, none⟩ = false ∧
      (∀ s : ByteArray, s.size ≤ 100 → EBk (w.setCell ⟨g, k * 2, none⟩ (.string s)) R v (es.set k (s, es[k].2)) ∧ Below (R + 1) w (w.setCell ⟨g, k * 2, none⟩ (.string s))) ∧
      (∀ s : ByteArray, s.size ≤ 100 → EBk (w.setCell ⟨g, k * 2 + 1, none⟩ (.string s)) R v (es.set k (es[k].1, s)) ∧ Below (R + 1) w (w.setCell ⟨g, k * 2 + 1, none⟩ (.string s))) := by
  have h0 := h
  obtain ⟨⟨hx, ⟨_, h3⟩ | ⟨g, cap, cur, rfl, hg, hrest⟩⟩, hsz⟩ := h
  · omega
  · have ho := h0.1
    have hlen := length_entV es
    have key : ∀ (x : ByteArray × ByteArray), x.1.size ≤ 100 → x.2.size ≤ 100 → ∀ e ∈ es.set k x, e.1.size ≤ 100 ∧ e.2.size ≤ 100 := by
      intro x x1 x2 e he
      rcases List.mem_or_eq_of_mem_set he with he | rfl
      · exact hsz e he
      · exact ⟨x1, x2⟩
    have hek := hsz _ (List.getElem_mem hk)
    refine ⟨g, cap, rfl, by omega, hrest.2.1, ?_, ?_, ho.frozenAt _, ho.frozenAt _, fun s hs => ⟨⟨?_, key _ hs hek.2⟩, ?_⟩, fun s hs => ⟨⟨?_, key _ hek.1 hs⟩, ?_⟩⟩
    · rw [ho.cellAt _ (by omega), Nat.mul_comm k 2, (entV_at es k hk).1]
    · rw [ho.cellAt _ (by omega), Nat.mul_comm k 2, (entV_at es k hk).2]
    · have := (ho.stored (k * 2) (.string s)).1
      rw [entV_set1 es k hk] at this
      rw [List.length_set]; exact this
    · exact (Below.refl _ _).setCell (by exact hg) _
    · have := (ho.stored (k * 2 + 1) (.string s)).1
      rw [entV_set2 es k hk] at this
      rw [List.length_set]; exact this
    · exact (Below.refl _ _).setCell (by exact hg) _
theorem EBk.rd {w : World} {R : Nat} {v : Value} {es : List (ByteArray × ByteArray)} (h : EBk w R v es) : ∃ A cap, v = .slice A es.length cap ∧ es.length ≤ cap ∧ cap ≤ maxLen ∧ Rd w w.heap.size A (entV es) := ownsRow_rd h.1

/-- a book was drawn: behind block R, at most n entries; the reader has read at most N bytes; below R nothing is changed -/
def BookDrawn (w : World) (R N n : Nat) (e : Ending) (w' : World) : Prop :=
  ∃ v es, e = .returned v ∧ EBk w' R v es ∧ es.length ≤ n ∧ Rdr w' R N ∧ Below R w w'

/-- the state of a drawing: the reader in block R, a book behind it, and what was below R at first -/
structure DS (w0 : World) (R N : Nat) (v : Value) (es : List (ByteArray × ByteArray)) (w : World) : Prop where
  rdr : Rdr w R N
  bk : EBk w R v es
  bel : Below R w0 w
section
variable {w0 w w' : World} {R N N' : Nat} {v v' : Value} {es es' : List (ByteArray × ByteArray)}
theorem DS.lt (h : DS w0 R N v es w) : R < w.heap.size := h.rdr.lt
theorem DS.only (h : DS w0 R N v es w) (hr : Rdr w' R N') (hg : w.grownBy w' (some R)) : DS w0 R N' v es w' :=
  ⟨hr, h.bk.only hg, h.bel.trans (below_of_only hg (Nat.le_of_lt h.lt) (Nat.le_refl _))⟩
theorem DS.below (h : DS w0 R N v es w) (hb : Below w.heap.size w w') : DS w0 R N v es w' :=
  ⟨h.rdr.below hb, h.bk.below hb, h.bel.trans (hb.mono (Nat.le_of_lt h.lt))⟩
theorem DS.alloc (h : DS w0 R N v es w) (o : Obj) : DS w0 R N v es (w.alloc o) := h.below ((Below.refl _ _).alloc (Nat.le_refl _) o)
theorem DS.drew (h : DS w0 R N v es w) : DS w0 R N v es w.drew := h.below (Below.refl _ _).drew
theorem DS.mono (h : DS w0 R N v es w) (hN : N ≤ N') : DS w0 R N' v es w := ⟨h.rdr.mono hN, h.bk, h.bel⟩
theorem DS.own (h : DS w0 R N v es w) (hb : Below (R + 1) w w') (hk : EBk w' R v' es') : DS w0 R N v' es' w' := ⟨h.rdr.keep hb, hk, h.bel.trans (hb.mono (Nat.le_succ _))⟩
/-- behind an append of one entry -/
theorem DS.app (h : DS w0 R N v es w) (e : ByteArray × ByteArray) (h1 : e.1.size ≤ 100) (h2 : e.2.size ≤ 100)
    (ho : w'.ownsRow (R + 1) 77 2 v' (es.length + 1) (entV es ++ [.string e.1, .string e.2])) (hg : w.grownBy w' v.ownBlock) : DS w0 R N v' (es ++ [e]) w' :=
  h.own ((Below.refl _ _).grown hg h.lt fun k e => (h.bk.1.lt k e).1) (h.bk.put e h1 h2 ho)
end

theorem l1Some_is (w : World) (R N n : Nat) (m : Int) (hm : m = (n : Int)) (h : Rdr w R N) (hN : N + n ≤ 1000000000) (hn : n ≤ 1000000) :
    Calls Tryz.prog 46 #[.pointer (some ⟨R, 0, none⟩), .int .i64 m] w fun e w' => ∃ l : List UInt8, e = .returned (.string (mk l)) ∧ l.length = n ∧ l.all isL = true ∧ Rdr w' R (N + n) ∧ w.grownBy w' (some R) := by
  subst hm; exact l1Some_any w R N n h hN hn

theorem heapsize_alloc (w : World) (o : Obj) : (w.alloc o).heap.size = w.heap.size + 1 := by simp
theorem two_cell {s t : ByteArray} : ∀ u ∈ [Value.string s, Value.string t], u.oneCell' = true := by
  intro u hu; simp at hu; rcases hu with rfl | rfl <;> rfl

set_option maxHeartbeats 4000000 in
set_option maxRecDepth 100000 in
theorem l19Some_any (w : World) (R N : Nat) (h : Rdr w R N) (hN : N ≤ 100000) :
    Calls Tryz.prog 62 #[.pointer (some ⟨R, 0, none⟩)] w (BookDrawn w R (N + 100) 8) := by
  obtain ⟨iE, hi, hz0, hz1, hz2⟩ := info_parts Tryz.infoE
  have HI := Lib.hid hi; have HZ0 := Lib.hid hz0; have HZ1 := Lib.hid hz1; have HZ2 := Lib.hid hz2
  clear hi hz0 hz1 hz2
  have hlt := h.lt
  have h0 : DS w R N (.slice (some ⟨w.heap.size, 0, none⟩) 0 0) [] (w.alloc (.cells #[] 77)) :=
    ⟨h.alloc _, ⟨World.ownsRow_made w #[] 0 (by omega) (by decide) rfl, by simp⟩, (Below.refl _ _).alloc (by omega) _⟩
  have H0 := Lib.hid h0; clear h0 h
  go_enter Tryz.func62, Tryz.ntmps62
  go_wp2_with fail
  refine (pick_pos _ R N _ H0.out.rdr (by omega) (by omega) (by omega)).mono ?_
  rintro e w1 ⟨x, rfl, hx, hr1, ho1⟩
  have H1 := Lib.hid (H0.out.only hr1 ho1); clear hr1 ho1 H0
  go_wp2_with fail
  go_loopw [3, 4] (fun v i wr => ∃ (k : Nat) (es : List (ByteArray × ByteArray)), k ≤ 8 ∧ i = .int .i64 k ∧ es.length + k ≤ 8 ∧ DS w R (N + 1 + 7 * (8 - k)) v es wr) (fun _ i _ => (intOf i).toNat)
  case atStart => exact ⟨x, [], by omega, rfl, by simp; omega, H1.out.mono (by omega)⟩
  case round =>
    obtain ⟨k, es, hk, rfl, hes, hds⟩ := hrel
    have HD := Lib.hid hds; clear hds H1
    obtain ⟨A, cap, rfl, hcap, hcm, hrd⟩ := HD.out.bk.rd
    clear hrd
    by_cases hpos : 0 < k
    · go_wp2_with fail
      refine (pick_pos _ R _ _ HD.out.rdr (by omega) (by omega) (by omega)).mono ?_
      rintro e w2 ⟨y, rfl, hy, hr2, ho2⟩
      have H2 := Lib.hid (HD.out.only hr2 ho2); clear hr2 ho2
      go_wp2_with fail
      refine (l1Some_is _ R _ (1 + y) _ (by omega) H2.out.rdr (by omega) (by omega)).mono ?_
      rintro e w3 ⟨l3, rfl, hl3, _, hr3, ho3⟩
      have H3 := Lib.hid (H2.out.only hr3 ho3); clear hr3 ho3 H2
      go_wp2_with fail
      refine (l1Some_is _ R _ 3 _ rfl H3.out.rdr (by omega) (by omega)).mono ?_
      rintro e w4 ⟨l4, rfl, hl4, _, hr4, ho4⟩
      have H4 := Lib.hid ((H3.out.only hr4 ho4).alloc (.cells #[.string (mk l3), .string (mk l4)] 77)); clear hr4 ho4 H3
      have hs3 : (mk l3).size ≤ 100 := by rw [size_mk]; omega
      have hs4 : (mk l4).size ≤ 100 := by rw [size_mk]; omega
      clear hl3 hl4
      generalize mk l3 = s3 at *
      generalize mk l4 = s4 at *
      obtain ⟨A', cap', hA', hcap', hcm', hrd'⟩ := H4.out.bk.rd
      simp only [Value.slice.injEq] at hA'
      obtain ⟨rfl, _, rfl⟩ := hA'
      have HRD := Lib.hid hrd'; clear hrd' hcap' hcm'
      obtain ⟨f1, hf1⟩ : ∃ f, f = firstOf (fun e : ByteArray × ByteArray => decide (e.1 = s3)) es := ⟨_, rfl⟩
      obtain ⟨f2, hf2⟩ : ∃ f, f = firstOf (fun e : ByteArray × ByteArray => decide (e.2 = s4)) es := ⟨_, rfl⟩
      have HF1 := Lib.hid hf1; have HF2 := Lib.hid hf2; clear hf1 hf2
      by_cases h1 : f1 < 0
      · have h1b : decide (f1 < 0) = true := decide_eq_true h1
        clear h1
        by_cases h2 : f2 < 0
        · have h2b : decide (f2 < 0) = true := decide_eq_true h2
          clear h2
          go_wp2_with fail
          refine (l19Index_any _ _ _ cap es s3 HRD.out hcap (by omega)).mono ?_
          rintro _ _ ⟨rfl, rfl⟩
          rw [← HF1.out]
          go_wp2_with fail
          refine (l19Coded_any _ _ _ cap es s4 HRD.out hcap (by omega)).mono ?_
          rintro _ _ ⟨rfl, rfl⟩
          rw [← HF2.out]
          clear HF1 HF2
          go_wp2_with (at_builtin; refine wpList_append_own _ rfl _ _ 29 rfl (R + 1) 77 iE (.agg #[.string ByteArray.empty, .string ByteArray.empty]) 2 32 Tryz.undE HI.out HZ0.out HZ1.out HZ2.out rfl (by decide) _ es.length _ rfl (H4.out.alloc _).bk.1 ⟨w4.heap.size + 1, 0, none⟩ 1 1 [.string s3, .string s4] rfl rfl (by have := cell_two_new (w4.alloc (.cells #[.string s3, .string s4] 77)) (.string s3) (.string s4) 77; simpa using this) two_cell (by unfold maxLen; omega) (by omega) (by have := H4.out.lt; rw [heapsize_alloc] at this ⊢; rw [heapsize_alloc]; omega) ?_)
          intro v' w6 ho' hg' _
          have H6 := Lib.hid ((H4.out.alloc _).app (s3, s4) hs3 hs4 ho' hg'); clear ho' hg' H4 HRD
          go_wp2_with fail
          go_roundw
          case rel => exact ⟨k - 1, es ++ [(s3, s4)], by omega, by go_num, by simp; omega, H6.out.mono (by omega)⟩
          case measure => simp [intOf]; omega
        · have h2b : decide (f2 < 0) = false := decide_eq_false h2
          clear h2
          go_wp2_with fail
          refine (l19Index_any _ _ _ cap es s3 HRD.out hcap (by omega)).mono ?_
          rintro _ _ ⟨rfl, rfl⟩
          rw [← HF1.out]
          go_wp2_with fail
          refine (l19Coded_any _ _ _ cap es s4 HRD.out hcap (by omega)).mono ?_
          rintro _ _ ⟨rfl, rfl⟩
          rw [← HF2.out]
          clear HF1 HF2
          go_wp2_with fail
          go_roundw
          case rel => exact ⟨k - 1, es, by omega, by go_num, by omega, H4.out.mono (by omega)⟩
          case measure => simp [intOf]; omega
      · have h1b : decide (f1 < 0) = false := decide_eq_false h1
        clear h1
        go_wp2_with fail
        refine (l19Index_any _ _ _ cap es s3 HRD.out hcap (by omega)).mono ?_
        rintro _ _ ⟨rfl, rfl⟩
        rw [← HF1.out]
        clear HF1 HF2
        go_wp2_with fail
        go_roundw
        case rel => exact ⟨k - 1, es, by omega, by go_num, by omega, H4.out.mono (by omega)⟩
        case measure => simp [intOf]; omega
    · have hk0 : k = 0 := by omega
      subst hk0
      clear hpos
      go_wp2_with fail
      refine (pick_pos _ R _ _ HD.out.rdr (by omega) (by omega) (by omega)).mono ?_
      rintro e w2 ⟨y, rfl, hy, hr2, ho2⟩
      have H2 := Lib.hid (HD.out.only hr2 ho2); clear hr2 ho2 HD
      by_cases hy0 : y = 0
      · subst hy0
        go_wp2_with fail
        obtain ⟨M, hM, HM⟩ : ∃ M, M ≤ N + 100 ∧ Hid (DS w R M (.slice A es.length cap) es w2) := ⟨_, by omega, H2⟩
        clear H2
        go_loopw [6] (fun i wr => ∃ (k : Nat) (fs : List (ByteArray × ByteArray)), k ≤ es.length ∧ i = .int .i64 k ∧ fs.length = es.length ∧ DS w R M (.slice A es.length cap) fs wr) (fun i _ => es.length - (intOf i).toNat)
        case atStart => exact ⟨0, es, Nat.zero_le _, rfl, rfl, HM.out⟩
        case round =>
          obtain ⟨j, fs, hj, rfl, hfs, hds⟩ := hrel
          have HD := Lib.hid hds; clear hds HM
          by_cases hlt2 : j < es.length
          · go_wp2_with fail
            refine (l1Letter_any _ _ (by omega)).mono ?_
            rintro e w3 ⟨rfl, hb3⟩
            have H3 := Lib.hid (HD.out.below hb3); clear hb3 HD
            have hjf : j < fs.length := by omega
            obtain ⟨g, cap', hv, hRg, hcl, c0, c1, f0, f1, k0, k1⟩ := H3.out.bk.at hjf
            rw [hfs] at hv
            simp only [Value.slice.injEq] at hv
            obtain ⟨rfl, _, rfl⟩ := hv
            have q1 := k0 (mk [letter ((j : Int) % 10).toNat]) (by rw [size_mk]; simp)
            have Q1 := Lib.hid (H3.out.own (v' := .slice (some ⟨g, 0, none⟩) es.length cap) (by exact q1.2) q1.1); clear q1 k0 k1 c1 f1
            generalize mk [letter ((j : Int) % 10).toNat] = s1 at Q1 ⊢
            generalize fs[j] = e0 at c0 Q1
            have HFS := Lib.hid hfs; clear hjf hcl hfs
            go_wp2_with fail
            obtain ⟨w4, hw4⟩ : ∃ w4, w4 = w3.setCell ⟨g, j * 2, none⟩ (.string s1) := ⟨_, rfl⟩
            rw [← hw4] at Q1 ⊢
            clear hw4 c0 f0 H3
            refine (l1Letter_any _ _ (by omega)).mono ?_
            rintro e w5 ⟨rfl, hb5⟩
            have Q5 := Lib.hid (Q1.out.below hb5); clear hb5 Q1
            generalize hA1 : mk [letter ((j : Int) / 3 % 10).toNat] = a1
            have ha1 : a1.size ≤ 1 := by rw [← hA1, size_mk]; simp
            clear hA1
            go_wp2_with fail
            refine (l1Letter_any _ _ (by omega)).mono ?_
            rintro e w6 ⟨rfl, hb6⟩
            have Q6 := Lib.hid (Q5.out.below hb6); clear hb6 Q5
            generalize hA2 : mk [letter ((j : Int) % 3 % 10).toNat] = a2
            have ha2 : a2.size ≤ 1 := by rw [← hA2, size_mk]; simp
            clear hA2
            have hjf : j < (fs.set j (s1, e0.2)).length := by rw [List.length_set, HFS.out]; exact hlt2
            obtain ⟨g', cap', hv, hRg', hcl, c0, c1, f0, f1, k0, k1⟩ := Q6.out.bk.at hjf
            rw [List.length_set, HFS.out] at hv
            simp only [Value.slice.injEq] at hv
            obtain ⟨hg', _, rfl⟩ := hv
            obtain rfl : g = g' := by injection hg' with hg'; injection hg'
            have hz3 : (mk [97]).size = 1 := rfl
            have q1 := k1 (mk [97] ++ a1 ++ a2) (by simp [ByteArray.size_append]; omega)
            have Q7 := Lib.hid (Q6.out.own (v' := .slice (some ⟨g, 0, none⟩) es.length cap) (by exact q1.2) q1.1); clear q1 k0 k1 c0 f0 Q6
            generalize (fs.set j (s1, e0.2))[j] = e1 at c1 Q7
            have hfl : ((fs.set j (s1, e0.2)).set j (e1.1, mk [97] ++ a1 ++ a2)).length = es.length := by rw [List.length_set, List.length_set, HFS.out]
            generalize (fs.set j (s1, e0.2)).set j (e1.1, mk [97] ++ a1 ++ a2) = fs' at Q7 hfl
            have HFL := Lib.hid hfl; clear hfl hjf hcl hg'
            go_wp2_with fail
            go_roundw
            case rel => exact ⟨j + 1, fs', by omega, by go_num, HFL.out, Q7.out⟩
            case measure => simp [intOf]; omega
          · go_wp2_with fail
            go_ret
            exact ⟨_, fs, rfl, HD.out.bk, by omega, HD.out.rdr.mono hM, HD.out.bel⟩
      · have hyb : ((y : Int) == 0) = false := by rw [beq_eq_false_iff_ne]; omega
        go_wp2_with fail
        go_ret
        exact ⟨_, es, rfl, H2.out.bk, by omega, H2.out.rdr.mono (by omega), H2.out.bel⟩

end Go.Proofs.YteeeaeidocalnaaGreatDoor
