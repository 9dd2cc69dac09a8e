/-
  Contracts of the drawing of books: l19Bad, l19Open, l19Words and the draws that use them. No conditions but those that each theorem names.
-/
import Derived.Test.YteeeaeidocalnaaGreatDoorDrawB
import Derived.Test.YteeeaeidocalnaaGreatDoorTexts
namespace Go.Proofs.YteeeaeidocalnaaGreatDoor
open Go.RowKit Pl
set_option linter.unusedVariables false

/-- behind a store to one of the two cells of an entry -/
theorem DS.at {w0 w : World} {R N : Nat} {v : Value} {es : List (ByteArray × ByteArray)} (h : DS w0 R N v es w) {k : Nat} (hk : k < es.length) :
    ∃ g cap, v = .slice (some ⟨g, 0, none⟩) es.length cap ∧ es.length ≤ cap ∧ w.cell? ⟨g, k * 2, none⟩ = some (.string es[k].1) ∧ w.cell? ⟨g, k * 2 + 1, none⟩ = some (.string es[k].2) ∧
      w.frozen? ⟨g, k * 2, none⟩ = false ∧ w.frozen? ⟨g, k * 2 + 1, none⟩ = false ∧
      (∀ s : ByteArray, s.size ≤ 100 → DS w0 R N v (es.set k (s, es[k].2)) (w.setCell ⟨g, k * 2, none⟩ (.string s))) ∧
      (∀ s : ByteArray, s.size ≤ 100 → DS w0 R N v (es.set k (es[k].1, s)) (w.setCell ⟨g, k * 2 + 1, none⟩ (.string s))) := by
  obtain ⟨g, cap, hv, hRg, hcl, c0, c1, f0, f1, k0, k1⟩ := h.bk.at hk
  exact ⟨g, cap, hv, hcl, c0, c1, f0, f1, fun s hs => h.own (k0 s hs).2 (k0 s hs).1, fun s hs => h.own (k1 s hs).2 (k1 s hs).1⟩

def Drawn (w0 : World) (R N n : Nat) (e : Ending) (w' : World) : Prop := ∃ v es, e = .returned v ∧ DS w0 R N v es w' ∧ es.length ≤ n

set_option maxHeartbeats 4000000 in
set_option maxRecDepth 100000 in
theorem l19Bad_any (w0 w : World) (R N : Nat) (v : Value) (es : List (ByteArray × ByteArray)) (h : DS w0 R N v es w) (hN : N ≤ 200000) (hl : es.length ≤ 100) :
    Calls Tryz.prog 61 #[.pointer (some ⟨R, 0, none⟩), v] w (Drawn w0 R (N + 3) (es.length + 1)) := by
  obtain ⟨iE, hi, hz0, hz1, hz2⟩ := info_parts Tryz.infoE
  have HI := Lib.hid hi; have HZ0 := Lib.hid hz0; have HZ1 := Lib.hid hz1; have HZ2 := Lib.hid hz2
  clear hi hz0 hz1 hz2
  obtain ⟨A, cap, rfl, hcap, _, _⟩ := h.bk.rd
  have HD := Lib.hid h; clear h
  by_cases he : es.length = 0
  · have hb : ((es.length : Int) == 0) = true := by rw [he]; rfl
    have fin : Drawn w0 R (N + 3) (es.length + 1) (.returned (.slice A es.length cap)) w := ⟨_, es, rfl, HD.out.mono (by omega), by omega⟩
    have FIN := Lib.hid fin; clear fin he
    go_enter Tryz.func61, Tryz.ntmps61
    go_wp2_with fail
    go_ret
    exact FIN.out
  · have hb : ((es.length : Int) == 0) = false := by rw [beq_eq_false_iff_ne]; omega
    have hpos : 0 < es.length := by omega
    clear he
    go_enter Tryz.func61, Tryz.ntmps61
    go_wp2_with fail
    refine (pick_pos _ R _ _ HD.out.rdr (by omega) (by omega) (by omega)).mono ?_
    rintro e w1 ⟨k, rfl, hk, hr1, ho1⟩
    have H1 := Lib.hid (HD.out.only hr1 ho1); clear hr1 ho1 HD
    have hke : k < es.length := by omega
    clear hk
    go_wp2_with fail
    refine (pick_pos _ R _ _ H1.out.rdr (by omega) (by omega) (by omega)).mono ?_
    rintro e w2 ⟨y, rfl, hy, hr2, ho2⟩
    have H2 := Lib.hid (H1.out.only hr2 ho2); clear hr2 ho2 H1
    obtain ⟨g, cap', hv, hcl, c0, c1, f0, f1, k0, k1⟩ := H2.out.at hke
    simp only [Value.slice.injEq] at hv
    obtain ⟨rfl, _, rfl⟩ := hv
    have K0 := Lib.hid k0; have K1 := Lib.hid k1; clear k0 k1
    have hsz := H2.out.bk.2 _ (List.getElem_mem hke)
    by_cases y0 : y = 0
    · subst y0
      generalize es[k] = e at c0 c1 hsz
      clear f0 f1 K0 K1
      go_wp2_with (at_builtin; refine wpList_append_own _ rfl _ _ 29 rfl (R + 1) 77 iE (.agg #[.string ByteArray.empty, .string ByteArray.empty]) 2 32 Tryz.undE HI.out HZ0.out HZ1.out HZ2.out rfl (by decide) _ es.length _ rfl (H2.out.alloc _).bk.1 ⟨w2.heap.size, 0, none⟩ 1 1 [.string e.1, .string e.2] rfl rfl (cell_two_new w2 (.string e.1) (.string e.2) 77) two_cell (by unfold maxLen; omega) (by omega) (by have := H2.out.lt; rw [heapsize_alloc]; omega) ?_)
      intro v' w6 ho' hg' _
      have H6 := Lib.hid ((H2.out.alloc _).app e hsz.1 hsz.2 ho' hg')
      obtain ⟨A6, n6, cap6, rfl⟩ : ∃ A n c, v' = .slice A n c := by
        obtain ⟨A6, cap6, e6, _⟩ := ownsRow_rd ho'; exact ⟨_, _, _, e6⟩
      clear ho' hg'
      go_wp2_with fail
      go_ret
      exact ⟨_, _, rfl, H6.out.mono (by omega), by simp⟩
    · have hb0 : ((y : Int) == 0) = false := by rw [beq_eq_false_iff_ne]; omega
      by_cases y1 : y = 1
      · subst y1
        clear hb0 y0
        go_wp2_with fail
        refine (of_any _ R _ w2.heap.size 4 [mk [], mk [97, 98], mk [97, 98, 107], mk [97, 98, 99, 100]] (H2.out.rdr.alloc _) (by omega) (by simp) (by simp) (heap_alloc_new _ _)).mono ?_
        rintro e w3 ⟨t, ht, rfl, hr3, ho3⟩
        have htz : t.size ≤ 100 := by
          simp at ht; rcases ht with rfl | rfl | rfl | rfl <;> simp [size_mk]
        have H3 := Lib.hid ((H2.out.alloc (.cells #[.string (mk []), .string (mk [97, 98]), .string (mk [97, 98, 107]), .string (mk [97, 98, 99, 100])] 9)).only hr3 ho3); clear hr3 ho3 ht c0 c1 f0 f1 K0 K1
        obtain ⟨g', cap', hv, hcl', c0, c1, f0, f1, k0, k1⟩ := H3.out.at hke
        simp only [Value.slice.injEq, Option.some.injEq, Addr.mk.injEq] at hv
        obtain ⟨⟨rfl, _⟩, _, rfl⟩ := hv
        have Q := Lib.hid (k1 t htz); clear k0 k1 c0 f0
        generalize es[k] = e0 at c1 Q hsz
        go_wp2_with fail
        go_ret
        exact ⟨_, _, rfl, Q.out.mono (by omega), by simp⟩
      · have hb1 : ((y : Int) == 1) = false := by rw [beq_eq_false_iff_ne]; omega
        by_cases y2 : y = 2
        · subst y2
          clear hb0 y0 hb1 y1
          go_wp2_with fail
          refine (of_any _ R _ w2.heap.size 3 [mk [], mk [107], mk [97, 98, 99, 100, 101, 102, 103, 104, 105]] (H2.out.rdr.alloc _) (by omega) (by simp) (by simp) (heap_alloc_new _ _)).mono ?_
          rintro e w3 ⟨t, ht, rfl, hr3, ho3⟩
          have htz : t.size ≤ 100 := by
            simp at ht; rcases ht with rfl | rfl | rfl <;> simp [size_mk]
          have H3 := Lib.hid ((H2.out.alloc (.cells #[.string (mk []), .string (mk [107]), .string (mk [97, 98, 99, 100, 101, 102, 103, 104, 105])] 9)).only hr3 ho3); clear hr3 ho3 ht c0 c1 f0 f1 K0 K1
          obtain ⟨g', cap', hv, hcl', c0, c1, f0, f1, k0, k1⟩ := H3.out.at hke
          simp only [Value.slice.injEq, Option.some.injEq, Addr.mk.injEq] at hv
          obtain ⟨⟨rfl, _⟩, _, rfl⟩ := hv
          have Q := Lib.hid (k0 t htz); clear k0 k1 c1 f1
          generalize es[k] = e0 at c0 Q hsz
          go_wp2_with fail
          go_ret
          exact ⟨_, _, rfl, Q.out.mono (by omega), by simp⟩
        · have hb2 : ((y : Int) == 2) = false := by rw [beq_eq_false_iff_ne]; omega
          by_cases y3 : y = 3
          · subst y3
            clear hb0 y0 hb1 y1 hb2 y2
            obtain ⟨g', cap', hv, hcl', _, c9, _⟩ := H2.out.at hpos
            simp only [Value.slice.injEq, Option.some.injEq, Addr.mk.injEq] at hv
            obtain ⟨⟨rfl, _⟩, _, rfl⟩ := hv
            have hs0 := (H2.out.bk.2 _ (List.getElem_mem hpos)).2
            rw [Nat.zero_mul, Nat.zero_add] at c9
            have Q := Lib.hid (K1.out _ hs0); clear K0 K1 c0 f0
            generalize es[k] = e0 at c1 Q hsz
            generalize es[0] = e1 at c9 Q hs0
            go_wp2_with fail
            go_ret
            exact ⟨_, _, rfl, Q.out.mono (by omega), by simp⟩
          · have hb3 : ((y : Int) == 3) = false := by rw [beq_eq_false_iff_ne]; omega
            clear c0 c1 f0 f1 K0 K1
            go_wp2_with fail
            go_ret
            exact ⟨_, es, rfl, H2.out.mono (by omega), by omega⟩

theorem l19Open_any (w : World) (R N : Nat) (h : Rdr w R N) (hN : N ≤ 100000) :
    Calls Tryz.prog 35 #[.pointer (some ⟨R, 0, none⟩)] w (Drawn w R (N + 103) 9) := by
  go_enter Tryz.func35, Tryz.ntmps35
  go_wp2_with fail
  refine (l19Some_any w R N h hN).mono ?_
  rintro e w1 ⟨v, es, rfl, hbk, hl, hr, hb⟩
  have HD := Lib.hid (show DS w R (N + 100) v es w1 from ⟨hr, hbk, hb⟩); clear hr hbk hb h
  obtain ⟨A, cap, rfl, _⟩ := HD.out.bk.rd
  go_wp2_with fail
  refine (l19Bad_any w w1 R (N + 100) _ es HD.out (by omega) (by omega)).mono ?_
  rintro e w2 ⟨v2, es2, rfl, hd2, hl2⟩
  obtain ⟨A2, cap2, rfl, _⟩ := hd2.bk.rd
  have HD2 := Lib.hid hd2; clear hd2
  go_wp2_with fail
  go_ret
  exact ⟨_, es2, rfl, HD2.out.mono (by omega), by omega⟩

end Go.Proofs.YteeeaeidocalnaaGreatDoor
