/-
  Contracts of the draws of a book and a string. No conditions but those that each theorem names.
-/
import Derived.Test.YtggecpiiphjnaaaDrawC
namespace Go.Proofs.Ytggecpiiphjnaaa
open Go.RowKit Pl
set_option linter.unusedVariables false

theorem DS.base {w0 w1 w : World} {R N : Nat} {v : Value} {es : List (ByteArray × ByteArray)} (h : DS w1 R N v es w) (hb : Below R w0 w1) : DS w0 R N v es w := ⟨h.rdr, h.bk, hb.trans h.bel⟩
theorem DS.cell0 {w0 w : World} {R N g n cap : Nat} {es : List (ByteArray × ByteArray)} (h : DS w0 R N (.slice (some ⟨g, 0, none⟩) n cap) es w) {k : Nat} (hk : k < es.length) : ∃ s : ByteArray, w.cell? ⟨g, k * 2, none⟩ = some (.string s) ∧ s.size ≤ 100 := by
  obtain ⟨g', cap', hv, _, c0, c1, _⟩ := h.at hk
  simp only [Value.slice.injEq, Option.some.injEq, Addr.mk.injEq] at hv
  obtain ⟨⟨rfl, _⟩, _⟩ := hv
  exact ⟨_, c0, (h.bk.2 _ (List.getElem_mem hk)).1⟩
theorem DS.cell1 {w0 w : World} {R N g n cap : Nat} {es : List (ByteArray × ByteArray)} (h : DS w0 R N (.slice (some ⟨g, 0, none⟩) n cap) es w) {k : Nat} (hk : k < es.length) : ∃ s : ByteArray, w.cell? ⟨g, k * 2 + 1, none⟩ = some (.string s) ∧ s.size ≤ 100 := by
  obtain ⟨g', cap', hv, _, c0, c1, _⟩ := h.at hk
  simp only [Value.slice.injEq, Option.some.injEq, Addr.mk.injEq] at hv
  obtain ⟨⟨rfl, _⟩, _⟩ := hv
  exact ⟨_, c1, (h.bk.2 _ (List.getElem_mem hk)).2⟩

/-- a book and a string were drawn -/
def BookStr (w : World) (e : Ending) (w' : World) : Prop :=
  ∃ v es s, e = .returned (.tuple #[v, .string s]) ∧ EBk w' w.heap.size v es ∧ es.length ≤ 9 ∧ s.size ≤ 100 ∧ Below w.heap.size w w'

set_option maxHeartbeats 4000000 in
set_option maxRecDepth 100000 in
theorem drawCodeOf_any (w : World) (A : Option Addr) (cap : Nat) (bs : List UInt8) (h : Rd w w.heap.size A (bytesV bs)) (hc : bs.length ≤ cap) :
    Calls Try.prog 34 #[.slice A bs.length cap] w (BookStr w) := by
  go_enter Try.func34, Try.ntmps34
  go_wp2_with fail
  refine (l21Open_any w A cap bs h hc).mono ?_
  rintro e w1 ⟨rfl, hr1, hb1, hs1⟩
  have HB1 := Lib.hid hb1; clear hb1 h
  obtain ⟨R, hR⟩ : ∃ R, R = w.heap.size := ⟨_, rfl⟩
  rw [← hR] at hr1 HB1 ⊢
  have HRE := Lib.hid hR; clear hR hs1
  go_wp2_with fail
  refine (l19Open_any w1 R 0 hr1 (by omega)).mono ?_
  rintro e w2 ⟨v, es, rfl, hd, hl⟩
  have H2 := Lib.hid (hd.base HB1.out); clear hd hr1
  have fin : ∀ (N : Nat) (s : ByteArray) (w' : World), DS w R N v es w' → s.size ≤ 100 → BookStr w (.returned (.tuple #[v, .string s])) w' := fun N s w' h1 h2 => ⟨v, es, s, rfl, HRE.out ▸ h1.bk, hl, h2, HRE.out ▸ h1.bel⟩
  have FIN := Lib.hid fin; clear fin
  obtain ⟨A2, cap2, rfl, hcap, _, _⟩ := H2.out.bk.rd
  by_cases he : es.length = 0
  · obtain rfl : es = [] := List.length_eq_zero_iff.1 he
    clear he
    go_wp2_with fail
    refine (l1Word_any _ R _ 3 H2.out.rdr (by omega) (by omega)).mono ?_
    rintro e w3 ⟨l, rfl, hll, _, hr3, ho3⟩
    have H3 := Lib.hid (H2.out.only hr3 ho3); clear hr3 ho3 H2
    go_wp2_with fail
    go_ret2
    exact FIN.out _ _ _ H3.out (by rw [size_mk]; omega)
  · have hpos : 0 < es.length := by omega
    clear he
    go_wp2_with fail
    refine (pick_pos _ R _ _ H2.out.rdr (by omega) (by omega) (by omega)).mono ?_
    rintro e w3 ⟨y, rfl, hy, hr3, ho3⟩
    have H3 := Lib.hid (H2.out.only hr3 ho3); clear hr3 ho3 H2
    by_cases hy0 : 0 < y
    · obtain ⟨g, cap', hv, _⟩ := H3.out.at hpos
      simp only [Value.slice.injEq] at hv
      obtain ⟨rfl, _, rfl⟩ := hv
      go_wp2_with fail
      go_region_with ((go_at_call 77; refine (pick_pos _ R _ _ (show Rdr w3.drew _ _ from H3.out.rdr) (by omega) (by omega) (by omega)).mono ?_; rintro e w5 ⟨x, rfl, hx, hr5, ho5⟩; obtain ⟨s, hc5, hs5⟩ := (H3.out.drew.only hr5 ho5).cell0 (show x < es.length by omega); have HD5 := Lib.hid (H3.out.drew.only hr5 ho5); clear hr5 ho5))
      all_goals
        go_wp2_with fail
        go_ret2
        exact FIN.out _ _ _ HD5.out (by assumption)
    · obtain rfl : y = 0 := by omega
      clear hy0
      go_wp2_with fail
      refine (l1Word_any _ R _ 3 H3.out.rdr (by omega) (by omega)).mono ?_
      rintro e w4 ⟨l, rfl, hll, _, hr4, ho4⟩
      have H4 := Lib.hid (H3.out.only hr4 ho4); clear hr4 ho4 H3
      go_wp2_with fail
      go_ret2
      exact FIN.out _ _ _ H4.out (by rw [size_mk]; omega)

set_option maxHeartbeats 4000000 in
set_option maxRecDepth 100000 in
theorem drawWordOf_any (w : World) (A : Option Addr) (cap : Nat) (bs : List UInt8) (h : Rd w w.heap.size A (bytesV bs)) (hc : bs.length ≤ cap) :
    Calls Try.prog 30 #[.slice A bs.length cap] w (BookStr w) := by
  go_enter Try.func30, Try.ntmps30
  go_wp2_with fail
  refine (l21Open_any w A cap bs h hc).mono ?_
  rintro e w1 ⟨rfl, hr1, hb1, hs1⟩
  have HB1 := Lib.hid hb1; clear hb1 h
  obtain ⟨R, hR⟩ : ∃ R, R = w.heap.size := ⟨_, rfl⟩
  rw [← hR] at hr1 HB1 ⊢
  have HRE := Lib.hid hR; clear hR hs1
  go_wp2_with fail
  refine (l19Open_any w1 R 0 hr1 (by omega)).mono ?_
  rintro e w2 ⟨v, es, rfl, hd, hl⟩
  have H2 := Lib.hid (hd.base HB1.out); clear hd hr1
  have fin : ∀ (N : Nat) (s : ByteArray) (w' : World), DS w R N v es w' → s.size ≤ 100 → BookStr w (.returned (.tuple #[v, .string s])) w' := fun N s w' h1 h2 => ⟨v, es, s, rfl, HRE.out ▸ h1.bk, hl, h2, HRE.out ▸ h1.bel⟩
  have FIN := Lib.hid fin; clear fin
  obtain ⟨A2, cap2, rfl, hcap, _, _⟩ := H2.out.bk.rd
  by_cases he : es.length = 0
  · obtain rfl : es = [] := List.length_eq_zero_iff.1 he
    clear he
    go_wp2_with fail
    refine (l1Word_any _ R _ 4 H2.out.rdr (by omega) (by omega)).mono ?_
    rintro e w3 ⟨l, rfl, hll, _, hr3, ho3⟩
    have H3 := Lib.hid (H2.out.only hr3 ho3); clear hr3 ho3 H2
    go_wp2_with fail
    go_ret2
    exact FIN.out _ _ _ H3.out (by rw [size_mk]; omega)
  · have hpos : 0 < es.length := by omega
    clear he
    go_wp2_with fail
    refine (pick_pos _ R _ _ H2.out.rdr (by omega) (by omega) (by omega)).mono ?_
    rintro e w3 ⟨y, rfl, hy, hr3, ho3⟩
    have H3 := Lib.hid (H2.out.only hr3 ho3); clear hr3 ho3 H2
    by_cases hy0 : 0 < y
    · obtain ⟨g, cap', hv, _⟩ := H3.out.at hpos
      simp only [Value.slice.injEq] at hv
      obtain ⟨rfl, _, rfl⟩ := hv
      go_wp2_with fail
      go_region_with ((go_at_call 77; refine (pick_pos _ R _ _ (show Rdr w3.drew _ _ from H3.out.rdr) (by omega) (by omega) (by omega)).mono ?_; rintro e w5 ⟨x, rfl, hx, hr5, ho5⟩; obtain ⟨s, hc5, hs5⟩ := (H3.out.drew.only hr5 ho5).cell1 (show x < es.length by omega); have HD5 := Lib.hid (H3.out.drew.only hr5 ho5); clear hr5 ho5))
      all_goals
        go_wp2_with fail
        go_ret2
        exact FIN.out _ _ _ HD5.out (by assumption)
    · obtain rfl : y = 0 := by omega
      clear hy0
      go_wp2_with fail
      refine (l1Word_any _ R _ 4 H3.out.rdr (by omega) (by omega)).mono ?_
      rintro e w4 ⟨l, rfl, hll, _, hr4, ho4⟩
      have H4 := Lib.hid (H3.out.only hr4 ho4); clear hr4 ho4 H3
      go_wp2_with fail
      go_ret2
      exact FIN.out _ _ _ H4.out (by rw [size_mk]; omega)

end Go.Proofs.Ytggecpiiphjnaaa
