/-
  Contracts of the draws of a book alone. No conditions but those that each theorem names.
-/
import Derived.Test.YtlnppdpbhoapfaaDoorDrawD
namespace Go.Proofs.YtlnppdpbhoapfaaDoor
open Go.RowKit Pl
set_option linter.unusedVariables false

theorem own_none {w : World} {base : Nat} {e : TypeId} {size n m cap : Nat} {A : Option Addr} {xs : List Value} (h : w.ownsRow base e size (.slice A n cap) m xs) : A = none → cap = 0 := by
  obtain ⟨h1, ⟨h2, rfl⟩ | ⟨g, cap', cur, h2, h3⟩⟩ := h
  · simp only [Value.slice.injEq] at h2; exact fun _ => h2.2.2
  · simp only [Value.slice.injEq] at h2
    intro hA; rw [hA] at h2; cases h2.1

/-- a book was drawn -/
def BookOnly (w : World) (e : Ending) (w' : World) : Prop :=
  ∃ A cap es, e = .returned (.slice A es.length cap) ∧ Rd w' w'.heap.size A (entV es) ∧ es.length ≤ cap ∧ (∀ e ∈ es, e.1.size ≤ maxLen ∧ e.2.size ≤ maxLen) ∧ es.length ≤ 100 ∧ cap ≤ maxLen ∧ (A = none → cap = 0) ∧ Below w.heap.size w w'
theorem DS.only1 {w w' : World} {N : Nat} {v : Value} {es : List (ByteArray × ByteArray)} (h : DS w w.heap.size N v es w') (hl : es.length ≤ 100) : BookOnly w (.returned v) w' := by
  obtain ⟨A1, c1, e1, l1, m1, r1⟩ := h.bk.rd
  exact ⟨A1, c1, es, by rw [e1], r1, l1, fun e he => ⟨Nat.le_trans (h.bk.2 e he).1 (by decide), Nat.le_trans (h.bk.2 e he).2 (by decide)⟩, hl, m1, own_none (e1 ▸ h.bk.1), h.bel⟩

set_option maxHeartbeats 4000000 in
set_option maxRecDepth 100000 in
theorem drawBookValid_any (w : World) (A : Option Addr) (cap : Nat) (bs : List UInt8) (h : Rd w w.heap.size A (bytesV bs)) (hc : bs.length ≤ cap) :
    Calls Tryd.prog 23 #[.slice A bs.length cap] w (BookOnly w) := by
  obtain ⟨iE, hi, hz0, hz1, hz2⟩ := info_parts Tryd.infoE
  have HI := Lib.hid hi; have HZ0 := Lib.hid hz0; have HZ1 := Lib.hid hz1; have HZ2 := Lib.hid hz2
  clear hi hz0 hz1 hz2
  go_enter Tryd.func23, Tryd.ntmps23
  go_wp2_with fail
  refine (l21Open_any w A cap bs h hc).mono ?_
  rintro e w1 ⟨rfl, hr1, hb1, hs1⟩
  have HB1 := Lib.hid hb1; clear hb1 h
  obtain ⟨R, hR⟩ : ∃ R, R = w.heap.size := ⟨_, rfl⟩
  rw [← hR] at hr1 HB1 ⊢
  have HRE := Lib.hid hR; clear hR hs1
  go_wp2_with fail
  refine (l19Open_any w1 R 0 hr1 (by omega)).mono ?_
  rintro e w2 ⟨v, es, rfl, hd, hl⟩
  have H2 := Lib.hid (hd.base HB1.out); clear hd hr1
  obtain ⟨A2, cap2, rfl, hcap, hcm, _⟩ := H2.out.bk.rd
  have fin : ∀ (N : Nat) (v : Value) (es : List (ByteArray × ByteArray)) (w' : World), DS w R N v es w' → es.length ≤ 100 → BookOnly w (.returned v) w' := by
    intro N v es w' h1 h2
    rw [HRE.out] at h1
    exact h1.only1 h2
  have FIN := Lib.hid fin; clear fin
  go_wp2_with fail
  refine (pick_pos _ R _ _ H2.out.rdr (by omega) (by omega) (by omega)).mono ?_
  rintro e w3 ⟨y, rfl, hy, hr3, ho3⟩
  have H3 := Lib.hid (H2.out.only hr3 ho3); clear hr3 ho3 H2
  by_cases hy0 : y = 0
  · subst hy0
    obtain ⟨M, HM⟩ : ∃ M, Hid (DS w R M (.slice A2 es.length cap2) es w3) := ⟨_, H3⟩
    clear H3
    go_wp2_with fail
    go_loopw [4, 5] (fun v i wr => ∃ (k : Nat) (fs : List (ByteArray × ByteArray)), k ≤ 21 ∧ i = .int .i64 k ∧ fs.length = k ∧ DS w R M v fs wr) (fun _ i _ => 21 - (intOf i).toNat)
    case atStart => exact ⟨es.length, es, by omega, rfl, rfl, HM.out⟩
    case round =>
      obtain ⟨k, fs, hk, rfl, hfs, hds⟩ := hrel
      subst hfs
      have HD := Lib.hid hds; clear hds HM
      obtain ⟨A4, cap4, rfl, hcap4, _⟩ := HD.out.bk.rd
      by_cases hlt : fs.length < 21
      · have q1 : (mk [106]).size = 1 := rfl
        have q2 : (mk [106, 106]).size = 2 := rfl
        go_wp2_with fail
        refine (l1Letter_any _ _ (by omega)).mono ?_
        rintro e w5 ⟨rfl, hb5⟩
        have H5 := Lib.hid (HD.out.below hb5); clear hb5 HD
        generalize hA1 : mk [letter ((fs.length : Int) / 10 % 10).toNat] = a1
        have ha1 : a1.size ≤ 1 := by rw [← hA1, size_mk]; simp
        clear hA1
        go_wp2_with fail
        refine (l1Letter_any _ _ (by omega)).mono ?_
        rintro e w6 ⟨rfl, hb6⟩
        have H6 := Lib.hid (H5.out.below hb6); clear hb6 H5
        generalize hA2 : mk [letter ((fs.length : Int) % 10).toNat] = a2
        have ha2 : a2.size ≤ 1 := by rw [← hA2, size_mk]; simp
        clear hA2
        go_wp2_with fail
        refine (l1Letter_any _ _ (by omega)).mono ?_
        rintro e w7 ⟨rfl, hb7⟩
        have H7 := Lib.hid (H6.out.below hb7); clear hb7 H6
        generalize hA3 : mk [letter ((fs.length : Int) / 10 % 10).toNat] = a3
        have ha3 : a3.size ≤ 1 := by rw [← hA3, size_mk]; simp
        clear hA3
        go_wp2_with fail
        refine (l1Letter_any _ _ (by omega)).mono ?_
        rintro e w8 ⟨rfl, hb8⟩
        have H8 := Lib.hid (H7.out.below hb8); clear hb8 H7
        generalize hA4 : mk [letter ((fs.length : Int) % 10).toNat] = a4
        have ha4 : a4.size ≤ 1 := by rw [← hA4, size_mk]; simp
        clear hA4
        have z1 : (mk [106, 106] ++ a1 ++ a2).size ≤ 100 := by simp only [ByteArray.size_append]; omega
        have z2 : (mk [106] ++ a3 ++ a4).size ≤ 100 := by simp only [ByteArray.size_append]; omega
        go_wp2_with (at_builtin; refine wpList_append_own _ rfl _ _ 22 rfl (R + 1) 38 iE (.agg #[.string ByteArray.empty, .string ByteArray.empty]) 2 32 Tryd.undE HI.out HZ0.out HZ1.out HZ2.out rfl (by decide) _ fs.length _ rfl (H8.out.alloc _).bk.1 ⟨w8.heap.size, 0, none⟩ 1 1 [.string (mk [106, 106] ++ a1 ++ a2), .string (mk [106] ++ a3 ++ a4)] rfl rfl (cell_two_new w8 (.string (mk [106, 106] ++ a1 ++ a2)) (.string (mk [106] ++ a3 ++ a4)) 38) two_cell (by unfold maxLen; omega) (by omega) (by have := H8.out.lt; rw [heapsize_alloc]; omega) ?_)
        intro v' w9 ho' hg' _
        have H9 := Lib.hid ((H8.out.alloc _).app (mk [106, 106] ++ a1 ++ a2, mk [106] ++ a3 ++ a4) z1 z2 ho' hg')
        obtain ⟨A9, cap9, e9, _⟩ := ownsRow_rd ho'
        subst e9
        clear ho' hg'
        go_wp2_with fail
        go_roundw
        case rel => exact ⟨fs.length + 1, _, by omega, by go_num, by simp, H9.out⟩
        case measure => simp [intOf]; omega
      · go_wp2_with fail
        go_ret
        exact FIN.out _ _ _ _ HD.out (by omega)
  · have hyb : ((y : Int) == 0) = false := by rw [beq_eq_false_iff_ne]; omega
    clear hy0
    go_wp2_with fail
    go_ret
    exact FIN.out _ _ _ _ H3.out (by omega)

end Go.Proofs.YtlnppdpbhoapfaaDoor
