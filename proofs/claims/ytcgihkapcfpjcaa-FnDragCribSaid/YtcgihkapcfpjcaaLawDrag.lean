/-
  The walk of the law FnDragCrib: it returns true whatever the bytes are; nothing that was there is changed. No conditions.
-/
import Derived.Test.YtcgihkapcfpjcaaDrag
import Derived.Test.YtcgihkapcfpjcaaDrawP
namespace Go.Proofs.Ytcgihkapcfpjcaa
open Go.RowKit Pl
set_option linter.unusedVariables false

theorem drag_facts (v c x : ByteArray) (l : List ByteArray) (hl : l = dragL (tl v) (tl c) (tl x)) :
    l.length ≤ v.size + 1 ∧ (dragOk (tl v) (tl c) (tl x) = false → l.length = 0) ∧ (dragOk (tl v) (tl c) (tl x) = true → l.length = v.size + 1 - c.size) ∧
    (∀ k (hk : k < l.length), ∃ p m q, placeW (tl c) (k : Int) (v.size : Int) = some p ∧ minusW (tl v) p = some m ∧ minusW (tl x) m = some q ∧ placeW (tl l[k]) (k : Int) (v.size : Int) = some q) := by
  subst hl
  cases ok : dragOk (tl v) (tl c) (tl x) with
  | false =>
    have h0 := dragL_no ok
    refine ⟨by rw [h0]; simp, fun _ => by rw [h0]; rfl, (fun h => by cases h), fun k hk => ?_⟩
    rw [h0] at hk; simp at hk
  | true =>
    have hN := length_dragL ok
    rw [length_tl, length_tl] at hN
    refine ⟨by omega, (fun h => by cases h), fun _ => hN, fun k hk => ?_⟩
    obtain ⟨p, m, q, e1, e2, e3, e4⟩ := drag_place ok k (by rw [length_tl, length_tl]; omega)
    rw [length_tl] at e1 e4
    refine ⟨p, m, q, e1, e2, e3, ?_⟩
    rw [dragL_get ok k hk, tl_mk]; exact e4

set_option maxHeartbeats 8000000 in
set_option maxRecDepth 100000 in
theorem fnDragCrib_walk (w : World) (A : Option Addr) (cap : Nat) (bs : List UInt8) (h : Rd w w.heap.size A (bytesV bs)) (hc : bs.length ≤ cap) :
    Calls Try.prog 15 #[.slice A bs.length cap] w fun e w' => e = .returned (.bool true) ∧ Below w.heap.size w w' := by
  by_cases hlen : 1048576 < bs.length
  · go_enter Try.func15, Try.ntmps15
    go_wp2_with fail
    go_ret
    exact ⟨rfl, Below.refl _ _⟩
  · have hlen' : decide ((1048576 : Int) < (bs.length : Int)) = false := by simp; omega
    go_enter Try.func15, Try.ntmps15
    go_wp2_with fail
    refine (drawDragCrib_any w A cap bs h hc).mono ?_
    rintro e w1 ⟨v, c, x, rfl, hv, hcs, hx, hb⟩
    have HB := Lib.hid hb; clear hb h hlen hlen'
    go_wp2_with fail
    refine (dragCrib_any v c x _ hv hcs hx).mono ?_
    rintro e w2 ⟨s1, rfl, ho1, hb2⟩
    obtain ⟨A1, cap1, rfl, hc1, hm1, hr1⟩ := ownsRow_rd ho1
    have HB2 := Lib.hid (HB.out.trans (hb2.mono HB.out.size)); clear hb2 ho1
    have HR1 := Lib.hid hr1; clear hr1
    go_wp2_with fail
    refine (sDragCrib_any v c x _ hv hcs hx).mono ?_
    rintro e w3 ⟨s2, rfl, ho2, hb3⟩
    obtain ⟨A2, cap2, rfl, hc2, hm2, hr2⟩ := ownsRow_rd ho2
    have HR1' := Lib.hid ((HR1.out.below hb3).mono hb3.size)
    have HB3 := Lib.hid (HB2.out.trans (hb3.mono HB2.out.size)); clear hb3 ho2
    have HR2 := Lib.hid hr2; clear hr2 HR1
    obtain ⟨f1, f2, f3, f4⟩ := drag_facts v c x _ rfl
    generalize dragL (tl v) (tl c) (tl x) = l at *
    have F2 := Lib.hid f2; have F3 := Lib.hid f3; have F4 := Lib.hid f4; clear f2 f3 f4
    go_wp2_with fail
    refine (rcTexts_same _ A1 A2 cap1 cap2 l HR1'.out HR2.out (by omega) hc1 hc2).mono ?_
    rintro e w5 ⟨rfl, hb5⟩
    have HR5 := Lib.hid ((HR1'.out.below hb5).mono hb5.size)
    have HB5 := Lib.hid (HB3.out.trans (hb5.mono HB3.out.size)); clear hb5 HR2 HR1'
    go_wp2_with fail
    go_loopw [7] (fun i wr => ∃ k : Nat, k ≤ l.length ∧ i = .int .i64 k ∧ Below w5.heap.size w5 wr) (fun i _ => l.length - (intOf i).toNat)
    case atStart => exact ⟨0, Nat.zero_le _, rfl, Below.refl _ _⟩
    case round =>
      obtain ⟨k, hk, rfl, hbl⟩ := hrel
      have HBL := Lib.hid hbl; clear hbl
      by_cases hlt : k < l.length
      · obtain ⟨p, m, q, e1, e2, e3, e4⟩ := F4.out k hlt
        have E1 := Lib.hid e1; have E2 := Lib.hid e2; have E3 := Lib.hid e3; have E4 := Lib.hid e4; clear e1 e2 e3 e4
        have hn : strV l ≠ [] := by intro e; have := congrArg List.length e; rw [length_strV, List.length_nil] at this; omega
        obtain ⟨b1, o1, rfl, hb1, hcell⟩ := HR5.out hn
        have hx1 : w5.cell? ⟨b1, o1 + k, none⟩ = some (.string l[k]) := by rw [hcell k (by rw [length_strV]; exact hlt)]; simp [strV]
        have HX1 := Lib.hid hx1; clear hx1 hcell hn
        obtain ⟨lk, hlk⟩ : ∃ lk, lk = l[k] := ⟨_, rfl⟩
        rw [← hlk] at HX1 E4
        clear hlk
        go_wp2_with fail
        refine (place_some c _ _ p _ E1.out).mono ?_
        rintro e w6 ⟨rfl, hb6⟩
        have HB6 := Lib.hid (HBL.out.trans (hb6.mono HBL.out.size)); clear hb6
        go_wp2_with fail
        refine (readDepth_some v (mk p) x m q _ (by rw [tl_mk]; exact E2.out) E3.out).mono ?_
        rintro e w7 ⟨rfl, hb7⟩
        have HB7 := Lib.hid (HB6.out.trans (hb7.mono HB6.out.size)); clear hb7
        have hx7 : w7.cell? ⟨b1, o1 + k, none⟩ = some (.string lk) := (HB7.out.cell (by exact hb1)).trans HX1.out
        go_wp2_with fail
        refine (place_some lk _ _ q _ E4.out).mono ?_
        rintro e w8 ⟨rfl, hb8⟩
        have HB8 := Lib.hid (HB7.out.trans (hb8.mono HB7.out.size)); clear hb8 hx7
        go_wp2_with fail
        go_roundw
        case rel => exact ⟨k + 1, by omega, by go_num, HB8.out⟩
        case measure => simp [intOf]; omega
      · have HBF := Lib.hid (HB5.out.trans (HBL.out.mono HB5.out.size)); clear HBL HB5 HB3 HB2 HB HR5 F4
        cases h1 : wv (tl v) with
        | false =>
          have l0 : ((l.length : Int) == 0) = true := by rw [beq_iff_eq]; have := F2.out (by simp [dragOk, h1]); omega
          have H1 := Lib.hid h1; clear h1 F2 F3
          go_wp2_with fail
          refine (wordValid_is v false _ H1.out).mono ?_
          rintro e w' ⟨rfl, rfl⟩
          go_wp2_with fail
          go_ret
          exact ⟨rfl, HBF.out⟩
        | true =>
          cases h2 : wv (tl c) with
          | false =>
            have l0 : ((l.length : Int) == 0) = true := by rw [beq_iff_eq]; have := F2.out (by simp [dragOk, h2]); omega
            have H1 := Lib.hid h1; have H2 := Lib.hid h2; clear h1 h2 F2 F3
            go_wp2_with fail
            refine (wordValid_is v true _ H1.out).mono ?_
            rintro e w' ⟨rfl, rfl⟩
            go_wp2_with fail
            refine (wordValid_is c false _ H2.out).mono ?_
            rintro e w' ⟨rfl, rfl⟩
            go_wp2_with fail
            go_ret
            exact ⟨rfl, HBF.out⟩
          | true =>
            cases h3 : wv (tl x) with
            | false =>
              have l0 : ((l.length : Int) == 0) = true := by rw [beq_iff_eq]; have := F2.out (by simp [dragOk, h3]); omega
              have H1 := Lib.hid h1; have H2 := Lib.hid h2; have H3 := Lib.hid h3; clear h1 h2 h3 F2 F3
              go_wp2_with fail
              refine (wordValid_is v true _ H1.out).mono ?_
              rintro e w' ⟨rfl, rfl⟩
              go_wp2_with fail
              refine (wordValid_is c true _ H2.out).mono ?_
              rintro e w' ⟨rfl, rfl⟩
              go_wp2_with fail
              refine (wordValid_is x false _ H3.out).mono ?_
              rintro e w' ⟨rfl, rfl⟩
              go_wp2_with fail
              go_ret
              exact ⟨rfl, HBF.out⟩
            | true =>
              by_cases h4 : v.size = x.size
              · have hok : dragOk (tl v) (tl c) (tl x) = true := by simp [dragOk, h1, h2, h3, length_tl, h4]
                have hN := F3.out hok
                have h4b : (((v.size : Nat) : Int) == (x.size : Int)) = true := by rw [beq_iff_eq]; omega
                have H1 := Lib.hid h1; have H2 := Lib.hid h2; have H3 := Lib.hid h3
                by_cases h5 : c.size ≤ v.size
                · have h5b : decide (((c.size : Nat) : Int) ≤ (v.size : Int)) = true := by simp; omega
                  have l1 : ((l.length : Int) == (v.size : Int) - (c.size : Int) + 1) = true := by rw [beq_iff_eq]; omega
                  clear h1 h2 h3 h4 hN hok F2 F3
                  have h6 : ¬ v.size < c.size := by omega
                  go_wp2_with fail
                  refine (wordValid_is v true _ H1.out).mono ?_
                  rintro e w' ⟨rfl, rfl⟩
                  go_wp2_with fail
                  refine (wordValid_is c true _ H2.out).mono ?_
                  rintro e w' ⟨rfl, rfl⟩
                  go_wp2_with fail
                  refine (wordValid_is x true _ H3.out).mono ?_
                  rintro e w' ⟨rfl, rfl⟩
                  go_wp2_with fail
                  go_ret
                  exact ⟨rfl, HBF.out⟩
                · have h5b : decide (((c.size : Nat) : Int) ≤ (v.size : Int)) = false := by simp; omega
                  have h6 : v.size < c.size := by omega
                  have l0 : l = [] := List.length_eq_zero_iff.1 (by omega)
                  subst l0
                  clear h1 h2 h3 h4 hN hok F2 F3
                  go_wp2_with fail
                  refine (wordValid_is v true _ H1.out).mono ?_
                  rintro e w' ⟨rfl, rfl⟩
                  go_wp2_with fail
                  refine (wordValid_is c true _ H2.out).mono ?_
                  rintro e w' ⟨rfl, rfl⟩
                  go_wp2_with fail
                  refine (wordValid_is x true _ H3.out).mono ?_
                  rintro e w' ⟨rfl, rfl⟩
                  go_wp2_with fail
                  go_ret
                  exact ⟨rfl, HBF.out⟩
              · have l0 : ((l.length : Int) == 0) = true := by rw [beq_iff_eq]; have := F2.out (by simp [dragOk, h1, h2, h3, length_tl, h4]); omega
                have h4b : (((v.size : Nat) : Int) == (x.size : Int)) = false := by rw [beq_eq_false_iff_ne]; omega
                have H1 := Lib.hid h1; have H2 := Lib.hid h2; have H3 := Lib.hid h3; clear h1 h2 h3 h4 F2 F3
                go_wp2_with fail
                refine (wordValid_is v true _ H1.out).mono ?_
                rintro e w' ⟨rfl, rfl⟩
                go_wp2_with fail
                refine (wordValid_is c true _ H2.out).mono ?_
                rintro e w' ⟨rfl, rfl⟩
                go_wp2_with fail
                refine (wordValid_is x true _ H3.out).mono ?_
                rintro e w' ⟨rfl, rfl⟩
                go_wp2_with fail
                go_ret
                exact ⟨rfl, HBF.out⟩

end Go.Proofs.Ytcgihkapcfpjcaa
