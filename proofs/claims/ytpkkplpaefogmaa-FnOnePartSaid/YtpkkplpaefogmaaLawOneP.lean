/-
  The walk of the law FnOnePart: it returns true whatever the bytes are; nothing that was there is changed. No conditions.
-/
import Derived.Test.YtpkkplpaefogmaaSortS
import Derived.Test.YtpkkplpaefogmaaDrawH
import Derived.Test.YtpkkplpaefogmaaPlainO
namespace Go.Proofs.Ytpkkplpaefogmaa
open Go.RowKit Pl
set_option linter.unusedVariables false

open Classical in
theorem one_bool' (es : List (ByteArray × ByteArray)) : ∃ b : Bool, oneP es ↔ b = true := ⟨decide (oneP es), by simp⟩

set_option maxHeartbeats 8000000 in
set_option maxRecDepth 100000 in
theorem fnOnePart_walk (w : World) (A : Option Addr) (cap : Nat) (bs : List UInt8) (h : Rd w w.heap.size A (bytesV bs)) (hc : bs.length ≤ cap) :
    Calls Try.prog 8 #[.slice A bs.length cap] w fun e w' => e = .returned (.bool true) ∧ Below w.heap.size w w' := by
  by_cases hlen : 1048576 < bs.length
  · go_enter Try.func8, Try.ntmps8
    go_wp2_with fail
    go_ret
    exact ⟨rfl, Below.refl _ _⟩
  · go_enter Try.func8, Try.ntmps8
    go_wp2_with fail
    refine (drawOnePart_any w A cap bs h hc).mono ?_
    rintro _ w1 ⟨A1, cap1, es, rfl, hr1, hc1, hz, hl, hm1, hA1, hb1⟩
    have HR := Lib.hid hr1; have HZ := Lib.hid hz; have HA := Lib.hid hA1; have HB := Lib.hid hb1; clear hr1 hz hA1 hb1 h
    obtain ⟨b, hb⟩ := one_bool' es
    have HBB := Lib.hid hb; clear hb
    have hbb : (b != b) = false := by simp
    have hbe : (b == b) = true := by simp
    go_wp2_with fail
    refine (onePart_any _ A1 cap1 es b HBB.out HR.out hc1 HA.out HZ.out).mono ?_
    rintro _ w2 ⟨rfl, hb2⟩
    replace HB := Lib.hid (HB.out.trans (hb2.mono HB.out.size))
    replace HR := Lib.hid ((HR.out.below hb2).mono hb2.size)
    clear hb2
    go_wp2_with fail
    refine (sOne_any _ A1 cap1 es b HBB.out HR.out hc1 (by omega)).mono ?_
    rintro _ w3 ⟨rfl, hb3⟩
    replace HB := Lib.hid (HB.out.trans (hb3.mono HB.out.size))
    replace HR := Lib.hid ((HR.out.below hb3).mono hb3.size)
    clear hb3
    by_cases hv : bookV es
    · have hpl := one_places hv
      have HPL := Lib.hid hpl; have HV := Lib.hid hv; clear hpl hv
      go_wp2_with fail
      refine (bookValid_is _ A1 cap1 es HR.out hc1 HZ.out true (bkT HV.out)).mono ?_
      rintro _ w4 ⟨rfl, hb4⟩
      replace HB := Lib.hid (HB.out.trans (hb4.mono HB.out.size))
      replace HR := Lib.hid ((HR.out.below hb4).mono hb4.size)
      clear hb4
      go_wp2_with fail
      go_loopw [5, 6] (fun g i wr => ∃ (k : Nat) (gd : Bool), k ≤ es.length ∧ i = .int .i64 k ∧ g = .bool gd ∧ (gd = true ↔ ∀ i, i < k → ∀ j, j < i → agr es i j) ∧ Below w4.heap.size w4 wr) (fun _ i _ => es.length - (intOf i).toNat)
      case atStart => exact ⟨0, true, Nat.zero_le _, rfl, rfl, ⟨fun _ i hi => absurd hi (Nat.not_lt_zero _), fun _ => rfl⟩, Below.refl _ _⟩
      case round =>
        obtain ⟨k, gd, hk, rfl, rfl, hgd, hbr⟩ := hrel
        have HGD := Lib.hid hgd; have HBR := Lib.hid hbr; clear hgd hbr
        by_cases hlt : k < es.length
        · go_wp2_with fail
          go_loopw [5, 7] (fun g j wq => ∃ (m : Nat) (gq : Bool), m ≤ k ∧ j = .int .i64 m ∧ g = .bool gq ∧ (gq = true ↔ (gd = true ∧ ∀ j, j < m → agr es k j)) ∧ Below w4.heap.size w4 wq) (fun _ j _ => k - (intOf j).toNat)
          case atStart => exact ⟨0, gd, Nat.zero_le _, rfl, rfl, ⟨fun h => ⟨h, fun j hj => absurd hj (Nat.not_lt_zero _)⟩, fun h => h.1⟩, HBR.out⟩
          case round =>
            clear HBR
            obtain ⟨m, gq, hmk, rfl, rfl, hgq, hbq⟩ := hrel
            have HGQ := Lib.hid hgq; have HBQ := Lib.hid hbq; clear hgq hbq
            by_cases hml : m < k
            · have hmlt : m < es.length := by omega
              obtain ⟨b1, o1, rfl, _, x0, x1⟩ := (HR.out.below HBQ.out).ent hlt
              obtain ⟨b2, o2, e2, _, y0, y1⟩ := (HR.out.below HBQ.out).ent hmlt
              simp only [Option.some.injEq, Addr.mk.injEq, and_true] at e2
              obtain ⟨rfl, rfl⟩ := e2
              have hag : agr es k m ↔ ltE es[k].1 es[m].1 = ltE es[k].2 es[m].2 := ⟨fun hh => hh hlt hmlt, fun hh _ _ => hh⟩
              generalize es[k] = x at x0 x1 hag
              generalize es[m] = y at y0 y1 hag
              obtain ⟨c1, hc1'⟩ : ∃ c, c = ltE x.1 y.1 := ⟨_, rfl⟩
              obtain ⟨c2, hc2'⟩ : ∃ c, c = ltE x.2 y.2 := ⟨_, rfl⟩
              have q1 : Op.bytesLess x.1.toList y.1.toList = c1 := by rw [less_ltE, hc1']
              have q2 : Op.bytesLess x.2.toList y.2.toList = c2 := by rw [less_ltE, hc2']
              rw [← hc1', ← hc2'] at hag
              have hnx : (gq && (c1 == c2)) = true ↔ (gd = true ∧ ∀ j, j < m + 1 → agr es k j) := by
                rw [Bool.and_eq_true, HGQ.out, beq_iff_eq, ← hag]
                constructor
                · rintro ⟨⟨h1, h2⟩, h3⟩
                  refine ⟨h1, fun j hj => ?_⟩
                  by_cases hjm : j = m
                  · subst hjm; exact h3
                  · exact h2 j (by omega)
                · rintro ⟨h1, h2⟩
                  exact ⟨⟨h1, fun j hj => h2 j (by omega)⟩, h2 m (by omega)⟩
              have HNX := Lib.hid hnx; clear hnx hag hc1' hc2'
              cases gq with
              | true =>
                go_wp2_with fail
                go_quiet (fail)
                clear q1 q2 x0 x1 y0 y1
                go_wp2_with fail
                go_roundw
                case rel => exact ⟨m + 1, (true && (c1 == c2)), by omega, by go_num, by simp, HNX.out, below_drewN' HBQ.out _⟩
                case measure => simp [intOf]; omega
              | false =>
                clear q1 q2 x0 x1 y0 y1
                go_wp2_with fail
                go_quiet (fail)
                go_wp2_with fail
                go_roundw
                case rel => exact ⟨m + 1, (false && (c1 == c2)), by omega, by go_num, by simp, HNX.out, below_drewN' HBQ.out _⟩
                case measure => simp [intOf]; omega
            · have hmk' : m = k := by omega
              subst hmk'
              have hnx : gq = true ↔ ∀ i, i < m + 1 → ∀ j, j < i → agr es i j := by
                rw [HGQ.out, HGD.out]
                constructor
                · rintro ⟨h1, h2⟩ i hi j hj
                  by_cases him : i = m
                  · subst him; exact h2 j hj
                  · exact h1 i (by omega) j hj
                · intro h1
                  exact ⟨fun i hi => h1 i (by omega), h1 m (by omega)⟩
              have HNX := Lib.hid hnx; clear hnx
              go_wp2_with fail
              go_roundw
              case rel => exact ⟨m + 1, gq, by omega, by go_num, rfl, HNX.out, HBQ.out⟩
              case measure => simp [intOf]; omega
        · have hge : gd = b := by
            rw [Bool.eq_iff_iff, HGD.out, ← HBB.out, HPL.out]
            exact ⟨fun h i hi => h i (by omega), fun h i hi => h i (by omega)⟩
          subst hge
          go_wp2_with fail
          go_ret
          exact ⟨by simp, HB.out.trans (HBR.out.mono HB.out.size)⟩
    · have hbf : b = false := by
        cases hb0 : b with
        | false => rfl
        | true => exact absurd (HBB.out.2 hb0).1 hv
      subst hbf
      have HV := Lib.hid hv; clear hv
      go_wp2_with fail
      refine (bookValid_is _ A1 cap1 es HR.out hc1 HZ.out false (bkF HV.out)).mono ?_
      rintro _ w4 ⟨rfl, hb4⟩
      replace HB := Lib.hid (HB.out.trans (hb4.mono HB.out.size))
      replace HR := Lib.hid ((HR.out.below hb4).mono hb4.size)
      clear hb4
      go_wp2_with fail
      refine (sOne_any _ A1 cap1 es false HBB.out HR.out hc1 (by omega)).mono ?_
      rintro _ w5 ⟨rfl, hb5⟩
      replace HB := Lib.hid (HB.out.trans (hb5.mono HB.out.size))
      replace HR := Lib.hid ((HR.out.below hb5).mono hb5.size)
      clear hb5
      go_wp2_with fail
      refine (bookValid_is _ A1 cap1 es HR.out hc1 HZ.out false (bkF HV.out)).mono ?_
      rintro _ w6 ⟨rfl, hb6⟩
      replace HB := Lib.hid (HB.out.trans (hb6.mono HB.out.size))
      replace HR := Lib.hid ((HR.out.below hb6).mono hb6.size)
      clear hb6
      go_wp2_with fail
      go_ret
      exact ⟨rfl, HB.out⟩

end Go.Proofs.Ytpkkplpaefogmaa
