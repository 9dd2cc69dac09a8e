/-
  The walk of the law FnReadMerged: it returns true whatever the bytes are; nothing that was there is changed. No conditions.
-/
import Derived.Test.YtcgihkapcfpjcaaRead
import Derived.Test.YtcgihkapcfpjcaaDrawP
import Derived.Test.YtcgihkapcfpjcaaMerge
namespace Go.Proofs.Ytcgihkapcfpjcaa
open Go.RowKit Pl
set_option linter.unusedVariables false

theorem rcLetter_any (n : Int) (w : World) (h0 : 0 ≤ n) (hn : n ≤ 1000000000000) :
    Calls Try.prog 29 #[.int .i64 n] w fun e w' => e = .returned (.string (mk [letter (n % 10).toNat])) ∧ Below w.heap.size w w' := by
  have k0 : 0 ≤ n % 10 := by omega
  have k1 : n % 10 < 10 := by omega
  have hcv := conv_one (P := Try.prog) 24 9 5 Try.underlying24 Try.underlying5 Try.underlying9 (97 + n % 10) (by omega) (by omega)
  go_enter Try.func29, Try.ntmps29
  go_wp2
  go_ret
  refine ⟨?_, (Below.refl _ _).alloc (Nat.le_refl _) _⟩
  rw [show (97 + n % 10).toNat = 97 + (n % 10).toNat by omega]; rfl

/-- merging and reading, in one place -/
theorem merge_read {c p q : UInt8} (hc : isL c = true) (hp : isP p = true) (hq : isP q = true) : mergeC (minusC c p) (minusC c q) = (mergeC p q).map (minusC c) := by
  have inj : minusC c p = minusC c q ↔ p = q := by
    constructor
    · intro h
      have := congrArg (minusC c) h
      rwa [minusC_twice hc hp, minusC_twice hc hq] at this
    · rintro rfl; rfl
  unfold mergeC
  by_cases h1 : p.toNat = 45
  · rw [if_pos h1, if_pos ((minusC_gap_iff c p).2 h1)]; rfl
  · rw [if_neg h1, if_neg (fun h => h1 ((minusC_gap_iff c p).1 h))]
    by_cases h2 : q.toNat ≠ 45 ∧ q ≠ p
    · rw [if_pos h2, if_pos ⟨fun h => h2.1 ((minusC_gap_iff c q).1 h), fun h => h2.2 (inj.1 h.symm).symm⟩]; rfl
    · rw [if_neg h2, if_neg (fun h => h2 ⟨fun hh => h.1 ((minusC_gap_iff c q).2 hh), fun hh => h.2 (by rw [hh])⟩)]; rfl
theorem mergeL_read : ∀ (v p q : List UInt8), v.length = p.length → p.length = q.length → (∀ c ∈ v, isL c = true) → (∀ c ∈ p, isP c = true) → (∀ c ∈ q, isP c = true) →
    mergeL (minusL v p) (minusL v q) = (mergeL p q).map (minusL v)
  | [], [], [], _, _, _, _, _ => rfl
  | c :: v, a :: p, b :: q, h1, h2, hv, hp, hq => by
    have ih := mergeL_read v p q (by simpa using h1) (by simpa using h2) (fun x hx => hv x (by simp [hx])) (fun x hx => hp x (by simp [hx])) (fun x hx => hq x (by simp [hx]))
    have e := merge_read (hv c (by simp)) (hp a (by simp)) (hq b (by simp))
    have e1 : minusL (c :: v) (a :: p) = minusC c a :: minusL v p := rfl
    have e2 : minusL (c :: v) (b :: q) = minusC c b :: minusL v q := rfl
    rw [e1, e2]
    simp only [mergeL, e, ih]
    cases mergeC a b with
    | none => rfl
    | some x =>
      cases mergeL p q with
      | none => rfl
      | some l => rfl
  | [], _ :: _, _, h, _, _, _, _ => by simp at h
  | _ :: _, [], _, h, _, _, _, _ => by simp at h
  | [], [], _ :: _, _, h, _, _, _ => by simp at h
  | _ :: _, _ :: _, [], _, h, _, _, _ => by simp at h
theorem pv_mergeL {p q l : List UInt8} (hp : pv p = true) (hq : pv q = true) (hl : p.length = q.length) (h : mergeL p q = some l) : pv l = true ∧ l.length = p.length := by
  have e := mergeL_eq hl h
  have h0 := pv_length hp
  have hlen : l.length = p.length := by rw [e]; simp; omega
  refine ⟨?_, hlen⟩
  rw [pv_all (by omega), List.all_eq_true]
  intro c hc
  rw [List.mem_iff_getElem] at hc
  obtain ⟨i, hi, rfl⟩ := hc
  have hi1 : i < p.length := by omega
  have hi2 : i < q.length := by omega
  obtain ⟨x, hx⟩ := mergeL_all hl h i hi1 hi2
  have ex : l[i] = x := by
    have : l[i] = (List.zipWith (fun a b => (mergeC a b).getD 0) p q)[i]'(by simp; omega) := by simp only [e]
    rw [this, List.getElem_zipWith, hx]; rfl
  rw [ex]
  unfold mergeC at hx
  split at hx
  · injection hx with hx; rw [← hx]; exact pv_mem hq (List.getElem_mem _)
  · split at hx
    · cases hx
    · injection hx with hx; rw [← hx]; exact pv_mem hp (List.getElem_mem _)

theorem merge_some (p q : ByteArray) (r : List UInt8) (w : World) (h : mergeW (tl p) (tl q) = some r) :
    Calls Try.prog 26 #[.string p, .string q] w fun e w' => e = .returned (.tuple #[.string (mk r), .bool true]) ∧ Below w.heap.size w w' := merge_is p q (some r) w h
theorem merge_no (p q : ByteArray) (w : World) (h : mergeW (tl p) (tl q) = none) :
    Calls Try.prog 26 #[.string p, .string q] w fun e w' => e = .returned (.tuple #[.string (mk []), .bool false]) ∧ Below w.heap.size w w' := merge_is p q none w h
theorem sMerge_some (p q : ByteArray) (r : List UInt8) (w : World) (h : mergeW (tl p) (tl q) = some r) :
    Calls Try.prog 27 #[.string p, .string q] w fun e w' => e = .returned (.tuple #[.string (mk r), .bool true]) ∧ Below w.heap.size w w' := sMerge_is p q (some r) w h
theorem sMerge_no (p q : ByteArray) (w : World) (h : mergeW (tl p) (tl q) = none) :
    Calls Try.prog 27 #[.string p, .string q] w fun e w' => e = .returned (.tuple #[.string (mk []), .bool false]) ∧ Below w.heap.size w w' := sMerge_is p q none w h

set_option maxHeartbeats 4000000 in
theorem fnReadMerged_walk (w : World) (A : Option Addr) (cap : Nat) (bs : List UInt8) (h : Rd w w.heap.size A (bytesV bs)) (hc : bs.length ≤ cap)
    (A2 : Option Addr) (cap2 : Nat) (cs : List UInt8) (h2 : Rd w w.heap.size A2 (bytesV cs)) (hc2 : cs.length ≤ cap2) :
    Calls Try.prog 5 #[.slice A bs.length cap, .slice A2 cs.length cap2] w fun e w' => e = .returned (.bool true) ∧ Below w.heap.size w w' := by
  clear h2
  by_cases hlen : 1048576 < bs.length
  · have hlen' : decide ((1048576 : Int) < (bs.length : Int)) = true := by simp; omega
    go_enter Try.func5, Try.ntmps5
    go_wp2_with fail
    go_ret
    exact ⟨rfl, Below.refl _ _⟩
  · have hlen' : decide ((1048576 : Int) < (bs.length : Int)) = false := by simp; omega
    by_cases hlen2 : 1048576 < cs.length
    · have hlen2' : decide ((1048576 : Int) < (cs.length : Int)) = true := by simp; omega
      go_enter Try.func5, Try.ntmps5
      go_wp2_with fail
      go_ret
      exact ⟨rfl, Below.refl _ _⟩
    · have hlen2' : decide ((1048576 : Int) < (cs.length : Int)) = false := by simp; omega
      go_enter Try.func5, Try.ntmps5
      go_wp2_with fail
      refine (drawMergePartials_any w A cap bs h hc).mono ?_
      rintro e w1 ⟨p, q, rfl, hp, hq, hb⟩
      have HB := Lib.hid hb; clear hb h
      by_cases hval : pv (tl p) = true ∧ pv (tl q) = true ∧ (tl p).length = (tl q).length
      · obtain ⟨v1, v2, v3⟩ := hval
        have hl := pv_length v1
        have v3' : p.size = q.size := v3
        rw [length_tl] at hl
        have hne : (((p.size : Nat) : Int) != ((q.size : Nat) : Int)) = false := by simp; omega
        have hmw : mergeW (tl p) (tl q) = mergeL (tl p) (tl q) := by unfold mergeW; rw [if_pos ⟨v1, v2, v3⟩]
        have V1 := Lib.hid v1; clear v1
        have V2 := Lib.hid v2; clear v2
        have V3 := Lib.hid v3; clear v3
        have hle : p.size ≤ q.size := by omega
        clear v3'
        cases hm : mergeL (tl p) (tl q) with
        | none =>
          rw [hm] at hmw
          have HM := Lib.hid hm; clear hm
          have HW := Lib.hid hmw; clear hmw
          go_wp2_with fail
          refine (merge_no _ _ _ HW.out).mono ?_
          rintro e w2 ⟨rfl, hb2⟩
          have HB2 := Lib.hid (HB.out.trans (hb2.mono HB.out.size)); clear hb2
          go_wp2_with fail
          refine (sMerge_no _ _ _ HW.out).mono ?_
          rintro e w3 ⟨rfl, hb3⟩
          have HB3 := Lib.hid (HB2.out.trans (hb3.mono HB2.out.size)); clear hb3
          go_wp2_with fail
          refine (partialValid_is _ true _ V1.out).mono ?_
          rintro e w' ⟨rfl, rfl⟩
          go_wp2_with fail
          refine (partialValid_is _ true _ V2.out).mono ?_
          rintro e w' ⟨rfl, rfl⟩
          go_wp2_with fail
          go_loopw [11, 12] (fun o i wr => ∃ (k : Nat) (l : List UInt8), k ≤ p.size ∧ i = .int .i64 k ∧ o = .string (mk l) ∧ l.length = k ∧ l.all isL = true ∧ Below w.heap.size w wr) (fun _ i _ => p.size - (intOf i).toNat)
          case atStart => exact ⟨0, [], Nat.zero_le _, rfl, rfl, rfl, rfl, HB3.out⟩
          case round =>
            obtain ⟨k, l, hk, rfl, rfl, hlk, hall, hbl⟩ := hrel
            have HL := Lib.hid hlk; clear hlk
            have HA := Lib.hid hall; clear hall
            have HBL := Lib.hid hbl; clear hbl
            have hkk : (k : Int) * (k : Int) ≤ 40000 := by
              have : k * k ≤ 200 * 200 := Nat.mul_le_mul (by omega) (by omega)
              have h2 : ((k * k : Nat) : Int) ≤ 40000 := by omega
              rwa [Int.natCast_mul] at h2
            have hkk0 : 0 ≤ (k : Int) * (k : Int) := Int.mul_nonneg (by omega) (by omega)
            by_cases hlt : k < p.size
            · go_wp2_with fail
              refine (rcLetter_any _ _ (by omega) (by omega)).mono ?_
              rintro e w4 ⟨rfl, hb4⟩
              have hz : (mk l).size ≤ 1000 := by rw [size_mk, HL.out]; omega
              have hz1 : (mk [letter (((k : Int) * (k : Int) + (cs.length : Int)) % 10).toNat]).size ≤ 1 := by rw [size_mk]; simp
              go_wp2_with fail
              go_roundw
              case rel => exact ⟨k + 1, _, by omega, by go_num, by rw [mk_append], by simp [HL.out], by simp [HA.out]; exact isL_letter (by omega), HBL.out.trans (hb4.mono HBL.out.size)⟩
              case measure => simp [intOf]; omega
            · have hkp : k = p.size := by omega
              subst hkp
              have hw : wv l = true := by rw [wv_all (by rw [HL.out]; omega)]; exact HA.out
              have hlp : l.length = (tl p).length := by rw [HL.out, length_tl]
              have X1 := Lib.hid (minusW_ok ⟨hw, V1.out, hlp⟩)
              have X2 := Lib.hid (minusW_ok ⟨hw, V2.out, hlp.trans V3.out⟩)
              have hmr := mergeL_read l (tl p) (tl q) hlp V3.out (fun c hc => wv_mem hw hc) (fun c hc => pv_mem V1.out hc) (fun c hc => pv_mem V2.out hc)
              have hmw3 : mergeW (minusL l (tl p)) (minusL l (tl q)) = (mergeL (tl p) (tl q)).map (minusL l) := by
                unfold mergeW
                rw [if_pos ⟨pv_minus V1.out hlp, pv_minus V2.out (hlp.trans V3.out), by rw [length_minusL _ _ (by omega), length_minusL _ _ (by have := V3.out; omega)]; exact V3.out⟩]
                exact hmr
              rw [HM.out] at hmw3
              have X3 := Lib.hid (show mergeW (minusL l (tl p)) (minusL l (tl q)) = none from hmw3)
              clear hmr hmw3 hw hlp
              go_wp2_with fail
              refine (readWith_some (mk l) p _ _ X1.out).mono ?_
              rintro e w4 ⟨rfl, hb4⟩
              have HB4 := Lib.hid (HBL.out.trans (hb4.mono HBL.out.size)); clear hb4
              go_wp2_with fail
              refine (readWith_some (mk l) q _ _ X2.out).mono ?_
              rintro e w5 ⟨rfl, hb5⟩
              have HB5 := Lib.hid (HB4.out.trans (hb5.mono HB4.out.size)); clear hb5
              go_wp2_with fail
              refine (merge_no (mk (minusL l (tl p))) (mk (minusL l (tl q))) _ X3.out).mono ?_
              rintro e w6 ⟨rfl, hb6⟩
              have HB6 := Lib.hid (HB5.out.trans (hb6.mono HB5.out.size)); clear hb6
              go_wp2_with fail
              go_ret
              exact ⟨rfl, HB6.out⟩
        | some r =>
          rw [hm] at hmw
          have HM := Lib.hid hm; clear hm
          have HW := Lib.hid hmw; clear hmw
          go_wp2_with fail
          refine (merge_some _ _ r _ HW.out).mono ?_
          rintro e w2 ⟨rfl, hb2⟩
          have HB2 := Lib.hid (HB.out.trans (hb2.mono HB.out.size)); clear hb2
          go_wp2_with fail
          refine (sMerge_some _ _ r _ HW.out).mono ?_
          rintro e w3 ⟨rfl, hb3⟩
          have HB3 := Lib.hid (HB2.out.trans (hb3.mono HB2.out.size)); clear hb3
          go_wp2_with fail
          refine (partialValid_is _ true _ V1.out).mono ?_
          rintro e w' ⟨rfl, rfl⟩
          go_wp2_with fail
          refine (partialValid_is _ true _ V2.out).mono ?_
          rintro e w' ⟨rfl, rfl⟩
          go_wp2_with fail
          go_loopw [11, 12] (fun o i wr => ∃ (k : Nat) (l : List UInt8), k ≤ p.size ∧ i = .int .i64 k ∧ o = .string (mk l) ∧ l.length = k ∧ l.all isL = true ∧ Below w.heap.size w wr) (fun _ i _ => p.size - (intOf i).toNat)
          case atStart => exact ⟨0, [], Nat.zero_le _, rfl, rfl, rfl, rfl, HB3.out⟩
          case round =>
            obtain ⟨k, l, hk, rfl, rfl, hlk, hall, hbl⟩ := hrel
            have HL := Lib.hid hlk; clear hlk
            have HA := Lib.hid hall; clear hall
            have HBL := Lib.hid hbl; clear hbl
            have hkk : (k : Int) * (k : Int) ≤ 40000 := by
              have : k * k ≤ 200 * 200 := Nat.mul_le_mul (by omega) (by omega)
              have h2 : ((k * k : Nat) : Int) ≤ 40000 := by omega
              rwa [Int.natCast_mul] at h2
            have hkk0 : 0 ≤ (k : Int) * (k : Int) := Int.mul_nonneg (by omega) (by omega)
            by_cases hlt : k < p.size
            · go_wp2_with fail
              refine (rcLetter_any _ _ (by omega) (by omega)).mono ?_
              rintro e w4 ⟨rfl, hb4⟩
              have hz : (mk l).size ≤ 1000 := by rw [size_mk, HL.out]; omega
              have hz1 : (mk [letter (((k : Int) * (k : Int) + (cs.length : Int)) % 10).toNat]).size ≤ 1 := by rw [size_mk]; simp
              go_wp2_with fail
              go_roundw
              case rel => exact ⟨k + 1, _, by omega, by go_num, by rw [mk_append], by simp [HL.out], by simp [HA.out]; exact isL_letter (by omega), HBL.out.trans (hb4.mono HBL.out.size)⟩
              case measure => simp [intOf]; omega
            · have hkp : k = p.size := by omega
              subst hkp
              have hw : wv l = true := by rw [wv_all (by rw [HL.out]; omega)]; exact HA.out
              have hlp : l.length = (tl p).length := by rw [HL.out, length_tl]
              have X1 := Lib.hid (minusW_ok ⟨hw, V1.out, hlp⟩)
              have X2 := Lib.hid (minusW_ok ⟨hw, V2.out, hlp.trans V3.out⟩)
              have hmr := mergeL_read l (tl p) (tl q) hlp V3.out (fun c hc => wv_mem hw hc) (fun c hc => pv_mem V1.out hc) (fun c hc => pv_mem V2.out hc)
              have hmw3 : mergeW (minusL l (tl p)) (minusL l (tl q)) = (mergeL (tl p) (tl q)).map (minusL l) := by
                unfold mergeW
                rw [if_pos ⟨pv_minus V1.out hlp, pv_minus V2.out (hlp.trans V3.out), by rw [length_minusL _ _ (by omega), length_minusL _ _ (by have := V3.out; omega)]; exact V3.out⟩]
                exact hmr
              rw [HM.out] at hmw3
              have X3 := Lib.hid (show mergeW (minusL l (tl p)) (minusL l (tl q)) = some (minusL l r) from hmw3)
              have hpr := pv_mergeL V1.out V2.out V3.out HM.out
              have X4 := Lib.hid (minusW_ok ⟨hw, hpr.1, hlp.trans hpr.2.symm⟩)
              clear hmr hmw3 hw hlp hpr
              go_wp2_with fail
              refine (readWith_some (mk l) p _ _ X1.out).mono ?_
              rintro e w4 ⟨rfl, hb4⟩
              have HB4 := Lib.hid (HBL.out.trans (hb4.mono HBL.out.size)); clear hb4
              go_wp2_with fail
              refine (readWith_some (mk l) q _ _ X2.out).mono ?_
              rintro e w5 ⟨rfl, hb5⟩
              have HB5 := Lib.hid (HB4.out.trans (hb5.mono HB4.out.size)); clear hb5
              go_wp2_with fail
              refine (merge_some (mk (minusL l (tl p))) (mk (minusL l (tl q))) _ _ X3.out).mono ?_
              rintro e w6 ⟨rfl, hb6⟩
              have HB6 := Lib.hid (HB5.out.trans (hb6.mono HB5.out.size)); clear hb6
              go_wp2_with fail
              refine (readWith_some (mk l) (mk r) _ _ X4.out).mono ?_
              rintro e w7 ⟨rfl, hb7⟩
              have HB7 := Lib.hid (HB6.out.trans (hb7.mono HB6.out.size)); clear hb7
              go_wp2_with fail
              go_ret
              exact ⟨rfl, HB7.out⟩
      · have hmw : mergeW (tl p) (tl q) = none := by unfold mergeW; rw [if_neg hval]
        have HW := Lib.hid hmw; clear hmw
        have HV := Lib.hid hval; clear hval
        go_wp2_with fail
        refine (merge_no _ _ _ HW.out).mono ?_
        rintro e w2 ⟨rfl, hb2⟩
        have HB2 := Lib.hid (HB.out.trans (hb2.mono HB.out.size)); clear hb2
        go_wp2_with fail
        refine (sMerge_no _ _ _ HW.out).mono ?_
        rintro e w3 ⟨rfl, hb3⟩
        have HB3 := Lib.hid (HB2.out.trans (hb3.mono HB2.out.size)); clear hb3
        go_wp2_with fail
        by_cases v1 : pv (tl p) = true
        · refine (partialValid_is _ true _ v1).mono ?_
          rintro e w' ⟨rfl, rfl⟩
          by_cases v2 : pv (tl q) = true
          · have hne : (((p.size : Nat) : Int) != ((q.size : Nat) : Int)) = true := by
              rw [bne_iff_ne]; intro hh; exact HV.out ⟨v1, v2, by rw [length_tl, length_tl]; omega⟩
            clear v1
            go_wp2_with fail
            refine (partialValid_is _ true _ v2).mono ?_
            rintro e w' ⟨rfl, rfl⟩
            clear v2
            go_wp2_with fail
            go_ret
            exact ⟨rfl, HB3.out⟩
          · clear v1
            go_wp2_with fail
            refine (partialValid_is _ false _ (by simpa using v2)).mono ?_
            rintro e w' ⟨rfl, rfl⟩
            clear v2
            go_wp2_with fail
            go_ret
            exact ⟨rfl, HB3.out⟩
        · refine (partialValid_is _ false _ (by simpa using v1)).mono ?_
          rintro e w' ⟨rfl, rfl⟩
          clear v1
          go_wp2_with fail
          go_ret
          exact ⟨rfl, HB3.out⟩

end Go.Proofs.Ytcgihkapcfpjcaa
