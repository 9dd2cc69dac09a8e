/-
  The walk of the law FnPartialFits: it returns true whatever the bytes are; nothing that was there is changed. No conditions.
-/
import Derived.Test.YtcgihkapcfpjcaaFits
import Derived.Test.YtcgihkapcfpjcaaDrawP
import Derived.Test.YtcgihkapcfpjcaaKnown
import Derived.Test.YtcgihkapcfpjcaaPlainC
namespace Go.Proofs.Ytcgihkapcfpjcaa
open Go.RowKit Pl
set_option linter.unusedVariables false

theorem rcAll_one (w : World) (c : UInt8) (n : Nat) (hn : n ≤ 1000000) :
    Calls Try.prog 44 #[.string (mk [c]), .int .i64 n] w fun e w' => e = .returned (.string (mk (List.replicate n c))) ∧ w = w' := by
  have hz1 : (mk [c]).size ≤ 1 := by rw [size_mk]; simp
  go_enter Try.func44, Try.ntmps44
  go_wp2_with fail
  go_loop [5, 6] (fun o i => ∃ k : Nat, k ≤ n ∧ i = .int .i64 k ∧ o = .string (mk (List.replicate k c))) (fun _ i => n - (intOf i).toNat)
  case atStart => exact ⟨0, Nat.zero_le _, rfl, rfl⟩
  case round =>
    obtain ⟨k, hk, rfl, rfl⟩ := hrel
    have hz : (mk (List.replicate k c)).size ≤ 1000000 := by rw [size_mk, List.length_replicate]; omega
    by_cases hlt : k < n
    · go_wp2_with fail
      go_round
      case rel => exact ⟨k + 1, by omega, by go_num, by rw [mk_append, List.replicate_succ']⟩
      case measure => simp [intOf]; omega
    · go_wp2_with fail
      go_ret
      have : k = n := by omega
      subst this
      exact ⟨rfl, rfl⟩

set_option maxHeartbeats 4000000 in
set_option maxRecDepth 100000 in
theorem fnPartialFits_walk (w : World) (A : Option Addr) (cap : Nat) (bs : List UInt8) (h : Rd w w.heap.size A (bytesV bs)) (hc : bs.length ≤ cap) :
    Calls Try.prog 12 #[.slice A bs.length cap] w fun e w' => e = .returned (.bool true) ∧ Below w.heap.size w w' := by
  by_cases hlen : 1048576 < bs.length
  · go_enter Try.func12, Try.ntmps12
    go_wp2_with fail
    go_ret
    exact ⟨rfl, Below.refl _ _⟩
  · have hlen' : decide ((1048576 : Int) < (bs.length : Int)) = false := by simp; omega
    go_enter Try.func12, Try.ntmps12
    go_wp2_with fail
    refine (drawPartialFits_any w A cap bs h hc).mono ?_
    rintro e w1 ⟨p, x, rfl, hp, hx, hb⟩
    have HB := Lib.hid hb; clear hb h
    obtain ⟨b, hbf⟩ : ∃ b, fitW (tl p) (tl x) = b := ⟨_, rfl⟩
    have HF := Lib.hid hbf; clear hbf
    by_cases hval : pv (tl p) = true ∧ wv (tl x) = true ∧ (tl p).length = (tl x).length
    · obtain ⟨v1, v2, v3⟩ := hval
      have hl := pv_length v1
      rw [length_tl] at hl
      have v3' : p.size = x.size := v3
      have hne : (((p.size : Nat) : Int) != ((x.size : Nat) : Int)) = false := by simp; omega
      have hle : p.size ≤ x.size := by omega
      have hle' : x.size ≤ p.size := by omega
      have hlx : x.size ≤ 200 := by omega
      have haf := agree_fit (tl p) (tl x) v3 (fun c hc => wv_mem v2 hc)
      have e1 : kcount (tl p) = (kn (tl p) : Int) := by unfold kcount; rw [if_pos v1]
      have hfb : (fitL (tl p) (tl x)) = b := by
        have := HF.out; unfold fitW at this
        rw [show decide (pv (tl p) = true ∧ wv (tl x) = true ∧ (tl p).length = (tl x).length) = true by simp only [decide_eq_true_eq]; exact ⟨v1, v2, v3⟩] at this
        simpa using this
      have hbb : b = (((agree (tl p) (tl x) : Nat) : Int) == kcount (tl p)) := by
        rw [e1, ← hfb, Bool.eq_iff_iff, haf.2, beq_iff_eq]; omega
      have HBB := Lib.hid hbb
      have F1 := Lib.hid (fitW_self v2)
      have F2 := Lib.hid (fitW_gaps v2)
      have V1 := Lib.hid v1
      have V2 := Lib.hid v2
      clear v1 v2 v3 v3' haf e1 hfb hbb
      cases b with
      | true =>
        go_wp2_with fail
        refine (fits_is _ _ true _ HF.out).mono ?_
        rintro e w2 ⟨rfl, hb2⟩
        have HB2 := Lib.hid (HB.out.trans (hb2.mono HB.out.size)); clear hb2
        go_wp2_with fail
        refine (sFits_is _ _ true _ HF.out).mono ?_
        rintro e w3 ⟨rfl, hb3⟩
        have HB3 := Lib.hid (HB2.out.trans (hb3.mono HB2.out.size)); clear hb3
        go_wp2_with fail
        refine (partialValid_is _ true _ V1.out).mono ?_
        rintro e w' ⟨rfl, rfl⟩
        go_wp2_with fail
        refine (wordValid_is _ true _ V2.out).mono ?_
        rintro e w' ⟨rfl, rfl⟩
        go_wp2_with fail
        go_loopw [6, 7] (fun n i wr => ∃ k : Nat, k ≤ p.size ∧ i = .int .i64 k ∧ n = .int .i64 (agree ((tl p).take k) ((tl x).take k)) ∧ Below w.heap.size w wr) (fun _ i _ => p.size - (intOf i).toNat)
        case atStart => exact ⟨0, Nat.zero_le _, rfl, rfl, HB3.out⟩
        case round =>
          obtain ⟨k, hk, rfl, rfl, hbl⟩ := hrel
          have HBL := Lib.hid hbl; clear hbl
          have hal := agree_le ((tl p).take k) ((tl x).take k)
          have hat : ((tl p).take k).length ≤ k := List.length_take_le _ _
          by_cases hlt : k < p.size
          · have hltx : k < x.size := by omega
            have hi1 : (k : Int) < (p.size : Int) := by omega
            have hi3 : (k : Int) < (x.size : Int) := by omega
            have hsn : agree ((tl p).take (k + 1)) ((tl x).take (k + 1)) = agree ((tl p).take k) ((tl x).take k) + if p[k] = x[k] then 1 else 0 :=
              agree_snoc (tl p) (tl x) k (by rw [length_tl]; exact hlt) (by rw [length_tl]; exact hltx)
            have HSN := Lib.hid hsn; clear hsn
            by_cases he : p[k] = x[k]
            · have heb : (((p[k].toNat : Nat) : Int) == ((x[k].toNat : Nat) : Int)) = true := by rw [he]; simp
              have HE := Lib.hid he; clear he
              go_wp2_with fail
              go_quiet (fail)
              go_wp2_with fail
              go_roundw
              case rel => exact ⟨k + 1, by omega, by go_num, by rw [HSN.out, if_pos HE.out]; go_num, below_drewN' HBL.out _⟩
              case measure => simp [intOf]; omega
            · have heb : (((p[k].toNat : Nat) : Int) == ((x[k].toNat : Nat) : Int)) = false := by
                rw [beq_eq_false_iff_ne]; intro hh; exact he (UInt8.toNat_inj.1 (by omega))
              have HE := Lib.hid he; clear he
              go_wp2_with fail
              go_quiet (fail)
              go_wp2_with fail
              go_roundw
              case rel => exact ⟨k + 1, by omega, by go_num, by rw [HSN.out, if_neg HE.out]; rfl, below_drewN' HBL.out _⟩
              case measure => simp [intOf]; omega
          · have ek : k = p.size := by omega
            subst ek
            have et : agree ((tl p).take p.size) ((tl x).take p.size) = agree (tl p) (tl x) := by
              rw [List.take_of_length_le (by rw [length_tl]; omega)]
              by_cases hxx : x.size ≤ p.size
              · rw [List.take_of_length_le (by rw [length_tl]; omega)]
              · omega
            have hbq := HBB.out
            rw [et] at hal ⊢
            obtain ⟨ag, hag⟩ : ∃ ag, ag = agree (tl p) (tl x) := ⟨_, rfl⟩
            rw [← hag] at hbq ⊢
            clear et hag hal
            replace hbq := hbq.symm
            go_wp2_with fail
            refine (knownCount_any p _).mono ?_
            rintro e w' ⟨rfl, rfl⟩
            go_wp2_with fail
            refine (fits_is x x true _ F1.out).mono ?_
            rintro e w4 ⟨rfl, hb4⟩
            have HB4 := Lib.hid (HBL.out.trans (hb4.mono HBL.out.size)); clear hb4
            go_wp2_with fail
            refine (rcAll_one _ 45 x.size (by omega)).mono ?_
            rintro e w' ⟨rfl, rfl⟩
            go_wp2_with fail
            refine (fits_is (mk (List.replicate x.size 45)) x true _ F2.out).mono ?_
            rintro e w5 ⟨rfl, hb5⟩
            have HB5 := Lib.hid (HB4.out.trans (hb5.mono HB4.out.size)); clear hb5
            go_wp2_with fail
            go_ret
            exact ⟨rfl, HB5.out⟩
      | false =>
        go_wp2_with fail
        refine (fits_is _ _ false _ HF.out).mono ?_
        rintro e w2 ⟨rfl, hb2⟩
        have HB2 := Lib.hid (HB.out.trans (hb2.mono HB.out.size)); clear hb2
        go_wp2_with fail
        refine (sFits_is _ _ false _ HF.out).mono ?_
        rintro e w3 ⟨rfl, hb3⟩
        have HB3 := Lib.hid (HB2.out.trans (hb3.mono HB2.out.size)); clear hb3
        go_wp2_with fail
        refine (partialValid_is _ true _ V1.out).mono ?_
        rintro e w' ⟨rfl, rfl⟩
        go_wp2_with fail
        refine (wordValid_is _ true _ V2.out).mono ?_
        rintro e w' ⟨rfl, rfl⟩
        go_wp2_with fail
        go_loopw [6, 7] (fun n i wr => ∃ k : Nat, k ≤ p.size ∧ i = .int .i64 k ∧ n = .int .i64 (agree ((tl p).take k) ((tl x).take k)) ∧ Below w.heap.size w wr) (fun _ i _ => p.size - (intOf i).toNat)
        case atStart => exact ⟨0, Nat.zero_le _, rfl, rfl, HB3.out⟩
        case round =>
          obtain ⟨k, hk, rfl, rfl, hbl⟩ := hrel
          have HBL := Lib.hid hbl; clear hbl
          have hal := agree_le ((tl p).take k) ((tl x).take k)
          have hat : ((tl p).take k).length ≤ k := List.length_take_le _ _
          by_cases hlt : k < p.size
          · have hltx : k < x.size := by omega
            have hi1 : (k : Int) < (p.size : Int) := by omega
            have hi3 : (k : Int) < (x.size : Int) := by omega
            have hsn : agree ((tl p).take (k + 1)) ((tl x).take (k + 1)) = agree ((tl p).take k) ((tl x).take k) + if p[k] = x[k] then 1 else 0 :=
              agree_snoc (tl p) (tl x) k (by rw [length_tl]; exact hlt) (by rw [length_tl]; exact hltx)
            have HSN := Lib.hid hsn; clear hsn
            by_cases he : p[k] = x[k]
            · have heb : (((p[k].toNat : Nat) : Int) == ((x[k].toNat : Nat) : Int)) = true := by rw [he]; simp
              have HE := Lib.hid he; clear he
              go_wp2_with fail
              go_quiet (fail)
              go_wp2_with fail
              go_roundw
              case rel => exact ⟨k + 1, by omega, by go_num, by rw [HSN.out, if_pos HE.out]; go_num, below_drewN' HBL.out _⟩
              case measure => simp [intOf]; omega
            · have heb : (((p[k].toNat : Nat) : Int) == ((x[k].toNat : Nat) : Int)) = false := by
                rw [beq_eq_false_iff_ne]; intro hh; exact he (UInt8.toNat_inj.1 (by omega))
              have HE := Lib.hid he; clear he
              go_wp2_with fail
              go_quiet (fail)
              go_wp2_with fail
              go_roundw
              case rel => exact ⟨k + 1, by omega, by go_num, by rw [HSN.out, if_neg HE.out]; rfl, below_drewN' HBL.out _⟩
              case measure => simp [intOf]; omega
          · have ek : k = p.size := by omega
            subst ek
            have et : agree ((tl p).take p.size) ((tl x).take p.size) = agree (tl p) (tl x) := by
              rw [List.take_of_length_le (by rw [length_tl]; omega)]
              by_cases hxx : x.size ≤ p.size
              · rw [List.take_of_length_le (by rw [length_tl]; omega)]
              · omega
            have hbq := HBB.out
            rw [et] at hal ⊢
            obtain ⟨ag, hag⟩ : ∃ ag, ag = agree (tl p) (tl x) := ⟨_, rfl⟩
            rw [← hag] at hbq ⊢
            clear et hag hal
            replace hbq := hbq.symm
            go_wp2_with fail
            refine (knownCount_any p _).mono ?_
            rintro e w' ⟨rfl, rfl⟩
            go_wp2_with fail
            refine (fits_is x x true _ F1.out).mono ?_
            rintro e w4 ⟨rfl, hb4⟩
            have HB4 := Lib.hid (HBL.out.trans (hb4.mono HBL.out.size)); clear hb4
            go_wp2_with fail
            refine (rcAll_one _ 45 x.size (by omega)).mono ?_
            rintro e w' ⟨rfl, rfl⟩
            go_wp2_with fail
            refine (fits_is (mk (List.replicate x.size 45)) x true _ F2.out).mono ?_
            rintro e w5 ⟨rfl, hb5⟩
            have HB5 := Lib.hid (HB4.out.trans (hb5.mono HB4.out.size)); clear hb5
            go_wp2_with fail
            go_ret
            exact ⟨rfl, HB5.out⟩
    · have hbf : b = false := by
        have := HF.out; unfold fitW at this
        rw [show decide (pv (tl p) = true ∧ wv (tl x) = true ∧ (tl p).length = (tl x).length) = false by simp only [decide_eq_false_iff_not]; exact hval] at this
        simpa using this.symm
      subst hbf
      have HV := Lib.hid hval; clear hval
      go_wp2_with fail
      refine (fits_is _ _ false _ HF.out).mono ?_
      rintro e w2 ⟨rfl, hb2⟩
      have HB2 := Lib.hid (HB.out.trans (hb2.mono HB.out.size)); clear hb2
      go_wp2_with fail
      refine (sFits_is _ _ false _ HF.out).mono ?_
      rintro e w3 ⟨rfl, hb3⟩
      have HB3 := Lib.hid (HB2.out.trans (hb3.mono HB2.out.size)); clear hb3
      go_wp2_with fail
      by_cases v1 : pv (tl p) = true
      · refine (partialValid_is _ true _ v1).mono ?_
        rintro e w' ⟨rfl, rfl⟩
        by_cases v2 : wv (tl x) = true
        · have hne : (((p.size : Nat) : Int) != ((x.size : Nat) : Int)) = true := by
            rw [bne_iff_ne]; intro hh; exact HV.out ⟨v1, v2, by rw [length_tl, length_tl]; omega⟩
          clear v1
          go_wp2_with fail
          refine (wordValid_is _ true _ v2).mono ?_
          rintro e w' ⟨rfl, rfl⟩
          clear v2
          go_wp2_with fail
          refine (sFits_is _ _ false _ HF.out).mono ?_
          rintro e w4 ⟨rfl, hb4⟩
          go_wp2_with fail
          go_ret
          exact ⟨rfl, HB3.out.trans (hb4.mono HB3.out.size)⟩
        · clear v1
          go_wp2_with fail
          refine (wordValid_is _ false _ (by simpa using v2)).mono ?_
          rintro e w' ⟨rfl, rfl⟩
          clear v2
          go_wp2_with fail
          refine (sFits_is _ _ false _ HF.out).mono ?_
          rintro e w4 ⟨rfl, hb4⟩
          go_wp2_with fail
          go_ret
          exact ⟨rfl, HB3.out.trans (hb4.mono HB3.out.size)⟩
      · refine (partialValid_is _ false _ (by simpa using v1)).mono ?_
        rintro e w' ⟨rfl, rfl⟩
        clear v1
        go_wp2_with fail
        refine (sFits_is _ _ false _ HF.out).mono ?_
        rintro e w4 ⟨rfl, hb4⟩
        go_wp2_with fail
        go_ret
        exact ⟨rfl, HB3.out.trans (hb4.mono HB3.out.size)⟩

end Go.Proofs.Ytcgihkapcfpjcaa
