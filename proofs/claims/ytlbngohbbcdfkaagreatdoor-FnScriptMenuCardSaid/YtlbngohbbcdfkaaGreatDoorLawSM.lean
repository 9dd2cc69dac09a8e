/-
  The walk of the law FnScriptMenu: it returns true whatever the bytes are; nothing that was there is changed. No conditions.
-/
import Derived.Test.YtlbngohbbcdfkaaGreatDoorScriptM
import Derived.Test.YtlbngohbbcdfkaaGreatDoorMenuS
import Derived.Test.YtlbngohbbcdfkaaGreatDoorTextF
import Derived.Test.YtlbngohbbcdfkaaGreatDoorRcNum
import Derived.Test.YtlbngohbbcdfkaaGreatDoorRcJoin
namespace Go.Proofs.YtlbngohbbcdfkaaGreatDoor
open Go.RowKit Pl
set_option linter.unusedVariables false

theorem menu_text (c k d : ByteArray) (t : Nat) (hd : d = mk (Lib.decDigits t)) :
    tl (⟨#[99, 114, 105, 98, 32]⟩ ++ c ++ ⟨#[32]⟩ ++ k ++ ⟨#[10, 109, 101, 110, 117, 32]⟩ ++ c ++ ⟨#[32]⟩ ++ k ++ ⟨#[32]⟩ ++ d ++ ⟨#[10]⟩) = [cribLine c k, menuLine c k t].flatMap (· ++ [10]) := by
  subst hd
  simp only [append_tl, tl_mk]
  rw [show tl (⟨#[99, 114, 105, 98, 32]⟩ : ByteArray) = [99, 114, 105, 98, 32] from rfl, show tl (⟨#[32]⟩ : ByteArray) = [32] from rfl, show tl (⟨#[10, 109, 101, 110, 117, 32]⟩ : ByteArray) = [10, 109, 101, 110, 117, 32] from rfl, show tl (⟨#[10]⟩ : ByteArray) = [10] from rfl]
  simp [cribLine, menuLine, itoa_nat]
theorem menu_out (J F : ByteArray) (P : List Nat) (m : List Lnk) (hJ : J = mk (numsT P)) (hF : F = mk (menuT m)) : mk (numsT P ++ [10] ++ (menuT m ++ [10])) = J ++ ⟨#[10]⟩ ++ F ++ ⟨#[10]⟩ := by
  subst hJ hF
  simp only [append_tl, tl_mk]
  rw [show tl (⟨#[10]⟩ : ByteArray) = [10] from rfl]
  simp
/-- the numerals of some numbers -/
def decL (l : List Nat) : List ByteArray := l.map fun n => mk (Lib.decDigits n)
theorem decL_len (l : List Nat) : (decL l).length = l.length := by simp [decL]
theorem decL_join (l : List Nat) : Lib.join ((decL l).map tl) (tl ⟨#[32]⟩) = numsT l := by
  unfold numsT decL
  rw [show tl (⟨#[32]⟩ : ByteArray) = [32] from rfl, List.map_map]
  have h : (fun n : Nat => Lib.itoa (n : Int)) = tl ∘ fun n => mk (Lib.decDigits n) := by
    funext n; rw [itoa_nat]; rfl
  rw [h]
theorem decL_step {l : List Nat} {k : Nat} (hk : k < l.length) : strV (decL (l.take k)) ++ [Value.string (mk (Lib.decDigits l[k]))] = strV (decL (l.take (k + 1))) := by
  rw [List.take_succ_eq_append_getElem hk]
  unfold decL strV
  rw [List.map_append, List.map_append]; rfl

set_option maxHeartbeats 8000000 in
set_option maxRecDepth 100000 in
theorem fnScriptMenu_walk (w : World) (hml : GW w) (A : Option Addr) (cap : Nat) (bs : List UInt8) (h : Rd w w.heap.size A (bytesV bs)) (hc : bs.length ≤ cap) :
    Calls Tryz.prog 3 #[.slice A bs.length cap] w fun e w' => e = .returned (.bool true) ∧ Below w.heap.size w w' := by
  have HML := Lib.hid hml; clear hml
  by_cases hlen : 1048576 < bs.length
  · go_enter Tryz.func3, Tryz.ntmps3
    go_wp2_with fail
    go_ret
    exact ⟨rfl, Below.refl _ _⟩
  · obtain ⟨iS, hi, hz0, hz1, hz2⟩ := info_parts Tryz.infoS
    have HI := Lib.hid hi; have HZ0 := Lib.hid hz0; have HZ1 := Lib.hid hz1; have HZ2 := Lib.hid hz2
    clear hi hz0 hz1 hz2
    go_enter Tryz.func3, Tryz.ntmps3
    go_wp2_with fail
    refine (drawMenuOf_any w A cap bs h hc).mono ?_
    rintro _ w1 ⟨c, k, t, rfl, hcz, hkz, ht1, ht2, hb1⟩
    have HB1 := Lib.hid hb1; clear hb1 h
    have hdec : (∃ T : Nat, t = (T : Int) ∧ cribF (tl c) (tl k) T = true ∧ k.size ≤ 12 ∧ T + k.size ≤ 60) ∨ (cribF (tl c) (tl k) t = false ∨ 12 < k.size ∨ 60 < t + k.size) := by
      cases hf : cribF (tl c) (tl k) t with
      | false => exact .inr (.inl rfl)
      | true =>
        obtain ⟨T, rfl⟩ := Int.eq_ofNat_of_zero_le (cribF_iff.1 hf).2.2.2.1
        by_cases h1 : k.size ≤ 12
        · by_cases h2 : T + k.size ≤ 60
          · exact .inl ⟨T, rfl, hf, h1, h2⟩
          · exact .inr (.inr (.inr (by omega)))
        · exact .inr (.inr (.inl (by omega)))
    rcases hdec with ⟨T, rfl, hf, h12, h60⟩ | hno
    · have hkn := (cribF_iff.1 hf).2.2.1
      obtain ⟨hcw, hkw, _, _, hle, _⟩ := cribF_iff.1 hf
      have zc := wv_length hcw
      have zk := wv_length hkw
      rw [length_tl] at zc zk hle
      rw [length_tl] at hle
      have htz : T ≤ 200 := by omega
      have hbt : menuB (menuL (tl c) (tl k) T) = true := (menuB_L hkn).2 (by rw [length_tl]; exact ⟨h12, h60⟩)
      have hmo := fun w' => menuOf_some c k T w' hf h12 h60
      have hso : ∀ w', Calls Tryz.prog 8 #[.string c, .string k, .int .i64 T] w' fun e w'' => ∃ A cap, e = .returned (.tuple #[.slice A (menuL (tl c) (tl k) T).length cap, .bool true]) ∧ w''.ownsRow w'.heap.size 50 3 (.slice A (menuL (tl c) (tl k) T).length cap) (menuL (tl c) (tl k) T).length (linkV (menuL (tl c) (tl k) T)) ∧ Below w'.heap.size w' w'' := fun w' => (sMenuOf_fit c k T w' hf).mono fun e w'' hp => by
        rcases hp with ⟨_, hp⟩ | ⟨hh, _⟩
        · exact hp
        · rw [hbt] at hh; cases hh
      have hmv := menuL_valid hf (by rw [length_tl]; exact h12) (by rw [length_tl]; exact h60)
      have hrun := fun (w' : World) (hg : GW w') (X : ByteArray) hX => run_menu w' hg X c k T hf h12 h60 hX
      have hplc := fun w' => cribPlaces_any c k w' (by omega)
      have hpm : ∀ n ∈ cribP (tl c) (tl k), n < 200 := fun n hn => by
        have := List.mem_range.1 (List.mem_filter.1 hn).1
        rw [length_tl] at this; omega
      have hpl : (cribP (tl c) (tl k)).length ≤ 200 := by
        unfold cribP
        exact Nat.le_trans (List.length_filter_le _ _) (by rw [List.length_range, length_tl]; exact zc)
      obtain ⟨m, hm⟩ : ∃ m, m = menuL (tl c) (tl k) T := ⟨_, rfl⟩
      obtain ⟨P, hP⟩ : ∃ P, P = cribP (tl c) (tl k) := ⟨_, rfl⟩
      rw [← hm] at hmo hso hmv hrun
      rw [← hP] at hrun hplc hpm hpl
      obtain ⟨D, hD⟩ : ∃ D, D = mk (Lib.decDigits T) := ⟨_, rfl⟩
      have hdn := fun w' => rcNumber_any w' T (by omega)
      rw [← hD] at hdn
      have hDz : D.size ≤ 14 := by rw [hD, size_mk]; exact dec_len T (by omega)
      obtain ⟨J, hJ⟩ : ∃ J, J = mk (numsT P) := ⟨_, rfl⟩
      obtain ⟨F, hF⟩ : ∃ F, F = mk (menuT m) := ⟨_, rfl⟩
      have hJz : J.size ≤ 10000 := by rw [hJ, size_mk]; exact nums_len hpm hpl
      have hFz : F.size ≤ 1000 := by rw [hF, size_mk]; exact menuT_len hmv
      have hR := fun (w' : World) (hg : GW w') => hrun w' hg _ (menu_text c k D T hD)
      rw [menu_out J F P m hJ hF] at hR
      have hfm := fun (w' : World) (hg : GW w') (A' : Option Addr) (cap' : Nat) (h' : Rd w' w'.heap.size A' (linkV m)) (hc' : m.length ≤ cap') => formatMenu_any w' hg A' cap' m h' hc' hmv
      rw [← hF] at hfm
      have hjn := fun (w' : World) (A' : Option Addr) (cap' : Nat) (h' : Rd w' w'.heap.size A' (strV (decL P))) (hc' : (decL P).length ≤ cap') => rcJoin_any w' A' cap' (decL P) ⟨#[32]⟩ h' (by rw [decL_len]; omega) hc' (fun s hs => by
        obtain ⟨n, hn, rfl⟩ := List.mem_map.1 hs
        have := dec_len n (by have := hpm n hn; omega)
        rw [size_mk]; omega) (by decide)
      rw [decL_join, ← hJ, decL_len] at hjn
      have hml : m.length ≤ 12 := hmv.2.1
      have hrc := fun (w' : World) (A1 A2 : Option Addr) (c1 c2 : Nat) (h1 : Rd w' w'.heap.size A1 (linkV m)) (h2 : Rd w' w'.heap.size A2 (linkV m)) (k1 : m.length ≤ c1) (k2 : m.length ≤ c2) => rcMenus_same w' A1 A2 c1 c2 m h1 h2 k1 k2 (by omega)
      have HMO := Lib.hid hmo; have HSO := Lib.hid hso; have HR := Lib.hid hR; have HPLC := Lib.hid hplc; have HPM := Lib.hid hpm; have HDN := Lib.hid hdn; have HFM := Lib.hid hfm; have HJN := Lib.hid hjn; have HRC := Lib.hid hrc
      clear hf hkn hcw hkw hle hbt hmo hso hmv hrun hplc hpm hm hP hD hdn hJ hF hR hfm hjn hrc h12 h60
      go_wp2_with fail
      refine (HMO.out _).mono ?_
      rintro _ w2 ⟨v2, rfl, hov2, hb2⟩
      obtain ⟨A2, c2, e2⟩ := slot_slice hov2
      subst e2
      have HB2 := Lib.hid (HB1.out.trans (hb2.mono HB1.out.size)); have HM2 := Lib.hid (own_rd2 hov2)
      have hm2 := own_le2 hov2
      clear hb2 hov2 HMO
      go_wp2_with fail
      refine (HSO.out _).mono ?_
      rintro _ w3 ⟨A3, c3, rfl, hov3, hb3⟩
      have HM3 := Lib.hid ((HM2.out.below hb3).mono hb3.size); have HB3 := Lib.hid (HB2.out.trans (hb3.mono HB2.out.size)); have HW3 := Lib.hid (own_rd2 hov3)
      have hm3 := own_le2 hov3
      clear hb3 hov3 HSO HM2
      go_wp2_with fail
      refine (HRC.out w3 A2 A3 c2 c3 HM3.out HW3.out hm2 hm3).mono ?_
      rintro _ w4 ⟨rfl, hb4⟩
      have HM4 := Lib.hid ((HM3.out.below hb4).mono hb4.size); have HB4 := Lib.hid (HB3.out.trans (hb4.mono HB3.out.size))
      clear hb4 HM3 HW3 HRC
      go_wp2_with fail
      refine (HPLC.out _).mono ?_
      rintro _ w5 ⟨v5, rfl, hov5, hb5⟩
      obtain ⟨A5, c5, e5⟩ := slot_slice hov5
      subst e5
      have HM5 := Lib.hid ((HM4.out.below hb5).mono hb5.size); have HB5 := Lib.hid (HB4.out.trans (hb5.mono HB4.out.size)); have HP5 := Lib.hid (own_rd2 hov5)
      clear hb5 hov5 HM4 HPLC
      have how : (w5.alloc (.cells #[] 9)).ownsRow w5.heap.size 9 1 (.slice (some ⟨w5.heap.size, 0, none⟩) 0 0) 0 (strV (decL (P.take 0))) := World.ownsRow_made w5 #[] 0 (Nat.le_refl _) (by decide) rfl
      have hb0 : Below w5.heap.size w5 (w5.alloc (.cells #[] 9)) := (Below.refl _ _).alloc (Nat.le_refl _) _
      obtain ⟨B, hB⟩ : ∃ B, B = w5.heap.size := ⟨_, rfl⟩
      have HOW := Lib.hid how; have HB0 := Lib.hid hb0; clear how hb0
      go_wp2_with fail
      rw [← hB] at HOW ⊢
      have HBE := Lib.hid hB; clear hB
      go_loopw [11, 12] (fun o i wr => ∃ n : Nat, n ≤ P.length ∧ i = .int .i64 n ∧ wr.ownsRow B 9 1 o n (strV (decL (P.take n))) ∧ Below w5.heap.size w5 wr) (fun _ i _ => P.length - (intOf i).toNat)
      case atStart => exact ⟨0, Nat.zero_le _, rfl, HOW.out, HB0.out⟩
      case round =>
        obtain ⟨n, hn, rfl, hown, hbl⟩ := hrel
        have HO := Lib.hid hown; have HBL := Lib.hid hbl; clear hown hbl HOW HB0
        obtain ⟨A6, c6, e6⟩ := slot_slice HO.out
        subst e6
        by_cases hlt : n < P.length
        · obtain ⟨b, off, rfl, hbb, c0⟩ := (HP5.out.below HBL.out).nat hlt
          have hcon := fun w' => rcNumber_any w' P[n] (by have := HPM.out _ (List.getElem_mem hlt); omega)
          have hst := decL_step hlt
          generalize P[n] = p at c0 hcon hst
          have HCON := Lib.hid hcon; have HST := Lib.hid hst; clear hcon hst
          generalize mk (Lib.decDigits p) = N at HCON HST
          go_wp2_with fail
          refine (HCON.out _).mono ?_
          rintro _ w6 ⟨rfl, hb6⟩
          have HO6 := Lib.hid (ownsRow_below HO.out hb6); have HB6 := Lib.hid (HBL.out.trans (hb6.mono HBL.out.size))
          have hbw : B ≤ w6.heap.size := by rw [HBE.out]; exact HB6.out.size
          clear hb6 HO HBL HCON c0
          go_wp2_with (at_builtin; refine wpList_append_own _ rfl _ _ 31 rfl B 9 iS (.string ByteArray.empty) 1 16 Tryz.undS HI.out HZ0.out HZ1.out HZ2.out rfl (by decide) _ n _ rfl (HO6.out.alloc _) ⟨w6.heap.size, 0, none⟩ 1 1 [.string N] rfl rfl (one_new w6 (.string N) 9) one_cell (by unfold maxLen; omega) (by omega) (by simp; omega) ?_)
          intro v' w7 ho' hg' _
          rw [HST.out] at ho'
          have hb7 : Below w5.heap.size w5 w7 := (HB6.out.alloc HB6.out.size _).grown hg' (Nat.le_trans HB6.out.size (by simp)) fun k' e => by have := (HO6.out.lt k' e).1; have := HBE.out; omega
          have HO7 := Lib.hid ho'; have HB7 := Lib.hid hb7; clear ho' hg' hb7
          go_wp2_with fail
          go_roundw
          case rel => exact ⟨n + 1, by omega, by go_num, HO7.out, HB7.out⟩
          case measure => simp [intOf]; omega
        · obtain rfl : n = P.length := by omega
          have ho := HO.out
          rw [List.take_of_length_le (Nat.le_refl _)] at ho
          have HJR := Lib.hid (own_rd2 ho)
          have hjc := own_le2 ho
          have HBS := Lib.hid (HB5.out.trans (HBL.out.mono HB5.out.size))
          have HMS := Lib.hid ((HM5.out.below HBL.out).mono HBL.out.size)
          clear ho HO HBL hlt hn
          go_wp2_with fail
          refine (HDN.out _).mono ?_
          rintro _ w6 ⟨rfl, hb6⟩
          have HB6 := Lib.hid (HBS.out.trans (hb6.mono HBS.out.size)); have HM6 := Lib.hid ((HMS.out.below hb6).mono hb6.size); have HJ6 := Lib.hid ((HJR.out.below hb6).mono hb6.size)
          clear hb6 HDN
          go_wp2_with fail
          refine (HR.out _ (HML.out.below HB6.out (Nat.le_refl _))).mono ?_
          rintro _ w7 ⟨rfl, hb7⟩
          have HB7 := Lib.hid (HB6.out.trans (hb7.mono HB6.out.size)); have HM7 := Lib.hid ((HM6.out.below hb7).mono hb7.size); have HJ7 := Lib.hid ((HJ6.out.below hb7).mono hb7.size)
          clear hb7 HR
          have hfin : ((J ++ ⟨#[10]⟩ ++ F ++ ⟨#[10]⟩ : ByteArray).toList == (J ++ ⟨#[10]⟩ ++ F ++ ⟨#[10]⟩ : ByteArray).toList) = true := beq_self_eq_true _
          go_wp2_with fail
          refine (HJN.out _ _ _ HJ7.out hjc).mono ?_
          rintro _ _ ⟨rfl, q, rfl⟩
          go_wp2_with fail
          refine (HFM.out _ ((HML.out.below HB7.out (Nat.le_refl _)).below (below_drewN' (Below.refl _ _) q) (Nat.le_refl _)) A2 c2 ((HM7.out.below (below_drewN' (Below.refl _ _) q)).mono (Nat.le_refl _)) hm2).mono ?_
          rintro _ w9 ⟨rfl, hb9⟩
          have HB9 := Lib.hid ((below_drewN' HB7.out q).trans (hb9.mono HB7.out.size))
          clear hb9
          go_wp2_with fail
          go_ret
          exact ⟨rfl, HB9.out⟩
    · have hmo := fun w' => menuOf_none c k t w' (by omega) hno
      have hso : ∀ w', Calls Tryz.prog 8 #[.string c, .string k, .int .i64 t] w' fun e w'' => ∃ A, e = .returned (.tuple #[.slice A 0 0, .bool false]) ∧ Below w'.heap.size w' w'' := fun w' => by
        cases hf : cribF (tl c) (tl k) t with
        | false =>
          refine (sMenuOf_none c k t w' (by omega) hf []).mono ?_
          rintro e w'' (⟨hh, _⟩ | ⟨_, A', rfl, hb⟩)
          · exact absurd hh (by decide)
          · exact ⟨A', rfl, hb⟩
        | true =>
          obtain ⟨T, rfl⟩ := Int.eq_ofNat_of_zero_le (cribF_iff.1 hf).2.2.2.1
          have hbf : menuB (menuL (tl c) (tl k) T) = false := by
            rw [Bool.eq_false_iff]; intro e
            have h2 := (menuB_L (cribF_iff.1 hf).2.2.1).1 e
            rw [length_tl] at h2
            rcases hno with h | h | h
            · rw [hf] at h; cases h
            · omega
            · omega
          refine (sMenuOf_fit c k T w' hf).mono ?_
          rw [hbf]
          rintro e w'' (⟨hh, _⟩ | ⟨_, A', rfl, hb⟩)
          · exact absurd hh (by decide)
          · exact ⟨A', rfl, hb⟩
      have HMO := Lib.hid hmo; have HSO := Lib.hid hso; clear hmo hso hno
      go_wp2_with fail
      refine (HMO.out _).mono ?_
      rintro _ w2 ⟨rfl, hb2⟩
      have HB2 := Lib.hid (HB1.out.trans (hb2.mono HB1.out.size)); clear hb2
      go_wp2_with fail
      refine (HSO.out _).mono ?_
      rintro _ w3 ⟨A3, rfl, hb3⟩
      have HB3 := Lib.hid (HB2.out.trans (hb3.mono HB2.out.size)); clear hb3
      go_wp2_with fail
      refine (rcMenus_same w3 none A3 0 0 [] Rd.nil Rd.nil (Nat.le_refl _) (Nat.le_refl _) (by simp)).mono ?_
      rintro _ w4 ⟨rfl, hb4⟩
      have HB4 := Lib.hid (HB3.out.trans (hb4.mono HB3.out.size)); clear hb4
      go_wp2_with fail
      refine (rcMenus_same w4 none A3 0 0 [] Rd.nil Rd.nil (Nat.le_refl _) (Nat.le_refl _) (by simp)).mono ?_
      rintro _ w5 ⟨rfl, hb5⟩
      have HB5 := Lib.hid (HB4.out.trans (hb5.mono HB4.out.size)); clear hb5
      go_wp2_with fail
      go_ret
      exact ⟨rfl, HB5.out⟩

end Go.Proofs.YtlbngohbbcdfkaaGreatDoor
