/-
  The enciphering of a word by the reference. Conditions: what each theorem names.
-/
import Derived.Test.YtflaoicjgigcaaaGreatDoorEncI
import Derived.Test.YtflaoicjgigcaaaGreatDoorTextF
namespace Go.Proofs.YtflaoicjgigcaaaGreatDoor
open Go.RowKit Pl
set_option linter.unusedVariables false

/-- the first n permutations -/
def permsTo (K : Nat → List Nat) (n : Nat) : List (List Nat) := (List.range n).map fun j => K (j + 1)
theorem permsTo_len (K : Nat → List Nat) (n : Nat) : (permsTo K n).length = n := by unfold permsTo; rw [List.length_map, List.length_range]
theorem permsTo_succ (K : Nat → List Nat) (n : Nat) : permsTo K (n + 1) = permsTo K n ++ [K (n + 1)] := by unfold permsTo; rw [List.range_succ, List.map_append]; rfl
theorem permsTo_at (K : Nat → List Nat) {n k : Nat} (h : k < (permsTo K n).length) : (permsTo K n)[k] = K (k + 1) := by simp only [permsTo, List.getElem_map, List.getElem_range]
theorem encN_nth (Pr : Nat → List Nat) {us : List Nat} {i : Nat} (h : i < us.length) : nth (encN Pr us) i = nth (Pr (i + 1)) (nth us i) := by
  rw [nth_eq (by rw [encN_len]; exact h), nth_eq h, encN_at Pr h]

set_option maxHeartbeats 8000000 in
set_option maxRecDepth 100000 in
theorem l8Perms_is (w : World) (A : Option Addr) (cap : Nat) (rs : List (ByteArray × ByteArray)) (q rg pl : List Nat) (S : Nat → ByteArray) (K : Nat → List Nat) (n : Nat) (m : Int) (hm : m = (n : Int)) (hn : n ≤ 200) (h : WhA w A cap rs)
    (hst : ∀ (w' : World) (k : Nat), WhA w' A cap rs → Calls Tryz.prog 90 #[.agg (whC (.slice A rs.length cap) (.string (pT q))), .string (S k)] w' fun e w'' => e = .returned (.string (S (k + 1))) ∧ Below w'.heap.size w' w'')
    (hpm : ∀ (w' : World) (k : Nat), WhA w' A cap rs → Calls Tryz.prog 28 #[.agg (macC (.slice A rs.length cap) q rg pl), .string (S k)] w' fun e w'' => e = .returned (.string (pT (K k))) ∧ Below w'.heap.size w' w'') :
    Calls Tryz.prog 76 #[.agg (macC (.slice A rs.length cap) q rg pl), .string (S 0), .int .i64 m] w fun e w' => ∃ v : Value, e = .returned v ∧ w'.ownsRow w.heap.size 9 1 v n (strV (pTs (permsTo K n))) ∧ Below w.heap.size w w' := by
  subst hm
  obtain ⟨iS, hi, hz0, hz1, hz2⟩ := info_parts Tryz.infoS
  have HI := Lib.hid hi; have HZ0 := Lib.hid hz0; have HZ1 := Lib.hid hz1; have HZ2 := Lib.hid hz2
  clear hi hz0 hz1 hz2
  have hsz : (w.alloc (.cells (macC (.slice A rs.length cap) q rg pl) 27)).heap.size = w.heap.size + 1 := by simp
  have how : ((w.alloc (.cells (macC (.slice A rs.length cap) q rg pl) 27)).alloc (.cells #[] 9)).ownsRow (w.heap.size + 1) 9 1 (.slice (some ⟨(w.alloc (.cells (macC (.slice A rs.length cap) q rg pl) 27)).heap.size, 0, none⟩) 0 0) 0 (strV (pTs (permsTo K 0))) := World.ownsRow_made _ #[] 0 (by rw [hsz]; exact Nat.le_refl _) (by decide) rfl
  have hb1 : Below w.heap.size w ((w.alloc (.cells (macC (.slice A rs.length cap) q rg pl) 27)).alloc (.cells #[] 9)) := ((Below.refl _ _).alloc (Nat.le_refl _) _).alloc (by rw [hsz]; omega) _
  have hs1 : SB ((w.alloc (.cells (macC (.slice A rs.length cap) q rg pl) 27)).alloc (.cells #[] 9)) w.heap.size (macC (.slice A rs.length cap) q rg pl) 27 := (SB.made w _ _).below ((Below.refl _ _).alloc (Nat.le_refl _) _)
  rw [hsz] at how
  have HST := Lib.hid hst; have HPM := Lib.hid hpm; have HOW := Lib.hid how; have HB1 := Lib.hid hb1; have HS1 := Lib.hid hs1; have HH := Lib.hid h
  clear hst hpm how hb1 hs1 h hsz
  obtain ⟨P, hP⟩ : ∃ P, P = w.heap.size := ⟨_, rfl⟩
  go_enter Tryz.func76, Tryz.ntmps76
  go_wp2_with fail
  rw [← hP] at HOW HS1 ⊢
  have HPE := Lib.hid hP; clear hP
  go_loopw [1, 7, 8] (fun s o i wr => ∃ k : Nat, s = .string (S k) ∧ i = .int .i64 k ∧ k ≤ n ∧ wr.ownsRow (P + 1) 9 1 o k (strV (pTs (permsTo K k))) ∧ Hid (SB wr P (macC (.slice A rs.length cap) q rg pl) 27) ∧ Below w.heap.size w wr) (fun _ _ i _ => n - (intOf i).toNat)
  case atStart => exact ⟨0, rfl, rfl, by omega, HOW.out, HS1, HB1.out⟩
  case round =>
    clear HOW HS1 HB1
    obtain ⟨k, rfl, rfl, hk, hown, HS, hbl⟩ := hrel
    have HO := Lib.hid hown; have HBL := Lib.hid hbl; clear hown hbl
    obtain ⟨A3, c3, e3⟩ := slot_slice HO.out
    subst e3
    by_cases hlt : k < n
    · obtain ⟨⟨c0, c1, c2, c4⟩, _⟩ := HS.out.all4
      have HT1 := Lib.hid (HST.out wr k (HH.out.below HBL.out))
      generalize S k = T at HT1 ⊢
      go_wp2_with fail
      refine HT1.out.mono ?_
      rintro _ w2 ⟨rfl, hb2⟩
      have HS2 := Lib.hid (HS.out.below hb2); have HO2 := Lib.hid (ownsRow_below HO.out hb2)
      have HB2 := Lib.hid (HBL.out.trans (hb2.mono HBL.out.size))
      clear hb2 c0 c1 c2 c4 HO HS HBL
      obtain ⟨⟨c0, c1, c2, c4⟩, _⟩ := HS2.out.all4
      have HT2 := Lib.hid (HPM.out w2 (k + 1) (HH.out.below HB2.out))
      have hll : k ≤ 200 := by omega
      obtain ⟨U, hU⟩ : ∃ U, U = S (k + 1) := ⟨_, rfl⟩
      obtain ⟨Z, hZ⟩ : ∃ Z, Z = pT (K (k + 1)) := ⟨_, rfl⟩
      rw [← hZ] at HT2
      have HZE := Lib.hid hZ
      clear hZ
      rw [← hU] at HT2 ⊢
      have HUE := Lib.hid hU
      clear hU
      go_wp2_with fail
      refine HT2.out.mono ?_
      rintro _ w3 ⟨rfl, hb3⟩
      have HS3 := Lib.hid (HS2.out.below hb3); have HO3 := Lib.hid (ownsRow_below HO2.out hb3)
      have HB3 := Lib.hid (HB2.out.trans (hb3.mono HB2.out.size))
      have hPs := HS3.out.lt
      clear hb3 c0 c1 c2 c4 HS2 HO2 HB2
      go_wp2_with (at_builtin; refine wpList_append_own _ rfl _ _ 54 rfl (P + 1) 9 iS (.string ByteArray.empty) 1 16 Tryz.undS HI.out HZ0.out HZ1.out HZ2.out rfl (by decide) _ k _ rfl (HO3.out.alloc _) ⟨w3.heap.size, 0, none⟩ 1 1 [.string Z] rfl rfl (one_new w3 (.string Z) 9) one_cell (by unfold maxLen; omega) (by omega) (by simp; omega) ?_)
      intro v' w6 ho' hg' _
      rw [HZE.out, pTs_snoc, ← permsTo_succ] at ho'
      have hs6 : SB w6 P (macC (.slice A rs.length cap) q rg pl) 27 := SB.own (SB.below HS3.out ((Below.refl _ _).alloc (Nat.le_refl _) _)) hg' (ownBlock_ne HO3.out (Nat.lt_succ_self P))
      have hb6 : Below w.heap.size w w6 := (HB3.out.alloc HB3.out.size _).grown hg' (Nat.le_trans HB3.out.size (by simp)) fun k' e => by have := (HO3.out.lt k' e).1; have := HPE.out; omega
      have HO6 := Lib.hid ho'; have HB6 := Lib.hid hb6; have HS6 := Lib.hid hs6; clear ho' hg' hb6 hs6
      go_wp2_with fail
      go_roundw
      case rel => exact ⟨k + 1, by rw [HUE.out], by go_num, by omega, HO6.out, HS6, HB6.out⟩
      case measure => simp [intOf]; omega
    · go_wp2_with fail
      go_ret
      have hkn : k = n := by omega
      subst hkn
      exact ⟨_, rfl, own_mono3 HO.out (by rw [HPE.out]; exact Nat.le_succ _), HBL.out⟩

set_option maxHeartbeats 8000000 in
set_option maxRecDepth 100000 in
theorem l8Encipher_is (w : World) (A : Option Addr) (cap : Nat) (rs : List (ByteArray × ByteArray)) (q rg pl us : List Nat) (S : Nat → ByteArray) (K : Nat → List Nat) (h : WhA w A cap rs)
    (hst : ∀ (w' : World) (k : Nat), WhA w' A cap rs → Calls Tryz.prog 90 #[.agg (whC (.slice A rs.length cap) (.string (pT q))), .string (S k)] w' fun e w'' => e = .returned (.string (S (k + 1))) ∧ Below w'.heap.size w' w'')
    (hpm : ∀ (w' : World) (k : Nat), WhA w' A cap rs → Calls Tryz.prog 28 #[.agg (macC (.slice A rs.length cap) q rg pl), .string (S k)] w' fun e w'' => e = .returned (.string (pT (K k))) ∧ Below w'.heap.size w' w'') (hK : ∀ k, Prm (K k)) (hul : us.length ≤ 200) (hu : Lo us) :
    Calls Tryz.prog 41 #[.agg (macC (.slice A rs.length cap) q rg pl), .string (S 0), .string (pT us)] w fun e w' => e = .returned (.string (pT (encN K us))) ∧ Below w.heap.size w w' := by
  have hcon := fun (w' : World) (h' : WhA w' A cap rs) (m : Int) (hm : m = (us.length : Int)) => l8Perms_is w' A cap rs q rg pl S K us.length m hm hul h' hst hpm
  have hdg := fun (w' : World) (k : Nat) (hk : k < us.length) => l1Digit_nth w' us hu k k rfl hk (by omega)
  have hb1 : Below w.heap.size w (w.alloc (.cells (macC (.slice A rs.length cap) q rg pl) 27)) := (Below.refl _ _).alloc (Nat.le_refl _) _
  have hs1 : SB (w.alloc (.cells (macC (.slice A rs.length cap) q rg pl) 27)) w.heap.size (macC (.slice A rs.length cap) q rg pl) 27 := SB.made w _ _
  have hwh := h.below hb1
  obtain ⟨⟨c0, c1, c2, c4⟩, _⟩ := hs1.all4
  obtain ⟨L, hL⟩ : ∃ L, L = us.length := ⟨_, rfl⟩
  have hdl := nth_lt hu
  have hTn : (pT us).size = L := by rw [pT_size, hL]
  have hul2 : L ≤ 200 := by rw [hL]; exact hul
  obtain ⟨E, hE⟩ : ∃ E, E = encN K us := ⟨_, rfl⟩
  have hEl : E.length = L := by rw [hE, encN_len, hL]
  have hEn : ∀ k, k < L → nth E k = nth (K (k + 1)) (nth us k) := fun k hk => by rw [hE]; exact encN_nth K (by omega)
  rw [← hE]
  rw [← hL] at hcon hdg
  obtain ⟨T, hT⟩ : ∃ T, T = pT us := ⟨_, rfl⟩
  rw [← hT] at hdg hTn ⊢
  generalize S 0 = U at hcon ⊢
  have hTi : (T.size : Int) = (L : Int) := by rw [hTn]
  have hT1 : T.size ≤ L := by omega
  have hT2 : L ≤ T.size := by omega
  obtain ⟨w1, hw1⟩ : ∃ w1, w1 = w.alloc (.cells (macC (.slice A rs.length cap) q rg pl) 27) := ⟨_, rfl⟩
  rw [← hw1] at hb1 hwh c0 c1 c2 c4
  obtain ⟨P, hP⟩ : ∃ P, P = w.heap.size := ⟨_, rfl⟩
  have HC := Lib.hid (hcon w1 hwh _ hTi); have HB1 := Lib.hid hb1; have HDG := Lib.hid hdg; have HDL := Lib.hid hdl; have HEN := Lib.hid hEn; have HEL := Lib.hid hEl; have HKP := Lib.hid hK
  clear hcon hdg hdl hs1 hb1 hwh hL hTn hT hTi h hul hu hst hpm hK hE hEl hEn
  go_enter Tryz.func41, Tryz.ntmps41
  go_wp2_with fail
  rw [← hP] at c0 c1 c2 c4
  rw [← hP, ← hw1]
  clear hP hw1
  go_wp2_with fail
  refine HC.out.mono ?_
  rintro _ w2 ⟨v, rfl, hov, hb2⟩
  have hov : w2.ownsRow w1.heap.size 9 1 v (pTs (permsTo K L)).length (strV (pTs (permsTo K L))) := by rw [pTs_len, permsTo_len]; exact hov
  rw [pTs_len] at hov
  obtain ⟨A2, c2', e2⟩ := slot_slice hov
  subst e2
  have HB2 := Lib.hid (HB1.out.trans (hb2.mono HB1.out.size))
  have HRD := Lib.hid (own_rd3 hov)
  have hplen := permsTo_len K L
  obtain ⟨PS, hPS⟩ : ∃ PS, PS = permsTo K L := ⟨_, rfl⟩
  have HPSE := Lib.hid hPS
  rw [← hPS] at HRD hplen ⊢
  have hpz : PS.length ≤ L := by omega
  have hpz2 : L ≤ PS.length := by omega
  clear hov hb2 hPS hplen c0 c1 c2 c4 HC
  go_wp2_with fail
  go_loopw [7, 9] (fun o i wr => ∃ k : Nat, o = .string (pT (E.take k)) ∧ i = .int .i64 k ∧ k ≤ T.size ∧ Below w2.heap.size w2 wr) (fun _ i _ => T.size - (intOf i).toNat)
  case atStart => exact ⟨0, rfl, rfl, Nat.zero_le _, Below.refl _ _⟩
  case round =>
    obtain ⟨k, rfl, rfl, hk, hbl⟩ := hrel
    have HBL := Lib.hid hbl; clear hbl
    by_cases hlt : k < T.size
    · have hkp : k < PS.length := by omega
      have hkE : k < E.length := by rw [HEL.out]; omega
      obtain ⟨b0, off, rfl, hb0, c1⟩ := (HRD.out.below HBL.out).perm hkp
      have hpk : PS[k] = K (k + 1) := by simp only [HPSE.out]; exact permsTo_at K _
      have hp := HKP.out (k + 1)
      have hEk := HEN.out k (by omega)
      rw [hpk] at c1
      generalize K (k + 1) = p at c1 hp hEk
      have hd := HDL.out k
      have hcon1 := fun (w' : World) => HDG.out w' k (by omega)
      generalize nth us k = d at hcon1 hd hEk
      have hcon2 := fun (w' : World) => l2Image_any w' p hp.lt d _ rfl (by rw [hp.len]; exact hd) (by rw [hp.len]; omega)
      have hy := nth_lt hp.lt d
      generalize nth p d = y at hcon2 hy hEk
      have hcon3 := fun (w' : World) => l1Letter_is w' _ y (show ((y : Int) % 10).toNat = y by omega) (by omega)
      have hoz : (pT (E.take k)).size ≤ 200 := by rw [pT_size, List.length_take]; omega
      have hnx : pT (E.take k) ++ mk [letter y] = pT (E.take (k + 1)) := by rw [← hEk]; exact pT_nth hkE
      have hz1 : (mk [letter y]).size ≤ 1 := by rw [size_mk]; simp
      generalize mk [letter y] = C at hcon3 hnx hz1
      obtain ⟨O, hO⟩ : ∃ O, O = pT (E.take k) := ⟨_, rfl⟩
      rw [← hO] at hoz hnx ⊢
      generalize pT p = X at c1 hcon2
      have hsz : ¬ 9223372036854775807 < O.size + C.size := by omega
      have HNX := Lib.hid hnx; have H1 := Lib.hid hcon1; have H2 := Lib.hid hcon2; have H3 := Lib.hid hcon3
      have hbw : Below wr.heap.size wr wr.drew := (Below.refl _ _).drew
      clear hO hnx hcon1 hcon2 hcon3 hp hpk hEk hkE
      go_wp2_with fail
      go_region_held3 (fun W => W.cell? ⟨b0, off + k, none⟩ = some (.string X) ∧ Below wr.heap.size wr W) (first | assumption | exact ⟨c1, hbw⟩ | exact one_keep2 (by assumption) (by assumption)) (first | (go_at_call 79; refine (H1.out _).mono ?_; rintro _ _ ⟨rfl, rfl⟩) | (go_at_call 78; refine (H2.out _).mono ?_; rintro _ _ ⟨rfl, rfl⟩) | (go_at_call 77; refine (H3.out _).mono ?_; rintro _ w9 ⟨rfl, hb9⟩) | fail)
      all_goals
        have HB9 := Lib.hid (HBL.out.trans ((below_of_drew2 hb9).mono HBL.out.size))
        clear hb9 c1 hbw
        go_wp2_with fail
        go_roundw
        case rel => exact ⟨k + 1, by rw [← HNX.out], by go_num, by omega, HB9.out⟩
        case measure => simp [intOf]; omega
    · go_wp2_with fail
      go_ret
      exact ⟨by rw [List.take_of_length_le (by rw [HEL.out]; omega)]; rfl, HB2.out.trans (HBL.out.mono HB2.out.size)⟩

set_option maxHeartbeats 4000000 in
set_option maxRecDepth 100000 in
theorem sEncipher_no (w : World) (A : Option Addr) (cap : Nat) (rs : List (ByteArray × ByteArray)) (p g l o x : ByteArray) (h : Rd w w.heap.size A (rotV rs)) (hc : rs.length ≤ cap) (hl : rs.length ≤ 100) (hn : ¬ (SetV rs p g l o ∧ wv (tl x) = true)) :
    Calls Tryz.prog 19 #[.agg #[.slice A rs.length cap, .string p, .string g, .string l], .string o, .string x] w fun e w' => e = .returned (.tuple #[.string ⟨#[]⟩, .string ⟨#[]⟩, .bool false]) ∧ Below w.heap.size w w' := by
  obtain ⟨w0, hw0⟩ : ∃ w0, w0 = w.alloc (.cells #[.slice A rs.length cap, .string p, .string g, .string l] 27) := ⟨_, rfl⟩
  have hb0 : Below w.heap.size w w0 := by rw [hw0]; exact (Below.refl _ _).alloc (Nat.le_refl _) _
  have hs0 := SB.made w #[.slice A rs.length cap, .string p, .string g, .string l] 27
  rw [← hw0] at hs0
  by_cases hv : SetV rs p g l o
  · have hwx : wv (tl x) = false := by
      cases e : wv (tl x) with
      | false => rfl
      | true => exact absurd ⟨hv, e⟩ hn
    have hcon := sFits_any w0 A cap rs p g l o true ((h.below hb0).mono hb0.size) hc hl (by simp [hv])
    obtain ⟨M, hM⟩ : ∃ M, M = rs.length := ⟨_, rfl⟩
    have HB0 := Lib.hid hb0; have HCON := Lib.hid hcon; have HX := Lib.hid hwx
    rw [← hM] at hw0 HCON hs0 ⊢
    obtain ⟨P, hP⟩ : ∃ P, P = w.heap.size := ⟨_, rfl⟩
    rw [← hP] at hs0
    obtain ⟨⟨c0, c1, c2, c3⟩, _⟩ := hs0.all4
    clear h hb0 hcon hM hc hl hs0 hn hv hwx
    go_enter Tryz.func19, Tryz.ntmps19
    go_wp2_with fail
    rw [← hw0]
    rw [← hP]
    clear hw0 hP
    go_wp2_with fail
    refine HCON.out.mono ?_
    rintro _ w1 ⟨rfl, hb1⟩
    have HB1 := Lib.hid (HB0.out.trans (hb1.mono HB0.out.size))
    clear hb1 c0 c1 c2 c3
    go_wp2_with fail
    refine (sWordValid_is _ false _ HX.out).mono ?_
    rintro _ _ ⟨rfl, rfl⟩
    go_wp2_with fail
    go_ret3
    exact ⟨rfl, HB1.out⟩
  · have hcon := sFits_any w0 A cap rs p g l o false ((h.below hb0).mono hb0.size) hc hl (by simp [hv])
    obtain ⟨M, hM⟩ : ∃ M, M = rs.length := ⟨_, rfl⟩
    have HB0 := Lib.hid hb0; have HCON := Lib.hid hcon
    rw [← hM] at hw0 HCON hs0 ⊢
    obtain ⟨P, hP⟩ : ∃ P, P = w.heap.size := ⟨_, rfl⟩
    rw [← hP] at hs0
    obtain ⟨⟨c0, c1, c2, c3⟩, _⟩ := hs0.all4
    clear h hb0 hcon hM hc hl hs0 hn hv
    go_enter Tryz.func19, Tryz.ntmps19
    go_wp2_with fail
    rw [← hw0]
    rw [← hP]
    clear hw0 hP
    go_wp2_with fail
    refine HCON.out.mono ?_
    rintro _ w1 ⟨rfl, hb1⟩
    have HB1 := Lib.hid (HB0.out.trans (hb1.mono HB0.out.size))
    clear hb1 c0 c1 c2 c3
    go_wp2_with fail
    go_ret3
    exact ⟨rfl, HB1.out⟩

/-- the reference's enciphering of letters at a setting -/
theorem l8Encipher_at {rs : List (ByteArray × ByteArray)} {r q rg : List Nat} {o : ByteArray} (hv : SetV rs (pT r) (pT rg) (pT q) o) (hr : Prm r) (hri : invP r = r) (hq : Prm q) (hi : invP q = q) (hrg : rg.length = rs.length) (hrl : ∀ x ∈ rg, x < 10) (us : List Nat) (hu : ∀ x ∈ us, x < 10) (hul : us.length ≤ 200)
    (w : World) (A : Option Addr) (cap : Nat) (h : Rd w w.heap.size A (rotV rs)) (hc : rs.length ≤ cap) :
    Calls Tryz.prog 41 #[.agg #[.slice A rs.length cap, .string (pT r), .string (pT rg), .string (pT q)], .string o, .string (pT us)] w fun e w' => e = .returned (.string (pT (encN (keyP q r rs rg o) us))) ∧ Below w.heap.size w w' := by
  have hl3 := hv.1.1.1.2.1
  have hrv := hv.1.1.1.2.2.2
  have hwi : ∀ i, i < rs.length → Prm (wirP rs i) := fun i hi => (wir_ok hrv hi).1
  have hz : o.size = rs.length := hv.2.1.trans hv.1.1.2.1
  have hwo := hv.2.2
  have hwp : WinV rs (pT r) o := ⟨hv.1.1.1, hz, hwo⟩
  have h0 := l8Encipher_is w A cap rs r rg q us (stepW rs o) (keyP q r rs rg o) ⟨h, hc, fun x hx => rotT_of (hrv x hx), hv.1.1.1.1, hl3⟩
    (fun w' k h' => by
      have hs := l7Step_is w' A cap rs (pT r) (stepW rs o k) ((WhB.make h'.rd h'.cap hwp).word _ (by rw [stepW_size]; exact hz) (stepW_wv rs hwo k))
      refine hs.mono ?_
      rintro e w'' ⟨e1, e2⟩
      refine ⟨?_, e2⟩
      rw [e1]; unfold stepW; simp only [tl_mk]; rfl)
    (fun w' k h' => by
      have hp := l8Perm_is w' A cap rs r rg q (wnd rs o k) h' hr hq (by rw [wnd_len]; exact hz) (wnd_lo hwo k) hrg hrl hwi
      rw [wnd_pT hwo] at hp
      refine hp.mono ?_
      rintro e w'' ⟨e1, e2⟩
      exact ⟨by rw [e1, perm_same hq hi hr hwi]; rfl, e2⟩)
    (keyP_prm hq hr hwi) hul hu
  rw [stepW_zero] at h0
  exact h0

set_option maxHeartbeats 4000000 in
set_option maxRecDepth 100000 in
theorem sEncipher_yes (w : World) (A : Option Addr) (cap : Nat) (rs : List (ByteArray × ByteArray)) (r q rg us : List Nat) (o : ByteArray) (h : Rd w w.heap.size A (rotV rs)) (hc : rs.length ≤ cap) (hv : SetV rs (pT r) (pT rg) (pT q) o) (hr : Prm r) (hri : invP r = r) (hq : Prm q) (hi : invP q = q) (hrg : rg.length = rs.length) (hrl : ∀ x ∈ rg, x < 10) (hu : ∀ x ∈ us, x < 10) (hul : us.length ≤ 200) :
    Calls Tryz.prog 19 #[.agg #[.slice A rs.length cap, .string (pT r), .string (pT rg), .string (pT q)], .string o, .string (pT us)] w fun e w' => e = .returned (.tuple #[.string (pT (encN (keyP q r rs rg o) us)), .string (stepW rs o us.length), .bool true]) ∧ Below w.heap.size w w' := by
  have hl3 := hv.1.1.1.2.1
  have hz : o.size = rs.length := hv.2.1.trans hv.1.1.2.1
  have hwp : WinV rs (pT r) o := ⟨hv.1.1.1, hz, hv.2.2⟩
  obtain ⟨w0, hw0⟩ : ∃ w0, w0 = w.alloc (.cells #[.slice A rs.length cap, .string (pT r), .string (pT rg), .string (pT q)] 27) := ⟨_, rfl⟩
  have hb0 : Below w.heap.size w w0 := by rw [hw0]; exact (Below.refl _ _).alloc (Nat.le_refl _) _
  have hs0 := SB.made w #[.slice A rs.length cap, .string (pT r), .string (pT rg), .string (pT q)] 27
  rw [← hw0] at hs0
  have hrd0 := (h.below hb0).mono hb0.size
  have hcon := sFits_any w0 A cap rs (pT r) (pT rg) (pT q) o true hrd0 hc (by omega) (by simp [hv])
  have hwx : wv (tl (pT us)) = true := pT_wv hu hul
  have hel := fun (w' : World) (h' : Rd w' w'.heap.size A (rotV rs)) => l8Encipher_at hv hr hri hq hi hrg hrl us hu hul w' A cap h' hc
  have hwk := fun (w' : World) (h' : Rd w' w'.heap.size A (rotV rs)) => l7Walk_is w' A cap rs (pT r) o us.length (by omega) (WhB.make h' hc hwp)
  obtain ⟨S, hS⟩ : ∃ S, S = pT (encN (keyP q r rs rg o) us) := ⟨_, rfl⟩
  obtain ⟨L, hL⟩ : ∃ L, L = us.length := ⟨_, rfl⟩
  have hLz : (pT us).size = L := by rw [pT_size, hL]
  rw [← hL] at hwk
  have hww : mk (stepN rs (tl o) L) = stepW rs o L := rfl
  rw [hww] at hwk
  rw [← hS] at hel ⊢
  rw [← hL]
  generalize stepW rs o L = U at hwk ⊢
  have HB0 := Lib.hid hb0; have HCON := Lib.hid hcon; have HEL := Lib.hid hel; have HRD := Lib.hid hrd0; have HWK := Lib.hid hwk; have HX := Lib.hid hwx
  generalize pT us = X at HEL HX hLz ⊢
  have hLe : L ≤ X.size ∧ X.size ≤ L := by omega
  clear h hb0 hcon hel hwk hrd0 hv hr hri hq hi hrg hrl hu hul hc hl3 hz hwp hwx hS hL hww
  subst hLz
  generalize pT r = T1 at hw0 hs0 HCON HEL HWK ⊢
  generalize pT rg = T2 at hw0 hs0 HCON HEL ⊢
  generalize pT q = T3 at hw0 hs0 HCON HEL ⊢
  obtain ⟨P, hP⟩ : ∃ P, P = w.heap.size := ⟨_, rfl⟩
  rw [← hP] at hs0
  have HS0 := Lib.hid hs0
  obtain ⟨⟨c0, c1, c2, c3⟩, _⟩ := hs0.all4
  clear hs0 hLe
  go_enter Tryz.func19, Tryz.ntmps19
  go_wp2_with fail
  rw [← hw0]
  rw [← hP]
  clear hw0 hP
  go_wp2_with fail
  refine HCON.out.mono ?_
  rintro _ w1 ⟨rfl, hb1⟩
  have HB1 := Lib.hid (HB0.out.trans (hb1.mono HB0.out.size)); have HRD1 := Lib.hid ((HRD.out.below hb1).mono hb1.size); have HS1 := Lib.hid (HS0.out.below hb1)
  obtain ⟨⟨d0, d1, d2, d3⟩, _⟩ := HS1.out.all4
  clear hb1 c0 c1 c2 c3
  go_wp2_with fail
  refine (sWordValid_is _ true _ HX.out).mono ?_
  rintro _ _ ⟨rfl, rfl⟩
  have hs : ∀ W : World, Below w1.heap.size w1 W → (W.cell? ⟨P, 0, none⟩ = some (.slice A rs.length cap) ∧ W.cell? ⟨P, 1, none⟩ = some (.string T1) ∧ W.cell? ⟨P, 2, none⟩ = some (.string T2) ∧ W.cell? ⟨P, 3, none⟩ = some (.string T3)) := fun W hbw => by
    obtain ⟨⟨v0, v1, v2, v3⟩, _⟩ := (HS1.out.below hbw).all4
    exact ⟨v0, v1, v2, v3⟩
  have HS := Lib.hid hs
  have hbd : Below w1.heap.size w1 w1.drew := (Below.refl _ _).drew
  have HR2 := Lib.hid (fun (W : World) (h : Below w1.heap.size w1 W) => (HRD1.out.below h).mono h.size)
  clear hs
  go_wp2_with fail
  go_region_held3 (fun W => W.cell? ⟨P, 0, none⟩ = some (.slice A rs.length cap) ∧ W.cell? ⟨P, 1, none⟩ = some (.string T1) ∧ W.cell? ⟨P, 2, none⟩ = some (.string T2) ∧ W.cell? ⟨P, 3, none⟩ = some (.string T3)) (first | with_reducible assumption | with_reducible exact HS.out _ (by with_reducible assumption)) (first | (go_at_call 41; refine (HEL.out _ (HR2.out _ (by assumption))).mono ?_; rintro _ w4 ⟨rfl, hb4⟩; have b4 := bel_on (a := w1) (by assumption) hb4; clear hb4) | (go_at_call 53; refine (HWK.out _ (HR2.out _ (by assumption))).mono ?_; rintro _ w5 ⟨rfl, hb5⟩; have b5 := bel_on (a := w1) (by assumption) hb5; clear hb5) | fail)
  all_goals
    go_wp2_with fail
    go_ret3
    exact ⟨rfl, HB1.out.trans (b5.mono HB1.out.size)⟩

end Go.Proofs.YtflaoicjgigcaaaGreatDoor
