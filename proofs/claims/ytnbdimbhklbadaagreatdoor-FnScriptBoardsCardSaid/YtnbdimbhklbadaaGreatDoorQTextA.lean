/-
  Contracts of functions and plain laws that the law's proof uses (parts: TextA). Conditions: what each theorem names.
-/
import Derived.Deep.QuietTactic
import Derived.BigQuiet
import Derived.Test.YtnbdimbhklbadaaGreatDoorQPlainR
import Derived.Test.YtnbdimbhklbadaaGreatDoorQBsA
namespace Go.Proofs.YtnbdimbhklbadaaGreatDoor
open Go.RowKit Pl
set_option linter.unusedVariables false
theorem l1Digit_pT (w : World) (q : List Nat) (h : ∀ n ∈ q, n < 10) (k : Nat) (m : Int) (hm : m = (k : Int)) (hk : k < q.length) (hl : q.length ≤ 1000) :
    Calls Tryz.prog 25 #[.string (pT q), .int .i64 m] w fun e w' => e = .returned (.int .i64 (q[k] : Int)) ∧ w = w' := by
  subst hm
  have hz := pT_size q
  have hk2 : k < (pT q).size := by omega
  have hd := pT_dig hk2 hk (h _ (List.getElem_mem hk))
  refine (l1Digit_any (pT q) k w hk2 (by omega)).mono ?_
  rintro _ _ ⟨rfl, rfl⟩
  rw [hd]
  exact ⟨rfl, rfl⟩
theorem l1Digit_nth (w : World) (q : List Nat) (h : ∀ n ∈ q, n < 10) (k : Nat) (m : Int) (hm : m = (k : Int)) (hk : k < q.length) (hl : q.length ≤ 1000) :
    Calls Tryz.prog 25 #[.string (pT q), .int .i64 m] w fun e w' => e = .returned (.int .i64 (nth q k : Int)) ∧ w = w' := by
  rw [nth_eq hk]; exact l1Digit_pT w q h k m hm hk hl
theorem l2Image_any (w : World) (q : List Nat) (h : ∀ n ∈ q, n < 10) (k : Nat) (m : Int) (hm : m = (k : Int)) (hk : k < q.length) (hl : q.length ≤ 1000) :
    Calls Tryz.prog 24 #[.string (pT q), .int .i64 m] w fun e w' => e = .returned (.int .i64 (nth q k : Int)) ∧ w = w' := by
  subst hm
  have hd := fun w' => l1Digit_nth w' q h k k rfl hk hl
  have HD := Lib.hid hd; clear hd
  go_enter Tryz.func24, Tryz.ntmps24
  go_wp2_with fail
  refine (HD.out _).mono ?_
  rintro _ _ ⟨rfl, rfl⟩
  go_wp2_with fail
  go_ret
  exact ⟨rfl, rfl⟩
theorem l1Letter_is (w : World) (m : Int) (n : Nat) (h : (m % 10).toNat = n) (hm : -1000000000000 ≤ m ∧ m ≤ 1000000000000) :
    Calls Tryz.prog 73 #[.int .i64 m] w fun e w' => e = .returned (.string (mk [letter n])) ∧ Below w.heap.size w w' := by
  rw [← h]; exact l1Letter_any m w hm
set_option maxHeartbeats 1000000 in
theorem identityPerm_any (w : World) :
    Calls Tryz.prog 53 #[] w fun e w' => e = .returned (.string (pT (List.range 10))) ∧ Below w.heap.size w w' := by
  go_enter Tryz.func53, Tryz.ntmps53
  go_wp2_with fail
  go_loopw [1, 2] (fun s i wr => ∃ k : Nat, k ≤ 10 ∧ i = .int .i64 k ∧ s = .string (pT (List.range k)) ∧ Below w.heap.size w wr) (fun _ i _ => 10 - (intOf i).toNat)
  case atStart => exact ⟨0, by omega, rfl, rfl, Below.refl _ _⟩
  case round =>
    obtain ⟨k, hk, rfl, rfl, hbl⟩ := hrel
    have HBL := Lib.hid hbl; clear hbl
    have hnx : pT (List.range k) ++ mk [letter k] = pT (List.range (k + 1)) := by rw [pT_snoc, List.range_succ]
    have hz : (pT (List.range k)).size ≤ 10 := by rw [pT_size, List.length_range]; exact hk
    have HNX := Lib.hid hnx; clear hnx
    obtain ⟨t, ht⟩ : ∃ t, t = pT (List.range k) := ⟨_, rfl⟩
    rw [← ht] at HNX hz ⊢
    have HT := Lib.hid ht; clear ht
    by_cases hlt : k < 10
    · go_wp2_with fail
      refine (l1Letter_is _ _ k (by omega) (by omega)).mono ?_
      rintro _ w2 ⟨rfl, hb2⟩
      have HB2 := Lib.hid (HBL.out.trans (hb2.mono HBL.out.size)); clear hb2
      have hz1 : (mk [letter k]).size ≤ 1 := by rw [size_mk]; simp
      generalize mk [letter k] = c at HNX hz1 ⊢
      go_wp2_with fail
      go_roundw
      case rel => exact ⟨k + 1, by omega, by go_num, by rw [HNX.out], HB2.out⟩
      case measure => simp [intOf]; omega
    · have hke : k = 10 := by omega
      subst hke
      go_wp2_with fail
      go_ret
      exact ⟨by rw [HT.out]; rfl, HBL.out⟩
set_option maxHeartbeats 1000000 in
theorem l2Then_any (w : World) (p q : List Nat) (hp : Ten p) (hq : Ten q) :
    Calls Tryz.prog 209 #[.string (pT p), .string (pT q)] w fun e w' => e = .returned (.string (pT (thenP p q))) ∧ Below w.heap.size w w' := by
  have hrl := (thenP_ten hp hq).len
  have hpl := hp.len
  have hql := hq.len
  have hip : ∀ w' (k : Nat), k < 10 → Calls Tryz.prog 24 #[.string (pT p), .int .i64 (k : Int)] w' fun e w'' => e = .returned (.int .i64 (nth p k : Int)) ∧ w' = w'' := fun w' k hk => l2Image_any w' p hp.lt k _ rfl (by omega) (by omega)
  have hiq : ∀ w' (k : Nat), k < 10 → Calls Tryz.prog 24 #[.string (pT q), .int .i64 (k : Int)] w' fun e w'' => e = .returned (.int .i64 (nth q k : Int)) ∧ w' = w'' := fun w' k hk => l2Image_any w' q hq.lt k _ rfl (by omega) (by omega)
  have hstep : ∀ k, k < 10 → pT ((thenP p q).take k) ++ mk [letter (nth q (nth p k))] = pT ((thenP p q).take (k + 1)) := fun k hk => by
    rw [← nth_then (by omega)]; exact pT_nth (by omega)
  have hfull : pT ((thenP p q).take 10) = pT (thenP p q) := by rw [List.take_of_length_le (by omega)]
  have hzz : ∀ k, (pT ((thenP p q).take k)).size ≤ 10 := fun k => by rw [pT_size, List.length_take]; omega
  have hbp := nth_lt hp.lt
  have hbq := nth_lt hq.lt
  obtain ⟨r, hr⟩ : ∃ r, r = thenP p q := ⟨_, rfl⟩
  rw [← hr] at hstep hfull hzz ⊢
  have HIP := Lib.hid hip; have HIQ := Lib.hid hiq; have HST := Lib.hid hstep; have HF := Lib.hid hfull; have HZZ := Lib.hid hzz; have HBP := Lib.hid hbp; have HBQ := Lib.hid hbq
  clear hip hiq hstep hfull hzz hrl hpl hql hr hp hq hbp hbq
  go_enter Tryz.func209, Tryz.ntmps209
  go_wp2_with fail
  go_loopw [5, 6] (fun s i wr => ∃ k : Nat, k ≤ 10 ∧ i = .int .i64 k ∧ s = .string (pT (r.take k)) ∧ Below w.heap.size w wr) (fun _ i _ => 10 - (intOf i).toNat)
  case atStart => exact ⟨0, by omega, rfl, rfl, Below.refl _ _⟩
  case round =>
    obtain ⟨k, hk, rfl, rfl, hbl⟩ := hrel
    have HBL := Lib.hid hbl; clear hbl
    have hz := HZZ.out k
    by_cases hlt : k < 10
    · have HS := Lib.hid (HST.out k hlt)
      have hpk := HBP.out k
      have hqk := HBQ.out (nth p k)
      have HA := Lib.hid (fun w' => HIP.out w' k hlt)
      have HB := Lib.hid (fun w' => HIQ.out w' (nth p k) hpk)
      generalize nth q (nth p k) = b at HS HB hqk
      generalize nth p k = a at HA HB hpk
      obtain ⟨t, ht⟩ : ∃ t, t = pT (r.take k) := ⟨_, rfl⟩
      rw [← ht] at HS hz ⊢
      clear ht
      go_wp2_with fail
      refine (HA.out _).mono ?_
      rintro _ _ ⟨rfl, rfl⟩
      go_wp2_with fail
      refine (HB.out _).mono ?_
      rintro _ _ ⟨rfl, rfl⟩
      go_wp2_with fail
      refine (l1Letter_is _ _ b (by omega) (by omega)).mono ?_
      rintro _ w2 ⟨rfl, hb2⟩
      have HB2 := Lib.hid (HBL.out.trans (hb2.mono HBL.out.size)); clear hb2
      have hz1 : (mk [letter b]).size ≤ 1 := by rw [size_mk]; simp
      generalize mk [letter b] = c at HS hz1 ⊢
      go_wp2_with fail
      go_roundw
      case rel => exact ⟨k + 1, by omega, by go_num, by rw [HS.out], HB2.out⟩
      case measure => simp [intOf]; omega
    · have hke : k = 10 := by omega
      subst hke
      rw [HF.out]
      go_wp2_with fail
      go_ret
      exact ⟨rfl, HBL.out⟩
set_option maxHeartbeats 1000000 in
theorem l5At_any (w : World) (q : List Nat) (o : Nat) (m : Int) (hm : m = (o : Int)) (hq : Prm q) (ho : o < 10) :
    Calls Tryz.prog 259 #[.string (pT q), .int .i64 m] w fun e w' => e = .returned (.string (pT (atP q o))) ∧ Below w.heap.size w w' := by
  subst hm
  have hal := (prm_at hq (show o ≤ 10 by omega)).len
  have hql := hq.len
  have hiq : ∀ w' (k : Nat), k < 10 → Calls Tryz.prog 24 #[.string (pT q), .int .i64 (k : Int)] w' fun e w'' => e = .returned (.int .i64 (nth q k : Int)) ∧ w' = w'' := fun w' k hk => l2Image_any w' q hq.lt k _ rfl (by omega) (by omega)
  have hstep : ∀ k, k < 10 → pT ((atP q o).take k) ++ mk [letter ((nth q ((k + o) % 10) + (10 - o)) % 10)] = pT ((atP q o).take (k + 1)) := fun k hk => by
    rw [← nth_at hq (by omega) hk]; exact pT_nth (by omega)
  have hfull : pT ((atP q o).take 10) = pT (atP q o) := by rw [List.take_of_length_le (by omega)]
  have hzz : ∀ k, (pT ((atP q o).take k)).size ≤ 10 := fun k => by rw [pT_size, List.length_take]; omega
  have hbq := nth_lt hq.lt
  obtain ⟨r, hr⟩ : ∃ r, r = atP q o := ⟨_, rfl⟩
  rw [← hr] at hstep hfull hzz ⊢
  have HIQ := Lib.hid hiq; have HST := Lib.hid hstep; have HF := Lib.hid hfull; have HZZ := Lib.hid hzz; have HBQ := Lib.hid hbq
  clear hiq hstep hfull hzz hal hql hr hq hbq
  go_enter Tryz.func259, Tryz.ntmps259
  go_wp2_with fail
  go_loopw [5, 6] (fun s i wr => ∃ k : Nat, k ≤ 10 ∧ i = .int .i64 k ∧ s = .string (pT (r.take k)) ∧ Below w.heap.size w wr) (fun _ i _ => 10 - (intOf i).toNat)
  case atStart => exact ⟨0, by omega, rfl, rfl, Below.refl _ _⟩
  case round =>
    obtain ⟨k, hk, rfl, rfl, hbl⟩ := hrel
    have HBL := Lib.hid hbl; clear hbl
    have hz := HZZ.out k
    by_cases hlt : k < 10
    · have HS := Lib.hid (HST.out k hlt)
      have hqk := HBQ.out ((k + o) % 10)
      have HA := Lib.hid (fun w' => HIQ.out w' ((k + o) % 10) (Nat.mod_lt _ (by decide)))
      have hix : (((k + o) % 10 : Nat) : Int) = ((k : Int) + (o : Int)) % 10 := by omega
      rw [hix] at HA
      clear hix
      generalize nth q ((k + o) % 10) = a at HS HA hqk
      obtain ⟨t, ht⟩ : ∃ t, t = pT (r.take k) := ⟨_, rfl⟩
      rw [← ht] at HS hz ⊢
      clear ht
      go_wp2_with fail
      refine (HA.out _).mono ?_
      rintro _ _ ⟨rfl, rfl⟩
      go_wp2_with fail
      refine (l1Letter_is _ _ ((a + (10 - o)) % 10) (by omega) (by omega)).mono ?_
      rintro _ w2 ⟨rfl, hb2⟩
      have HB2 := Lib.hid (HBL.out.trans (hb2.mono HBL.out.size)); clear hb2
      have hz1 : (mk [letter ((a + (10 - o)) % 10)]).size ≤ 1 := by rw [size_mk]; simp
      generalize mk [letter ((a + (10 - o)) % 10)] = c at HS hz1 ⊢
      go_wp2_with fail
      go_roundw
      case rel => exact ⟨k + 1, by omega, by go_num, by rw [HS.out], HB2.out⟩
      case measure => simp [intOf]; omega
    · have hke : k = 10 := by omega
      subst hke
      rw [HF.out]
      go_wp2_with fail
      go_ret
      exact ⟨rfl, HBL.out⟩
theorem shift_step {q : List Nat} {n k : Nat} (hk : k < q.length) : pT ((q.take k).map fun x => (x + n) % 10) ++ mk [letter ((q[k] + n) % 10)] = pT ((q.take (k + 1)).map fun x => (x + n) % 10) := by
  rw [pT_snoc, List.take_succ_eq_append_getElem hk, List.map_append]; rfl
set_option maxHeartbeats 2000000 in
theorem sShiftWord_pT (w : World) (q : List Nat) (n : Nat) (hq : ∀ x ∈ q, x < 10) (hl : q.length ≤ 200) (hn : n < 10) :
    Calls Tryz.prog 284 #[.string (pT q), .int .i64 n] w fun e w' => e = .returned (.string (pT (q.map fun x => (x + n) % 10))) ∧ Below w.heap.size w w' := by
  have hwv := pT_wv hq hl
  have hz := pT_size q
  have hst : ∀ k, k < q.length → pT ((q.take k).map fun x => (x + n) % 10) ++ mk [letter ((nth q k + n) % 10)] = pT ((q.take (k + 1)).map fun x => (x + n) % 10) := fun k hk => by rw [nth_eq hk]; exact shift_step hk
  have hsz : ∀ k, (pT ((q.take k).map fun x => (x + n) % 10)).size ≤ 200 := fun k => by rw [pT_size, List.length_map, List.length_take]; omega
  have hdg : ∀ w' (k : Nat), k < q.length → Calls Tryz.prog 25 #[.string (pT q), .int .i64 (k : Int)] w' fun e w'' => e = .returned (.int .i64 (nth q k : Int)) ∧ w' = w'' := fun w' k hk => l1Digit_nth w' q hq k k rfl hk (by omega)
  have hlt := nth_lt hq
  have hfull : (q.take q.length) = q := List.take_length
  have HWV := Lib.hid hwv; have HST := Lib.hid hst; have HSZ := Lib.hid hsz; have HDG := Lib.hid hdg; have HLT := Lib.hid hlt; have HF := Lib.hid hfull; have HZ := Lib.hid hz
  have z0 : (pT q).size ≤ q.length := by omega
  have z1 : q.length ≤ (pT q).size := by omega
  clear hwv hst hsz hdg hlt hfull hz hq
  go_enter Tryz.func284, Tryz.ntmps284
  go_wp2_with fail
  refine (sWordValid_is _ true _ HWV.out).mono ?_
  rintro _ _ ⟨rfl, rfl⟩
  go_wp2_with fail
  refine (l1In_is _ _ _ true _ (by simp; omega)).mono ?_
  rintro _ _ ⟨rfl, rfl⟩
  go_wp2_with fail
  go_loopw [5, 6] (fun s i wr => ∃ k : Nat, k ≤ q.length ∧ i = .int .i64 k ∧ s = .string (pT ((q.take k).map fun x => (x + n) % 10)) ∧ Below w.heap.size w wr) (fun _ i _ => q.length - (intOf i).toNat)
  case atStart => exact ⟨0, by omega, rfl, rfl, Below.refl _ _⟩
  case round =>
    obtain ⟨k, hk, rfl, rfl, hbl⟩ := hrel
    have HBL := Lib.hid hbl; clear hbl
    have hz := HSZ.out k
    by_cases hlt : k < q.length
    · have HS := Lib.hid (HST.out k hlt)
      have HD := Lib.hid fun w' => HDG.out w' k hlt
      have hd := HLT.out k
      generalize nth q k = a at HS HD hd
      obtain ⟨t, ht⟩ : ∃ t, t = pT ((q.take k).map fun x => (x + n) % 10) := ⟨_, rfl⟩
      rw [← ht] at HS hz ⊢
      clear ht
      have hlt2 : k < (pT q).size := by omega
      go_wp2_with fail
      refine (HD.out _).mono ?_
      rintro _ _ ⟨rfl, rfl⟩
      go_wp2_with fail
      refine (l1Letter_is _ _ ((a + n) % 10) (by omega) (by omega)).mono ?_
      rintro _ w2 ⟨rfl, hb2⟩
      have HB2 := Lib.hid (HBL.out.trans (hb2.mono HBL.out.size)); clear hb2
      have hz1 : (mk [letter ((a + n) % 10)]).size ≤ 1 := by rw [size_mk]; simp
      generalize mk [letter ((a + n) % 10)] = c at HS hz1 ⊢
      go_wp2_with fail
      go_roundw
      case rel => exact ⟨k + 1, by omega, by go_num, by rw [HS.out], HB2.out⟩
      case measure => simp [intOf]; omega
    · have hke : k = q.length := by omega
      subst hke
      rw [HF.out]
      go_wp2_with fail
      go_ret
      exact ⟨rfl, HBL.out⟩
theorem rot_map (n : Nat) : (List.range 10).map (fun x => (x + n) % 10) = rotP n := rfl
theorem l2Turn_any (w : World) (n : Nat) (hn : n < 10) :
    Calls Tryz.prog 296 #[.int .i64 n] w fun e w' => e = .returned (.string (pT (rotP n))) ∧ Below w.heap.size w w' := by
  have h1 := fun w' => identityPerm_any w'
  have h2 := fun w' => sShiftWord_pT w' (List.range 10) n (fun x hx => List.mem_range.1 hx) (by simp) hn
  rw [rot_map] at h2
  generalize pT (List.range 10) = T at h1 h2
  generalize pT (rotP n) = U at h2 ⊢
  have H1 := Lib.hid h1; have H2 := Lib.hid h2; clear h1 h2
  go_enter Tryz.func296, Tryz.ntmps296
  go_wp2_with fail
  refine (H1.out _).mono ?_
  rintro _ w1 ⟨rfl, hb1⟩
  go_wp2_with fail
  refine (H2.out _).mono ?_
  rintro _ w2 ⟨rfl, hb2⟩
  go_wp2_with fail
  go_ret
  exact ⟨rfl, hb1.trans (hb2.mono hb1.size)⟩
theorem rev_step {q : List Nat} {k : Nat} (hk : k < q.length) : pT (q.drop (k + 1)).reverse ++ (pT q).extract k (k + 1) = pT (q.drop k).reverse := by
  rw [pT_extract, pT_append, Nat.add_sub_cancel_left, List.drop_eq_getElem_cons hk, List.reverse_cons]; rfl
set_option maxHeartbeats 2000000 in
theorem sReverseWord_pT (w : World) (q : List Nat) (hq : ∀ x ∈ q, x < 10) (hl : q.length ≤ 200) :
    Calls Tryz.prog 297 #[.string (pT q)] w fun e w' => e = .returned (.string (pT q.reverse)) ∧ Below w.heap.size w w' := by
  have hwv := pT_wv hq hl
  have hz := pT_size q
  have hst : ∀ k (hk : k < q.length), pT (q.drop (k + 1)).reverse ++ (pT q).extract k (k + 1) = pT (q.drop k).reverse := fun k hk => rev_step hk
  have hsz : ∀ k, (pT (q.drop k).reverse).size ≤ 200 := fun k => by rw [pT_size, List.length_reverse, List.length_drop]; omega
  have h0 : pT (q.drop q.length).reverse = pT [] := by simp
  have HWV := Lib.hid hwv; have HST := Lib.hid hst; have HSZ := Lib.hid hsz; have H0 := Lib.hid h0; have HZ := Lib.hid hz
  have z0 : (pT q).size ≤ q.length := by omega
  have z1 : q.length ≤ (pT q).size := by omega
  clear hwv hst hsz h0 hz hq
  go_enter Tryz.func297, Tryz.ntmps297
  go_wp2_with fail
  refine (sWordValid_is _ true _ HWV.out).mono ?_
  rintro _ _ ⟨rfl, rfl⟩
  go_wp2_with fail
  go_loopw [3, 4] (fun s i wr => ∃ k : Nat, k ≤ q.length ∧ i = .int .i64 ((k : Int) - 1) ∧ s = .string (pT (q.drop k).reverse) ∧ Below w.heap.size w wr) (fun _ i _ => (intOf i + 1).toNat)
  case atStart => exact ⟨q.length, by omega, by rw [HZ.out], by rw [H0.out]; rfl, Below.refl _ _⟩
  case round =>
    obtain ⟨k, hk, rfl, rfl, hbl⟩ := hrel
    have HBL := Lib.hid hbl; clear hbl
    have hz := HSZ.out k
    by_cases hpos : 0 < k
    · obtain ⟨j, rfl⟩ : ∃ j, k = j + 1 := ⟨k - 1, by omega⟩
      have HS := Lib.hid (HST.out j (by omega))
      obtain ⟨t, ht⟩ : ∃ t, t = pT (q.drop (j + 1)).reverse := ⟨_, rfl⟩
      rw [← ht] at HS hz ⊢
      clear ht
      rw [show ((j + 1 : Nat) : Int) - 1 = (j : Int) by omega]
      have a1 : ((j : Int) + 1).toNat = j + 1 := by omega
      have hx2 : (j : Int) + 1 ≤ ((pT q).size : Int) := by omega
      have b1 : (0 : Int) ≤ (j : Int) := by omega
      have b2 : (j : Int) ≤ (j : Int) + 1 := by omega
      have z3 : ((pT q).extract j (j + 1)).size ≤ 10 := by simp [ByteArray.size_extract]; omega
      go_wp2_with fail
      go_roundw
      case rel => exact ⟨j, by omega, by go_num, by rw [HS.out], HBL.out⟩
      case measure => simp [intOf]
    · obtain rfl : k = 0 := by omega
      rw [List.drop_zero]
      go_wp2_with fail
      go_ret
      exact ⟨rfl, HBL.out⟩
def InvB (p : List Nat) (u : List UInt8) (k : Nat) : Prop := u.length = 10 ∧ ∀ j (h : j < p.length), j < k → u[p[j]]? = some (letter j)
theorem invB_put {p : List Nat} {u : List UInt8} {k : Nat} (h : InvB p u k) (hp : Prm p) (hk : k < p.length) : InvB p (u.set p[k] (letter k)) (k + 1) := by
  refine ⟨by rw [List.length_set]; exact h.1, fun j hj hjk => ?_⟩
  rw [List.getElem?_set]
  by_cases e : p[k] = p[j]
  · have hkj : k = j := by
      have h1 := List.pairwise_iff_getElem.1 hp.nodup
      rcases Nat.lt_trichotomy k j with hlt | heq | hgt
      · exact absurd e (h1 k j hk hj hlt)
      · exact heq
      · exact absurd e.symm (h1 j k hj hk hgt)
    subst hkj
    have := hp.lt _ (List.getElem_mem hk)
    rw [if_pos rfl, if_pos (by rw [h.1]; exact this)]
  · rw [if_neg e]
    exact h.2 j hj (by rcases Nat.lt_or_ge j k with h2 | h2; exact h2; exact absurd (by congr 1; omega : p[k] = p[j]) e)
theorem invB_end {p : List Nat} {u : List UInt8} (h : InvB p u 10) (hp : Prm p) : mk u = pT (invP p) := by
  unfold pT
  congr 1
  apply List.ext_getElem?
  intro t
  by_cases ht : t < 10
  · have hm := hp.mem ht
    have hi : p.idxOf t < p.length := List.idxOf_lt_length_of_mem hm
    have h1 := h.2 (p.idxOf t) hi (by rw [← hp.len]; exact hi)
    rw [List.getElem_idxOf hi] at h1
    rw [h1]
    simp [invP, ht]
  · rw [List.getElem?_eq_none (by rw [h.1]; omega), List.getElem?_eq_none (by simp [invP]; omega)]
set_option maxHeartbeats 4000000 in
set_option maxRecDepth 100000 in
theorem l2Back_any (w : World) (p : List Nat) (hp : Prm p) :
    Calls Tryz.prog 207 #[.string (pT p)] w fun e w' => e = .returned (.string (pT (invP p))) ∧ Below w.heap.size w w' := by
  obtain ⟨iB, hi, hz0, hz1, hz2⟩ := info_parts Tryz.infoB
  have HI := Lib.hid hi; have HZ0 := Lib.hid hz0; have HZ1 := Lib.hid hz1; have HZ2 := Lib.hid hz2
  clear hi hz0 hz1 hz2
  have hpl := hp.len
  have him : ∀ w' (k : Nat), k < 10 → Calls Tryz.prog 24 #[.string (pT p), .int .i64 (k : Int)] w' fun e w'' => e = .returned (.int .i64 (nth p k : Int)) ∧ w' = w'' := fun w' k hk => l2Image_any w' p hp.lt k _ rfl (by omega) (by omega)
  have hlt := nth_lt hp.lt
  have HIM := Lib.hid him; have HLT := Lib.hid hlt; have HPL := Lib.hid hpl; have HP := Lib.hid hp; clear him hlt hpl hp
  go_enter Tryz.func207, Tryz.ntmps207
  go_wp2_with (at_make; refine wpList_make_full _ rfl _ _ 22 rfl w.heap.size 5 iB (.int .u8 0) 1 Tryz.underlying22 HI.out HZ0.out HZ1.out .i64 .i64 _ _ 10 rfl rfl rfl rfl (by rw [HZ2.out]; omega) (by unfold maxLen; omega) (Nat.le_refl _) ?_; intro w2 ho2 hg2)
  rw [made_bytes] at ho2
  have hb2 : Below w.heap.size w w2 := Below.grown (Below.refl _ _) hg2 (Nat.le_refl _) (by simp)
  obtain ⟨G, hG⟩ : ∃ G, G = w.heap.size := ⟨_, rfl⟩
  rw [← hG] at ho2 ⊢
  have HG := Lib.hid hG; clear hG
  have HO2 := Lib.hid ho2; have HB2 := Lib.hid hb2; clear ho2 hb2 hg2
  go_wp2_with fail
  go_loopw [4] (fun i wr => ∃ (k : Nat) (u : List UInt8), k ≤ 10 ∧ i = .int .i64 k ∧ Hid (InvB p u k) ∧ wr.ownsRow G 5 1 (.slice (some ⟨G, 0, none⟩) 10 10) 10 (bytesV u) ∧ Below w.heap.size w wr) (fun i _ => 10 - (intOf i).toNat)
  case atStart => exact ⟨0, List.replicate 10 0, by omega, rfl, Lib.hid ⟨by simp, fun j _ hj => by omega⟩, HO2.out, HB2.out⟩
  case round =>
    obtain ⟨k, u, hk, rfl, HV, hown, hbl⟩ := hrel
    have HO := Lib.hid hown; have HBL := Lib.hid hbl; clear hown hbl HO2 HB2
    by_cases hlt : k < 10
    · have hkp : k < p.length := by rw [HPL.out]; exact hlt
      have hin := invB_put HV.out HP.out hkp
      have hpk := HLT.out k
      have hm := fun w' => HIM.out w' k hlt
      rw [← nth_eq hkp] at hin
      have hst := (HO.out.stored (nth p k) (.int .u8 (letter k).toNat)).1
      rw [bytesV_set, show ((letter k).toNat : Int) = 97 + (k : Int) by rw [toNat_letter hlt]; omega] at hst
      generalize nth p k = a at hin hpk hm hst
      have f0 := HO.out.frozenAt a
      obtain ⟨x1, c1⟩ : ∃ x, wr.cell? ⟨G, a, none⟩ = some x := ⟨_, by rw [HO.out.cellAt a (by omega), List.getElem?_eq_getElem (by rw [length_bytesV, HV.out.1]; exact hpk)]⟩
      have HST := Lib.hid hst; have HIN := Lib.hid hin; have HM := Lib.hid hm; clear hst hin hm
      go_wp2_with fail
      refine (HM.out _).mono ?_
      rintro _ _ ⟨rfl, rfl⟩
      go_wp2_with fail
      go_roundw
      case rel => exact ⟨k + 1, _, by omega, by go_num, HIN, HST.out, HBL.out.setCell (by rw [HG.out]; exact Nat.le_refl _) _⟩
      case measure => simp [intOf]; omega
    · have hke : k = 10 := by omega
      subst hke
      have hcv := own_conv HO.out HV.out.1 10
      rw [invB_end HV.out HP.out] at hcv
      go_wp2_with fail
      go_ret
      exact ⟨rfl, HBL.out⟩
theorem l2Renamed_any (w : World) (p q : List Nat) (hp : Prm p) (hq : Prm q) :
    Calls Tryz.prog 145 #[.string (pT p), .string (pT q)] w fun e w' => e = .returned (.string (pT (thenP (thenP (invP q) p) q))) ∧ Below w.heap.size w w' := by
  go_enter Tryz.func145, Tryz.ntmps145
  go_wp2_with fail
  refine (l2Back_any _ q hq).mono ?_
  rintro _ w1 ⟨rfl, hb1⟩
  go_wp2_with fail
  refine (l2Then_any w1 (invP q) p (prm_inv hq).toTen hp.toTen).mono ?_
  rintro _ w2 ⟨rfl, hb2⟩
  have hb2' := hb1.trans (hb2.mono hb1.size)
  go_wp2_with fail
  refine (l2Then_any w2 (thenP (invP q) p) q (prm_then (prm_inv hq) hp).toTen hq.toTen).mono ?_
  rintro _ w3 ⟨rfl, hb3⟩
  go_wp2_with fail
  go_ret
  exact ⟨rfl, hb2'.trans (hb3.mono hb2'.size)⟩
set_option maxHeartbeats 4000000 in
set_option maxRecDepth 100000 in
theorem l4Swap_any (w : World) (p : List Nat) (x y : Nat) (a b : Int) (ha : a = (x : Int)) (hb : b = (y : Int)) (hp : Ten p) (hx : x < 10) (hy : y < 10) :
    Calls Tryz.prog 78 #[.string (pT p), .int .i64 a, .int .i64 b] w fun e w' => e = .returned (.string (pT (swpP p x y))) ∧ Below w.heap.size w w' := by
  subst ha; subst hb
  have hpl := hp.len
  have hxp : x < p.length := by omega
  have hyp : y < p.length := by omega
  have hxl : x < (p.map letter).length := by rw [List.length_map]; omega
  have hyl : y < (p.map letter).length := by rw [List.length_map]; omega
  have hgx : (p.map letter)[x] = letter (nth p x) := by rw [List.getElem_map, nth_eq hxp]
  have hgy : (p.map letter)[y] = letter (nth p y) := by rw [List.getElem_map, nth_eq hyp]
  have hfin : mk (((p.map letter).set x (letter (nth p y))).set y (letter (nth p x))) = pT (swpP p x y) := by
    unfold pT swpP nth
    rw [List.map_set, List.map_set]
  have hcv := Lib.run_convert_string_bytes (P := Tryz.prog) w 9 22 5 (pT p) Tryz.underlying9 Tryz.underlying22 Tryz.underlying5
  have hbuf := Buf.made w (pT p)
  have hbel := below_made w (pT p)
  have htl : tl (pT p) = p.map letter := by unfold pT; rw [tl_mk]
  rw [htl] at hbuf
  have hse : (pT p).size = 10 := by rw [pT_size]; omega
  rw [hse] at hcv
  obtain ⟨w0, hw0⟩ : ∃ w0, w0 = Lib.bytesWorld w 5 (pT p) := ⟨_, rfl⟩
  obtain ⟨cap, hcap⟩ : ∃ cap, cap = grownCap w 10 0 5 := ⟨_, rfl⟩
  rw [← hw0] at hcv hbuf hbel
  rw [← hcap] at hcv
  clear hw0 hcap htl hse
  obtain ⟨G, hG⟩ : ∃ G, G = w.heap.size := ⟨_, rfl⟩
  rw [← hG] at hcv hbuf
  have HG := Lib.hid hG; clear hG
  have c1 := hbuf.cell hxl
  have c2 := hbuf.cell hyl
  rw [hgx] at c1
  rw [hgy] at c2
  have f1 := hbuf.frozen hxl
  have f2 := hbuf.frozen hyl
  have b1 := hbuf.set_ (j := x) (letter (nth p y))
  have hyl2 : y < ((p.map letter).set x (letter (nth p y))).length := by rw [List.length_set]; exact hyl
  have f3 := b1.frozen hyl2
  obtain ⟨v3, c3⟩ : ∃ v3, (w0.setCell ⟨G, x, none⟩ (.int .u8 (letter (nth p y)).toNat)).cell? ⟨G, y, none⟩ = some v3 := ⟨_, b1.cell hyl2⟩
  have b2 := b1.set_ (j := y) (letter (nth p x))
  have cv2 := b2.conv cap
  rw [List.length_set, List.length_set, List.length_map, hpl, hfin] at cv2
  have HB := Lib.hid hbel
  generalize pT p = T at hcv ⊢
  generalize pT (swpP p x y) = F at cv2 ⊢
  generalize letter (nth p x) = ex at c1 cv2
  generalize letter (nth p y) = ey at c2 c3 f3 cv2
  clear hbel hfin hbuf b1 b2 hxp hyp hgx hgy hyl2 hxl hyl hp hpl
  go_enter Tryz.func78, Tryz.ntmps78
  go_wp2_with fail
  go_ret
  exact ⟨rfl, (HB.out.setCell (by rw [HG.out]; exact Nat.le_refl _) _).setCell (by rw [HG.out]; exact Nat.le_refl _) _⟩
def PDrawn (w : World) (R N : Nat) (e : Ending) (w' : World) : Prop := ∃ q, e = .returned (.string (pT q)) ∧ Prm q ∧ Rdr w' R N ∧ w.grownBy w' (some R)
def szOf (v : Value) : Nat := match v with | .string s => s.size | _ => 0
set_option maxHeartbeats 2000000 in
theorem l2Some_any (w : World) (R N : Nat) (h : Rdr w R N) (hN : N ≤ 100000) :
    Calls Tryz.prog 75 #[.pointer (some ⟨R, 0, none⟩)] w (PDrawn w R (N + 10)) := by
  go_enter Tryz.func75, Tryz.ntmps75
  go_wp2_with fail
  refine (identityPerm_any _).mono ?_
  rintro _ w1 ⟨rfl, hb1⟩
  have hr1 := h.below hb1
  have HO1 := Lib.hid (only_of_below hb1 (some R)); clear hb1 h
  go_wp2_with fail
  go_loopw [3, 4] (fun l o wr => ∃ lf ou : List Nat, l = .string (pT lf) ∧ o = .string (pT ou) ∧ Hid ((ou ++ lf).Perm (List.range 10)) ∧ Rdr wr R (N + (10 - lf.length)) ∧ w.grownBy wr (some R)) (fun l _ _ => szOf l)
  case atStart => exact ⟨List.range 10, [], rfl, rfl, Lib.hid (List.Perm.refl _), hr1.mono (by omega), HO1.out⟩
  case round =>
    obtain ⟨lf, ou, rfl, rfl, HP, hr, ho⟩ := hrel
    have HO := Lib.hid ho; clear ho HO1 hr1
    have hll : lf.length + ou.length = 10 := by
      have := HP.out.length_eq
      rw [List.length_append, List.length_range] at this; omega
    have hzo : (pT ou).size ≤ 10 := by rw [pT_size]; omega
    by_cases hpos : 0 < lf.length
    · have hzl : (pT lf).size = lf.length := pT_size lf
      have e1 : ∀ x (hx : x < lf.length), pT ou ++ (pT lf).extract x (x + 1) = pT (ou ++ [lf[x]]) := fun x hx => by
        rw [pT_extract, pT_append, Nat.add_sub_cancel_left, List.drop_eq_getElem_cons hx]; rfl
      have e2 : ∀ x, (pT lf).extract 0 x ++ (pT lf).extract (x + 1) (pT lf).size = pT (lf.take x ++ lf.drop (x + 1)) := fun x => by
        rw [pT_extract, pT_extract, pT_append, pT_size, List.drop_zero, Nat.sub_zero, List.take_of_length_le (l := lf.drop (x + 1)) (by simp)]
      have HP2 : ∀ x (hx : x < lf.length), ((ou ++ [lf[x]]) ++ (lf.take x ++ lf.drop (x + 1))).Perm (List.range 10) := fun x hx => (perm_pick hx ou).trans HP.out
      have E1 := Lib.hid e1; have E2 := Lib.hid e2; have HQ := Lib.hid HP2; have HLL := Lib.hid hll
      clear e1 e2 HP2 HP
      obtain ⟨L, hL⟩ : ∃ L, L = pT lf := ⟨_, rfl⟩
      obtain ⟨O, hO⟩ : ∃ O, O = pT ou := ⟨_, rfl⟩
      rw [← hL] at E1 E2 hzl ⊢
      rw [← hO] at E1 hzo ⊢
      have HZL := Lib.hid hzl
      have hz1 : 1 ≤ L.size := by omega
      have hz2 : L.size ≤ 10 := by omega
      clear hL hO hzl hll
      go_wp2_with fail
      refine (pick_pos _ R _ _ hr (by omega) (by omega) (by omega)).mono ?_
      rintro e w2 ⟨x, rfl, hx, hr2, ho2⟩
      have HO2 := Lib.hid (only_trans HO.out ho2); clear ho2 HO
      have hx1 : x < L.size := by omega
      have hx2 : (x : Int) + 1 ≤ (L.size : Int) := by omega
      have b1 : (0 : Int) ≤ (x : Int) := by omega
      have b2 : (x : Int) ≤ (x : Int) + 1 := by omega
      have a1 : ((x : Int) + 1).toNat = x + 1 := by omega
      have z1 : (L.extract x (x + 1)).size ≤ 10 := by simp [ByteArray.size_extract]; omega
      have z2 : (L.extract 0 x).size ≤ 10 := by simp [ByteArray.size_extract]; omega
      have z3 : (L.extract (x + 1) L.size).size ≤ 10 := by simp [ByteArray.size_extract]; omega
      go_wp2_with fail
      go_quiet (fail)
      go_wp2_with fail
      go_roundw
      case rel =>
        have hxl : x < lf.length := by rw [← HZL.out]; exact hx1
        have hll := HLL.out
        refine ⟨lf.take x ++ lf.drop (x + 1), ou ++ [lf[x]], by rw [E2.out], by rw [E1.out x hxl], Lib.hid (HQ.out x hxl), (hr2.drewN _).mono (by simp; omega), only_drewN HO2.out _⟩
      case measure => simp [szOf]; omega
    · obtain rfl : lf = [] := List.length_eq_zero_iff.1 (by omega)
      have hq : Prm ou := prm_of_perm (by have := HP.out; rwa [List.append_nil] at this)
      have HQ := Lib.hid hq; clear hq HP
      go_wp2_with fail
      go_ret
      exact ⟨ou, rfl, HQ.out, hr.mono (by simp), HO.out⟩
theorem l2Any_any (w : World) (R N : Nat) (h : Rdr w R N) (hN : N ≤ 90000) :
    Calls Tryz.prog 282 #[.pointer (some ⟨R, 0, none⟩)] w (PDrawn w R (N + 11)) := by
  go_enter Tryz.func282, Tryz.ntmps282
  go_wp2_with fail
  refine (pick_pos _ R N _ h (by omega) (by omega) (by omega)).mono ?_
  rintro e w1 ⟨x, rfl, hx, hr1, ho1⟩
  have HO := Lib.hid ho1; clear ho1
  by_cases h0 : x = 0
  · subst h0
    go_wp2_with fail
    refine (identityPerm_any _).mono ?_
    rintro _ w2 ⟨rfl, hb2⟩
    go_wp2_with fail
    go_ret
    exact ⟨_, rfl, prm_range, (hr1.below hb2).mono (by omega), only_trans HO.out (only_of_below hb2 _)⟩
  · have hb0 : ((x : Int) == 0) = false := by simp; omega
    by_cases h1 : x = 1
    · subst h1
      clear hb0 h0
      go_wp2_with fail
      refine (pick_pos _ R _ _ hr1 (by omega) (by omega) (by omega)).mono ?_
      rintro e w2 ⟨y, rfl, hy, hr2, ho2⟩
      have HO2 := Lib.hid (only_trans HO.out ho2); clear ho2
      go_wp2_with fail
      refine (l2Turn_any _ y (by omega)).mono ?_
      rintro _ w3 ⟨rfl, hb3⟩
      go_wp2_with fail
      go_ret
      exact ⟨_, rfl, prm_rot (by omega), (hr2.below hb3).mono (by omega), only_trans HO2.out (only_of_below hb3 _)⟩
    · have hb1 : ((x : Int) == 1) = false := by simp; omega
      by_cases h2 : x = 2
      · subst h2
        clear hb0 h0 hb1 h1
        go_wp2_with fail
        refine (identityPerm_any _).mono ?_
        rintro _ w2 ⟨rfl, hb2⟩
        have HO2 := Lib.hid (only_trans HO.out (only_of_below hb2 (some R)))
        have hr2 := hr1.below hb2
        clear hb2
        go_wp2_with fail
        refine (sReverseWord_pT _ (List.range 10) (fun x hx => List.mem_range.1 hx) (by rw [List.length_range]; omega)).mono ?_
        rintro _ w3 ⟨rfl, hb3⟩
        go_wp2_with fail
        go_ret
        exact ⟨_, rfl, prm_reverse prm_range, (hr2.below hb3).mono (by omega), only_trans HO2.out (only_of_below hb3 _)⟩
      · have hb2 : ((x : Int) == 2) = false := by rw [beq_eq_false_iff_ne]; omega
        go_wp2_with fail
        refine (l2Some_any _ R _ hr1 (by omega)).mono ?_
        rintro e w2 ⟨q, rfl, hq, hr2, ho2⟩
        have HQ := Lib.hid hq; clear hq
        go_wp2_with fail
        go_ret
        exact ⟨_, rfl, HQ.out, hr2.mono (by omega), only_trans HO.out ho2⟩
def Lo (l : List Nat) : Prop := ∀ x ∈ l, x < 10
theorem lo_take {l : List Nat} (h : Lo l) (k : Nat) : Lo (l.take k) := fun x hx => h x (List.mem_of_mem_take hx)
theorem lo_drop {l : List Nat} (h : Lo l) (k : Nat) : Lo (l.drop k) := fun x hx => h x (List.mem_of_mem_drop hx)
theorem lo_append {l m : List Nat} (h : Lo l) (k : Lo m) : Lo (l ++ m) := fun x hx => by
  rcases List.mem_append.1 hx with hx | hx
  · exact h x hx
  · exact k x hx
theorem lo_front {l : List Nat} (h : Lo l) {x : Nat} (hx : x < l.length) : Lo ([l[x]] ++ l.take x ++ l.drop (x + 1)) :=
  lo_append (lo_append (fun y hy => by simp at hy; subst hy; exact h _ (List.getElem_mem hx)) (lo_take h x)) (lo_drop h (x + 1))
theorem front_len {l : List Nat} {x : Nat} (hx : x < l.length) : ([l[x]] ++ l.take x ++ l.drop (x + 1)).length = l.length := by simp; omega
theorem front_text {l : List Nat} {x : Nat} (hx : x < l.length) : (pT l).extract x (x + 1) ++ (pT l).extract 0 x ++ (pT l).extract (x + 1) (pT l).size = pT ([l[x]] ++ l.take x ++ l.drop (x + 1)) := by
  rw [pT_extract, pT_extract, pT_extract, pT_append, pT_append, pT_size, List.drop_zero, Nat.sub_zero, Nat.add_sub_cancel_left, List.drop_eq_getElem_cons hx, List.take_of_length_le (l := l.drop (x + 1)) (by simp)]
  rfl
set_option maxHeartbeats 4000000 in
set_option maxRecDepth 100000 in
theorem l4Board_any (w : World) (R N n : Nat) (h : Rdr w R N) (hN : N ≤ 100000) (hn : n ≤ 5) :
    Calls Tryz.prog 45 #[.pointer (some ⟨R, 0, none⟩), .int .i64 n] w (PDrawn w R (N + 10)) := by
  go_enter Tryz.func45, Tryz.ntmps45
  go_wp2_with fail
  refine (identityPerm_any _).mono ?_
  rintro _ w1 ⟨rfl, hb1⟩
  have hr1 := h.below hb1
  have HO1 := Lib.hid (only_of_below hb1 (some R)); clear hb1 h
  go_wp2_with fail
  go_loopw [1, 5, 6] (fun pv pp lv wr => ∃ (k : Nat) (p lf : List Nat), pv = .int .i64 k ∧ pp = .string (pT p) ∧ lv = .string (pT lf) ∧ k ≤ n ∧ Hid (Prm p) ∧ Hid (Lo lf) ∧ 2 * k ≤ lf.length ∧ lf.length ≤ 10 ∧ Rdr wr R (N + 2 * (n - k)) ∧ w.grownBy wr (some R)) (fun pv _ _ _ => (intOf pv).toNat)
  case atStart => exact ⟨n, List.range 10, List.range 10, rfl, rfl, rfl, Nat.le_refl _, Lib.hid prm_range, Lib.hid (fun x hx => List.mem_range.1 hx), by simp; omega, by simp, hr1.mono (by omega), HO1.out⟩
  case round =>
    obtain ⟨k, p, lf, rfl, rfl, rfl, hk, HP, HL, h2k, hll, hr, ho⟩ := hrel
    have HO := Lib.hid ho; clear ho HO1 hr1
    by_cases hpos : 0 < k
    · obtain ⟨M, hM⟩ : ∃ M, M = lf.length := ⟨_, rfl⟩
      have hml : 2 ≤ M ∧ M ≤ 10 ∧ 2 * k ≤ M := by omega
      have HM := Lib.hid hM.symm; clear hM h2k hll
      go_wp2_with fail
      go_loopw [6, 7] (fun lv jv wr => ∃ (j : Nat) (lf : List Nat), lv = .string (pT lf) ∧ jv = .int .i64 j ∧ j ≤ 2 ∧ Hid (Lo lf) ∧ Hid (lf.length = M) ∧ Rdr wr R (N + 2 * (n - k) + j) ∧ w.grownBy wr (some R)) (fun _ jv _ => 2 - (intOf jv).toNat)
      case atStart => exact ⟨0, lf, rfl, rfl, by omega, HL, HM, hr, HO.out⟩
      case round =>
        have HL0 := HL; clear HL HM hr HO HL0
        obtain ⟨j, lg, rfl, rfl, hj, HL, HM, hr, ho⟩ := hrel
        have HO := Lib.hid ho; clear ho
        by_cases hlt : j < 2
        · have hzl : (pT lg).size = lg.length := pT_size lg
          have e1 : ∀ x (hx : x < lg.length), (pT lg).extract x (x + 1) ++ (pT lg).extract 0 x ++ (pT lg).extract (x + 1) (pT lg).size = pT ([lg[x]] ++ lg.take x ++ lg.drop (x + 1)) := fun x hx => front_text hx
          have E1 := Lib.hid e1; clear e1
          obtain ⟨L, hL⟩ : ∃ L, L = pT lg := ⟨_, rfl⟩
          rw [← hL] at E1 hzl ⊢
          rw [HM.out] at hzl
          have hz1 : 2 ≤ L.size := by omega
          have hz2 : L.size ≤ 10 := by omega
          have HZL := Lib.hid hzl
          clear hL hzl
          go_wp2_with fail
          refine (pick_pos _ R _ _ hr (by omega) (by omega) (by omega)).mono ?_
          rintro e w2 ⟨x, rfl, hx, hr2, ho2⟩
          have HO2 := Lib.hid (only_trans HO.out ho2); clear ho2 HO
          have hx1 : x < L.size := by omega
          have hx2 : (x : Int) + 1 ≤ (L.size : Int) := by omega
          have b1 : (0 : Int) ≤ (x : Int) := by omega
          have b2 : (x : Int) ≤ (x : Int) + 1 := by omega
          have a1 : ((x : Int) + 1).toNat = x + 1 := by omega
          have z1 : (L.extract x (x + 1)).size ≤ 10 := by simp [ByteArray.size_extract]; omega
          have z2 : (L.extract 0 x).size ≤ 10 := by simp [ByteArray.size_extract]; omega
          have z3 : (L.extract (x + 1) L.size).size ≤ 10 := by simp [ByteArray.size_extract]; omega
          have z4 : (L.extract x (x + 1) ++ L.extract 0 x).size ≤ 20 := by rw [ByteArray.size_append]; omega
          go_wp2_with fail
          go_quiet (fail)
          go_wp2_with fail
          go_roundw
          case rel =>
            have hxl : x < lg.length := by rw [HM.out, ← HZL.out]; exact hx1
            exact ⟨j + 1, _, by rw [E1.out x hxl], by go_num, by omega, Lib.hid (lo_front HL.out hxl), Lib.hid (by rw [front_len hxl]; exact HM.out), (hr2.drewN _).mono (by omega), only_drewN HO2.out _⟩
          case measure => simp [intOf]; omega
        · have l0 : 0 < lg.length := by rw [HM.out]; omega
          have l1 : 1 < lg.length := by rw [HM.out]; omega
          have t0 := HL.out _ (List.getElem_mem l0)
          have t1 := HL.out _ (List.getElem_mem l1)
          have d0 := fun w' => l1Digit_pT w' lg HL.out 0 0 rfl l0 (by rw [HM.out]; omega)
          have d1 := fun w' => l1Digit_pT w' lg HL.out 1 1 rfl l1 (by rw [HM.out]; omega)
          have hd : (pT lg).extract 2 (pT lg).size = pT (lg.drop 2) := by rw [pT_extract, pT_size, List.take_of_length_le (by simp)]
          have hdl : (lg.drop 2).length = M - 2 := by rw [List.length_drop, HM.out]
          have hz2 : 2 ≤ (pT lg).size := by rw [pT_size, HM.out]; omega
          have HD := Lib.hid hd; have HDL := Lib.hid hdl; have HLD := Lib.hid (lo_drop HL.out 2)
          obtain ⟨a, ha⟩ : ∃ a, a = lg[0] := ⟨_, rfl⟩
          obtain ⟨b, hb⟩ : ∃ b, b = lg[1] := ⟨_, rfl⟩
          simp only [← ha] at t0 d0
          simp only [← hb] at t1 d1
          obtain ⟨L, hL⟩ : ∃ L, L = pT lg := ⟨_, rfl⟩
          simp only [← hL] at d0 d1
          rw [← hL] at HD hz2 ⊢
          have D0 := Lib.hid d0; have D1 := Lib.hid d1
          clear ha hb hL hd hdl d0 d1 l0 l1
          go_wp2_with fail
          refine (D0.out _).mono ?_
          rintro _ _ ⟨rfl, rfl⟩
          go_wp2_with fail
          refine (D1.out _).mono ?_
          rintro _ _ ⟨rfl, rfl⟩
          go_wp2_with fail
          refine (l4Swap_any _ p a b _ _ rfl rfl HP.out.toTen t0 t1).mono ?_
          rintro _ w4 ⟨rfl, hb4⟩
          have HO4 := Lib.hid (only_trans HO.out (only_of_below hb4 (some R)))
          have hr4 := hr.below hb4
          have HPS := Lib.hid (prm_swp HP.out t0 t1)
          clear hb4
          go_wp2_with fail
          go_roundw
          case rel => exact ⟨k - 1, swpP p a b, lg.drop 2, by go_num, rfl, by rw [HD.out], by omega, HPS, HLD, by rw [HDL.out]; omega, by rw [HDL.out]; omega, hr4.mono (by omega), HO4.out⟩
          case measure => simp [intOf]; omega
    · obtain rfl : k = 0 := by omega
      go_wp2_with fail
      go_ret
      exact ⟨p, rfl, HP.out, hr.mono (by omega), HO.out⟩
theorem l4Any_any (w : World) (R N : Nat) (h : Rdr w R N) (hN : N ≤ 90000) :
    Calls Tryz.prog 17 #[.pointer (some ⟨R, 0, none⟩)] w (PDrawn w R (N + 11)) := by
  go_enter Tryz.func17, Tryz.ntmps17
  go_wp2_with fail
  refine (pick_pos _ R N _ h (by omega) (by omega) (by omega)).mono ?_
  rintro e w1 ⟨x, rfl, hx, hr1, ho1⟩
  go_wp2_with fail
  refine (l4Board_any _ R _ x hr1 (by omega) (by omega)).mono ?_
  rintro e w2 ⟨q, rfl, hq, hr2, ho2⟩
  have HQ := Lib.hid hq; clear hq
  go_wp2_with fail
  go_ret
  exact ⟨q, rfl, HQ.out, hr2.mono (by omega), only_trans ho1 ho2⟩
end Go.Proofs.YtnbdimbhklbadaaGreatDoor
