/-
  Contracts of functions and plain laws that the law's proof uses (parts: MachP). Conditions: what each theorem names.
-/
import Derived.Deep.RegionLaw
import Derived.Test.YtnbdimbhklbadaaGreatDoorQMachB
import Derived.Test.YtnbdimbhklbadaaGreatDoorQDoA
import Derived.Test.YtnbdimbhklbadaaGreatDoorQDrawMa
import Derived.Test.YtnbdimbhklbadaaGreatDoorQBsA
import Derived.Test.YtnbdimbhklbadaaGreatDoorQPerms
namespace Go.Proofs.YtnbdimbhklbadaaGreatDoor
open Go.RowKit Pl
set_option linter.unusedVariables false
theorem letters_not {l : List UInt8} (h : ∀ c ∈ l, isL c = true) {x : UInt8} (hx : x.toNat < 97) : x ∉ l := fun hm => by
  have := isL_bounds (h x hm); omega
theorem perm_letters {s : ByteArray} (h : IsPerm s) : ∀ c ∈ tl s, isL c = true := fun c hc => by
  obtain ⟨q, hq, rfl⟩ := h
  unfold pT at hc
  rw [tl_mk] at hc
  obtain ⟨n, hn, rfl⟩ := List.mem_map.1 hc
  exact isL_letter (hq.lt n hn)
theorem SB.twoC {w : World} {p : Nat} {a b : Value} {T : TypeId} (h : SB w p #[a, b] T) : (w.cell? ⟨p, 0, none⟩ = some a ∧ w.cell? ⟨p, 1, none⟩ = some b) ∧ (w.frozen? ⟨p, 0, none⟩ = false ∧ w.frozen? ⟨p, 1, none⟩ = false) := ⟨h.two_cells, h.frozen 0, h.frozen 1⟩
set_option maxHeartbeats 4000000 in
set_option maxRecDepth 100000 in
theorem parseRotor_yes (w : World) (hml : ML w) (a n : ByteArray) (h : RotorV (a, n)) :
    Calls Tryz.prog 264 #[.string (mk (rotT (a, n)))] w fun e w' => e = .returned (.tuple #[.agg #[.string a, .string n], .bool true]) ∧ Below w.heap.size w w' := by
  have hal := letters_not (perm_letters h.1) (x := 32) (by decide)
  have hrz := rotT_len h
  have hfr := fun w' => formatRotor_yes w' a n h
  have hnl : ∀ c ∈ tl n, isL c = true := fun c hc => wv_mem h.2.2.1 hc
  obtain ⟨nt, hnt⟩ : ∃ nt, nt = (if tl n = [] then [45] else tl n) := ⟨_, rfl⟩
  have hT : rotT (a, n) = tl a ++ 32 :: nt := by rw [hnt]; rfl
  have hbf : mk (bef 32 (tl (mk (rotT (a, n))))) = a := by rw [tl_mk, hT, (bef_of hal).1, mk_tl]
  have haf : mk (aft 32 (tl (mk (rotT (a, n))))) = mk nt := by rw [tl_mk, hT, (bef_of hal).2]
  have hin : decide ((32 : UInt8) ∈ tl (mk (rotT (a, n)))) = true := by rw [decide_eq_true_iff, tl_mk, hT]; simp
  have hb0 : Below w.heap.size w (w.alloc (.cells #[.string ⟨#[]⟩, .string ⟨#[]⟩] 142)) := (Below.refl _ _).alloc (Nat.le_refl _) _
  have hcut := cut_any (w.alloc (.cells #[.string ⟨#[]⟩, .string ⟨#[]⟩] 142)) (mk (rotT (a, n))) 32 (hml.below hb0 (Nat.le_refl _)) (by rw [size_mk]; omega)
  rw [hbf, haf, hin] at hcut
  have hs0 := SB.made w #[.string ⟨#[]⟩, .string ⟨#[]⟩] 142
  have HCUT := Lib.hid hcut; have HB0 := Lib.hid hb0; have HS0 := Lib.hid hs0; have HFR := Lib.hid hfr
  have hTz : (mk (rotT (a, n))).size ≤ 14 := by rw [size_mk]; exact hrz
  clear hcut hb0 hs0 hfr hbf haf hin hT hal hrz h
  obtain ⟨T, hTT⟩ : ∃ T, T = mk (rotT (a, n)) := ⟨_, rfl⟩
  rw [← hTT] at HCUT HFR hTz ⊢
  clear hTT
  obtain ⟨P, hP⟩ : ∃ P, P = w.heap.size := ⟨_, rfl⟩
  have hpw : w.heap.size ≤ P := by omega
  have hbq : (T.toList == T.toList) = true := beq_self_eq_true _
  by_cases hn : tl n = []
  · have hn0 : n = ⟨#[]⟩ := by rw [← mk_tl n, hn]; rfl
    subst hn0
    rw [if_pos hn] at hnt
    subst hnt
    have hbt : ((mk [45]).toList == [45]) = true := by rw [toList_tl, tl_mk]; rfl
    go_enter Tryz.func264, Tryz.ntmps264
    go_wp2_with fail
    rw [← hP] at HS0 ⊢
    clear hP
    refine HCUT.out.mono ?_
    rintro _ w1 ⟨rfl, m, hw1⟩
    have hs1 : SB w1 P #[.string ⟨#[]⟩, .string ⟨#[]⟩] 142 := by rw [hw1]; exact HS0.out
    have hb1 : Below w.heap.size w w1 := by rw [hw1]; exact below_drewN' HB0.out m
    have hb2 := hb1.alloc hb1.size (.cells #[.string a, .string (⟨#[]⟩)] 142)
    have hp2 := SB.below hs1 ((Below.refl _ _).alloc (Nat.le_refl _) (.cells #[.string a, .string (⟨#[]⟩)] 142))
    have hq2 := SB.made w1 #[.string a, .string (⟨#[]⟩)] 142
    obtain ⟨w3, hw3⟩ : ∃ w3, w3 = w1.alloc (.cells #[.string a, .string (⟨#[]⟩)] 142) := ⟨_, rfl⟩
    rw [← hw3] at hb2 hp2 hq2
    have HB3 := Lib.hid hb2; have HP3 := Lib.hid hp2; have HQ3 := Lib.hid hq2
    clear hb2 hp2 hq2 hs1 hb1 hw1 HCUT HB0 HS0
    go_wp2_with fail
    rw [← hw3]
    clear hw3
    refine (HFR.out _).mono ?_
    rintro _ w4 ⟨rfl, hb4⟩
    obtain ⟨⟨c0, c1⟩, _⟩ := (HQ3.out.below hb4).twoC
    obtain ⟨⟨d0, d1⟩, g0, g1⟩ := (HP3.out.below hb4).twoC
    have HPF := Lib.hid ((HP3.out.below hb4).two (.string a) (.string (⟨#[]⟩)))
    have HBF := Lib.hid (((HB3.out.trans (hb4.mono HB3.out.size)).setCell hpw (p := ⟨P, 0, none⟩) (.string a)).setCell hpw (p := ⟨P, 1, none⟩) (.string (⟨#[]⟩)))
    clear hb4
    go_wp2_with fail
    refine bodyPost_ret (results_st_tmp rfl _ _ P _ #[.string a, .string (⟨#[]⟩)] _ _ rfl HPF.out Tryz.underlying142 ⟨_, rfl⟩ rotSize) rfl ⟨rfl, HBF.out⟩
  · rw [if_neg hn] at hnt
    subst hnt
    have hne : ¬ n.toList = [45] := by
      rw [toList_tl]
      intro e
      exact letters_not hnl (x := 45) (by decide) (by rw [e]; exact List.mem_cons_self)
    have hbt : (n.toList == [45]) = false := by rw [beq_eq_false_iff_ne]; exact hne
    rw [mk_tl] at HCUT
    clear hn hnl hne
    go_enter Tryz.func264, Tryz.ntmps264
    go_wp2_with fail
    rw [← hP] at HS0 ⊢
    clear hP
    refine HCUT.out.mono ?_
    rintro _ w1 ⟨rfl, m, hw1⟩
    have hs1 : SB w1 P #[.string ⟨#[]⟩, .string ⟨#[]⟩] 142 := by rw [hw1]; exact HS0.out
    have hb1 : Below w.heap.size w w1 := by rw [hw1]; exact below_drewN' HB0.out m
    have hb2 := hb1.alloc hb1.size (.cells #[.string a, .string (n)] 142)
    have hp2 := SB.below hs1 ((Below.refl _ _).alloc (Nat.le_refl _) (.cells #[.string a, .string (n)] 142))
    have hq2 := SB.made w1 #[.string a, .string (n)] 142
    obtain ⟨w3, hw3⟩ : ∃ w3, w3 = w1.alloc (.cells #[.string a, .string (n)] 142) := ⟨_, rfl⟩
    rw [← hw3] at hb2 hp2 hq2
    have HB3 := Lib.hid hb2; have HP3 := Lib.hid hp2; have HQ3 := Lib.hid hq2
    clear hb2 hp2 hq2 hs1 hb1 hw1 HCUT HB0 HS0
    go_wp2_with fail
    rw [← hw3]
    clear hw3
    refine (HFR.out _).mono ?_
    rintro _ w4 ⟨rfl, hb4⟩
    obtain ⟨⟨c0, c1⟩, _⟩ := (HQ3.out.below hb4).twoC
    obtain ⟨⟨d0, d1⟩, g0, g1⟩ := (HP3.out.below hb4).twoC
    have HPF := Lib.hid ((HP3.out.below hb4).two (.string a) (.string (n)))
    have HBF := Lib.hid (((HB3.out.trans (hb4.mono HB3.out.size)).setCell hpw (p := ⟨P, 0, none⟩) (.string a)).setCell hpw (p := ⟨P, 1, none⟩) (.string (n)))
    clear hb4
    go_wp2_with fail
    refine bodyPost_ret (results_st_tmp rfl _ _ P _ #[.string a, .string (n)] _ _ rfl HPF.out Tryz.underlying142 ⟨_, rfl⟩ rotSize) rfl ⟨rfl, HBF.out⟩
def foldP (L : List (List Nat)) (k : Nat) : List Nat := (L.take k).foldl (fun p c => withP p (nth c 0) (nth c 1)) (List.range 10)
theorem foldP_succ {L : List (List Nat)} {k : Nat} (h : k < L.length) : foldP L (k + 1) = withP (foldP L k) (nth L[k] 0) (nth L[k] 1) := by
  unfold foldP
  rw [List.take_succ_eq_append_getElem h, List.foldl_append]; rfl
theorem withP_ten {p : List Nat} (h : Ten p) {a b : Nat} (ha : a < 10) (hb : b < 10) : Ten (withP p a b) := by
  refine ⟨by rw [withP_len]; exact h.len, fun n hn => ?_⟩
  unfold withP at hn
  rcases List.mem_or_eq_of_mem_set hn with hn | rfl
  · rcases List.mem_or_eq_of_mem_set hn with hn | rfl
    · exact h.lt n hn
    · exact hb
  · exact ha
theorem foldP_ten {L : List (List Nat)} (h : ∀ c ∈ L, ∀ x ∈ c, x < 10) : ∀ k, k ≤ L.length → Ten (foldP L k)
  | 0, _ => ⟨rfl, fun n hn => List.mem_range.1 hn⟩
  | k + 1, hk => by
    rw [foldP_succ (show k < L.length by omega)]
    exact withP_ten (foldP_ten h k (by omega)) (nth_lt (h _ (List.getElem_mem _)) 0) (nth_lt (h _ (List.getElem_mem _)) 1)
theorem foldP_end {q : List Nat} (hq : Prm q) (hi : invP q = q) (L : List (List Nat)) (hL : L = twos q 10) : foldP L L.length = q := by
  unfold foldP
  rw [List.take_length, hL, twos_fold hq hi 10 (Nat.le_refl _), pk_end hq]
theorem rd_ten {w : World} {B p : Nat} {A : Option Addr} {xs : List Value} (h : Rd w B A xs) (hA : ∀ x, A = some x → x.block ≠ p) (q : List Nat) : Rd ((((((((((w.setCell ⟨p, 0, none⟩ (.int .u8 (nth q 0 : Int))).setCell ⟨p, 1, none⟩ (.int .u8 (nth q 1 : Int))).setCell ⟨p, 2, none⟩ (.int .u8 (nth q 2 : Int))).setCell ⟨p, 3, none⟩ (.int .u8 (nth q 3 : Int))).setCell ⟨p, 4, none⟩ (.int .u8 (nth q 4 : Int))).setCell ⟨p, 5, none⟩ (.int .u8 (nth q 5 : Int))).setCell ⟨p, 6, none⟩ (.int .u8 (nth q 6 : Int))).setCell ⟨p, 7, none⟩ (.int .u8 (nth q 7 : Int))).setCell ⟨p, 8, none⟩ (.int .u8 (nth q 8 : Int))).setCell ⟨p, 9, none⟩ (.int .u8 (nth q 9 : Int))) B A xs := (((((((((h.far hA 0 _).far hA 1 _).far hA 2 _).far hA 3 _).far hA 4 _).far hA 5 _).far hA 6 _).far hA 7 _).far hA 8 _).far hA 9 _
theorem size_ten (w : World) (p : Nat) (q : List Nat) : ((((((((((w.setCell ⟨p, 0, none⟩ (.int .u8 (nth q 0 : Int))).setCell ⟨p, 1, none⟩ (.int .u8 (nth q 1 : Int))).setCell ⟨p, 2, none⟩ (.int .u8 (nth q 2 : Int))).setCell ⟨p, 3, none⟩ (.int .u8 (nth q 3 : Int))).setCell ⟨p, 4, none⟩ (.int .u8 (nth q 4 : Int))).setCell ⟨p, 5, none⟩ (.int .u8 (nth q 5 : Int))).setCell ⟨p, 6, none⟩ (.int .u8 (nth q 6 : Int))).setCell ⟨p, 7, none⟩ (.int .u8 (nth q 7 : Int))).setCell ⟨p, 8, none⟩ (.int .u8 (nth q 8 : Int))).setCell ⟨p, 9, none⟩ (.int .u8 (nth q 9 : Int))).heap.size = w.heap.size := by simp [World.setCell]
theorem mkl_tl (l : List ByteArray) : mkl (l.map tl) = l := by
  unfold mkl
  rw [List.map_map]
  have : (mk ∘ tl) = id := by funext x; exact mk_tl x
  rw [this, List.map_id]
theorem pT_letters {c : List Nat} (h : ∀ x ∈ c, x < 10) : ∀ x ∈ tl (pT c), isL x = true := fun x hx => by
  unfold pT at hx
  rw [tl_mk] at hx
  obtain ⟨n, hn, rfl⟩ := List.mem_map.1 hx
  exact isL_letter (h n hn)
theorem plugT_split (q : List Nat) (hq : Prm q) (h : twoS q ≠ []) : mkl (spl 32 (tl (mk (plugT q)))) = twoS q := by
  have h2 : twos q 10 ≠ [] := fun e => h (by unfold twoS; rw [e]; rfl)
  have e : plugT q = Lib.join ((twoS q).map tl) [32] := by unfold plugT; rw [if_neg h2]
  rw [tl_mk, e, spl_join _ (fun e => h (List.map_eq_nil_iff.1 e)), mkl_tl]
  intro p hp
  obtain ⟨s, hs, rfl⟩ := List.mem_map.1 hp
  unfold twoS at hs
  obtain ⟨c, hc, rfl⟩ := List.mem_map.1 hs
  exact letters_not (pT_letters (twos_mem hq hc).2) (by decide)
theorem plugT_long (q : List Nat) (hq : Prm q) (h : twoS q ≠ []) : 2 ≤ (plugT q).length := by
  have h2 : twos q 10 ≠ [] := fun e => h (by unfold twoS; rw [e]; rfl)
  have e : plugT q = Lib.join ((twoS q).map tl) [32] := by unfold plugT; rw [if_neg h2]
  rw [e]
  cases hz : twoS q with
  | nil => exact absurd hz h
  | cons x r =>
    have hx : x ∈ twoS q := by rw [hz]; simp
    unfold twoS at hx
    obtain ⟨c, hc, rfl⟩ := List.mem_map.1 hx
    rw [List.map_cons, Lib.join_cons, List.length_append, length_tl, pT_size, (twos_mem hq hc).1]; omega
set_option maxHeartbeats 8000000 in
set_option maxRecDepth 100000 in
theorem parsePlugs_yes (w : World) (hml : ML w) (q : List Nat) (hq : Prm q) (hi : invP q = q) :
    Calls Tryz.prog 162 #[.string (mk (plugT q))] w fun e w' => e = .returned (.tuple #[.string (pT q), .bool true]) ∧ Below w.heap.size w w' := by
  have hfp := fun w' => formatPlugs_yes w' q hq hi
  have hps := fun w' => permStr_any w' q hq.toTen
  have hpq : mk (q.map letter) = pT q := rfl
  rw [hpq] at hps
  have hTz : (mk (plugT q)).size ≤ 40 := by rw [size_mk]; exact plugT_len q
  have hidn := fun w' => identity_any w'
  have f0 : foldP (twos q 10) 0 = List.range 10 := by unfold foldP; rw [List.take_zero]; rfl
  have fend := foldP_end hq hi _ rfl
  have fsn := fun k (hk : k < (twos q 10).length) => foldP_succ hk
  have hLm := fun c (hc : c ∈ twos q 10) => twos_mem hq hc
  have fte := foldP_ten (fun c hc => (twos_mem hq hc).2)
  have hsp := plugT_split q hq
  have hlong := plugT_long q hq
  have hemp := plugT_empty q
  have hZ : twoS q = (twos q 10).map pT := rfl
  have hqt := hq.toTen
  have hL10 := twos_len q
  generalize twoS q = Zs at hsp hlong hemp hZ
  generalize twos q 10 = L at f0 fend fsn hLm fte hZ hL10
  obtain ⟨F, hF⟩ : ∃ F, F = foldP L := ⟨_, rfl⟩
  rw [← hF] at f0 fend fsn fte
  obtain ⟨T, hT⟩ : ∃ T, T = mk (plugT q) := ⟨_, rfl⟩
  have hTl : T.size = (plugT q).length := by rw [hT, size_mk]
  rw [← hT] at hfp hTz hsp hemp ⊢
  rw [← hTl] at hlong
  have hbq : (T.toList == T.toList) = true := beq_self_eq_true _
  have HFP := Lib.hid hfp; have HPS := Lib.hid hps; have HID := Lib.hid hidn; have HQL := Lib.hid hq.len; have HF0 := Lib.hid f0; have HFE := Lib.hid fend
  have hLz : Zs.length = L.length := by rw [hZ]; simp
  clear hfp hps hidn hF hT hTl hq hi hpq
  obtain ⟨S, hS⟩ : ∃ S, S = pT q := ⟨_, rfl⟩
  rw [← hS] at HFP HPS ⊢
  clear hS
  by_cases hz : Zs = []
  · have hL0 : L.length = 0 := by rw [← hLz, hz]; rfl
    have hq0 : List.range 10 = q := by rw [← f0, ← fend, hL0]
    have h45 : (T.toList == [45]) = true := by rw [← hemp hz, toList_tl]; rfl
    clear hsp hlong hemp hz fsn fte hLm hZ hLz hL0 f0 fend
    rw [hq0] at HID
    clear hq0
    go_enter Tryz.func162, Tryz.ntmps162
    go_wp2_with fail
    refine (HID.out _).mono ?_
    rintro _ w1 ⟨rfl, hb1⟩
    have HG1 := Lib.hid (PB.made w1)
    have HS3 := Lib.hid (HG1.out.row q)
    have HB3 := Lib.hid (below_setRow (hb1.alloc hb1.size (.cells #[.int .u8 0, .int .u8 0, .int .u8 0, .int .u8 0, .int .u8 0, .int .u8 0, .int .u8 0, .int .u8 0, .int .u8 0, .int .u8 0] 52)) hb1.size (pC q))
    clear hb1
    go_wp2_with (first | (refine wpList_store_row rfl 52 _ _ rfl w1.heap.size (pC q) rfl rfl _ _ HG1.out (permSize HQL.out) (by rw [pC_size, pC_size, HQL.out]; rfl) (pC_one _) ?_) | (refine wpList_load_row rfl 52 _ rfl w1.heap.size rfl _ _ _ _ HS3.out Tryz.underlying52 rfl (permSize HQL.out) ?_))
    refine (HPS.out _).mono ?_
    rintro _ w4 ⟨rfl, hb4⟩
    have HB4 := Lib.hid (HB3.out.trans (hb4.mono HB3.out.size)); clear hb4
    go_wp2_with fail
    refine (HFP.out _).mono ?_
    rintro _ w5 ⟨rfl, hb5⟩
    have HB5 := Lib.hid (HB4.out.trans (hb5.mono HB4.out.size)); clear hb5
    go_wp2_with fail
    go_ret2
    exact ⟨rfl, HB5.out⟩
  · have hne : (T.toList == [45]) = false := by
      rw [beq_eq_false_iff_ne, toList_tl]
      intro e
      have h2 := hlong hz
      have := congrArg List.length e
      rw [length_tl] at this
      simp at this
      omega
    have hsp2 := hsp hz
    have hln : (spl 32 (tl T)).length = L.length := by rw [← hLz, ← hsp2, length_mkl]
    have HSP := Lib.hid hsp2; have HLN := Lib.hid hln; have HZs := Lib.hid hZ; have HSN := Lib.hid fsn; have HTE := Lib.hid fte; have HLM := Lib.hid hLm
    clear hsp hlong hemp hz fsn fte hLm hZ hLz hsp2 hln f0 fend
    have HT0 := Lib.hid (show (List.range 10).length = 10 from rfl)
    have h10 := HF0.out
    obtain ⟨r0, hr0⟩ : ∃ r0, r0 = List.range 10 := ⟨_, rfl⟩
    rw [← hr0] at HID HF0 HT0
    clear hr0 h10
    have HML := Lib.hid hml; clear hml
    go_enter Tryz.func162, Tryz.ntmps162
    go_wp2_with fail
    refine (HID.out _).mono ?_
    rintro _ w1 ⟨rfl, hb1⟩
    have HG1 := Lib.hid (PB.made w1)
    have HS3 := Lib.hid (HG1.out.row r0)
    have HB3 := Lib.hid (below_setRow (hb1.alloc hb1.size (.cells #[.int .u8 0, .int .u8 0, .int .u8 0, .int .u8 0, .int .u8 0, .int .u8 0, .int .u8 0, .int .u8 0, .int .u8 0, .int .u8 0] 52)) hb1.size (pC r0))
    obtain ⟨Q, hQ⟩ : ∃ Q, Q = w1.heap.size := ⟨_, rfl⟩
    have hwQ : w.heap.size ≤ Q := by rw [hQ]; exact hb1.size
    clear hb1
    go_wp2_with (first | (refine wpList_store_row rfl 52 _ _ rfl w1.heap.size (pC r0) rfl rfl _ _ HG1.out (permSize HT0.out) (by rw [pC_size, pC_size, HT0.out]; rfl) (pC_one _) ?_))
    obtain ⟨w3, hw3⟩ : ∃ w3, w3 = (w1.alloc (.cells #[.int .u8 0, .int .u8 0, .int .u8 0, .int .u8 0, .int .u8 0, .int .u8 0, .int .u8 0, .int .u8 0, .int .u8 0, .int .u8 0] 52)).setRow w1.heap.size (pC r0) := ⟨_, rfl⟩
    rw [← hw3] at HS3 HB3 ⊢
    rw [← hQ] at HS3 ⊢
    clear hw3 HG1 hQ
    have hspl := split_any w3 T 32 (HML.out.below HB3.out (Nat.le_refl _)) (by omega)
    rw [HLN.out, HSP.out] at hspl
    have HSPL := Lib.hid hspl; clear hspl
    refine HSPL.out.mono ?_
    rintro _ w4 ⟨rfl, hw4⟩
    have HS4 := Lib.hid (show PB w4 Q r0 by rw [hw4]; exact block_kept3 HS3.out _)
    have HB4 := Lib.hid (show Below w.heap.size w w4 by rw [hw4]; exact HB3.out.alloc HB3.out.size _)
    have HRD := Lib.hid (show Rd w4 (w3.heap.size + 1) (some ⟨w3.heap.size, 0, none⟩) (strV Zs) by rw [hw4]; exact split_rd w3 Zs)
    have hQ3 : Q < w3.heap.size := (Array.getElem?_eq_some_iff.1 HS3.out).1
    have hsz4 : w4.heap.size = w3.heap.size + 1 := by rw [hw4]; simp
    have HZ4 := Lib.hid hsz4
    clear hw4 hsz4 HSPL HS3 HB3
    obtain ⟨N, hN⟩ : ∃ N, N = w3.heap.size := ⟨_, rfl⟩
    rw [← hN] at HRD hQ3 HZ4 ⊢
    clear hN
    go_wp2_with fail
    go_loopw [14] (fun i wr => ∃ k : Nat, k ≤ L.length ∧ i = .int .i64 k ∧ Hid (PB wr Q (F k)) ∧ Hid (Rd wr (N + 1) (some ⟨N, 0, none⟩) (strV Zs)) ∧ N + 1 ≤ wr.heap.size ∧ Below w.heap.size w wr) (fun i _ => L.length - (intOf i).toNat)
    case atStart => exact ⟨0, Nat.zero_le _, rfl, Lib.hid (by rw [HF0.out]; exact HS4.out), HRD, by have := HZ4.out; omega, HB4.out⟩
    case round =>
      obtain ⟨k, hk, rfl, HPB, HR, hN1, hbl⟩ := hrel
      have HBL := Lib.hid hbl; clear hbl HS4 HRD HB4
      have ht := HTE.out k hk
      by_cases hlt : k < L.length
      · have hkz : k < Zs.length := by rw [HZs.out]; simpa using hlt
        obtain ⟨b0, off, ee, _, c0⟩ := HR.out.str hkz
        simp only [Option.some.injEq, Addr.mk.injEq, and_true] at ee
        obtain ⟨rfl, rfl⟩ := ee
        have hzk : Zs[k] = pT L[k] := by simp only [HZs.out]; simp
        obtain ⟨hc2, hclt⟩ := HLM.out _ (List.getElem_mem hlt)
        have hsn := HSN.out k hlt
        rw [hzk, Nat.zero_add] at c0
        generalize L[k] = c at c0 hc2 hclt hsn
        have hsz : (pT c).size = 2 := by rw [pT_size]; exact hc2
        have hwv := pT_wv hclt (by omega)
        have y0 : 0 < (pT c).size := by omega
        have y1 : 1 < (pT c).size := by omega
        have x0 : isL (pT c)[0] = true := by rw [pT_at y0 (by omega)]; exact isL_letter (hclt _ (List.getElem_mem _))
        have x1 : isL (pT c)[1] = true := by rw [pT_at y1 (by omega)]; exact isL_letter (hclt _ (List.getElem_mem _))
        have z0 : dg (pT c)[0] = nth c 0 := by rw [pT_at y0 (by omega), nth_eq (by omega), dg_letter (hclt _ (List.getElem_mem _))]
        have z1 : dg (pT c)[1] = nth c 1 := by rw [pT_at y1 (by omega), nth_eq (by omega), dg_letter (hclt _ (List.getElem_mem _))]
        rw [← z0, ← z1] at hsn
        have hwp := fun w' => withPair_any w' (F k) ht (dg (pT c)[0]) (dg (pT c)[1]) (dg_lt x0) (dg_lt x1)
        have hl2 := (HTE.out (k + 1) hlt).len
        rw [← hsn, pC_ten ht.len, pC_ten hl2] at hwp
        clear hsn z0 z1 hclt hc2 hzk
        generalize pT c = s at c0 hsz hwv y0 y1 x0 x1 hwp
        have hb2 : (((s.size : Nat) : Int) != 2) = false := by simp; omega
        have v0 : (0 : Int) < (s.size : Int) := by omega
        have v1 : (1 : Int) < (s.size : Int) := by omega
        have HWP := Lib.hid hwp; have HWV := Lib.hid hwv; have HL2 := Lib.hid hl2; have HTL := Lib.hid ht.len
        obtain ⟨⟨d0, d1, d2, d3, d4, d5, d6, d7, d8, d9⟩, _⟩ := HPB.out.all ht.len
        clear hwp hwv hsz hl2 ht
        go_wp2_with fail
        refine (wordValid_is _ true _ HWV.out).mono ?_
        rintro _ _ ⟨rfl, rfl⟩
        go_wp2_with fail
        clear c0
        go_region_law (first | (go_simp; go_at_call 21; refine (number_any _ _ (by first | exact x0 | exact x1)).mono ?_; rintro _ w6 ⟨rfl, rfl⟩) | (go_simp; go_at_call 225; refine (HWP.out _).mono ?_; rintro _ w7 ⟨rfl, hb7⟩; obtain ⟨⟨k0, k1, k2, k3, k4, k5, k6, k7, k8, k9⟩, f0, f1, f2, f3, f4, f5, f6, f7, f8, f9⟩ := (HPB.out.below (below_of_drew2 hb7)).all HTL.out) | fail)
        all_goals
          have hb8 := below_of_drew2 hb7
          have HP8 := Lib.hid ((HPB.out.below hb8).ten HTL.out HL2.out)
          have HR8 := Lib.hid (rd_ten (p := Q) (HR.out.below (hb8.mono hN1)) (fun x e => by injection e with e; subst e; show N ≠ Q; omega) (F (k + 1)))
          have HB8 := Lib.hid (below_ten (p := Q) (HBL.out.trans (hb8.mono HBL.out.size)) hwQ (F (k + 1)))
          have HZ8 := Lib.hid (show N + 1 ≤ _ from Nat.le_trans (Nat.le_trans hN1 hb8.size) (Nat.le_of_eq (size_ten w7 Q (F (k + 1))).symm))
          clear hb7 hb8 d0 d1 d2 d3 d4 d5 d6 d7 d8 d9 k0 k1 k2 k3 k4 k5 k6 k7 k8 k9 f0 f1 f2 f3 f4 f5 f6 f7 f8 f9
          go_wp2_with fail
          go_roundw
          case rel => exact ⟨k + 1, by omega, by go_num, HP8, HR8, HZ8.out, HB8.out⟩
          case measure => simp [intOf]; omega
      · obtain rfl : k = L.length := by omega
        have hpf := HPB.out
        rw [HFE.out] at hpf
        have HPF := Lib.hid hpf; clear hpf ht
        go_wp2_with (refine wpList_load_row rfl 52 _ rfl Q rfl _ _ _ _ HPF.out Tryz.underlying52 rfl (permSize HQL.out) ?_)
        refine (HPS.out _).mono ?_
        rintro _ w5 ⟨rfl, hb5⟩
        have HB5 := Lib.hid (HBL.out.trans (hb5.mono HBL.out.size)); clear hb5
        go_wp2_with fail
        refine (HFP.out _).mono ?_
        rintro _ w6 ⟨rfl, hb6⟩
        have HB6 := Lib.hid (HB5.out.trans (hb6.mono HB5.out.size)); clear hb6
        go_wp2_with fail
        go_ret2
        exact ⟨rfl, HB6.out⟩
theorem rotT_chars {r : ByteArray × ByteArray} (h : RotorV r) {x : UInt8} (hx : x.toNat < 97) (h32 : x ≠ 32) (h45 : x ≠ 45) : x ∉ rotT r := by
  have h1 := letters_not (perm_letters h.1) hx
  have h2 : x ∉ tl r.2 := letters_not (fun c hc => wv_mem h.2.2.1 hc) hx
  unfold rotT
  rw [List.mem_append, List.mem_cons]
  rintro (hm | rfl | hm)
  · exact h1 hm
  · exact h32 rfl
  · split at hm
    · simp at hm; exact h45 hm
    · exact h2 hm
theorem rotTo_chars {rs : List (ByteArray × ByteArray)} (h : ∀ r ∈ rs, RotorV r) {x : UInt8} (hx : x.toNat < 97) (h32 : x ≠ 32) (h45 : x ≠ 45) (h44 : x ≠ 44) : ∀ k, k ≤ rs.length → x ∉ rotTo rs k
  | 0, _ => by simp [rotTo, Lib.join_nil]
  | k + 1, hk => by
    have ih := rotTo_chars h hx h32 h45 h44 k (by omega)
    have hr := rotT_chars (h _ (List.getElem_mem (show k < rs.length by omega))) hx h32 h45
    by_cases hk0 : 0 < k
    · rw [rotTo_next rs k (by omega) hk0]
      simp only [List.mem_append, List.mem_singleton]
      rintro ((hm | hm) | hm)
      · exact ih hm
      · exact h44 hm
      · exact hr hm
    · obtain rfl : k = 0 := by omega
      rw [rotTo_one rs (by omega)]; exact hr
theorem rotTo_split {rs : List (ByteArray × ByteArray)} (h : ∀ r ∈ rs, RotorV r) (h1 : 1 ≤ rs.length) : spl 44 (rotTo rs rs.length) = rs.map rotT := by
  unfold rotTo
  rw [List.take_length, spl_join]
  · intro e; have := congrArg List.length e; rw [List.length_map, List.length_nil] at this; omega
  · intro p hp
    obtain ⟨r, hr, rfl⟩ := List.mem_map.1 hp
    exact rotT_chars (h r hr) (by decide) (by decide) (by decide)
theorem rotTo_count {rs : List (ByteArray × ByteArray)} (h : ∀ r ∈ rs, RotorV r) : ∀ k, k ≤ rs.length → (rotTo rs k).count 44 ≤ k - 1
  | 0, _ => by simp [rotTo, Lib.join_nil]
  | k + 1, hk => by
    have ih := rotTo_count h k (by omega)
    have hr := List.count_eq_zero_of_not_mem (rotT_chars (h _ (List.getElem_mem (show k < rs.length by omega))) (x := 44) (by decide) (by decide) (by decide))
    by_cases hk0 : 0 < k
    · rw [rotTo_next rs k (by omega) hk0, List.count_append, List.count_append, hr]
      have : List.count (44 : UInt8) [44] = 1 := by decide
      rw [this]; omega
    · obtain rfl : k = 0 := by omega
      rw [rotTo_one rs (by omega), hr]; omega
theorem rotS_split {rs : List (ByteArray × ByteArray)} (h : ∀ r ∈ rs, RotorV r) (h1 : 1 ≤ rs.length) : mkl (spl 44 (tl (mk (rotTo rs rs.length)))) = rs.map fun r => mk (rotT r) := by
  rw [tl_mk, rotTo_split h h1]
  unfold mkl
  rw [List.map_map]; rfl
set_option maxHeartbeats 8000000 in
set_option maxRecDepth 100000 in
theorem parseWheels_yes (w : World) (hml : ML w) (rs : List (ByteArray × ByteArray)) (p : ByteArray) (h : WheelsV rs p) :
    Calls Tryz.prog 222 #[.string (mk (whlT rs p))] w fun e w' => ∃ A cap, e = .returned (.tuple #[.agg #[.slice A rs.length cap, .string p], .bool true]) ∧ w'.ownsRow w.heap.size 142 2 (.slice A rs.length cap) rs.length (rotV rs) ∧ Below w.heap.size w w' := by
  obtain ⟨iR, hi, hz0, hz1, hz2⟩ := info_parts Tryz.infoR
  have HI := Lib.hid hi; have HZ0 := Lib.hid hz0; have HZ1 := Lib.hid hz1; have HZ2 := Lib.hid hz2
  clear hi hz0 hz1 hz2
  obtain ⟨h1, h3, hrf, hall⟩ := h
  have hnr := rotTo_chars hall (x := 47) (by decide) (by decide) (by decide) (by decide) rs.length (Nat.le_refl _)
  have hwz := whlT_len ⟨h1, h3, hrf, hall⟩
  have hbf : mk (bef 47 (tl (mk (whlT rs p)))) = mk (rotTo rs rs.length) := by rw [tl_mk]; unfold whlT; rw [(bef_of hnr).1]
  have haf : mk (aft 47 (tl (mk (whlT rs p)))) = p := by rw [tl_mk]; unfold whlT; rw [(bef_of hnr).2, mk_tl]
  have hin : decide ((47 : UInt8) ∈ tl (mk (whlT rs p))) = true := by rw [decide_eq_true_iff, tl_mk]; unfold whlT; simp
  have hb0 : Below w.heap.size w (w.alloc (.cells #[.slice none 0 0, .string ⟨#[]⟩] 25)) := (Below.refl _ _).alloc (Nat.le_refl _) _
  have hcut := cut_any (w.alloc (.cells #[.slice none 0 0, .string ⟨#[]⟩] 25)) (mk (whlT rs p)) 47 (hml.below hb0 (Nat.le_refl _)) (by rw [size_mk]; omega)
  rw [hbf, haf, hin] at hcut
  have hs0 := SB.made w #[.slice none 0 0, .string ⟨#[]⟩] 25
  have hct := fun w' => count_any w' (mk (rotTo rs rs.length)) 44
  rw [tl_mk] at hct
  have hcl := rotTo_count hall rs.length (Nat.le_refl _)
  have hc3 : (rotTo rs rs.length).count 44 < 3 := by omega
  have hspl := fun (w' : World) (hm : ML w') => split_any w' (mk (rotTo rs rs.length)) 44 hm (by rw [size_mk]; have := rotTo_len hall rs.length (Nat.le_refl _); omega)
  have hss := rotS_split hall h1
  have hsl : (spl 44 (tl (mk (rotTo rs rs.length)))).length = rs.length := by rw [← length_mkl, hss, List.length_map]
  rw [hsl, hss] at hspl
  have hfw := fun (w' : World) (A : Option Addr) (cap : Nat) (h' : Rd w' w'.heap.size A (rotV rs)) (hc' : rs.length ≤ cap) => formatWheels_yes w' A cap rs p h' hc' ⟨h1, h3, hrf, hall⟩
  have hpr := fun k (hk : k < rs.length) (w' : World) (hm : ML w') => parseRotor_yes w' hm rs[k].1 rs[k].2 (hall _ (List.getElem_mem hk))
  have hat : ∀ k (hk : k < rs.length) (hk2 : k < (rs.map fun r => mk (rotT r)).length), (rs.map fun r => mk (rotT r))[k] = mk (rotT rs[k]) := fun k hk hk2 => by simp
  have hsn := fun k (hk : k < rs.length) => rotV_snoc (rs.take k) rs[k]
  have htk := fun k (hk : k < rs.length) => List.take_succ_eq_append_getElem hk
  have hZl : (rs.map fun r => mk (rotT r)).length = rs.length := by simp
  generalize (rs.map fun r => mk (rotT r)) = Zs at hspl hat hZl
  generalize (rotTo rs rs.length).count 44 = C at hct hc3
  generalize mk (rotTo rs rs.length) = J at hcut hct hspl
  obtain ⟨T, hT⟩ : ∃ T, T = mk (whlT rs p) := ⟨_, rfl⟩
  rw [← hT] at hcut hfw ⊢
  have hbq : (T.toList == T.toList) = true := beq_self_eq_true _
  obtain ⟨M, hM⟩ : ∃ M, M = rs.length := ⟨_, rfl⟩
  have HM := Lib.hid hM
  have hz1 : Zs.length ≤ M := by omega
  have hz2 : M ≤ Zs.length := by omega
  rw [← hM] at h1 h3 hspl hfw ⊢
  have HCUT := Lib.hid hcut; have HB0 := Lib.hid hb0; have HS0 := Lib.hid hs0; have HCT := Lib.hid hct; have HSPL := Lib.hid hspl; have HFW := Lib.hid hfw; have HPR := Lib.hid hpr; have HAT := Lib.hid hat; have HSN := Lib.hid hsn; have HTK := Lib.hid htk; have HML := Lib.hid hml
  clear hcut hb0 hs0 hct hspl hfw hpr hat hsn htk hml hT hM hrf hall hnr hwz hbf haf hin hcl hss hsl hZl
  obtain ⟨P, hP⟩ : ∃ P, P = w.heap.size := ⟨_, rfl⟩
  have hpw : w.heap.size ≤ P := by omega
  go_enter Tryz.func222, Tryz.ntmps222
  go_wp2_with fail
  rw [← hP] at HS0 ⊢
  have HPE := Lib.hid hP
  clear hP
  refine HCUT.out.mono ?_
  rintro _ w1 ⟨rfl, m, hw1⟩
  have hs1 : SB w1 P #[.slice none 0 0, .string ⟨#[]⟩] 25 := by rw [hw1]; exact HS0.out
  have hb1 : Below w.heap.size w w1 := by rw [hw1]; exact below_drewN' HB0.out m
  obtain ⟨w2, hw2⟩ : ∃ w2, w2 = w1.alloc (.cells #[.slice none 0 0, .string p] 25) := ⟨_, rfl⟩
  have hp2 : SB w2 P #[.slice none 0 0, .string ⟨#[]⟩] 25 := by rw [hw2]; exact SB.below hs1 ((Below.refl _ _).alloc (Nat.le_refl _) _)
  have hq2 : SB w2 w1.heap.size #[.slice none 0 0, .string p] 25 := by rw [hw2]; exact SB.made w1 _ _
  have hb2 : Below w.heap.size w w2 := by rw [hw2]; exact hb1.alloc hb1.size _
  have hpq : P < w1.heap.size := hs1.lt
  have hwq : w.heap.size ≤ w1.heap.size := hb1.size
  have hsq : w1.heap.size < w2.heap.size := hq2.lt
  have HP2 := Lib.hid hp2; have HQ2 := Lib.hid hq2; have HB2 := Lib.hid hb2
  clear hs1 hb1 hw1 HCUT HB0 HS0 hp2 hq2 hb2
  go_wp2_with fail
  rw [← hw2]
  obtain ⟨Q, hQ⟩ : ∃ Q, Q = w1.heap.size := ⟨_, rfl⟩
  rw [← hQ] at hpq hwq hsq HQ2 ⊢
  clear hw2 hQ
  refine (HCT.out _).mono ?_
  rintro _ w2' ⟨rfl, rfl⟩
  have hc4 : (C : Int) < 3 := by omega
  go_wp2_with fail
  refine (HSPL.out w2 (HML.out.below HB2.out (Nat.le_refl _))).mono ?_
  rintro _ w4 ⟨rfl, hw4⟩
  obtain ⟨N, hN⟩ : ∃ N, N = w2.heap.size := ⟨_, rfl⟩
  have hp4 : SB w4 P #[.slice none 0 0, .string ⟨#[]⟩] 25 := by rw [hw4]; exact SB.below HP2.out ((Below.refl _ _).alloc (Nat.le_refl _) _)
  have hq4 : SB w4 Q #[.slice none 0 0, .string p] 25 := by rw [hw4]; exact SB.below HQ2.out ((Below.refl _ _).alloc (Nat.le_refl _) _)
  have hb4 : Below w.heap.size w w4 := by rw [hw4]; exact HB2.out.alloc HB2.out.size _
  have hr4 : Rd w4 (N + 1) (some ⟨N, 0, none⟩) (strV Zs) := by rw [hw4, hN]; exact split_rd w2 Zs
  have hs4 : N + 1 ≤ w4.heap.size := by rw [hw4, hN]; simp
  have hqn : Q < N := by omega
  have HP4 := Lib.hid hp4; have HQ4 := Lib.hid hq4; have HB4 := Lib.hid hb4; have HR4 := Lib.hid hr4
  rw [← hN]
  clear hw4 hp4 hq4 hb4 hr4 hN HP2 HQ2 HB2 hsq
  go_wp2_with fail
  go_loopw [31] (fun i wr => ∃ (k : Nat) (Ak : Option Addr) (ck : Nat), k ≤ M ∧ i = .int .i64 k ∧ Hid (SB wr Q #[.slice Ak k ck, .string p] 25) ∧ wr.ownsRow (N + 1) 142 2 (.slice Ak k ck) k (rotV (rs.take k)) ∧ Hid (SB wr P #[.slice none 0 0, .string ⟨#[]⟩] 25) ∧ Hid (Rd wr (N + 1) (some ⟨N, 0, none⟩) (strV Zs)) ∧ N + 1 ≤ wr.heap.size ∧ Below w.heap.size w wr) (fun i _ => M - (intOf i).toNat)
  case atStart => exact ⟨0, none, 0, Nat.zero_le _, rfl, HQ4, World.ownsRow_nil _ _ _ _, HP4, HR4, hs4, HB4.out⟩
  case round =>
    obtain ⟨k, Ak, ck, hk, rfl, HQ, hown, HP, HR, hN1, hbl⟩ := hrel
    have HO := Lib.hid hown; have HBL := Lib.hid hbl; clear hown hbl HQ4 HP4 HR4 HB4 hs4
    by_cases hlt : k < M
    · have hkz : k < Zs.length := by omega
      have hkr : k < rs.length := by have := HM.out; omega
      obtain ⟨b0, off, ee, _, c0⟩ := HR.out.str hkz
      simp only [Option.some.injEq, Addr.mk.injEq, and_true] at ee
      obtain ⟨rfl, rfl⟩ := ee
      rw [HAT.out k hkr hkz, Nat.zero_add] at c0
      have hpr := HPR.out k hkr wr (HML.out.below HBL.out (Nat.le_refl _))
      have hsn := HSN.out k hkr
      rw [← HTK.out k hkr] at hsn
      generalize rs[k] = r at c0 hpr hsn
      obtain ⟨a, n⟩ := r
      simp only at c0 hpr hsn
      generalize mk (rotT (a, n)) = S0 at c0 hpr
      have HPR1 := Lib.hid hpr; have HSN1 := Lib.hid hsn
      clear hpr hsn hkz hkr
      go_wp2_with fail
      refine HPR1.out.mono ?_
      rintro _ w5 ⟨rfl, hb5⟩
      have HQ5 := Lib.hid (HQ.out.below hb5); have HP5 := Lib.hid (HP.out.below hb5); have HR5 := Lib.hid (HR.out.below (hb5.mono hN1)); have HO5 := Lib.hid (ownsRow_below HO.out hb5); have HB5 := Lib.hid (HBL.out.trans (hb5.mono HBL.out.size))
      have hN5 : N + 1 ≤ w5.heap.size := Nat.le_trans hN1 hb5.size
      clear hb5 HQ HP HR HO HBL c0 HPR1
      have hb6 : Below w5.heap.size w5 ((w5.alloc (.cells #[.string a, .string n] 142)).alloc (.cells #[.string a, .string n] 142)) := ((Below.refl _ _).alloc (Nat.le_refl _) _).alloc (by simp) _
      have hnw : ∀ (j : Nat) u, [Value.string a, Value.string n][j]? = some u → ((w5.alloc (.cells #[.string a, .string n] 142)).alloc (.cells #[.string a, .string n] 142)).cell? ((⟨w5.heap.size + 1, 0, none⟩ : Addr).add j) = some u := by
        have := rot_new (w5.alloc (.cells #[.string a, .string n] 142)) a n 142
        rw [szalloc3] at this
        exact this
      obtain ⟨u0, u1⟩ := (SB.below HQ5.out ((Below.refl _ _).alloc (Nat.le_refl _) (.cells #[.string a, .string n] 142))).two_cells
      obtain ⟨v0, v1⟩ := HQ5.out.two_cells
      have hsz6 : ((w5.alloc (.cells #[.string a, .string n] 142)).alloc (.cells #[.string a, .string n] 142)).heap.size = w5.heap.size + 2 := by simp
      have HSZ6 := Lib.hid hsz6; have HB6 := Lib.hid hb6
      clear hsz6 hb6
      go_wp2_with (at_builtin; refine wpList_append_own _ rfl _ _ 23 rfl (N + 1) 142 iR (.agg #[.string ByteArray.empty, .string ByteArray.empty]) 2 32 Tryz.undR HI.out HZ0.out HZ1.out HZ2.out rfl (by decide) _ k _ rfl ((HO5.out.alloc _).alloc _) ⟨w5.heap.size + 1, 0, none⟩ 1 1 [.string a, .string n] rfl rfl hnw (rot_one _ _) (by unfold maxLen; omega) (by omega) (by simp; omega) ?_)
      intro v' w7 ho' hg' _
      rw [HSN1.out] at ho'
      obtain ⟨A7, c7, e7⟩ := slot_slice ho'
      subst e7
      have hbn : Below (N + 1) w5 w7 := (HB6.out.mono hN5).grown hg' (by rw [HSZ6.out]; omega) fun k' e => (HO5.out.lt k' e).1
      have hq7 : SB w7 Q #[.slice Ak k ck, .string p] 25 := (hbn.block Q (by omega)).trans HQ5.out
      have hp7 : SB w7 P #[.slice none 0 0, .string ⟨#[]⟩] 25 := (hbn.block P (by omega)).trans HP5.out
      obtain ⟨⟨d0, d1⟩, f0, f1⟩ := hq7.twoC
      have HQ8 := Lib.hid (hq7.put 0 (.slice A7 (k + 1) c7))
      have HP8 := Lib.hid (hp7.far (show P ≠ Q by omega) 0 (.slice A7 (k + 1) c7))
      have HR8 := Lib.hid ((HR5.out.below hbn).far (p := Q) (fun x e => by injection e with e; subst e; show N ≠ Q; omega) 0 (.slice A7 (k + 1) c7))
      have HO8 := Lib.hid (own_set ho' (p := Q) (by intro e; have := (ho'.lt Q e).1; omega) 0 (.slice A7 (k + 1) c7))
      have HB8 := Lib.hid ((HB5.out.trans (hbn.mono (by omega))).setCell hwq (p := ⟨Q, 0, none⟩) (.slice A7 (k + 1) c7))
      have hN8 : N + 1 ≤ (w7.setCell ⟨Q, 0, none⟩ (.slice A7 (k + 1) c7)).heap.size := by have := hbn.size; simp [World.setCell]; omega
      obtain ⟨w8, hw8⟩ : ∃ w8, w8 = w7.setCell ⟨Q, 0, none⟩ (.slice A7 (k + 1) c7) := ⟨_, rfl⟩
      rw [← hw8] at HQ8 HP8 HR8 HO8 HB8 hN8
      clear ho' hg' hbn hq7 hp7 HQ5 HP5 HR5 HO5 HB5 hN5 u0 u1 v0 v1 hnw HB6 HSZ6
      go_wp2_with fail
      rw [← hw8]
      clear hw8 d0 d1 f0 f1
      go_roundw
      case rel => exact ⟨k + 1, A7, c7, by omega, by go_num, HQ8, HO8.out, HP8, HR8, hN8, HB8.out⟩
      case measure => simp [intOf]; omega
    · obtain rfl : k = M := by omega
      have ho := HO.out
      rw [show rs.take k = rs by rw [HM.out]; exact List.take_length] at ho
      have hfw := HFW.out wr Ak ck (own_rd3' ho) (own_le3 ho)
      have HFW1 := Lib.hid hfw; have HOO := Lib.hid ho
      obtain ⟨v0, v1⟩ := HQ.out.two_cells
      clear hfw ho HO
      go_wp2_with fail
      refine HFW1.out.mono ?_
      rintro _ w9 ⟨rfl, hb9⟩
      obtain ⟨⟨c0, c1⟩, _⟩ := (HQ.out.below hb9).twoC
      obtain ⟨⟨d0, d1⟩, g0, g1⟩ := (HP.out.below hb9).twoC
      have ho9 := ownsRow_below HOO.out hb9
      have hna : (Value.slice Ak k ck).ownBlock ≠ some P := by intro e; have := (ho9.lt P e).1; omega
      have HPF := Lib.hid ((HP.out.below hb9).two (.slice Ak k ck) (.string p))
      have HOF := Lib.hid (own_mono3 (own_set (own_set ho9 hna 0 (.slice Ak k ck)) hna 1 (.string p)) (show w.heap.size ≤ N + 1 by omega))
      have HBF := Lib.hid (((HBL.out.trans (hb9.mono HBL.out.size)).setCell hpw (p := ⟨P, 0, none⟩) (.slice Ak k ck)).setCell hpw (p := ⟨P, 1, none⟩) (.string p))
      clear hb9 v0 v1 ho9 hna
      go_wp2_with fail
      refine bodyPost_ret (results_st_tmp rfl _ _ P _ #[.slice Ak k ck, .string p] _ _ rfl HPF.out Tryz.underlying25 ⟨_, rfl⟩ whlSize) rfl ⟨Ak, ck, rfl, HOF.out, HBF.out⟩
theorem join_chars {x : UInt8} (sp : List UInt8) (hs : x ∉ sp) : ∀ l : List (List UInt8), (∀ s ∈ l, x ∉ s) → x ∉ Lib.join l sp
  | [], _ => by simp [Lib.join_nil]
  | y :: r, h => by
    rw [Lib.join_cons, List.mem_append]
    rintro (hm | hm)
    · exact h y (by simp) hm
    · unfold Lib.joinTail at hm
      obtain ⟨z, hz, hxz⟩ := List.mem_flatten.1 hm
      obtain ⟨s, hs2, rfl⟩ := List.mem_map.1 hz
      rcases List.mem_append.1 hxz with h1 | h1
      · exact hs h1
      · exact h s (by simp [hs2]) h1
theorem plugT_chars {q : List Nat} (hq : Prm q) {x : UInt8} (hx : x.toNat < 97) (h32 : x ≠ 32) (h45 : x ≠ 45) : x ∉ plugT q := by
  unfold plugT
  split
  · intro hm; simp at hm; exact h45 hm
  · refine join_chars _ (by simp; exact h32) _ fun s hs => ?_
    obtain ⟨t, ht, rfl⟩ := List.mem_map.1 hs
    unfold twoS at ht
    obtain ⟨c, hc, rfl⟩ := List.mem_map.1 ht
    exact letters_not (pT_letters (twos_mem hq hc).2) hx
theorem refl_letters {p : ByteArray} (h : IsRefl p) : ∀ c ∈ tl p, isL c = true := by
  obtain ⟨q, hq, _, _, rfl⟩ := h
  exact pT_letters hq.lt
theorem whlT_chars {rs : List (ByteArray × ByteArray)} {p : ByteArray} (h : WheelsV rs p) {x : UInt8} (hx : x.toNat < 97) (h32 : x ≠ 32) (h45 : x ≠ 45) (h44 : x ≠ 44) (h47 : x ≠ 47) : x ∉ whlT rs p := by
  unfold whlT
  rw [List.mem_append, List.mem_cons]
  rintro (hm | rfl | hm)
  · exact rotTo_chars h.2.2.2 hx h32 h45 h44 rs.length (Nat.le_refl _) hm
  · exact h47 rfl
  · exact letters_not (refl_letters h.2.2.1) hx hm
theorem machT_chars {rs : List (ByteArray × ByteArray)} {p g : ByteArray} {q : List Nat} (h : WinV rs p g) (hq : Prm q) {x : UInt8} (hx : x.toNat < 97) (h32 : x ≠ 32) (h45 : x ≠ 45) (h44 : x ≠ 44) (h47 : x ≠ 47) (h59 : x ≠ 59) : x ∉ machT rs p g q := by
  unfold machT
  simp only [List.mem_append, List.mem_cons]
  rintro (hm | rfl | hm | rfl | hm)
  · exact whlT_chars h.1 hx h32 h45 h44 h47 hm
  · exact h59 rfl
  · exact letters_not (fun c hc => wv_mem h.2.2 hc) hx hm
  · exact h59 rfl
  · exact plugT_chars hq hx h32 h45 hm
theorem machT_split {rs : List (ByteArray × ByteArray)} {p g : ByteArray} {q : List Nat} (h : WinV rs p g) (hq : Prm q) : mkl (spl 59 (tl (mk (machT rs p g q)))) = [mk (whlT rs p), g, mk (plugT q)] := by
  rw [tl_mk]
  unfold machT
  rw [spl_cons _ (whlT_chars h.1 (by decide) (by decide) (by decide) (by decide) (by decide)), spl_cons _ (letters_not (fun c hc => wv_mem h.2.2 hc) (by decide)), spl_none (plugT_chars hq (by decide) (by decide) (by decide))]
  show [mk (whlT rs p), mk (tl g), mk (plugT q)] = _
  rw [mk_tl]
theorem machT_len {rs : List (ByteArray × ByteArray)} {p g : ByteArray} {q : List Nat} (h : WinV rs p g) : (machT rs p g q).length ≤ 110 := by
  have h1 := whlT_len h.1
  have h2 := plugT_len q
  have h3 := h.2.1
  have h4 := h.1.2.1
  unfold machT
  simp only [List.length_append, List.length_cons, length_tl]; omega
set_option maxHeartbeats 8000000 in
set_option maxRecDepth 100000 in
theorem parseMachine_yes (w : World) (hml : ML w) (rs : List (ByteArray × ByteArray)) (p g : ByteArray) (q : List Nat) (h : WinV rs p g) (hq : Prm q) (hi : invP q = q) :
    Calls Tryz.prog 160 #[.string (mk (machT rs p g q))] w fun e w' => ∃ A cap, e = .returned (.tuple #[.agg #[.slice A rs.length cap, .string p, .string g, .string (pT q)], .bool true]) ∧ w'.ownsRow w.heap.size 142 2 (.slice A rs.length cap) rs.length (rotV rs) ∧ Below w.heap.size w w' := by
  have hpw := fun (w' : World) (hm : ML w') => parseWheels_yes w' hm rs p h.1
  have hpp := fun (w' : World) (hm : ML w') => parsePlugs_yes w' hm q hq hi
  have hmv := fun (w' : World) (A : Option Addr) (cap : Nat) (h' : Rd w' w'.heap.size A (rotV rs)) (hc' : rs.length ≤ cap) => machineValid_any w' A cap rs p g (pT q) true h' hc' (by have := h.1.2.1; omega) (Iff.intro (fun _ => ⟨h, q, hq, hi, rfl⟩) (fun _ => rfl))
  have hb0 : Below w.heap.size w (w.alloc (.cells #[.slice none 0 0, .string ⟨#[]⟩, .string ⟨#[]⟩, .string ⟨#[]⟩] 27)) := (Below.refl _ _).alloc (Nat.le_refl _) _
  have hs0 := SB.made w #[.slice none 0 0, .string ⟨#[]⟩, .string ⟨#[]⟩, .string ⟨#[]⟩] 27
  obtain ⟨w0, hw0⟩ : ∃ w0, w0 = w.alloc (.cells #[.slice none 0 0, .string ⟨#[]⟩, .string ⟨#[]⟩, .string ⟨#[]⟩] 27) := ⟨_, rfl⟩
  rw [← hw0] at hb0 hs0
  have hspl := split_any w0 (mk (machT rs p g q)) 59 (hml.below hb0 (Nat.le_refl _)) (by rw [size_mk]; have := @machT_len rs p g q h; omega)
  have hss := machT_split h hq
  have hsl : (spl 59 (tl (mk (machT rs p g q)))).length = 3 := by rw [← length_mkl, hss]; rfl
  rw [hsl, hss] at hspl
  generalize mk (whlT rs p) = T1 at hspl hpw
  generalize mk (plugT q) = T2 at hspl hpp
  generalize mk (machT rs p g q) = T at hspl ⊢
  generalize pT q = l at hpp hmv ⊢
  obtain ⟨M, hM⟩ : ∃ M, M = rs.length := ⟨_, rfl⟩
  rw [← hM] at hpw hmv ⊢
  obtain ⟨P, hP⟩ : ∃ P, P = w.heap.size := ⟨_, rfl⟩
  have hpw0 : w.heap.size ≤ P := by omega
  rw [← hP] at hs0
  have HPW := Lib.hid hpw; have HPP := Lib.hid hpp; have HMV := Lib.hid hmv; have HB0 := Lib.hid hb0; have HS0 := Lib.hid hs0; have HSPL := Lib.hid hspl; have HML := Lib.hid hml
  clear hpw hpp hmv hb0 hs0 hspl hml hss hsl h hq hi hM
  go_enter Tryz.func160, Tryz.ntmps160
  go_wp2_with fail
  rw [← hw0, ← hP]
  have HPE := Lib.hid hP
  clear hw0 hP
  refine HSPL.out.mono ?_
  rintro _ w1 ⟨rfl, hw1⟩
  obtain ⟨N, hN⟩ : ∃ N, N = w0.heap.size := ⟨_, rfl⟩
  have hp1 : SB w1 P #[.slice none 0 0, .string ⟨#[]⟩, .string ⟨#[]⟩, .string ⟨#[]⟩] 27 := by rw [hw1]; exact SB.below HS0.out ((Below.refl _ _).alloc (Nat.le_refl _) _)
  have hb1 : Below w.heap.size w w1 := by rw [hw1]; exact HB0.out.alloc HB0.out.size _
  have hr1 : SB w1 N #[.string T1, .string g, .string T2] 9 := by rw [hw1, hN]; exact SB.made w0 _ _
  have hpn : P < N := by rw [hN]; exact HS0.out.lt
  have HP1 := Lib.hid hp1; have HB1 := Lib.hid hb1; have HR1 := Lib.hid hr1
  rw [← hN]
  clear hw1 hp1 hb1 hN HS0 HB0 HSPL
  have c0 := hr1.cell 0 (.string T1) rfl
  go_wp2_with fail
  refine (HPW.out w1 (HML.out.below HB1.out (Nat.le_refl _))).mono ?_
  rintro _ w2 ⟨A, cap, rfl, how2, hb2⟩
  have HP2 := Lib.hid (HP1.out.below hb2); have HB2 := Lib.hid (HB1.out.trans (hb2.mono HB1.out.size)); have HR2 := Lib.hid (HR1.out.below hb2)
  have hbase : P + 1 ≤ w1.heap.size := HP1.out.lt
  clear hb2 HP1 HB1 HR1 c0 hr1
  have hal : Below w2.heap.size w2 (w2.alloc (.cells #[.slice A M cap, .string p] 25)) := (Below.refl _ _).alloc (Nat.le_refl _) _
  obtain ⟨w3, hw3⟩ : ∃ w3, w3 = w2.alloc (.cells #[.slice A M cap, .string p] 25) := ⟨_, rfl⟩
  have hx3 : SB w3 w2.heap.size #[.slice A M cap, .string p] 25 := by rw [hw3]; exact SB.made w2 _ _
  rw [← hw3] at hal
  have HP3 := Lib.hid (HP2.out.below hal); have HB3 := Lib.hid (HB2.out.trans (hal.mono HB2.out.size)); have HR3 := Lib.hid (HR2.out.below hal); have HW3 := Lib.hid (ownsRow_below how2 hal); have HX3 := Lib.hid hx3
  obtain ⟨X, hX⟩ : ∃ X, X = w2.heap.size := ⟨_, rfl⟩
  rw [← hX] at HX3
  have hR2 := HR2.out
  have r2 := (SB.below HR2.out ((Below.refl _ _).alloc (Nat.le_refl _) (.cells #[.slice A M cap, .string p] 25))).cell 2 (.string T2) rfl
  have r3 := HR3.out.cell 2 (.string T2) rfl
  clear hal hx3 how2 HP2 HB2 hR2
  go_wp2_with fail
  rw [← hw3]
  rw [← hX]
  clear hw3 hX r2 HR2
  refine (HPP.out w3 (HML.out.below HB3.out (Nat.le_refl _))).mono ?_
  rintro _ w4 ⟨rfl, hb4⟩
  have HP4 := Lib.hid (HP3.out.below hb4); have HB4 := Lib.hid (HB3.out.trans (hb4.mono HB3.out.size)); have HW4 := Lib.hid (ownsRow_below HW3.out hb4)
  have r4 := (HR3.out.below hb4).cell 1 (.string g) rfl
  obtain ⟨x0, x1⟩ := (HX3.out.below hb4).two_cells
  have r4o := fun o => (SB.below (HR3.out.below hb4) ((Below.refl _ _).alloc (Nat.le_refl _) o)).cell 1 (.string g) rfl
  have x0o := fun o => (SB.below (HX3.out.below hb4) ((Below.refl _ _).alloc (Nat.le_refl _) o)).cell 0 (.slice A M cap) rfl
  have x1o := fun o => (SB.below (HX3.out.below hb4) ((Below.refl _ _).alloc (Nat.le_refl _) o)).cell 1 (.string p) rfl
  clear hb4 HP3 HB3 HR3 HW3 HX3 r3
  have hbd : Below w4.heap.size w4 w4.drew := (Below.refl _ _).drew
  go_wp2_with fail
  go_region_law (fail)
  all_goals
    obtain ⟨w6, hw6⟩ : ∃ w6, w6 = (w4.alloc (.cells #[.slice A M cap, .string p, .string g, .string l] 27)).drew := ⟨_, rfl⟩
    have hal6 : Below w4.heap.size w4 w6 := by rw [hw6]; exact ((Below.refl _ _).alloc (Nat.le_refl _) _).drew
    have hy6 : SB w6 w4.heap.size #[.slice A M cap, .string p, .string g, .string l] 27 := by rw [hw6]; exact SB.made w4 _ _
    have HP6 := Lib.hid (HP4.out.below hal6); have HB6 := Lib.hid (HB4.out.trans (hal6.mono HB4.out.size)); have HW6 := Lib.hid (ownsRow_below HW4.out hal6); have HY6 := Lib.hid hy6
    rw [← hw6]
    obtain ⟨Y, hY⟩ : ∃ Y, Y = w4.heap.size := ⟨_, rfl⟩
    rw [← hY] at HY6 ⊢
    obtain ⟨⟨y0, y1, y2, y3⟩, _⟩ := HY6.out.all4
    have HMV6 := Lib.hid (HMV.out w6 A cap (own_rd3' HW6.out) (own_le3 HW6.out))
    clear hw6 hal6 hy6 hY r4 r4o x0 x1 x0o x1o hbd
    go_wp2_with fail
    refine HMV6.out.mono ?_
    rintro _ w7 ⟨rfl, hb7⟩
    obtain ⟨⟨c0, c1, c2, c3⟩, _⟩ := (HY6.out.below hb7).all4
    have hp7 := HP6.out.below hb7
    have ho7 := ownsRow_below HW6.out hb7
    obtain ⟨⟨d0, d1, d2, d3⟩, f0, f1, f2, f3⟩ := hp7.all4
    have hna : (Value.slice A M cap).ownBlock ≠ some P := by intro e; have := (ho7.lt P e).1; omega
    have HPF := Lib.hid (hp7.four (.slice A M cap) (.string p) (.string g) (.string l))
    have HOF := Lib.hid (own_mono3 (own_set (own_set (own_set (own_set ho7 hna 0 (.slice A M cap)) hna 1 (.string p)) hna 2 (.string g)) hna 3 (.string l)) (show w.heap.size ≤ w1.heap.size by omega))
    have HBF := Lib.hid (((((HB6.out.trans (hb7.mono HB6.out.size)).setCell hpw0 (p := ⟨P, 0, none⟩) (.slice A M cap)).setCell hpw0 (p := ⟨P, 1, none⟩) (.string p)).setCell hpw0 (p := ⟨P, 2, none⟩) (.string g)).setCell hpw0 (p := ⟨P, 3, none⟩) (.string l))
    clear hb7 hp7 ho7 hna y0 y1 y2 y3
    go_wp2_with fail
    refine bodyPost_ret (results_st_tmp rfl _ _ P _ #[.slice A M cap, .string p, .string g, .string l] _ _ rfl HPF.out Tryz.underlying27 ⟨_, rfl⟩ macSize) rfl ⟨A, cap, rfl, HOF.out, HBF.out⟩
set_option maxHeartbeats 4000000 in
set_option maxRecDepth 100000 in
theorem settingValid_yes (w : World) (A : Option Addr) (cap : Nat) (rs : List (ByteArray × ByteArray)) (p g o : ByteArray) (q : List Nat) (h : Rd w w.heap.size A (rotV rs)) (hc : rs.length ≤ cap) (hv : WinV rs p g) (hq : Prm q) (hi : invP q = q) (ho : o.size = g.size) (hwo : wv (tl o) = true) :
    Calls Tryz.prog 18 #[.agg #[.slice A rs.length cap, .string p, .string g, .string (pT q)], .string o] w fun e w' => e = .returned (.bool true) ∧ Below w.heap.size w w' := by
  have hl : rs.length ≤ 100 := by have := hv.1.2.1; omega
  obtain ⟨w0, hw0⟩ : ∃ w0, w0 = w.alloc (.cells #[.slice A rs.length cap, .string p, .string g, .string (pT q)] 27) := ⟨_, rfl⟩
  have hb0 : Below w.heap.size w w0 := by rw [hw0]; exact (Below.refl _ _).alloc (Nat.le_refl _) _
  have hs0 := SB.made w #[.slice A rs.length cap, .string p, .string g, .string (pT q)] 27
  rw [← hw0] at hs0
  have h0 := (h.below hb0).mono hb0.size
  obtain ⟨M, hM⟩ : ∃ M, M = rs.length := ⟨_, rfl⟩
  have hcon := machineValid_any w0 A cap rs p g (pT q) true h0 hc hl (Iff.intro (fun _ => ⟨hv, q, hq, hi, rfl⟩) (fun _ => rfl))
  generalize pT q = l at hw0 hs0 hcon ⊢
  have HB0 := Lib.hid hb0; have HCON := Lib.hid hcon; have HWO := Lib.hid hwo
  rw [← hM] at hw0 HCON hs0 ⊢
  have hze : (((o.size : Nat) : Int) == ((g.size : Nat) : Int)) = true := by simp; omega
  obtain ⟨P, hP⟩ : ∃ P, P = w.heap.size := ⟨_, rfl⟩
  rw [← hP] at hs0
  have HS0 := Lib.hid hs0
  obtain ⟨⟨c0, c1, c2, c3⟩, _⟩ := hs0.all4
  clear h h0 hb0 hcon hM hc hl hq hi ho hwo hv hs0
  go_enter Tryz.func18, Tryz.ntmps18
  go_wp2_with fail
  rw [← hw0]
  rw [← hP]
  clear hw0 hP
  go_wp2_with fail
  refine HCON.out.mono ?_
  rintro _ w1 ⟨rfl, hb1⟩
  have HB1 := Lib.hid (HB0.out.trans (hb1.mono HB0.out.size))
  obtain ⟨⟨d0, d1, d2, d3⟩, _⟩ := (HS0.out.below hb1).all4
  clear hb1 HB0 HS0 c0 c1 c2 c3 HCON
  go_wp2_with fail
  refine (wordValid_is _ true _ HWO.out).mono ?_
  rintro _ _ ⟨rfl, rfl⟩
  go_wp2_with fail
  go_ret
  exact ⟨rfl, HB1.out⟩
set_option maxHeartbeats 4000000 in
set_option maxRecDepth 100000 in
theorem rcSetup_ok (w : World) (A : Option Addr) (cap : Nat) (rs : List (ByteArray × ByteArray)) (p g o : ByteArray) (q : List Nat) (h : Rd w w.heap.size A (rotV rs)) (hc : rs.length ≤ cap) (hw : WinV rs p g) (hq : Prm q) (hi : invP q = q) (hz : o.size ≤ 100) :
    Calls Tryz.prog 10 #[.agg #[.slice A rs.length cap, .string p, .string g, .string (pT q)], .string o] w fun e w' => e = .returned (.string (⟨#[109, 97, 99, 104, 105, 110, 101, 32]⟩ ++ mk (machT rs p g q) ++ ⟨#[10, 119, 105, 110, 100, 111, 119, 115, 32]⟩ ++ o ++ ⟨#[10]⟩)) ∧ Below w.heap.size w w' := by
  obtain ⟨w0, hw0⟩ : ∃ w0, w0 = w.alloc (.cells #[.slice A rs.length cap, .string p, .string g, .string (pT q)] 27) := ⟨_, rfl⟩
  have hb0 : Below w.heap.size w w0 := by rw [hw0]; exact (Below.refl _ _).alloc (Nat.le_refl _) _
  have hs0 := SB.made w #[.slice A rs.length cap, .string p, .string g, .string (pT q)] 27
  rw [← hw0] at hs0
  have h0 := (h.below hb0).mono hb0.size
  have hcon := formatMachine_yes w0 A cap rs p g q h0 hc hw hq hi
  have zm := @machT_len rs p g q hw
  have zw : (mk (machT rs p g q)).size ≤ 110 := by rw [size_mk]; exact zm
  generalize mk (machT rs p g q) = T1 at hcon zw ⊢
  generalize pT q = l at hw0 hs0 hcon ⊢
  have HB0 := Lib.hid hb0; have HCON := Lib.hid hcon
  obtain ⟨P, hP⟩ : ∃ P, P = w.heap.size := ⟨_, rfl⟩
  rw [← hP] at hs0
  obtain ⟨⟨c0, c1, c2, c3⟩, _⟩ := hs0.all4
  clear h h0 hb0 hcon hc hw hq hi hs0 zm
  go_enter Tryz.func10, Tryz.ntmps10
  go_wp2_with fail
  rw [← hw0]
  rw [← hP]
  clear hw0 hP
  go_wp2_with fail
  refine HCON.out.mono ?_
  rintro _ w1 ⟨rfl, hb1⟩
  have HB1 := Lib.hid (HB0.out.trans (hb1.mono HB0.out.size))
  clear hb1 HB0 c0 c1 c2 c3 HCON
  have y1 : ¬ 9223372036854775807 < 8 + T1.size := by omega
  have y2 : ¬ 9223372036854775807 < 8 + T1.size + 9 := by omega
  have y3 : ¬ 9223372036854775807 < 8 + T1.size + 9 + o.size := by omega
  have y4 : ¬ 9223372036854775807 < 8 + T1.size + 9 + o.size + 1 := by omega
  go_wp2_with fail
  go_ret
  exact ⟨rfl, HB1.out⟩
end Go.Proofs.YtnbdimbhklbadaaGreatDoor
