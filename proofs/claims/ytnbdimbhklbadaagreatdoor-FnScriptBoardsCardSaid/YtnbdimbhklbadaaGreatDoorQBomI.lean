/-
  Contracts of functions and plain laws that the law's proof uses (parts: BomI). Conditions: what each theorem names.
-/
import Derived.Deep.RegionHeld3
import Derived.Test.YtnbdimbhklbadaaGreatDoorQBomH
import Derived.Test.YtnbdimbhklbadaaGreatDoorQMnA
import Derived.Test.YtnbdimbhklbadaaGreatDoorQChrA
namespace Go.Proofs.YtnbdimbhklbadaaGreatDoor
open Go.RowKit Pl
set_option linter.unusedVariables false
set_option maxHeartbeats 4000000 in
set_option maxRecDepth 100000 in
theorem l13Fits_is (w : World) (A : Option Addr) (cap : Nat) (rs : List (ByteArray × ByteArray)) (p g l o : ByteArray) (h : Rd w w.heap.size A (rotV rs)) (hc : rs.length ≤ cap) (hl : rs.length ≤ 100)
    (Am : Option Addr) (cm : Nat) (ms : List LnkZ) (hm : Rd w w.heap.size Am (linkZ ms)) (hmc : ms.length ≤ cm) (hml : ms.length ≤ 1000) (hz : ∀ x ∈ ms, -1000000 ≤ x.2.2 ∧ x.2.2 ≤ 1000000) (b : Bool) (hb : b = true ↔ SetV rs p g l o ∧ menuZ ms) :
    Calls Tryz.prog 22 #[.agg #[.slice A rs.length cap, .string p, .string g, .string l], .string o, .slice Am ms.length cm] w fun e w' => e = .returned (.bool b) ∧ Below w.heap.size w w' := by
  obtain ⟨b1, hb1⟩ : ∃ b1 : Bool, b1 = true ↔ SetV rs p g l o := by
    by_cases hs : SetV rs p g l o
    · exact ⟨true, by simp [hs]⟩
    · exact ⟨false, by simp [hs]⟩
  obtain ⟨b2, hb2⟩ : ∃ b2 : Bool, b2 = true ↔ menuZ ms := by
    by_cases hs : menuZ ms
    · exact ⟨true, by simp [hs]⟩
    · exact ⟨false, by simp [hs]⟩
  have hbb : b = (b1 && b2) := by
    rw [← hb1, ← hb2] at hb
    cases b <;> cases b1 <;> cases b2 <;> simp at hb ⊢
  obtain ⟨w0, hw0⟩ : ∃ w0, w0 = w.alloc (.cells #[.slice A rs.length cap, .string p, .string g, .string l] 27) := ⟨_, rfl⟩
  have hb0 : Below w.heap.size w w0 := by rw [hw0]; exact (Below.refl _ _).alloc (Nat.le_refl _) _
  have hs0 := SB.made w #[.slice A rs.length cap, .string p, .string g, .string l] 27
  rw [← hw0] at hs0
  have hf := sFits_any w0 A cap rs p g l o b1 ((h.below hb0).mono hb0.size) hc hl hb1
  have hm := fun (w' : World) (hb : Below w.heap.size w w') => sMenuValid_z w' Am cm ms b2 ((hm.below hb).mono hb.size) hmc hml hz hb2
  generalize ms.length = n at *
  generalize rs.length = N at *
  have HF := Lib.hid hf; have HM := Lib.hid hm; have HB0 := Lib.hid hb0; have HS0 := Lib.hid hs0
  clear h hf hm hb0 hs0 hb hb1 hb2 hz
  obtain ⟨P, hP⟩ : ∃ P, P = w.heap.size := ⟨_, rfl⟩
  rw [← hP] at HS0
  obtain ⟨⟨c0, c1, c2, c3⟩, _⟩ := HS0.out.all4
  cases b1 with
  | false =>
    have hbf : b = false := by rw [hbb]; rfl
    subst hbf
    clear hbb
    go_enter Tryz.func22, Tryz.ntmps22
    go_wp2_with fail
    rw [← hw0]
    rw [← hP]
    clear hw0 hP
    go_wp2_with fail
    refine HF.out.mono ?_
    rintro _ w1 ⟨rfl, hb1⟩
    have HB1 := Lib.hid (HB0.out.trans (hb1.mono HB0.out.size))
    clear hb1 c0 c1 c2 c3
    go_wp2_with fail
    go_ret
    exact ⟨rfl, HB1.out⟩
  | true =>
    have hbf : b = b2 := by rw [hbb]; rfl
    subst hbf
    clear hbb
    go_enter Tryz.func22, Tryz.ntmps22
    go_wp2_with fail
    rw [← hw0]
    rw [← hP]
    clear hw0 hP
    go_wp2_with fail
    refine HF.out.mono ?_
    rintro _ w1 ⟨rfl, hb1⟩
    have HB1 := Lib.hid (HB0.out.trans (hb1.mono HB0.out.size))
    clear hb1 c0 c1 c2 c3
    go_wp2_with fail
    refine (HM.out _ HB1.out).mono ?_
    rintro _ w2 ⟨rfl, hb2⟩
    have HB2 := Lib.hid (HB1.out.trans (hb2.mono HB1.out.size))
    clear hb2
    go_wp2_with fail
    go_ret
    exact ⟨rfl, HB2.out⟩
set_option maxHeartbeats 8000000 in
set_option maxRecDepth 100000 in
theorem l13Bare_is (w : World) (A : Option Addr) (cap : Nat) (rs : List (ByteArray × ByteArray)) (p g l o : ByteArray) (K : Nat → List Nat) (h : Rd w w.heap.size A (rotV rs))
    (hpe : ∀ (w' : World) (m : Int) (n : Nat), m = (n : Int) → n ≤ 60 → Rd w' w'.heap.size A (rotV rs) → Calls Tryz.prog 52 #[.agg #[.slice A rs.length cap, .string p, .string g, .string (pT (List.range 10))], .string o, .int .i64 m] w' fun e w'' => ∃ v : Value, e = .returned v ∧ w''.ownsRow w'.heap.size 9 1 v n (strV (pTs (permsTo K n))) ∧ Below w'.heap.size w' w'')
    (Am : Option Addr) (cm : Nat) (ms : List Lnk) (hm : Rd w w.heap.size Am (linkV ms)) (hmc : ms.length ≤ cm) (hmv : menuV ms) :
    Calls Tryz.prog 23 #[.agg #[.slice A rs.length cap, .string p, .string g, .string l], .string o, .slice Am ms.length cm] w fun e w' => ∃ A' c', e = .returned (.slice A' ms.length c') ∧ w'.ownsRow w.heap.size 9 1 (.slice A' ms.length c') ms.length (strV (pTs (keysL K ms))) ∧ Below w.heap.size w w' := by
  obtain ⟨iS, hi, hz0, hz1, hz2⟩ := info_parts Tryz.infoS
  have HI := Lib.hid hi; have HZ0 := Lib.hid hz0; have HZ1 := Lib.hid hz1; have HZ2 := Lib.hid hz2
  clear hi hz0 hz1 hz2
  have hn1 : 1 ≤ ms.length := hmv.1
  have hlast : ms.length - 1 < ms.length := by omega
  obtain ⟨-, -, -, -, hk1, hk60⟩ := hmv.2.2.1 _ (List.getElem_mem hlast)
  have hle : ∀ j (hj : j < ms.length), ms[j].2.2 ≤ ms[ms.length - 1].2.2 ∧ 1 ≤ ms[j].2.2 := fun j hj => by
    refine ⟨?_, (hmv.2.2.1 _ (List.getElem_mem hj)).2.2.2.2.1⟩
    by_cases e : j = ms.length - 1
    · simp only [e]; exact Nat.le_refl _
    · exact Nat.le_of_lt (List.pairwise_iff_getElem.1 hmv.2.2.2 j (ms.length - 1) hj hlast (by omega))
  obtain ⟨L, hL⟩ : ∃ L, L = ms[ms.length - 1].2.2 := ⟨_, rfl⟩
  rw [← hL] at hk1 hk60 hle
  have hsz : (w.alloc (.cells #[.slice A rs.length cap, .string p, .string g, .string l] 27)).heap.size = w.heap.size + 1 := by simp
  obtain ⟨w0, hw0⟩ : ∃ w0, w0 = (w.alloc (.cells #[.slice A rs.length cap, .string p, .string g, .string l] 27)).alloc (.cells #[] 9) := ⟨_, rfl⟩
  have hb0 : Below w.heap.size w w0 := by rw [hw0]; exact ((Below.refl _ _).alloc (Nat.le_refl _) _).alloc (by rw [hsz]; omega) _
  obtain ⟨P, hP⟩ : ∃ P, P = w.heap.size := ⟨_, rfl⟩
  have hs0 : SB w0 P #[.slice A rs.length cap, .string p, .string g, .string l] 27 := by rw [hw0, hP]; exact (SB.made w _ _).below ((Below.refl _ _).alloc (Nat.le_refl _) _)
  have how : w0.ownsRow P 9 1 (.slice (some ⟨P + 1, 0, none⟩) 0 0) 0 (strV (pTs (keysL K (ms.take 0)))) := by
    rw [hw0, hP, ← hsz]
    exact World.ownsRow_made _ #[] 0 (by rw [hsz]; omega) (by decide) rfl
  have hz0 : w0.heap.size = P + 2 := by rw [hw0, hP]; simp
  have hlp := fun (w' : World) (hb : Below w0.heap.size w0 w') => hpe w' (L : Int) L rfl hk60 ((h.below (hb0.trans (hb.mono hb0.size))).mono (hb0.trans (hb.mono hb0.size)).size)
  obtain ⟨mb, mo, hA, hbb, -, -, c2⟩ := hm.link hlast
  subst hA
  have hss : ∀ W' : World, Below w0.heap.size w0 W' → (W'.cell? ⟨P, 0, none⟩ = some (.slice A rs.length cap) ∧ W'.cell? ⟨P, 1, none⟩ = some (.string p) ∧ W'.cell? ⟨P, 2, none⟩ = some (.string g) ∧ W'.cell? ⟨mb, mo + (ms.length - 1) * 3 + 2, none⟩ = some (.int .i64 (L : Int))) := fun W' hb => by
    obtain ⟨⟨d0, d1, d2, _⟩, _⟩ := (hs0.below hb).all4
    refine ⟨d0, d1, d2, ?_⟩
    rw [hL]
    have h2 := (hb0.trans (hb.mono hb0.size)).cell (p := ⟨mb, mo + (ms.length - 1) * 3 + 2, none⟩) hbb
    rw [h2]; exact c2
  have HSS := Lib.hid hss; have HLP := Lib.hid hlp; have HMR := Lib.hid hm; have HB0 := Lib.hid hb0; have HO0 := Lib.hid how; have HZZ := Lib.hid hz0; have HLE := Lib.hid hle; have HPE := Lib.hid hP; have HW0 := Lib.hid hw0
  obtain ⟨n, hn⟩ : ∃ n, n = ms.length := ⟨_, rfl⟩
  have hn12 : n ≤ 12 := by rw [hn]; exact hmv.2.1
  rw [← hn] at hn1 HSS ⊢
  have HN := Lib.hid hn
  obtain ⟨k0, rfl⟩ : ∃ k0, n = k0 + 1 := ⟨n - 1, by omega⟩
  rw [Nat.add_sub_cancel] at HSS
  generalize rs.length = N at *
  clear hss hlp hm hb0 how hz0 hle hs0 hw0 hn h hpe hmv hlast c2 hL hsz hmc
  have v1 : IntKind.i64.wrap ((k0 : Int) + 1 - 1) = (k0 : Int) := by rw [IntKind.wrap_i64]; omega
  have v2 : IntKind.i64.wrap (k0 : Int) = (k0 : Int) := by rw [IntKind.wrap_i64]; omega
  have v3 : (k0 : Int) < (k0 : Int) + 1 := by omega
  go_enter Tryz.func23, Tryz.ntmps23
  go_upto_region 2 with fail
  rw [← HW0.out, ← HPE.out]
  clear hP
  go_cut [8] (fun s8 wx => ∃ (v : Value), s8 = v ∧ Hid (wx.ownsRow (P + 2) 9 1 v L (strV (pTs (permsTo K L)))) ∧ Hid (Below w0.heap.size w0 wx))
  case first =>
    have hbr : Below w0.heap.size w0 w0 := Below.refl _ _
    have hbd : Below w0.heap.size w0 w0.drew := (Below.refl _ _).drew
    go_region_held3 (fun W' => W'.cell? ⟨P, 0, none⟩ = some (.slice A N cap) ∧ W'.cell? ⟨P, 1, none⟩ = some (.string p) ∧ W'.cell? ⟨P, 2, none⟩ = some (.string g) ∧ W'.cell? ⟨mb, mo + k0 * 3 + 2, none⟩ = some (.int .i64 (L : Int))) (first | with_reducible assumption | with_reducible exact HSS.out _ (by with_reducible assumption) | fail) (first | (go_at_call 53; refine (identityPerm_any _).mono ?_; rintro _ w7 ⟨rfl, hb7⟩; have b7 := bel_onS (a := w0) (by with_reducible assumption) hb7) | (go_at_call 52; refine (HLP.out _ (by with_reducible assumption)).mono ?_; rintro _ w8 ⟨v8, rfl, o8, hb8⟩; have b8 := bel_onS (a := w0) (by with_reducible assumption) hb8) | fail)
    all_goals
      go_wp2_with fail
      go_meet
      have hz := HZZ.out
      exact ⟨v8, rfl, Lib.hid (own_mono3 o8 (by have := b7.size; omega)), Lib.hid b8⟩
  case rest =>
    obtain ⟨v, rfl, HO1, HB1⟩ := hcut
    clear v1 v2 v3
    obtain ⟨A1, a1, rfl⟩ := slot_slice HO1.out
    have hne : strV (pTs (permsTo K L)) ≠ [] := by
      intro e
      have := congrArg List.length e
      rw [length_strV, pTs_len, permsTo_len, List.length_nil] at this; omega
    obtain ⟨b, off, hbe, hbb2, hcell⟩ := own_rd3' HO1.out hne
    subst hbe
    have hbP : P + 1 < b := by have h1 := (HO1.out.lt b rfl).1; omega
    have hcs : ∀ i, i < L → wc.cell? ⟨b, off + i, none⟩ = some (.string (pT (K (i + 1)))) := fun i hi => by
      have h1 := hcell i (by rw [length_strV, pTs_len, permsTo_len]; exact hi)
      rw [h1]
      simp [strV, pTs, permsTo]
    have HCS := Lib.hid hcs
    have HO2 := Lib.hid (ownsRow_below HO0.out HB1.out)
    have HB2 := Lib.hid (HB0.out.trans (HB1.out.mono HB0.out.size))
    clear hcs hcell hne HO1 HB1 HO0
    go_wp2_with fail
    go_loopw [7, 9] (fun ov iv wr => ∃ j : Nat, j ≤ k0 + 1 ∧ iv = .int .i64 (j : Int) ∧ Hid (wr.ownsRow P 9 1 ov j (strV (pTs (keysL K (ms.take j))))) ∧ Hid (some b ≠ ov.ownBlock) ∧ Hid (∀ i, i < L → wr.cell? ⟨b, off + i, none⟩ = some (.string (pT (K (i + 1))))) ∧ Hid (b < wr.heap.size) ∧ Hid (Below w.heap.size w wr)) (fun _ iv _ => k0 + 1 - (intOf iv).toNat)
    case atStart => exact ⟨0, Nat.zero_le _, rfl, HO2, Lib.hid (by simp [Value.ownBlock]; omega), HCS, Lib.hid hbb2, HB2⟩
    case round =>
      obtain ⟨j, hj, rfl, HO, HNB, HC, HBZ, HBL⟩ := hrel
      clear HO2 HCS HB2 hbb2
      obtain ⟨A3, c3, e3⟩ := slot_slice HO.out
      subst e3
      by_cases hlt : j < k0 + 1
      · have hjm : j < ms.length := by rw [← HN.out]; exact hlt
        obtain ⟨mb', mo', hA, -, -, -, c2⟩ := (HMR.out.below HBL.out).link hjm
        simp only [Option.some.injEq, Addr.mk.injEq, and_true] at hA
        obtain ⟨rfl, rfl⟩ := hA
        obtain ⟨hkL, hk1'⟩ := HLE.out j hjm
        have hts : keysL K (ms.take (j + 1)) = keysL K (ms.take j) ++ [K ms[j].2.2] := by unfold keysL; rw [List.take_succ_eq_append_getElem hjm, List.map_append]; rfl
        have HTS := Lib.hid hts
        generalize ms[j].2.2 = key at *
        obtain ⟨i, rfl⟩ : ∃ i, key = i + 1 := ⟨key - 1, by omega⟩
        have d1 := HC.out i (by omega)
        obtain ⟨X, hX⟩ : ∃ X, X = pT (K (i + 1)) := ⟨_, rfl⟩
        rw [← hX] at d1
        have HXE := Lib.hid hX
        have v1 : IntKind.i64.wrap ((i : Int) + 1 - 1) = (i : Int) := by rw [IntKind.wrap_i64]; omega
        have v2 : IntKind.i64.wrap (i : Int) = (i : Int) := by rw [IntKind.wrap_i64]; omega
        have v3 : (i : Int) < (L : Int) := by omega
        have hPr : P ≤ wr.heap.size := by have := HBZ.out; omega
        clear hts hX hkL hk1'
        go_wp2_with (at_builtin; refine wpList_append_own_at _ rfl _ _ 33 rfl P 9 iS (.string ByteArray.empty) 1 16 Tryz.undS HI.out HZ0.out HZ1.out HZ2.out rfl (by decide) _ j _ rfl (HO.out.alloc _) ⟨wr.heap.size, 0, none⟩ 1 1 [.string X] rfl rfl (one_new wr (.string X) 9) one_cell (by unfold maxLen; omega) (by omega) (by simp; omega) ?_)
        intro v' w6 ho' hg' _ hblk
        rw [HXE.out, pTs_snoc, ← HTS.out] at ho'
        have hbz6 : b < w6.heap.size := by have h1 := hg'.size; have h2 := HBZ.out; simp at h1; omega
        have hc6 : ∀ i, i < L → w6.cell? ⟨b, off + i, none⟩ = some (.string (pT (K (i + 1)))) := fun i hi => by
          have h1 := hg'.block b (by have := HBZ.out; simp; omega) HNB.out
          rw [World.cell?_of_block (w := wr.alloc (.cells #[.string X] 9)) (a := ⟨b, off + i, none⟩) h1]
          exact cell_alloc2 (HC.out i hi) _
        have hb6 : Below w.heap.size w w6 := (HBL.out.alloc HBL.out.size _).grown hg' (Nat.le_trans HBL.out.size (by simp)) fun k' e => by have := (HO.out.lt k' e).1; have := HPE.out; omega
        have hnb6 : some b ≠ v'.ownBlock := fun e => by
          rcases hblk with h1 | h1
          · exact HNB.out (e.trans h1)
          · rw [h1] at e
            have e2 : b = wr.heap.size + 1 := by simpa using e
            have := HBZ.out; omega
        have HO6 := Lib.hid ho'; have HB6 := Lib.hid hb6; have HC6 := Lib.hid hc6; have HN6 := Lib.hid hnb6; have HZ6 := Lib.hid hbz6
        clear ho' hg' hb6 hc6 hnb6 hbz6 d1 hblk
        go_wp2_with fail
        go_roundw
        case rel => exact ⟨j + 1, by omega, by go_num, HO6, HN6, HC6, HZ6, HB6⟩
        case measure => simp [intOf]; omega
      · have hje : j = k0 + 1 := by omega
        subst hje
        go_wp2_with fail
        go_ret
        refine ⟨A3, c3, rfl, ?_, HBL.out⟩
        have h1 := HO.out
        rw [HN.out, List.take_length, ← HN.out] at h1
        rw [← HPE.out]; exact h1
theorem calls_swap {P : Program} {f : FuncId} {args : Array Value} {w : World} {v : Value} (h : Calls P f args w fun e w' => e = .returned v ∧ w = w') : Calls P f args w fun e w' => e = .returned v ∧ w' = w := h.mono fun _ _ ⟨a, b⟩ => ⟨a, b.symm⟩
theorem digit_at {s : ByteArray} (h : s.size = 1) (hl : wv (tl s) = true) (w : World) : Calls Tryz.prog 25 #[.string s, .int .i64 0] w fun e w' => e = .returned (.int .i64 (d1 s : Int)) ∧ w' = w := by
  obtain ⟨p0, p1, p2, p3⟩ := letter_at h hl
  have h1 := l1Digit_any s 0 w p0 (by omega)
  have hb := isL_bounds p1
  refine h1.mono ?_
  rintro e w' ⟨rfl, rfl⟩
  refine ⟨?_, rfl⟩
  rw [← p2]
  unfold dg
  congr 3; omega
set_option maxHeartbeats 4000000 in
set_option maxRecDepth 100000 in
theorem sCheckMenu_no (w : World) (A : Option Addr) (cap : Nat) (rs : List (ByteArray × ByteArray)) (p g l o : ByteArray) (h : Rd w w.heap.size A (rotV rs)) (hc : rs.length ≤ cap) (hl : rs.length ≤ 100)
    (Am : Option Addr) (cm : Nat) (ms : List LnkZ) (hm : Rd w w.heap.size Am (linkZ ms)) (hmc : ms.length ≤ cm) (hml : ms.length ≤ 1000) (hz : ∀ x ∈ ms, -1000000 ≤ x.2.2 ∧ x.2.2 ≤ 1000000) (hn : ¬ (SetV rs p g l o ∧ menuZ ms)) :
    Calls Tryz.prog 6 #[.agg #[.slice A rs.length cap, .string p, .string g, .string l], .string o, .slice Am ms.length cm] w fun e w' => e = .returned (.bool false) ∧ Below w.heap.size w w' := by
  obtain ⟨w0, hw0⟩ : ∃ w0, w0 = w.alloc (.cells #[.slice A rs.length cap, .string p, .string g, .string l] 27) := ⟨_, rfl⟩
  have hb0 : Below w.heap.size w w0 := by rw [hw0]; exact (Below.refl _ _).alloc (Nat.le_refl _) _
  have hs0 := SB.made w #[.slice A rs.length cap, .string p, .string g, .string l] 27
  rw [← hw0] at hs0
  have hf := l13Fits_is w0 A cap rs p g l o ((h.below hb0).mono hb0.size) hc hl Am cm ms ((hm.below hb0).mono hb0.size) hmc hml hz false (by simp [hn])
  generalize ms.length = n at *
  generalize rs.length = N at *
  have HF := Lib.hid hf; have HB0 := Lib.hid hb0; have HS0 := Lib.hid hs0
  clear h hf hm hb0 hs0 hz hn
  obtain ⟨P, hP⟩ : ∃ P, P = w.heap.size := ⟨_, rfl⟩
  rw [← hP] at HS0
  obtain ⟨⟨c0, c1, c2, c3⟩, _⟩ := HS0.out.all4
  go_enter Tryz.func6, Tryz.ntmps6
  go_wp2_with fail
  rw [← hw0]
  rw [← hP]
  clear hw0 hP
  go_wp2_with fail
  refine HF.out.mono ?_
  rintro _ w1 ⟨rfl, hb1⟩
  have HB1 := Lib.hid (HB0.out.trans (hb1.mono HB0.out.size))
  clear hb1 c0 c1 c2 c3
  go_wp2_with fail
  go_ret
  exact ⟨rfl, HB1.out⟩
set_option maxHeartbeats 8000000 in
set_option maxRecDepth 100000 in
theorem sCheckMenu_yes (w : World) (A : Option Addr) (cap : Nat) (rs : List (ByteArray × ByteArray)) (p g o : ByteArray) (q : List Nat) (K K0 : Nat → List Nat) (h : Rd w w.heap.size A (rotV rs)) (hc : rs.length ≤ cap) (hl : rs.length ≤ 100) (hv : SetV rs p g (pT q) o) (hq : Prm q) (hK0 : ∀ k, Prm (K0 k))
    (hpe : ∀ (w' : World) (m : Int) (n : Nat), m = (n : Int) → n ≤ 60 → Rd w' w'.heap.size A (rotV rs) → Calls Tryz.prog 52 #[.agg #[.slice A rs.length cap, .string p, .string g, .string (pT (List.range 10))], .string o, .int .i64 m] w' fun e w'' => ∃ v : Value, e = .returned v ∧ w''.ownsRow w'.heap.size 9 1 v n (strV (pTs (permsTo K0 n))) ∧ Below w'.heap.size w' w'')
    (Am : Option Addr) (cm : Nat) (ms : List Lnk) (hm : Rd w w.heap.size Am (linkV ms)) (hmc : ms.length ≤ cm) (hmv : menuV ms) (mz : List LnkZ) (hmz : menuZ mz) (hme : linkZ mz = linkV ms) (hmn : mz.length = ms.length)
    (hKK : ∀ l ∈ ms, (nth (K0 l.2.2) (nth q (lx l)) == nth q (ly l)) = (nth (K l.2.2) (lx l) == ly l)) :
    Calls Tryz.prog 6 #[.agg #[.slice A rs.length cap, .string p, .string g, .string (pT q)], .string o, .slice Am ms.length cm] w fun e w' => e = .returned (.bool (chkB K ms)) ∧ Below w.heap.size w w' := by
  obtain ⟨w0, hw0⟩ : ∃ w0, w0 = w.alloc (.cells #[.slice A rs.length cap, .string p, .string g, .string (pT q)] 27) := ⟨_, rfl⟩
  have hb0 : Below w.heap.size w w0 := by rw [hw0]; exact (Below.refl _ _).alloc (Nat.le_refl _) _
  have hs0 := SB.made w #[.slice A rs.length cap, .string p, .string g, .string (pT q)] 27
  rw [← hw0] at hs0
  have hzz : ∀ x ∈ mz, -1000000 ≤ x.2.2 ∧ x.2.2 ≤ 1000000 := fun x hx => by
    have key : ∀ (m : List LnkZ) (a : Int), 0 ≤ a → okM a m → ∀ x ∈ m, 0 ≤ x.2.2 ∧ x.2.2 ≤ 60 := by
      intro m
      induction m with
      | nil => intro a _ _ x hx; cases hx
      | cons y r ih =>
        intro a ha hm x hx
        have h5 := hm.1.2.2.2.2.1
        have h6 := hm.1.2.2.2.2.2
        rcases List.mem_cons.1 hx with rfl | hx
        · exact ⟨by omega, h6⟩
        · exact ih y.2.2 (by omega) hm.2 x hx
    have := key mz 0 (Int.le_refl 0) hmz.2.2 x hx
    omega
  have hf := l13Fits_is w0 A cap rs p g (pT q) o ((h.below hb0).mono hb0.size) hc hl Am cm mz (by rw [hme]; exact (hm.below hb0).mono hb0.size) (by rw [hmn]; exact hmc) (by rw [hmn]; have := hmv.2.1; omega) hzz true (by simp [hv, hmz])
  rw [hmn] at hf
  have hba := fun (w' : World) (hb : Below w.heap.size w w') => l13Bare_is w' A cap rs p g (pT q) o K0 ((h.below hb).mono hb.size) hpe Am cm ms ((hm.below hb).mono hb.size) hmc hmv
  have hok := menuV_ok hmv
  obtain ⟨n, hn⟩ : ∃ n, n = ms.length := ⟨_, rfl⟩
  have hn12 : n ≤ 12 := by rw [hn]; exact hmv.2.1
  rw [← hn] at hf hba ⊢
  generalize rs.length = N at *
  have HF := Lib.hid hf; have HBA := Lib.hid hba; have HB0 := Lib.hid hb0; have HS0 := Lib.hid hs0; have HMR := Lib.hid hm; have HOK := Lib.hid hok; have HN := Lib.hid hn; have HK0 := Lib.hid hK0; have HQ := Lib.hid hq; have HKK := Lib.hid hKK
  have hqi := fun (w' : World) (x : Nat) (hx : x < 10) => l2Image_any w' q hq.toTen.lt x (x : Int) rfl (by rw [hq.len]; exact hx) (by rw [hq.len]; omega) |> calls_swap
  have HQI := Lib.hid hqi
  clear h hf hba hm hb0 hs0 hzz hv hmv hmz hme hmn hok hn hK0 hq hKK hqi hpe
  obtain ⟨P, hP⟩ : ∃ P, P = w.heap.size := ⟨_, rfl⟩
  rw [← hP] at HS0
  generalize pT q = T3 at *
  obtain ⟨⟨c0, c1, c2, c3⟩, _⟩ := HS0.out.all4
  go_enter Tryz.func6, Tryz.ntmps6
  go_wp2_with fail
  rw [← hw0]
  rw [← hP]
  clear hw0
  have HPE := Lib.hid hP
  clear hP
  go_wp2_with fail
  refine HF.out.mono ?_
  rintro _ w1 ⟨rfl, hb1⟩
  have HB1 := Lib.hid (HB0.out.trans (hb1.mono HB0.out.size)); have HS1 := Lib.hid (HS0.out.below hb1)
  clear hb1 c0 c1 c2 c3 HF HB0 HS0
  obtain ⟨⟨c0, c1, c2, c3⟩, _⟩ := HS1.out.all4
  go_wp2_with fail
  refine (HBA.out _ HB1.out).mono ?_
  rintro _ w2 ⟨A2, a2, rfl, ho2, hb2⟩
  have HB2 := Lib.hid (HB1.out.trans (hb2.mono HB1.out.size)); have HS2 := Lib.hid (HS1.out.below hb2); have HRD := Lib.hid (own_rd3' ho2)
  have hkn := own_le3 ho2
  clear hb2 c0 c1 c2 c3 HBA HB1 HS1 ho2
  go_wp2_with fail
  go_loopw [8] (fun i wr => ∃ k : Nat, k ≤ n ∧ i = .int .i64 k ∧ Hid (∀ j (hj : j < ms.length), j < k → (nth (K ms[j].2.2) (lx ms[j]) == ly ms[j]) = true) ∧ Hid (Below w2.heap.size w2 wr)) (fun i _ => n - (intOf i).toNat)
  case atStart => exact ⟨0, Nat.zero_le _, rfl, Lib.hid (fun j hj hk => by omega), Lib.hid (Below.refl _ _)⟩
  case round =>
    obtain ⟨k, hk, rfl, HJ, HBL⟩ := hrel
    by_cases hlt : k < n
    · have hkm : k < ms.length := by rw [← HN.out]; exact hlt
      have hbw : Below w.heap.size w wr := HB2.out.trans (HBL.out.mono HB2.out.size)
      obtain ⟨b0, off, hA, hbb, c0, c1, -⟩ := (HMR.out.below hbw).link hkm
      subst hA
      obtain ⟨-, -, -, c3⟩ := (HS2.out.below HBL.out).all4.1
      have hok := HOK.out _ (List.getElem_mem hkm)
      obtain ⟨p0, p1, p2, p3⟩ := letter_at hok.s1 hok.w1
      obtain ⟨q0, q1, q2, q3⟩ := letter_at hok.s2 hok.w2
      have hks : k < (pTs (keysL K0 ms)).length := by rw [pTs_len, keysL_len]; exact hkm
      obtain ⟨kb, ko, hkA, hkb, hkc⟩ := (HRD.out.below HBL.out).str hks
      have hke : (pTs (keysL K0 ms))[k] = pT (K0 ms[k].2.2) := by simp [pTs, keysL]
      rw [hke] at hkc
      have hD1 := fun (w' : World) => digit_at hok.s1 hok.w1 w'
      have hD2 := fun (w' : World) => digit_at hok.s2 hok.w2 w'
      have hI := fun (w' : World) (x : Nat) (hx : x < 10) => l2Image_any w' (K0 ms[k].2.2) (HK0.out _).toTen.lt x (x : Int) rfl (by rw [(HK0.out _).len]; exact hx) (by rw [(HK0.out _).len]; omega)
      have hkk := HKK.out _ (List.getElem_mem hkm)
      have HJN := Lib.hid (fun (hh : (nth (K ms[k].2.2) (lx ms[k]) == ly ms[k]) = true) => (show ∀ j (hj : j < ms.length), j < k + 1 → (nth (K ms[j].2.2) (lx ms[j]) == ly ms[j]) = true from fun j hj hk2 => by
        by_cases e : j = k
        · subst e; exact hh
        · exact HJ.out j hj (by omega)))
      have HFA := Lib.hid (fun (hh : (nth (K ms[k].2.2) (lx ms[k]) == ly ms[k]) = false) => (show chkB K ms = false from by
        unfold chkB
        rw [List.all_eq_false]
        exact ⟨_, List.getElem_mem hkm, by rw [hh]; simp⟩))
      rw [← hkk] at HJN HFA
      have HD1 := Lib.hid hD1; have HD2 := Lib.hid hD2; have HI := Lib.hid hI
      have hx10 : lx ms[k] < 10 := p3
      have hy10 : ly ms[k] < 10 := q3
      have HQX := Lib.hid (fun w' => HQI.out w' _ hx10); have HQY := Lib.hid (fun w' => HQI.out w' _ hy10)
      have hqx : nth q (lx ms[k]) < 10 := nth_ten HQ.out.toTen
      have HIX := Lib.hid (fun w' => HI.out w' _ hqx)
      subst hkA
      clear hks hke hD1 hD2 hI hkk hbw hok p1 p2 q1 q2 HI
      unfold lx ly at *
      generalize ms[k] = l at *
      obtain ⟨s, t, key⟩ := l
      simp only at *
      clear p3 q3 p0 q0
      generalize d1 s = x at *
      generalize d1 t = y at *
      generalize nth q x = qx at *
      generalize nth q y = qy at *
      generalize nth (K0 key) qx = z at *
      generalize pT (K0 key) = TK at *
      go_upto_region 7 with fail
      go_quiet (first | (go_at_call 25; exact Calls.quiet_of_same (HD1.out _)) | (go_at_call 24; exact Calls.quiet_of_same (HQX.out _)) | fail)
      obtain ⟨W2, hW2⟩ : ∃ W2, W2 = wr.drewN nq := ⟨_, rfl⟩
      have d1 : W2.cell? ⟨b0, off + k * 3 + 1, none⟩ = some (.string t) := by rw [hW2]; exact c1
      have d3 : W2.cell? ⟨P, 3, none⟩ = some (.string T3) := by rw [hW2]; exact c3
      have dk : W2.cell? ⟨kb, ko + k, none⟩ = some (.string TK) := by rw [hW2]; exact hkc
      have HBW := Lib.hid (show Below w2.heap.size w2 W2 from by rw [hW2]; exact below_drewN' HBL.out _)
      rw [← hW2]
      clear hW2 c0 c1 c3 hkc
      go_upto_region 8 with fail
      go_quiet (first | (go_at_call 25; exact Calls.quiet_of_same (HD2.out _)) | (go_at_call 24; exact Calls.quiet_of_same (HQY.out _)) | fail)
      obtain ⟨W3, hW3⟩ : ∃ W3, W3 = W2.drewN nq := ⟨_, rfl⟩
      have ek : W3.cell? ⟨kb, ko + k, none⟩ = some (.string TK) := by rw [hW3]; exact dk
      have HBX := Lib.hid (show Below w2.heap.size w2 W3 from by rw [hW3]; exact below_drewN' HBW.out _)
      rw [← hW3]
      clear hW3 d1 d3 dk
      go_wp2_with fail
      refine (HIX.out _).mono ?_
      rintro _ _ ⟨rfl, rfl⟩
      clear ek
      by_cases he : z = qy
      · have hb := HJN.out (by rw [he]; exact beq_self_eq_true _)
        have HJ2 := Lib.hid hb
        have g1 : ((z : Int) != (qy : Int)) = false := by rw [he]; simp
        clear he hb
        go_wp2_with fail
        go_roundw
        case rel => exact ⟨k + 1, by omega, by go_num, HJ2, HBX⟩
        case measure => simp [intOf]; omega
      · have hb := HFA.out (by rw [beq_eq_false_iff_ne]; exact he)
        have HFB := Lib.hid hb
        have g1 : ((z : Int) != (qy : Int)) = true := by simp; omega
        clear hb
        go_wp2_with fail
        go_ret
        exact ⟨by rw [HFB.out]; rfl, HB2.out.trans (HBX.out.mono HB2.out.size)⟩
    · have hke : k = n := by omega
      subst hke
      have hall : chkB K ms = true := by
        unfold chkB
        refine List.all_eq_true.2 fun l hl => ?_
        obtain ⟨j, hj, rfl⟩ := List.getElem_of_mem hl
        exact HJ.out j hj (by rw [HN.out]; exact hj)
      have HAL := Lib.hid hall
      clear hall
      go_wp2_with fail
      go_ret
      exact ⟨by rw [HAL.out]; rfl, HB2.out.trans (HBL.out.mono HB2.out.size)⟩
set_option maxHeartbeats 4000000 in
set_option maxRecDepth 100000 in
theorem checkMenu_no (w : World) (A : Option Addr) (cap : Nat) (rs : List (ByteArray × ByteArray)) (p g l o : ByteArray) (h : Rd w w.heap.size A (rotV rs)) (hc : rs.length ≤ cap) (hl : rs.length ≤ 100)
    (Am : Option Addr) (cm : Nat) (ms : List LnkZ) (hm : Rd w w.heap.size Am (linkZ ms)) (hmc : ms.length ≤ cm) (hz : ∀ x ∈ ms, x.1.size ≤ 100 ∧ x.2.1.size ≤ 100) (hn : ¬ (SetV rs p g l o ∧ menuZ ms)) :
    Calls Tryz.prog 5 #[.agg #[.slice A rs.length cap, .string p, .string g, .string l], .string o, .slice Am ms.length cm] w fun e w' => e = .returned (.bool false) ∧ Below w.heap.size w w' := by
  obtain ⟨w0, hw0⟩ : ∃ w0, w0 = w.alloc (.cells #[.slice A rs.length cap, .string p, .string g, .string l] 27) := ⟨_, rfl⟩
  have hb0 : Below w.heap.size w w0 := by rw [hw0]; exact (Below.refl _ _).alloc (Nat.le_refl _) _
  have hs0 := SB.made w #[.slice A rs.length cap, .string p, .string g, .string l] 27
  rw [← hw0] at hs0
  by_cases hs : SetV rs p g l o
  · have hm2 : ¬ menuZ ms := fun h2 => hn ⟨hs, h2⟩
    have hf := settingValid_any w0 A cap rs p g l o true ((h.below hb0).mono hb0.size) hc hl (by simp [hs])
    have hmz := fun (w' : World) (hb : Below w.heap.size w w') => menuValid_any w' Am cm ms false ((hm.below hb).mono hb.size) hmc hz (by simp [hm2])
    generalize ms.length = n at *
    generalize rs.length = N at *
    have HF := Lib.hid hf; have HM := Lib.hid hmz; have HB0 := Lib.hid hb0; have HS0 := Lib.hid hs0
    clear h hf hm hmz hb0 hs0 hz hn hs hm2
    obtain ⟨P, hP⟩ : ∃ P, P = w.heap.size := ⟨_, rfl⟩
    rw [← hP] at HS0
    obtain ⟨⟨c0, c1, c2, c3⟩, _⟩ := HS0.out.all4
    go_enter Tryz.func5, Tryz.ntmps5
    go_wp2_with fail
    rw [← hw0]
    rw [← hP]
    clear hw0 hP
    go_wp2_with fail
    refine HF.out.mono ?_
    rintro _ w1 ⟨rfl, hb1⟩
    have HB1 := Lib.hid (HB0.out.trans (hb1.mono HB0.out.size))
    clear hb1 c0 c1 c2 c3
    go_wp2_with fail
    refine (HM.out _ HB1.out).mono ?_
    rintro _ w2 ⟨rfl, hb2⟩
    have HB2 := Lib.hid (HB1.out.trans (hb2.mono HB1.out.size))
    clear hb2
    go_wp2_with fail
    go_ret
    exact ⟨rfl, HB2.out⟩
  · have hf := settingValid_any w0 A cap rs p g l o false ((h.below hb0).mono hb0.size) hc hl (by simp [hs])
    generalize ms.length = n at *
    generalize rs.length = N at *
    have HF := Lib.hid hf; have HB0 := Lib.hid hb0; have HS0 := Lib.hid hs0
    clear h hf hm hb0 hs0 hz hn hs
    obtain ⟨P, hP⟩ : ∃ P, P = w.heap.size := ⟨_, rfl⟩
    rw [← hP] at HS0
    obtain ⟨⟨c0, c1, c2, c3⟩, _⟩ := HS0.out.all4
    go_enter Tryz.func5, Tryz.ntmps5
    go_wp2_with fail
    rw [← hw0]
    rw [← hP]
    clear hw0 hP
    go_wp2_with fail
    refine HF.out.mono ?_
    rintro _ w1 ⟨rfl, hb1⟩
    have HB1 := Lib.hid (HB0.out.trans (hb1.mono HB0.out.size))
    clear hb1 c0 c1 c2 c3
    go_wp2_with fail
    go_ret
    exact ⟨rfl, HB1.out⟩
theorem perms_bare {rs : List (ByteArray × ByteArray)} {o : ByteArray} {r q rg : List Nat} (hv : SetV rs (pT r) (pT rg) (pT q) o) (hr : Prm r) (hrg : rg.length = rs.length) (hrl : ∀ x ∈ rg, x < 10) (A : Option Addr) (cap : Nat) (hc : rs.length ≤ cap) :
    ∀ (w' : World) (m : Int) (n : Nat), m = (n : Int) → n ≤ 60 → Rd w' w'.heap.size A (rotV rs) → Calls Tryz.prog 52 #[.agg #[.slice A rs.length cap, .string (pT r), .string (pT rg), .string (pT (List.range 10))], .string o, .int .i64 m] w' fun e w'' => ∃ v : Value, e = .returned v ∧ w''.ownsRow w'.heap.size 9 1 v n (strV (pTs (permsTo (keyP (List.range 10) r rs rg o) n))) ∧ Below w'.heap.size w' w'' := by
  intro w3 m n hm hn60 h3
  have hl3 := hv.1.1.1.2.1
  have hl1 := hv.1.1.1.1
  have hrv := hv.1.1.1.2.2.2
  have hz : o.size = rs.length := hv.2.1.trans hv.1.1.2.1
  have hwo := hv.2.2
  have hwp : WinV rs (pT r) o := ⟨hv.1.1.1, hz, hwo⟩
  have hwi : ∀ i, i < rs.length → Prm (wirP rs i) := fun i hi => (wir_ok hrv hi).1
  have h0 := l8Perms_is w3 A cap rs r rg (List.range 10) (stepW rs o) (keyP (List.range 10) r rs rg o) n m hm (by omega) ⟨h3, hc, fun x hx => rotT_of (hrv x hx), hl1, hl3⟩
    (fun w' k h' => by
      have hs := l7Step_is w' A cap rs (pT r) (stepW rs o k) ((WhB.make h'.rd h'.cap hwp).word _ (by rw [stepW_size]; exact hz) (stepW_wv rs hwo k))
      refine hs.mono ?_
      rintro e w'' ⟨e1, e2⟩
      refine ⟨?_, e2⟩
      rw [e1]; unfold stepW; simp only [tl_mk]; rfl)
    (fun w' k h' => by
      have hp := l8Perm_is w' A cap rs r rg (List.range 10) (wnd rs o k) h' hr prm_id10 (by rw [wnd_len]; exact hz) (wnd_lo hwo k) hrg hrl hwi
      rw [wnd_pT hwo] at hp
      refine hp.mono ?_
      rintro e w'' ⟨e1, e2⟩
      exact ⟨by rw [e1, perm_same prm_id10 (by decide +kernel) hr hwi]; rfl, e2⟩)
  rw [stepW_zero] at h0
  exact h0
theorem keeps_same {q r : List Nat} {rs : List (ByteArray × ByteArray)} {rg : List Nat} {o : ByteArray} (hq : Prm q) (hi : invP q = q) (hr : Prm r) (hw : ∀ i, i < rs.length → Prm (wirP rs i)) (k : Nat) {x y : Nat} (hx : x < 10) (hy : y < 10) :
    (nth (keyP (List.range 10) r rs rg o k) (nth q x) == nth q y) = (nth (keyP q r rs rg o k) x == y) := by
  have h1 := keyP_conj (rg := rg) (o := o) hq hi hr hw k (x := nth q x) (nth_ten hq.toTen)
  rw [inv_nth hq hi hx] at h1
  have hz : nth (keyP (List.range 10) r rs rg o k) (nth q x) < 10 := nth_ten (keyP_prm prm_id10 hr hw k).toTen
  rw [h1]
  rw [Bool.eq_iff_iff, beq_iff_eq, beq_iff_eq]
  constructor
  · intro e; rw [e, inv_nth hq hi hy]
  · intro e; rw [← e, inv_nth hq hi hz]
end Go.Proofs.YtnbdimbhklbadaaGreatDoor
