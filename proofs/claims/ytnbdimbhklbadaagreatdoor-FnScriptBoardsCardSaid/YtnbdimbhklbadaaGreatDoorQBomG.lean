/-
  Contracts of functions and plain laws that the law's proof uses (parts: BomG). Conditions: what each theorem names.
-/
import Derived.Test.YtnbdimbhklbadaaGreatDoorQBomF
import Derived.Test.YtnbdimbhklbadaaGreatDoorQBomD
namespace Go.Proofs.YtnbdimbhklbadaaGreatDoor
open Go.RowKit Pl
set_option linter.unusedVariables false
theorem edgs_ok {K : Nat → List Nat} {ms : List Lnk} (h : menuV ms) (hK : ∀ k, Prm (K k)) : ∀ e ∈ edgs K ms, e.1 < 10 ∧ e.2.1 < 10 ∧ Prm e.2.2 := by
  intro e he
  obtain ⟨l, hl, rfl⟩ := List.mem_map.1 he
  have hok := menuV_ok h l hl
  obtain ⟨_, _, _, e1, h1⟩ := one_letter hok.s1 hok.w1
  obtain ⟨_, _, _, e2, h2⟩ := one_letter hok.s2 hok.w2
  exact ⟨by rw [← e1] at h1; exact h1, by rw [← e2] at h2; exact h2, hK _⟩
theorem wirs_ok {es : List Edg} (he : ∀ e ∈ es, e.1 < 10 ∧ e.2.1 < 10 ∧ Prm e.2.2) (x : Nat) : ∀ v ∈ wirs es x, WirOk v ∧ v.2.length = 10 := by
  intro v hv
  obtain ⟨e, hem, h1⟩ := List.mem_flatMap.1 hv
  obtain ⟨a, b, c⟩ := he e hem
  rcases List.mem_append.1 h1 with h2 | h2
  · split at h2
    · simp at h2; subst h2; exact ⟨⟨b, fun y => nth_ten c.toTen⟩, c.len⟩
    · simp at h2
  · split at h2
    · simp at h2; subst h2; exact ⟨⟨a, fun y => nth_ten c.toTen⟩, c.len⟩
    · simp at h2
def hypN (L : Nat → List Wir) (x k : Nat) : List Nat := (List.range k).filter fun y => okS (impT L x y)
theorem hypN_yes {L : Nat → List Wir} {x k : Nat} (h : okS (impT L x k) = true) : hypN L x (k + 1) = hypN L x k ++ [k] := by unfold hypN; rw [List.range_succ, List.filter_append]; simp [h]
theorem hypN_no {L : Nat → List Wir} {x k : Nat} (h : okS (impT L x k) = false) : hypN L x (k + 1) = hypN L x k := by unfold hypN; rw [List.range_succ, List.filter_append]; simp [h]
theorem hypN_len (L : Nat → List Wir) (x k : Nat) : (hypN L x k).length ≤ k := by unfold hypN; have := List.length_filter_le (fun y => okS (impT L x y)) (List.range k); rw [List.length_range] at this; exact this
def hypB (L : Nat → List Wir) (x k : Nat) : List UInt8 := (hypN L x k).map letter
def brdB (L : Nat → List Wir) (x k : Nat) : List ByteArray := (hypN L x k).map fun y => pT (brdS (impT L x y))
theorem hypB_snoc {L : Nat → List Wir} {x k : Nat} (h : okS (impT L x k) = true) : bytesV (hypB L x k) ++ [.int .u8 ((letter k).toNat : Int)] = bytesV (hypB L x (k + 1)) := by unfold hypB; rw [hypN_yes h, List.map_append]; simp [bytesV]
theorem brdB_snoc {L : Nat → List Wir} {x k : Nat} (h : okS (impT L x k) = true) : strV (brdB L x k) ++ [.string (brdX (impT L x k))] = strV (brdB L x (k + 1)) := by unfold brdB brdX; rw [hypN_yes h, List.map_append, h]; simp [strV]
theorem hypB_len (L : Nat → List Wir) (x k : Nat) : (hypB L x k).length = (hypN L x k).length := List.length_map _
theorem brdB_len (L : Nat → List Wir) (x k : Nat) : (brdB L x k).length = (hypN L x k).length := List.length_map _
def wirM (r rg : List Nat) (rs : List (ByteArray × ByteArray)) (o : ByteArray) (ms : List Lnk) : Nat → List Wir := wirs (edgs (keyP (List.range 10) r rs rg o) ms)
theorem own_kinds2 {w : World} {b1 b2 s1 s2 n1 n2 : Nat} {e1 e2 : TypeId} {v1 v2 : Value} {x1 x2 : List Value} (h1 : w.ownsRow b1 e1 s1 v1 n1 x1) (h2 : w.ownsRow b2 e2 s2 v2 n2 x2) (he : e1 ≠ e2) : v1.ownBlock = none ∨ v1.ownBlock ≠ v2.ownBlock := by
  obtain ⟨_, ⟨rfl, _⟩ | ⟨g, cap, cur, rfl, hb, hg, _⟩⟩ := h1
  · exact .inl rfl
  · refine .inr fun e => ?_
    obtain ⟨_, ⟨rfl, _⟩ | ⟨g2, cap2, cur2, rfl, hb2, hg2, _⟩⟩ := h2
    · simp [Value.ownBlock] at e
    · have e3 : g = g2 := by simpa [Value.ownBlock] using e
      subst e3
      rw [hg] at hg2; injection hg2 with hg2; injection hg2 with _ hg2; exact he hg2
theorem bomr_grown {W w8 : World} {X base : Nat} {L : Nat → List Wir} {f : RowF} {e : TypeId} {s n : Nat} {v : Value} {xs : List Value} {o : Obj} (h : BomR W X L f) (ho : W.ownsRow base e s v n xs) (hg : (W.alloc o).grownBy w8 v.ownBlock) (he : e ≠ 101 := by decide) (he2 : e ≠ 103 := by decide) : BomR w8 X L f := by
  have hal : Below W.heap.size W (W.alloc o) := (Below.refl _ _).alloc (Nat.le_refl _) _
  have h2 := h.below hal
  refine ⟨SB.own h2.blk hg (own_ne_type ho h.blk (fun e' => he e'.symm)), fun x hx => (h2.row x hx).kept hg (own_kinds2 (h.row x hx) ho (fun e' => he2 e'.symm)), h2.dis⟩
set_option maxHeartbeats 8000000 in
set_option maxRecDepth 100000 in
theorem hypotheses_is (w : World) (A : Option Addr) (cap : Nat) (rs : List (ByteArray × ByteArray)) (r q rg : List Nat) (o : ByteArray) (h : Rd w w.heap.size A (rotV rs)) (hc : rs.length ≤ cap) (hv : SetV rs (pT r) (pT rg) (pT q) o) (hr : Prm r) (hri : invP r = r) (hrg : rg.length = rs.length) (hrl : ∀ x ∈ rg, x < 10)
    (Am : Option Addr) (cm : Nat) (ms : List Lnk) (hm : Rd w w.heap.size Am (linkV ms)) (hmc : ms.length ≤ cm) (hmv : menuV ms) (hne : hypN (wirM r rg rs o ms) (cent ms) 10 ≠ []) :
    Calls Tryz.prog 12 #[.agg #[.slice A rs.length cap, .string (pT r), .string (pT rg), .string (pT q)], .string o, .slice Am ms.length cm] w fun e w' => e = .returned (.string (mk (hypB (wirM r rg rs o ms) (cent ms) 10))) ∧ Below w.heap.size w w' := by
  obtain ⟨iB, hi, hz0, hz1, hz2⟩ := info_parts Tryz.infoB
  have KI := Lib.hid hi; have KZ0 := Lib.hid hz0; have KZ1 := Lib.hid hz1; have KZ2 := Lib.hid hz2
  clear hi hz0 hz1 hz2
  have hK : ∀ k, Prm (keyP (List.range 10) r rs rg o k) := fun k => keyP_prm prm_id10 hr (fun i hi => (wir_ok hv.1.1.1.2.2.2 hi).1) k
  have hes := edgs_ok hmv hK
  have hLo := fun (x : Nat) (hx : x < 10) => wirs_ok hes x
  have hLn : ∀ x, (wirM r rg rs o ms x).length ≤ 100 := fun x => by
    unfold wirM
    refine Nat.le_trans (wirs_len _ _) ?_
    rw [edgs_len]; have := hmv.2.1; omega
  obtain ⟨w0, hw0⟩ : ∃ w0, w0 = w.alloc (.cells #[.slice A rs.length cap, .string (pT r), .string (pT rg), .string (pT q)] 27) := ⟨_, rfl⟩
  have hb0 : Below w.heap.size w w0 := by rw [hw0]; exact (Below.refl _ _).alloc (Nat.le_refl _) _
  have hs0 := SB.made w #[.slice A rs.length cap, .string (pT r), .string (pT rg), .string (pT q)] 27
  rw [← hw0] at hs0
  have hcon := settingValid_any w0 A cap rs (pT r) (pT rg) (pT q) o true ((h.below hb0).mono hb0.size) hc (by have := hv.1.1.1.2.1; omega) (by simp [hv])
  have hmvc := fun (w' : World) (hb : Below w.heap.size w w') => menuValid_true w' Am cm ms ((hm.below hb).mono hb.size) hmc hmv
  have hnb := fun (w' : World) (hb : Below w.heap.size w w') => newBombe_is w' A cap rs r q rg o ((h.below hb).mono hb.size) hc hv hr hri hrg hrl Am cm ms ((hm.below hb).mono hb.size) hmc hmv
  have hce := fun (w' : World) (hb : Below w.heap.size w w') => centralLetter_is w' Am cm ms ((hm.below hb).mono hb.size) hmc hmv
  have hx := cent_lt ms
  have hnu := fun (w' : World) => number_any (letter (cent ms)) w' (isL_letter hx)
  rw [dg_letter hx] at hnu
  change ∀ x, x < 10 → ∀ v ∈ wirM r rg rs o ms x, _ at hLo
  change ∀ w' : World, _ → Calls _ _ _ _ (fun e w'' => ∃ X f, _ ∧ _ ∧ BomR _ X (wirM r rg rs o ms) f ∧ _) at hnb
  have him := fun (X : Nat) (f : RowF) (w1 : World) (hB : BomR w1 X (wirM r rg rs o ms) f) (y : Nat) (hy : y < 10) => imply_is w1 X (cent ms) y (wirM r rg rs o ms) f hB hLo hLn hx hy
  have htu : ∀ y, y < 10 → U10 (impT (wirM r rg rs o ms) (cent ms) y) := fun y hy => (impT_ok (fun x hx v hv => (hLo x hx v hv).1) hx hy).1
  obtain ⟨n, hn⟩ : ∃ n, n = ms.length := ⟨_, rfl⟩
  obtain ⟨N, hN⟩ : ∃ N, N = rs.length := ⟨_, rfl⟩
  rw [← hn] at hmvc hnb hce ⊢
  rw [← hN] at hcon hnb hs0 hw0 ⊢
  generalize wirM r rg rs o ms = L at *
  generalize hxe : cent ms = x at *
  have HB0 := Lib.hid hb0; have HCON := Lib.hid hcon; have HMV := Lib.hid hmvc; have HNB := Lib.hid hnb; have HCE := Lib.hid hce; have HNU := Lib.hid hnu; have HIM := Lib.hid him; have HTU := Lib.hid htu
  clear h hc hv hr hri hrg hrl hm hmc hmv hK hes hLo hLn hb0 hcon hmvc hnb hce hnu him htu hn hN hxe
  generalize pT r = T1 at *
  generalize pT rg = T2 at *
  generalize pT q = T3 at *
  obtain ⟨P, hP⟩ : ∃ P, P = w.heap.size := ⟨_, rfl⟩
  rw [← hP] at hs0
  have HS0 := Lib.hid hs0
  obtain ⟨⟨c0, c1, c2, c3⟩, _⟩ := hs0.all4
  clear hs0
  go_enter Tryz.func12, Tryz.ntmps12
  go_wp2_with fail
  rw [← hw0]
  rw [← hP]
  clear hw0 hP
  go_wp2_with fail
  refine HCON.out.mono ?_
  rintro _ w1 ⟨rfl, hb1⟩
  have HB1 := Lib.hid (HB0.out.trans (hb1.mono HB0.out.size)); have HS1 := Lib.hid (HS0.out.below hb1)
  clear hb1 c0 c1 c2 c3 HCON HB0 HS0
  obtain ⟨⟨c0, c1, c2, c3⟩, _⟩ := HS1.out.all4
  go_wp2_with fail
  refine (HMV.out _ HB1.out).mono ?_
  rintro _ w2 ⟨rfl, hb2⟩
  have HB2 := Lib.hid (HB1.out.trans (hb2.mono HB1.out.size)); have HS2 := Lib.hid (HS1.out.below hb2)
  clear hb2 c0 c1 c2 c3 HMV HB1 HS1
  obtain ⟨⟨c0, c1, c2, c3⟩, _⟩ := HS2.out.all4
  go_wp2_with fail
  refine (HNB.out _ HB2.out).mono ?_
  rintro _ w3 ⟨X, f, rfl, hXw, hbom, hb3⟩
  have HB3 := Lib.hid (HB2.out.trans (hb3.mono HB2.out.size)); have HBO := Lib.hid hbom
  clear hb3 c0 c1 c2 c3 HNB HB2 HS2 hbom hXw
  go_wp2_with fail
  refine (HCE.out _ HB3.out).mono ?_
  rintro _ w4 ⟨rfl, hb4⟩
  have HB4 := Lib.hid (HB3.out.trans (hb4.mono HB3.out.size)); have HBO4 := Lib.hid (HBO.out.below hb4)
  clear hb4 HCE HB3 HBO
  have hsz1 : (mk [letter x]).size = 1 := by rw [size_mk]; rfl
  have hat0 : ∀ h0 : 0 < (mk [letter x]).size, (mk [letter x])[0]'h0 = letter x := fun _ => rfl
  go_wp2_with fail
  refine (HNU.out _).mono ?_
  rintro _ w5 ⟨rfl, rfl⟩
  clear HNU hsz1 hat0
  go_wp2_with fail
  go_loopw [7, 30] (fun v i wr => ∃ k : Nat, k ≤ 10 ∧ i = .int .i64 k ∧ Hid (wr.ownsRow w.heap.size 5 1 v (hypN L x k).length (bytesV (hypB L x k))) ∧ Hid (BomR wr X L f) ∧ Hid (Below w.heap.size w wr)) (fun _ i _ => 10 - (intOf i).toNat)
  case atStart => exact ⟨0, Nat.zero_le _, rfl, Lib.hid (World.ownsRow_nil _ _ _ _), HBO4, HB4⟩
  case round =>
    obtain ⟨k, hk, rfl, HO, HBR, HB⟩ := hrel
    clear HBO4 HB4
    obtain ⟨A3, c3, e3⟩ := slot_slice HO.out
    subst e3
    by_cases hlt : k < 10
    · have v1 : (k : Int) < 10 := by omega
      have HTK := Lib.hid (HTU.out k hlt)
      have HHL := Lib.hid (hypN_len L x k)
      go_wp2_with fail
      refine (HIM.out X f _ HBR.out k hlt).mono ?_
      rintro _ w6 ⟨S, rfl, hSw, hu, hb6⟩
      have HB6 := Lib.hid (HB.out.trans (hb6.mono HB.out.size)); have HBR6 := Lib.hid (HBR.out.below hb6); have HO6 := Lib.hid (ownsRow_below HO.out hb6); have HU6 := Lib.hid hu
      clear hb6 hu hSw HO HBR HB
      go_wp2_with fail
      refine (boardS_is _ S _ HU6.out HTK.out).mono ?_
      rintro _ w7 ⟨rfl, hb7⟩
      have HB7 := Lib.hid (HB6.out.trans (hb7.mono HB6.out.size)); have HBR7 := Lib.hid (HBR6.out.below hb7); have HO7 := Lib.hid (ownsRow_below HO6.out hb7)
      clear hb7 HO6 HBR6 HB6 HU6
      cases hok : okS (impT L x k) with
      | false =>
        have hn := hypN_no hok
        have HOB := Lib.hid (show w7.ownsRow w.heap.size 5 1 (.slice A3 (hypN L x k).length c3) (hypN L x (k + 1)).length (bytesV (hypB L x (k + 1))) from by unfold hypB; rw [hn]; exact HO7.out)
        clear hn
        go_wp2_with fail
        go_roundw
        case rel => exact ⟨k + 1, by omega, by go_num, HOB, HBR7, HB7⟩
        case measure => simp [intOf]; omega
      | true =>
        have HSN := Lib.hid (hypB_snoc hok)
        have HLN := Lib.hid (show (hypN L x k).length + 1 = (hypN L x (k + 1)).length from by rw [hypN_yes hok]; simp)
        obtain ⟨m, hm⟩ : ∃ m, m = (hypN L x k).length := ⟨_, rfl⟩
        rw [← hm] at HO7 HHL HLN ⊢
        have hm10 : m ≤ k := HHL.out
        clear hm hok
        go_wp2_with fail
        refine (letter_any _ _ hlt).mono ?_
        rintro _ wz ⟨rfl, rfl⟩
        have hbw := HB7.out.size
        go_wp2_with (at_builtin; refine wpList_append_own _ rfl _ _ 22 rfl w.heap.size 5 iB (.int .u8 0) 1 1 Tryz.underlying22 KI.out KZ0.out KZ1.out KZ2.out rfl (by decide) _ m _ rfl (HO7.out.alloc _) ⟨wz.heap.size, 0, none⟩ 1 1 [.int .u8 ((letter k).toNat : Int)] rfl rfl (one_new wz _ _) byte_cell (by unfold maxLen; omega) (by omega) (by simp; omega) ?_)
        intro v' w8 ho' hg' _
        rw [HSN.out, HLN.out] at ho'
        have hb8 : Below w.heap.size w w8 := (HB7.out.alloc HB7.out.size _).grown hg' (Nat.le_trans HB7.out.size (by simp)) fun k' e => (HO7.out.lt k' e).1
        have hbr8 : BomR w8 X L f := bomr_grown HBR7.out HO7.out hg'
        have HO8 := Lib.hid ho'; have HB8 := Lib.hid hb8; have HBR8 := Lib.hid hbr8
        clear ho' hg' hb8 hbr8 hbw
        go_wp2_with fail
        go_roundw
        case rel => exact ⟨k + 1, by omega, by go_num, HO8, HBR8, HB8⟩
        case measure => simp [intOf]; omega
    · have hke : k = 10 := by omega
      subst hke
      obtain ⟨g, c6', e6⟩ := own_some HO.out (List.length_pos_iff.2 hne)
      simp only [Value.slice.injEq] at e6
      obtain ⟨rfl, _, rfl⟩ := e6
      have hcv := own_conv HO.out (hypB_len L x 10) c3
      generalize (hypN L x 10).length = m at hcv ⊢
      go_wp2_with fail
      go_ret
      exact ⟨rfl, HB.out⟩
set_option maxHeartbeats 8000000 in
set_option maxRecDepth 100000 in
theorem menuBoards_is (w : World) (A : Option Addr) (cap : Nat) (rs : List (ByteArray × ByteArray)) (r q rg : List Nat) (o : ByteArray) (h : Rd w w.heap.size A (rotV rs)) (hc : rs.length ≤ cap) (hv : SetV rs (pT r) (pT rg) (pT q) o) (hr : Prm r) (hri : invP r = r) (hrg : rg.length = rs.length) (hrl : ∀ x ∈ rg, x < 10)
    (Am : Option Addr) (cm : Nat) (ms : List Lnk) (hm : Rd w w.heap.size Am (linkV ms)) (hmc : ms.length ≤ cm) (hmv : menuV ms) :
    Calls Tryz.prog 8 #[.agg #[.slice A rs.length cap, .string (pT r), .string (pT rg), .string (pT q)], .string o, .slice Am ms.length cm] w fun e w' => ∃ A' c', e = .returned (.slice A' (brdB (wirM r rg rs o ms) (cent ms) 10).length c') ∧ w'.ownsRow w.heap.size 9 1 (.slice A' (brdB (wirM r rg rs o ms) (cent ms) 10).length c') (brdB (wirM r rg rs o ms) (cent ms) 10).length (strV (brdB (wirM r rg rs o ms) (cent ms) 10)) ∧ Below w.heap.size w w' := by
  obtain ⟨iB, hi, hz0, hz1, hz2⟩ := info_parts Tryz.infoS
  have KI := Lib.hid hi; have KZ0 := Lib.hid hz0; have KZ1 := Lib.hid hz1; have KZ2 := Lib.hid hz2
  clear hi hz0 hz1 hz2
  have hK : ∀ k, Prm (keyP (List.range 10) r rs rg o k) := fun k => keyP_prm prm_id10 hr (fun i hi => (wir_ok hv.1.1.1.2.2.2 hi).1) k
  have hes := edgs_ok hmv hK
  have hLo := fun (x : Nat) (hx : x < 10) => wirs_ok hes x
  have hLn : ∀ x, (wirM r rg rs o ms x).length ≤ 100 := fun x => by
    unfold wirM
    refine Nat.le_trans (wirs_len _ _) ?_
    rw [edgs_len]; have := hmv.2.1; omega
  obtain ⟨w0, hw0⟩ : ∃ w0, w0 = w.alloc (.cells #[.slice A rs.length cap, .string (pT r), .string (pT rg), .string (pT q)] 27) := ⟨_, rfl⟩
  have hb0 : Below w.heap.size w w0 := by rw [hw0]; exact (Below.refl _ _).alloc (Nat.le_refl _) _
  have hs0 := SB.made w #[.slice A rs.length cap, .string (pT r), .string (pT rg), .string (pT q)] 27
  rw [← hw0] at hs0
  have hcon := settingValid_any w0 A cap rs (pT r) (pT rg) (pT q) o true ((h.below hb0).mono hb0.size) hc (by have := hv.1.1.1.2.1; omega) (by simp [hv])
  have hmvc := fun (w' : World) (hb : Below w.heap.size w w') => menuValid_true w' Am cm ms ((hm.below hb).mono hb.size) hmc hmv
  have hnb := fun (w' : World) (hb : Below w.heap.size w w') => newBombe_is w' A cap rs r q rg o ((h.below hb).mono hb.size) hc hv hr hri hrg hrl Am cm ms ((hm.below hb).mono hb.size) hmc hmv
  have hce := fun (w' : World) (hb : Below w.heap.size w w') => centralLetter_is w' Am cm ms ((hm.below hb).mono hb.size) hmc hmv
  have hx := cent_lt ms
  have hnu := fun (w' : World) => number_any (letter (cent ms)) w' (isL_letter hx)
  rw [dg_letter hx] at hnu
  change ∀ x, x < 10 → ∀ v ∈ wirM r rg rs o ms x, _ at hLo
  change ∀ w' : World, _ → Calls _ _ _ _ (fun e w'' => ∃ X f, _ ∧ _ ∧ BomR _ X (wirM r rg rs o ms) f ∧ _) at hnb
  have him := fun (X : Nat) (f : RowF) (w1 : World) (hB : BomR w1 X (wirM r rg rs o ms) f) (y : Nat) (hy : y < 10) => imply_is w1 X (cent ms) y (wirM r rg rs o ms) f hB hLo hLn hx hy
  have htu : ∀ y, y < 10 → U10 (impT (wirM r rg rs o ms) (cent ms) y) := fun y hy => (impT_ok (fun x hx v hv => (hLo x hx v hv).1) hx hy).1
  obtain ⟨n, hn⟩ : ∃ n, n = ms.length := ⟨_, rfl⟩
  obtain ⟨N, hN⟩ : ∃ N, N = rs.length := ⟨_, rfl⟩
  rw [← hn] at hmvc hnb hce ⊢
  rw [← hN] at hcon hnb hs0 hw0 ⊢
  generalize wirM r rg rs o ms = L at *
  generalize hxe : cent ms = x at *
  have HB0 := Lib.hid hb0; have HCON := Lib.hid hcon; have HMV := Lib.hid hmvc; have HNB := Lib.hid hnb; have HCE := Lib.hid hce; have HNU := Lib.hid hnu; have HIM := Lib.hid him; have HTU := Lib.hid htu
  clear h hc hv hr hri hrg hrl hm hmc hmv hK hes hLo hLn hb0 hcon hmvc hnb hce hnu him htu hn hN hxe
  generalize pT r = T1 at *
  generalize pT rg = T2 at *
  generalize pT q = T3 at *
  obtain ⟨P, hP⟩ : ∃ P, P = w.heap.size := ⟨_, rfl⟩
  rw [← hP] at hs0
  have HS0 := Lib.hid hs0
  obtain ⟨⟨c0, c1, c2, c3⟩, _⟩ := hs0.all4
  clear hs0
  go_enter Tryz.func8, Tryz.ntmps8
  go_wp2_with fail
  rw [← hw0]
  rw [← hP]
  clear hw0 hP
  go_wp2_with fail
  refine HCON.out.mono ?_
  rintro _ w1 ⟨rfl, hb1⟩
  have HB1 := Lib.hid (HB0.out.trans (hb1.mono HB0.out.size)); have HS1 := Lib.hid (HS0.out.below hb1)
  clear hb1 c0 c1 c2 c3 HCON HB0 HS0
  obtain ⟨⟨c0, c1, c2, c3⟩, _⟩ := HS1.out.all4
  go_wp2_with fail
  refine (HMV.out _ HB1.out).mono ?_
  rintro _ w2 ⟨rfl, hb2⟩
  have HB2 := Lib.hid (HB1.out.trans (hb2.mono HB1.out.size)); have HS2 := Lib.hid (HS1.out.below hb2)
  clear hb2 c0 c1 c2 c3 HMV HB1 HS1
  obtain ⟨⟨c0, c1, c2, c3⟩, _⟩ := HS2.out.all4
  go_wp2_with fail
  refine (HNB.out _ HB2.out).mono ?_
  rintro _ w3 ⟨X, f, rfl, hXw, hbom, hb3⟩
  have HB3 := Lib.hid (HB2.out.trans (hb3.mono HB2.out.size)); have HBO := Lib.hid hbom
  clear hb3 c0 c1 c2 c3 HNB HB2 HS2 hbom hXw
  go_wp2_with fail
  refine (HCE.out _ HB3.out).mono ?_
  rintro _ w4 ⟨rfl, hb4⟩
  have HB4 := Lib.hid (HB3.out.trans (hb4.mono HB3.out.size)); have HBO4 := Lib.hid (HBO.out.below hb4)
  clear hb4 HCE HB3 HBO
  have hsz1 : (mk [letter x]).size = 1 := by rw [size_mk]; rfl
  have hat0 : ∀ h0 : 0 < (mk [letter x]).size, (mk [letter x])[0]'h0 = letter x := fun _ => rfl
  go_wp2_with fail
  refine (HNU.out _).mono ?_
  rintro _ w5 ⟨rfl, rfl⟩
  clear HNU hsz1 hat0
  go_wp2_with fail
  go_loopw [7, 30] (fun v i wr => ∃ k : Nat, k ≤ 10 ∧ i = .int .i64 k ∧ Hid (wr.ownsRow w.heap.size 9 1 v (hypN L x k).length (strV (brdB L x k))) ∧ Hid (BomR wr X L f) ∧ Hid (Below w.heap.size w wr)) (fun _ i _ => 10 - (intOf i).toNat)
  case atStart => exact ⟨0, Nat.zero_le _, rfl, Lib.hid (World.ownsRow_nil _ _ _ _), HBO4, HB4⟩
  case round =>
    obtain ⟨k, hk, rfl, HO, HBR, HB⟩ := hrel
    clear HBO4 HB4
    obtain ⟨A3, c3, e3⟩ := slot_slice HO.out
    subst e3
    by_cases hlt : k < 10
    · have v1 : (k : Int) < 10 := by omega
      have HTK := Lib.hid (HTU.out k hlt)
      have HHL := Lib.hid (hypN_len L x k)
      go_wp2_with fail
      refine (HIM.out X f _ HBR.out k hlt).mono ?_
      rintro _ w6 ⟨S, rfl, hSw, hu, hb6⟩
      have HB6 := Lib.hid (HB.out.trans (hb6.mono HB.out.size)); have HBR6 := Lib.hid (HBR.out.below hb6); have HO6 := Lib.hid (ownsRow_below HO.out hb6); have HU6 := Lib.hid hu
      clear hb6 hu hSw HO HBR HB
      go_wp2_with fail
      refine (boardS_is _ S _ HU6.out HTK.out).mono ?_
      rintro _ w7 ⟨rfl, hb7⟩
      have HB7 := Lib.hid (HB6.out.trans (hb7.mono HB6.out.size)); have HBR7 := Lib.hid (HBR6.out.below hb7); have HO7 := Lib.hid (ownsRow_below HO6.out hb7)
      clear hb7 HO6 HBR6 HB6 HU6
      cases hok : okS (impT L x k) with
      | false =>
        have hn := hypN_no hok
        have HOB := Lib.hid (show w7.ownsRow w.heap.size 9 1 (.slice A3 (hypN L x k).length c3) (hypN L x (k + 1)).length (strV (brdB L x (k + 1))) from by unfold brdB; rw [hn]; exact HO7.out)
        clear hn
        go_wp2_with fail
        go_roundw
        case rel => exact ⟨k + 1, by omega, by go_num, HOB, HBR7, HB7⟩
        case measure => simp [intOf]; omega
      | true =>
        have HSN := Lib.hid (brdB_snoc hok)
        have HLN := Lib.hid (show (hypN L x k).length + 1 = (hypN L x (k + 1)).length from by rw [hypN_yes hok]; simp)
        obtain ⟨m, hm⟩ : ∃ m, m = (hypN L x k).length := ⟨_, rfl⟩
        rw [← hm] at HO7 HHL HLN ⊢
        have hm10 : m ≤ k := HHL.out
        generalize brdX (impT L x k) = O at HSN ⊢
        clear hm hok
        have hbw := HB7.out.size
        go_wp2_with (at_builtin; refine wpList_append_own _ rfl _ _ 33 rfl w.heap.size 9 iB (.string ByteArray.empty) 1 16 Tryz.undS KI.out KZ0.out KZ1.out KZ2.out rfl (by decide) _ m _ rfl (HO7.out.alloc _) ⟨w7.heap.size, 0, none⟩ 1 1 [.string O] rfl rfl (one_new w7 (.string O) 9) one_cell (by unfold maxLen; omega) (by omega) (by simp; omega) ?_)
        intro v' w8 ho' hg' _
        rw [HSN.out, HLN.out] at ho'
        have hb8 : Below w.heap.size w w8 := (HB7.out.alloc HB7.out.size _).grown hg' (Nat.le_trans HB7.out.size (by simp)) fun k' e => (HO7.out.lt k' e).1
        have hbr8 : BomR w8 X L f := bomr_grown HBR7.out HO7.out hg'
        have HO8 := Lib.hid ho'; have HB8 := Lib.hid hb8; have HBR8 := Lib.hid hbr8
        clear ho' hg' hb8 hbr8 hbw
        go_wp2_with fail
        go_roundw
        case rel => exact ⟨k + 1, by omega, by go_num, HO8, HBR8, HB8⟩
        case measure => simp [intOf]; omega
    · have hke : k = 10 := by omega
      subst hke
      have HBL := Lib.hid (brdB_len L x 10)
      go_wp2_with fail
      go_ret
      refine ⟨A3, c3, by rw [HBL.out]; rfl, ?_, HB.out⟩
      rw [HBL.out]; exact HO.out
end Go.Proofs.YtnbdimbhklbadaaGreatDoor
