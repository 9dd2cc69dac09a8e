/-
  Contracts of functions and plain laws that the law's proof uses (parts: LawBo). Conditions: what each theorem names.
-/
import Derived.Deep.RegionHeld3
import Derived.Deep.DeepCutAuto
import Derived.Test.YtnbdimbhklbadaaGreatDoorQBomG
import Derived.Test.YtnbdimbhklbadaaGreatDoorQBomI
import Derived.Test.YtnbdimbhklbadaaGreatDoorQDrawCk
import Derived.Test.YtnbdimbhklbadaaGreatDoorQScA
import Derived.Test.YtnbdimbhklbadaaGreatDoorQDoA
import Derived.Test.YtnbdimbhklbadaaGreatDoorQMachP
namespace Go.Proofs.YtnbdimbhklbadaaGreatDoor
open Go.RowKit Pl
set_option linter.unusedVariables false
theorem invol_prm {p : List Nat} (hl : p.length = 10) (hlt : ∀ x, x < 10 → nth p x < 10) (hb : ∀ x, x < 10 → nth p (nth p x) = x) : Prm p ∧ invP p = p := by
  have hp : Prm p := by
    refine ⟨⟨hl, fun n hn => ?_⟩, ?_⟩
    · obtain ⟨i, hi, rfl⟩ := List.getElem_of_mem hn
      rw [← nth_eq hi]; exact hlt i (by omega)
    · refine List.pairwise_iff_getElem.2 fun i j hi hj hij e => ?_
      rw [← nth_eq hi, ← nth_eq hj] at e
      have h1 := hb i (by omega)
      rw [e, hb j (by omega)] at h1
      omega
  refine ⟨hp, (invP_is hp hl fun j hj => ?_).symm⟩
  have h1 := hlt j (by omega)
  have h2 := hb j (by omega)
  rw [nth_eq hj] at h1 h2
  rw [List.getElem?_eq_getElem (by omega), ← nth_eq (by omega), h2]
theorem brd_prm {L : Nat → List Wir} (hL : ∀ x, x < 10 → ∀ v ∈ L x, WirOk v) {x y : Nat} (hx : x < 10) (hy : y < 10) (ho : okS (impT L x y) = true) : Prm (brdS (impT L x y)) ∧ invP (brdS (impT L x y)) = brdS (impT L x y) := by
  have h := impT_ok hL hx hy
  exact invol_prm (brdT_len _ _) (fun a ha => brdS_lt _ ha) (fun a ha => brdS_back h.1 h.2 ho ha)
theorem hyp_some {q r : List Nat} {rs : List (ByteArray × ByteArray)} {rg : List Nat} {o : ByteArray} {ms : List Lnk} (hq : Prm q) (hi : invP q = q) (hr : Prm r) (hri : invP r = r) (hw : ∀ i, i < rs.length → Prm (wirP rs i)) (hmv : menuV ms) (hc : chkB (keyP q r rs rg o) ms = true) : hypN (wirM r rg rs o ms) (cent ms) 10 ≠ [] := by
  have hK : ∀ k, Prm (keyP (List.range 10) r rs rg o k) := fun k => keyP_prm prm_id10 hr hw k
  have hes := edgs_ok hmv hK
  have hx := cent_lt ms
  have hb := impT_board (L := wirM r rg rs o ms) (P := q) (fun a ha => ⟨nth_ten hq.toTen, inv_nth hq hi ha⟩) (fun x hx v hv => by
    refine wirs_board (es := edgs (keyP (List.range 10) r rs rg o) ms) (P := q) (fun e he => ?_) x v hv
    obtain ⟨h1, h2, h3⟩ := hes e he
    obtain ⟨l, hl, rfl⟩ := List.mem_map.1 he
    have hk := List.all_eq_true.1 hc l hl
    rw [← keeps_same hq hi hr hw l.2.2 h1 h2] at hk
    have hk := eq_of_beq hk
    have hback : nth (keyP (List.range 10) r rs rg o l.2.2) (nth (keyP (List.range 10) r rs rg o l.2.2) (nth q (lx l))) = nth q (lx l) := permW_back (wayC_prm prm_id10 hw _ (Nat.le_refl _)) hr hri (nth_ten hq.toTen)
    exact ⟨h1, h2, fun y => nth_ten h3.toTen, hk, by show nth (keyP (List.range 10) r rs rg o l.2.2) (nth q (ly l)) = nth q (lx l); rw [← hk]; exact hback⟩) hx
  intro e
  have hm : nth q (cent ms) ∈ hypN (wirM r rg rs o ms) (cent ms) 10 := List.mem_filter.2 ⟨List.mem_range.2 (nth_ten hq.toTen), hb⟩
  rw [e] at hm
  cases hm
theorem plugT_ne {q : List Nat} (hq : Prm q) : plugT q ≠ [] := by
  by_cases h : twoS q = []
  · have h1 := plugT_empty q h
    intro e
    rw [e] at h1
    have := congrArg ByteArray.size h1
    rw [size_mk] at this
    cases this
  · have := plugT_long q hq h
    intro e; rw [e] at this; simp at this
def brdF (L : Nat → List Wir) (x k : Nat) : List ByteArray := (hypN L x k).map fun y => mk (plugT (brdS (impT L x y)))
theorem brdF_len (L : Nat → List Wir) (x k : Nat) : (brdF L x k).length = (hypN L x k).length := List.length_map _
theorem brd_fp {L : Nat → List Wir} (hL : ∀ x, x < 10 → ∀ v ∈ L x, WirOk v) {x : Nat} (hx : x < 10) {k : Nat} (hk : k = 10) : FpIs (brdB L x k) (brdF L x k) := by
  intro w' i h h'
  have hok : ∀ y ∈ hypN L x k, Prm (brdS (impT L x y)) ∧ invP (brdS (impT L x y)) = brdS (impT L x y) := fun y hy => by
    obtain ⟨hr, hok⟩ := List.mem_filter.1 hy
    exact brd_prm hL hx (by have := List.mem_range.1 hr; omega) hok
  unfold brdB at h ⊢
  unfold brdF at h' ⊢
  generalize hypN L x k = Y at h h' hok ⊢
  rw [List.length_map] at h
  have hp := hok _ (List.getElem_mem h)
  rw [List.getElem_map, List.getElem_map]
  exact formatPlugs_yes w' _ hp.1 hp.2
theorem texts_join {Fs : List ByteArray} (h1 : ∀ s ∈ Fs, s.size ≤ 40 ∧ tl s ≠ []) (hn : Fs.length ≤ 10) (hne : Fs ≠ []) : (∀ s ∈ Fs, s.size ≤ 100) ∧ (Lib.join (Fs.map tl) [47]).length ≤ 1000 ∧ Lib.join (Fs.map tl) [47] ≠ [] := by
  refine ⟨fun s hs => by have := (h1 s hs).1; omega, ?_, ?_⟩
  · refine Nat.le_trans (join_le _ _ 40 ?_) ?_
    · intro s hs
      obtain ⟨y, hy, rfl⟩ := List.mem_map.1 hs
      rw [length_tl]; exact (h1 y hy).1
    · rw [List.length_map, List.length_singleton]; omega
  · intro e
    cases Fs with
    | nil => exact hne rfl
    | cons a r =>
      rw [List.map_cons, Lib.join_cons] at e
      have h2 := (List.append_eq_nil_iff.1 e).1
      exact (h1 a (by simp)).2 h2
theorem brdF_join {L : Nat → List Wir} (hL : ∀ x, x < 10 → ∀ v ∈ L x, WirOk v) {x : Nat} (hx : x < 10) {k : Nat} (hk : k = 10) (hne : hypN L x k ≠ []) : (∀ s ∈ brdF L x k, s.size ≤ 100) ∧ (Lib.join ((brdF L x k).map tl) [47]).length ≤ 1000 ∧ Lib.join ((brdF L x k).map tl) [47] ≠ [] := by
  have hn := hypN_len L x k
  have hl := brdF_len L x k
  have h1 : ∀ s ∈ brdF L x k, s.size ≤ 40 ∧ tl s ≠ [] := fun s hs => by
    obtain ⟨y, hy, rfl⟩ := List.mem_map.1 hs
    obtain ⟨hr, hok⟩ := List.mem_filter.1 hy
    have hp := brd_prm hL hx (by have := List.mem_range.1 hr; omega) hok
    exact ⟨by rw [size_mk]; exact plugT_len _, by rw [tl_mk]; exact plugT_ne hp.1⟩
  refine texts_join h1 (by rw [hl, ← hk]; exact hn) (fun e => hne ?_)
  rw [e] at hl
  exact List.length_eq_zero_iff.1 hl.symm
theorem bo_text (SU S : ByteArray) (rs : List (ByteArray × ByteArray)) (p g o : ByteArray) (q : List Nat) (ms : List Lnk) (hS : S = mk (menuT ms)) (hSU : tl SU = [machLine rs p g q, windLine o].flatMap (· ++ [10])) :
    tl (SU ++ ⟨#[99, 104, 101, 99, 107, 32]⟩ ++ S ++ ⟨#[10, 115, 116, 111, 112, 115, 32]⟩ ++ S ++ ⟨#[10, 98, 111, 97, 114, 100, 115, 32]⟩ ++ S ++ ⟨#[10]⟩) = [machLine rs p g q, windLine o, checkLine ms, stopsLine ms, boardsLine ms].flatMap (· ++ [10]) := by
  subst hS
  simp only [append_tl, tl_mk]
  rw [hSU, show tl (⟨#[99, 104, 101, 99, 107, 32]⟩ : ByteArray) = [99, 104, 101, 99, 107, 32] from rfl, show tl (⟨#[10, 115, 116, 111, 112, 115, 32]⟩ : ByteArray) = [10, 115, 116, 111, 112, 115, 32] from rfl, show tl (⟨#[10, 98, 111, 97, 114, 100, 115, 32]⟩ : ByteArray) = [10, 98, 111, 97, 114, 100, 115, 32] from rfl, show tl (⟨#[10]⟩ : ByteArray) = [10] from rfl]
  simp [checkLine, stopsLine, boardsLine]
theorem bo_setup (rs : List (ByteArray × ByteArray)) (p g o T : ByteArray) (q : List Nat) (hT : T = mk (machT rs p g q)) :
    tl (⟨#[109, 97, 99, 104, 105, 110, 101, 32]⟩ ++ T ++ ⟨#[10, 119, 105, 110, 100, 111, 119, 115, 32]⟩ ++ o ++ ⟨#[10]⟩) = [machLine rs p g q, windLine o].flatMap (· ++ [10]) := by
  subst hT
  simp only [append_tl, tl_mk]
  rw [show tl (⟨#[109, 97, 99, 104, 105, 110, 101, 32]⟩ : ByteArray) = [109, 97, 99, 104, 105, 110, 101, 32] from rfl, show tl (⟨#[10, 119, 105, 110, 100, 111, 119, 115, 32]⟩ : ByteArray) = [10, 119, 105, 110, 100, 111, 119, 115, 32] from rfl, show tl (⟨#[10]⟩ : ByteArray) = [10] from rfl]
  simp [machLine, windLine]
theorem bo_out (H J : ByteArray) : mk ([111, 107, 10, 111, 107, 10, 121, 101, 115, 10] ++ (tl H ++ [10]) ++ (tl J ++ [10])) = ⟨#[111, 107, 10, 111, 107, 10, 121, 101, 115, 10]⟩ ++ H ++ ⟨#[10]⟩ ++ J ++ ⟨#[10]⟩ := by
  apply tl_inj
  simp only [append_tl, tl_mk]
  rw [show tl (⟨#[111, 107, 10, 111, 107, 10, 121, 101, 115, 10]⟩ : ByteArray) = [111, 107, 10, 111, 107, 10, 121, 101, 115, 10] from rfl, show tl (⟨#[10]⟩ : ByteArray) = [10] from rfl]
  simp
theorem mixed_set {L F : List ByteArray} (hl : L.length = F.length) {k : Nat} (hk : k < L.length) (hk' : k < F.length) : (strV (F.take k ++ L.drop k)).set k (.string F[k]) = strV (F.take (k + 1) ++ L.drop (k + 1)) := by
  have e1 : (F.take k).length = k := by rw [List.length_take]; omega
  unfold strV
  rw [← List.map_set]
  congr 1
  rw [List.set_append_right _ _ (by omega), e1, Nat.sub_self, List.drop_eq_getElem_cons hk, List.set_cons_zero, List.take_succ_eq_append_getElem hk', List.append_assoc]
  rfl
theorem mixed_at {L F : List ByteArray} (hl : L.length = F.length) {k : Nat} (hk : k < L.length) : (strV (F.take k ++ L.drop k))[k]? = some (.string L[k]) := by
  have e1 : (F.take k).length = k := by rw [List.length_take]; omega
  unfold strV
  rw [List.getElem?_map, List.getElem?_append_right (by omega), e1, Nat.sub_self, List.getElem?_drop, Nat.add_zero, List.getElem?_eq_getElem hk]
  rfl
set_option maxHeartbeats 16000000 in
set_option maxRecDepth 100000 in
theorem fnScriptBoards_walk (w : World) (hml : GW w) (A : Option Addr) (cap : Nat) (bs : List UInt8) (h : Rd w w.heap.size A (bytesV bs)) (hc : bs.length ≤ cap) :
    Calls Tryz.prog 3 #[.slice A bs.length cap] w fun e w' => e = .returned (.bool true) ∧ Below w.heap.size w w' := by
  have HML := Lib.hid hml; clear hml
  by_cases hlen : 1048576 < bs.length
  · go_enter Tryz.func3, Tryz.ntmps3
    go_wp2_with fail
    go_ret
    exact ⟨rfl, Below.refl _ _⟩
  · go_enter Tryz.func3, Tryz.ntmps3
    go_wp2_with fail
    refine (drawCheckMenu_any w A cap bs h hc).mono ?_
    rintro _ w1 ⟨A1, cx, rs, p, g, l, o, Am, cm, mz, rfl, hr1, hc1, hm1, hcm1, hrz, hpz, hgz, hlz, hoz, hml24, hmz, hb1⟩
    have HB1 := Lib.hid hb1; clear hb1 h hc hlen
    obtain ⟨w2, hw2⟩ : ∃ w2, w2 = w1.alloc (.cells #[.slice A1 rs.length cx, .string p, .string g, .string l] 27) := ⟨_, rfl⟩
    have hal : Below w1.heap.size w1 w2 := by rw [hw2]; exact (Below.refl _ _).alloc (Nat.le_refl _) _
    have hs2 := SB.made w1 #[.slice A1 rs.length cx, .string p, .string g, .string l] 27
    rw [← hw2] at hs2
    have HB2 := Lib.hid (HB1.out.trans (hal.mono HB1.out.size)); have HR2 := Lib.hid ((hr1.below hal).mono hal.size); have HM2 := Lib.hid ((hm1.below hal).mono hal.size)
    clear hal hr1 hm1 HB1
    have hl : rs.length ≤ 100 := by omega
    have hz1 : ∀ x ∈ mz, x.1.size ≤ 100 ∧ x.2.1.size ≤ 100 := fun x hx => by have := hmz x hx; omega
    have hz2 : ∀ x ∈ mz, -1000000 ≤ x.2.2 ∧ x.2.2 ≤ 1000000 := fun x hx => by have := hmz x hx; omega
    -- both sides' answers
    have hboth : ∃ b : Bool, (∀ w' : World, Below w2.heap.size w2 w' → Calls Tryz.prog 5 #[.agg #[.slice A1 rs.length cx, .string p, .string g, .string l], .string o, .slice Am mz.length cm] w' fun e w'' => e = .returned (.bool b) ∧ Below w'.heap.size w' w'') ∧
        (∀ w' : World, Below w2.heap.size w2 w' → Calls Tryz.prog 6 #[.agg #[.slice A1 rs.length cx, .string p, .string g, .string l], .string o, .slice Am mz.length cm] w' fun e w'' => e = .returned (.bool b) ∧ Below w'.heap.size w' w'') ∧
        (b = true → ∃ (r q rg : List Nat), Prm r ∧ invP r = r ∧ p = pT r ∧ Prm q ∧ invP q = q ∧ l = pT q ∧ g = pT rg ∧ rg.length = rs.length ∧ (∀ x ∈ rg, x < 10) ∧ SetV rs p g l o ∧ menuZ mz ∧ chkB (keyP q r rs rg o) (toL mz) = true) := by
      by_cases hv : SetV rs p g l o ∧ menuZ mz
      · obtain ⟨hv, hmz2⟩ := hv
        obtain ⟨r, q, rg, ws, hr, hri, rfl, hq, hi, rfl, rfl, hrg, hrl, ho, hws, hwl⟩ := setV_parts hv
        have hwi : ∀ i, i < rs.length → Prm (wirP rs i) := fun i hi => (wir_ok hv.1.1.1.2.2.2 hi).1
        obtain ⟨hlk, hmv⟩ := menuZ_to hmz2
        have hln := toL_length mz
        have hme := menuV_ok hmv
        refine ⟨chkB (keyP q r rs rg o) (toL mz), fun w' hb' => ?_, fun w' hb' => ?_, fun hb => ⟨r, q, rg, hr, hri, rfl, hq, hi, rfl, rfl, hrg, hrl, hv, hmz2, hb⟩⟩
        · have h1 := (HM2.out.below hb').mono hb'.size
          rw [hlk] at h1
          have h2 := checkMenu_is w' A1 cx rs r q rg o ((HR2.out.below hb').mono hb'.size) hc1 hv hr hri hq hi hrg hrl Am cm (toL mz) h1 (by rw [hln]; exact hcm1) hmv
          rw [hln] at h2
          exact h2
        · have h1 := (HM2.out.below hb').mono hb'.size
          rw [hlk] at h1
          have h2 := sCheckMenu_yes w' A1 cx rs (pT r) (pT rg) o q (keyP q r rs rg o) (keyP (List.range 10) r rs rg o) ((HR2.out.below hb').mono hb'.size) hc1 hl hv hq (fun k => keyP_prm prm_id10 hr hwi k) (perms_bare hv hr hrg hrl A1 cx hc1) Am cm (toL mz) h1 (by rw [hln]; exact hcm1) hmv mz hmz2 hlk hln.symm (fun x hx => by
            obtain ⟨_, _, _, e1, h3⟩ := one_letter (hme x hx).s1 (hme x hx).w1
            obtain ⟨_, _, _, e2, h4⟩ := one_letter (hme x hx).s2 (hme x hx).w2
            exact keeps_same hq hi hr hwi x.2.2 (by rw [← e1] at h3; exact h3) (by rw [← e2] at h4; exact h4))
          rw [hln] at h2
          exact h2
      · exact ⟨false, fun w' hb' => checkMenu_no w' A1 cx rs p g l o ((HR2.out.below hb').mono hb'.size) hc1 hl Am cm mz ((HM2.out.below hb').mono hb'.size) hcm1 hz1 hv, fun w' hb' => sCheckMenu_no w' A1 cx rs p g l o ((HR2.out.below hb').mono hb'.size) hc1 hl Am cm mz ((HM2.out.below hb').mono hb'.size) hcm1 (by omega) hz2 hv, fun e => by cases e⟩
    obtain ⟨b, hi1, hs1, hgood⟩ := hboth
    have HI1 := Lib.hid hi1; have HS1 := Lib.hid hs1; have HGD := Lib.hid hgood
    clear hi1 hs1 hgood hz1 hz2 hmz
    obtain ⟨M, hM⟩ : ∃ M, M = rs.length := ⟨_, rfl⟩
    obtain ⟨n, hn⟩ : ∃ n, n = mz.length := ⟨_, rfl⟩
    have HMN := Lib.hid (And.intro hM hn)
    rw [← hM, ← hn] at HI1 HS1
    rw [← hM] at hw2 hs2 hc1 hl
    rw [← hn] at hcm1 hml24
    rw [← hM, ← hn]
    have HS2 := Lib.hid hs2
    obtain ⟨P, hP⟩ : ∃ P, P = w1.heap.size := ⟨_, rfl⟩
    rw [← hP] at HS2
    clear hs2 hM hn
    have HW2 := Lib.hid (And.intro hw2 hP)
    obtain ⟨⟨a0, a1, a2, a3⟩, _⟩ := HS2.out.all4
    clear hw2 hP
    go_upto_region 4 with fail
    rw [← HW2.out.1, ← HW2.out.2]
    go_wp2_with fail
    refine (HI1.out _ (Below.refl _ _)).mono ?_
    rintro _ w3 ⟨rfl, hb3⟩
    have HB3 := Lib.hid (HB2.out.trans (hb3.mono HB2.out.size)); have HS3 := Lib.hid (HS2.out.below hb3); have HT3 := Lib.hid hb3
    clear hb3 a0 a1 a2 a3
    obtain ⟨⟨a0, a1, a2, a3⟩, _⟩ := HS3.out.all4
    cases b with
    | false =>
      clear HGD
      go_wp2_with fail
      refine (HS1.out _ HT3.out).mono ?_
      rintro _ w4 ⟨rfl, hb4⟩
      have HB4 := Lib.hid (HB3.out.trans (hb4.mono HB3.out.size)); have HS4 := Lib.hid (HS3.out.below hb4); have HT4 := Lib.hid (bel_onM HT3.out hb4)
      clear hb4 a0 a1 a2 a3
      obtain ⟨⟨a0, a1, a2, a3⟩, _⟩ := HS4.out.all4
      go_wp2_with fail
      refine (HS1.out _ HT4.out).mono ?_
      rintro _ w5 ⟨rfl, hb5⟩
      have HB5 := Lib.hid (HB4.out.trans (hb5.mono HB4.out.size))
      clear hb5 a0 a1 a2 a3
      go_wp2_with fail
      go_ret
      exact ⟨rfl, HB5.out⟩
    | true =>
      obtain ⟨r, q, rg, hr, hri, rfl, hq, hqi, rfl, rfl, hrg, hrl, hv, hmz2, hck⟩ := HGD.out rfl
      clear HGD HI1
      obtain ⟨hM, hn⟩ := HMN.out
      obtain ⟨hlk, hmv⟩ := menuZ_to hmz2
      have hln := toL_length mz
      obtain ⟨ms, hms⟩ : ∃ ms, ms = toL mz := ⟨_, rfl⟩
      rw [← hms] at hlk hmv hln hck
      have hwi : ∀ i, i < rs.length → Prm (wirP rs i) := fun i hi => (wir_ok hv.1.1.1.2.2.2 hi).1
      have hbw : ∀ W : World, Below w2.heap.size w2 W → Below w.heap.size w W := fun W hb => HB2.out.trans (hb.mono HB2.out.size)
      have hnm : n = ms.length := by rw [hn, hln]
      have hrdl : ∀ W : World, Below w2.heap.size w2 W → Rd W W.heap.size Am (linkV ms) := fun W hb => by
        have h1 := (HM2.out.below hb).mono hb.size
        rw [hlk] at h1; exact h1
      have hrdr : ∀ W : World, Below w2.heap.size w2 W → Rd W W.heap.size A1 (rotV rs) := fun W hb => (HR2.out.below hb).mono hb.size
      have hne := hyp_some hq hqi hr hri hwi hmv hck
      have hLo : ∀ x, x < 10 → ∀ v ∈ wirM r rg rs o ms x, WirOk v := fun x hx v hvv => (wirs_ok (edgs_ok hmv (fun k => keyP_prm prm_id10 hr hwi k)) x v hvv).1
      have hx := cent_lt ms
      have hfp := brd_fp hLo hx (k := 10) rfl
      have hjn := brdF_join hLo hx (k := 10) rfl hne
      have hLl := brdB_len (wirM r rg rs o ms) (cent ms) 10
      have hFl := brdF_len (wirM r rg rs o ms) (cent ms) 10
      have hHl := hypB_len (wirM r rg rs o ms) (cent ms) 10
      have hNl := hypN_len (wirM r rg rs o ms) (cent ms) 10
      have hN0 := List.length_pos_iff.2 hne
      have hfm := fun (W : World) (hb : Below w2.heap.size w2 W) => formatMenu_any W (HML.out.below (hbw W hb) (Nat.le_refl _)) Am cm ms (hrdl W hb) (by rw [← hnm]; exact hcm1) hmv
      have hmb0 := fun (W : World) (A' : Option Addr) (c' : Nat) (hr' : Rd W W.heap.size A' (rotV rs)) (hc' : rs.length ≤ c') (Am' : Option Addr) (cm' : Nat) (hm' : Rd W W.heap.size Am' (linkV ms)) (hcm' : ms.length ≤ cm') => menuBoards_is W A' c' rs r q rg o hr' hc' hv hr hri hrg hrl Am' cm' ms hm' hcm' hmv
      have hhy0 := fun (W : World) (A' : Option Addr) (c' : Nat) (hr' : Rd W W.heap.size A' (rotV rs)) (hc' : rs.length ≤ c') (Am' : Option Addr) (cm' : Nat) (hm' : Rd W W.heap.size Am' (linkV ms)) (hcm' : ms.length ≤ cm') => hypotheses_is W A' c' rs r q rg o hr' hc' hv hr hri hrg hrl Am' cm' ms hm' hcm' hmv hne
      obtain ⟨L, hL⟩ : ∃ L, L = brdB (wirM r rg rs o ms) (cent ms) 10 := ⟨_, rfl⟩
      obtain ⟨F, hF⟩ : ∃ F, F = brdF (wirM r rg rs o ms) (cent ms) 10 := ⟨_, rfl⟩
      obtain ⟨H, hH⟩ : ∃ H, H = mk (hypB (wirM r rg rs o ms) (cent ms) 10) := ⟨_, rfl⟩
      have hHz : H.size = (hypN (wirM r rg rs o ms) (cent ms) 10).length := by rw [hH, size_mk]; exact hHl
      rw [← hL] at hfp hLl hmb0
      rw [← hF] at hfp hjn hFl
      rw [← hH] at hhy0
      generalize (hypN (wirM r rg rs o ms) (cent ms) 10).length = nN at hLl hFl hNl hN0 hHz
      have hLF : L.length = F.length := by omega
      have hH100 : H.size ≤ 100 := by omega
      have hL10 : L.length ≤ 10 := by omega
      have hL1 : 0 < L.length := by omega
      have hH10 : H.size ≤ 10 := by omega
      have hF0 : F ≠ [] := fun e => by rw [e] at hFl; simp at hFl; omega
      have hH0 : tl H ≠ [] := fun e => by have := congrArg List.length e; rw [length_tl, List.length_nil] at this; omega
      obtain ⟨J, hJ⟩ : ∃ J, J = mk (Lib.join (F.map tl) [47]) := ⟨_, rfl⟩
      have hJz : J.size ≤ 1000 := by rw [hJ, size_mk]; exact hjn.2.1
      have hJ0 : tl J ≠ [] := by rw [hJ, tl_mk]; exact hjn.2.2
      have hck2 : ChkIs (deskM rs (pT r) (pT rg) q o []) ms := fun w' a Am' cm' ho' hm' hc' => by
        have h1 := checkMenu_is w' a.Ar a.cr rs r q rg o (own_rd2 ho'.r) (own_le2 ho'.r) hv hr hri hq hqi hrg hrl Am' cm' ms hm' hc' hmv
        rw [hck] at h1; exact h1
      have hhy2 : HypIs (deskM rs (pT r) (pT rg) q o []) ms H := fun w' a Am' cm' ho' hm' hc' => hhy0 w' a.Ar a.cr (own_rd2 ho'.r) (own_le2 ho'.r) Am' cm' hm' hc'
      have hbr2 : BrdIs (deskM rs (pT r) (pT rg) q o []) ms L := fun w' a Am' cm' ho' hm' hc' => hmb0 w' a.Ar a.cr (own_rd2 ho'.r) (own_le2 ho'.r) Am' cm' hm' hc'
      obtain ⟨SU, hSU⟩ : ∃ SU : ByteArray, SU = ⟨#[109, 97, 99, 104, 105, 110, 101, 32]⟩ ++ mk (machT rs (pT r) (pT rg) q) ++ ⟨#[10, 119, 105, 110, 100, 111, 119, 115, 32]⟩ ++ o ++ ⟨#[10]⟩ := ⟨_, rfl⟩
      have hsu := bo_setup rs (pT r) (pT rg) o _ q rfl
      rw [← hSU] at hsu
      have hSUz : SU.size ≤ 200 := by
        have zm := @machT_len rs (pT r) (pT rg) q hv.1.1
        rw [hSU]
        simp only [ByteArray.size_append, size_mk]
        have z1 : (⟨#[109, 97, 99, 104, 105, 110, 101, 32]⟩ : ByteArray).size = 8 := rfl
        have z2 : (⟨#[10, 119, 105, 110, 100, 111, 119, 115, 32]⟩ : ByteArray).size = 9 := rfl
        have z3 : (⟨#[10]⟩ : ByteArray).size = 1 := rfl
        omega
      have hse := fun (W : World) (hb : Below w2.heap.size w2 W) => rcSetup_ok W A1 cx rs (pT r) (pT rg) o q (hrdr W hb) (by rw [← hM]; exact hc1) hv.1.1 hq hqi (by omega)
      rw [← hSU] at hse
      obtain ⟨S, hS⟩ : ∃ S, S = mk (menuT ms) := ⟨_, rfl⟩
      have hSz : S.size ≤ 1000 := by rw [hS, size_mk]; exact len_menuT hmv
      rw [← hS] at hfm
      have htx := bo_text SU S rs (pT r) (pT rg) o q ms hS hsu
      have hrun := fun (W : World) (hg' : GW W) => run_boards W hg' _ rs (pT r) (pT rg) o q ms H J L F hv.1.1 hq hqi hv.2.1 hv.2.2 hmv hH0 hH100 hLF hF0 hL10 hJ hJz hJ0 hfp hck2 hhy2 hbr2 htx
      rw [bo_out] at hrun
      have hmb := fun (W : World) (hb : Below w2.heap.size w2 W) => hmb0 W A1 cx (hrdr W hb) (by rw [← hM]; exact hc1) Am cm (hrdl W hb) (by rw [← hnm]; exact hcm1)
      have hhy := fun (W : World) (hb : Below w2.heap.size w2 W) => hhy0 W A1 cx (hrdr W hb) (by rw [← hM]; exact hc1) Am cm (hrdl W hb) (by rw [← hnm]; exact hcm1)
      obtain ⟨nl, hnl⟩ : ∃ nl, nl = L.length := ⟨_, rfl⟩
      have hnl10 : nl ≤ 10 := by rw [hnl]; exact hL10
      have hnl1 : 0 < nl := by rw [hnl]; exact hL1
      rw [← hM, ← hnm] at hmb hhy
      rw [← hnm] at hfm
      rw [← hM] at hse
      rw [← hnl] at hmb
      have HFM := Lib.hid hfm; have HMB := Lib.hid hmb; have HHY := Lib.hid hhy; have HSE := Lib.hid hse; have HRUN := Lib.hid hrun; have HFP := Lib.hid hfp; have HLF := Lib.hid hLF; have HNL := Lib.hid hnl; have HJJ := Lib.hid (And.intro hJ (And.intro hF0 hjn.1)); have HHZ := Lib.hid hH10; have HBW := Lib.hid hbw
      clear htx hH100 hL10 hL1 hH10 hrun hfm hmb hmb0 hhy hhy0 hse hfp hjn hLl hFl hHl hNl hN0 hHz hLF hF0 hH0 hJ hJ0 hck2 hhy2 hbr2 hSU hsu hS hlk hmv hln hck hwi hbw hnm hrdl hrdr hne hLo hx hM hn hms hmz2 hv hrl hrg hqi hq hri hr hL hF hH hnl HMN
      generalize pT r = T1 at *
      generalize pT rg = T2 at *
      generalize pT q = T3 at *
      go_wp2_with fail
      refine (HS1.out _ HT3.out).mono ?_
      rintro _ w4 ⟨rfl, hb4⟩
      have HS4 := Lib.hid (HS3.out.below hb4); have HT4 := Lib.hid (bel_onM HT3.out hb4)
      clear hb4 a0 a1 a2 a3 HS1 HS3 HT3 HB3
      obtain ⟨⟨a0, a1, a2, a3⟩, _⟩ := HS4.out.all4
      go_wp2_with fail
      refine (HFM.out _ HT4.out).mono ?_
      rintro _ w5 ⟨rfl, hb5⟩
      have HS5 := Lib.hid (HS4.out.below hb5); have HT5 := Lib.hid (bel_onM HT4.out hb5)
      clear hb5 a0 a1 a2 a3 HFM HS4 HT4
      obtain ⟨⟨a0, a1, a2, a3⟩, _⟩ := HS5.out.all4
      go_wp2_with fail
      refine (HMB.out _ HT5.out).mono ?_
      rintro _ w6 ⟨A6, c6, rfl, ho6, hb6⟩
      have HS6 := Lib.hid (HS5.out.below hb6); have HT6 := Lib.hid (bel_onM HT5.out hb6)
      obtain ⟨G, c6', e6⟩ := own_some ho6 hnl1
      simp only [Value.slice.injEq] at e6
      obtain ⟨rfl, -, rfl⟩ := e6
      have ho6' := own_mono3 ho6 (show P + 1 ≤ w5.heap.size from HS5.out.lt)
      have HO6 := Lib.hid (show w6.ownsRow (P + 1) 9 1 (.slice (some ⟨G, 0, none⟩) nl c6) nl (strV (F.take 0 ++ L.drop 0)) from ho6')
      have HGE := Lib.hid (show w2.heap.size ≤ G from by have h1 := (ho6.lt G rfl).1; have h2 := HT5.out.size; omega)
      clear hb6 ho6 ho6' a0 a1 a2 a3 HMB HS5 HT5
      go_wp2_with fail
      go_loopw [9] (fun i wr => ∃ k : Nat, k ≤ nl ∧ i = .int .i64 k ∧ Hid (wr.ownsRow (P + 1) 9 1 (.slice (some ⟨G, 0, none⟩) nl c6) nl (strV (F.take k ++ L.drop k))) ∧ Hid (SB wr P #[.slice A1 M cx, .string T1, .string T2, .string T3] 27) ∧ Hid (Below w2.heap.size w2 wr)) (fun i _ => nl - (intOf i).toNat)
      case atStart => exact ⟨0, Nat.zero_le _, rfl, HO6, HS6, HT6⟩
      case round =>
        clear HO6 HS6 HT6
        obtain ⟨k, hk, rfl, HO, HS, HT⟩ := hrel
        by_cases hlt : k < nl
        · have hkl : k < L.length := by rw [← HNL.out]; exact hlt
          have hkf : k < F.length := by rw [← HLF.out]; exact hkl
          have c0 : wr.cell? ⟨G, k, none⟩ = some (.string L[k]) := by rw [HO.out.cellAt k (by omega)]; exact mixed_at HLF.out hkl
          have hfp := fun (W : World) => HFP.out W k hkl hkf
          have hst := mixed_set HLF.out hkl hkf
          generalize L[k] = x at c0 hfp
          generalize F[k] = f at hfp hst
          have HF1 := Lib.hid hfp; have HST := Lib.hid hst
          have hkn : k < nl * 1 := by omega
          clear hfp hst hkl hkf
          go_wp2_with fail
          refine (HF1.out _).mono ?_
          rintro _ w7 ⟨rfl, hb7⟩
          have HO7 := Lib.hid (ownsRow_below HO.out hb7); have HS7 := Lib.hid (HS.out.below hb7); have HT7 := Lib.hid (bel_onM HT.out hb7)
          have d0 : w7.cell? ⟨G, k, none⟩ = some (.string x) := (hb7.cell (p := ⟨G, k, none⟩) (World.block_lt_of_cell? _ _ c0)).trans c0
          have f0 := HO7.out.frozenAt k
          have hs7 := HO7.out.stored k (.string f)
          rw [HST.out] at hs7
          have hGP : G ≠ P := by have := (HO7.out.lt G rfl).1; omega
          have HO8 := Lib.hid hs7.1
          have HS8 := Lib.hid (HS7.out.far (fun e => hGP e.symm) k (.string f))
          have HT8 := Lib.hid (HT7.out.setCell (p := ⟨G, k, none⟩) HGE.out (.string f))
          clear hb7 hs7 c0 HO HS HT
          go_wp2_with fail
          go_roundw
          case rel => exact ⟨k + 1, by omega, by go_num, HO8, HS8, HT8⟩
          case measure => simp [intOf]; omega
        · have hke : k = nl := by omega
          subst hke
          have ho := HO.out
          have hFn : (F.take k ++ L.drop k) = F := by
            have h1 := HNL.out; have h2 := HLF.out
            rw [List.take_of_length_le (by omega), List.drop_of_length_le (by omega), List.append_nil]
          rw [hFn] at ho
          have HRF := Lib.hid (own_rd2 ho)
          have hkc := own_le2 ho
          have hnF : k = F.length := by have h1 := HNL.out; have h2 := HLF.out; omega
          have hrj := fun (W : World) (hb : Below wr.heap.size wr W) => rcJoin_any W (some ⟨G, 0, none⟩) c6 F (mk [47]) ((HRF.out.below hb).mono hb.size) (by omega) (by omega) HJJ.out.2.2 (by decide)
          rw [tl_mk, ← HJJ.out.1, ← hnF] at hrj
          have HRJ := Lib.hid hrj
          clear ho hFn hrj hnF HO
          obtain ⟨⟨a0, a1, a2, a3⟩, _⟩ := HS.out.all4
          have y1 : ¬ 9223372036854775807 < SU.size + 6 := by omega
          go_upto_region 13 with fail
          go_wp2_with fail
          refine (HSE.out _ HT.out).mono ?_
          rintro _ w7 ⟨rfl, hb7⟩
          have HS7 := Lib.hid (HS.out.below hb7); have HT7 := Lib.hid (bel_onM HT.out hb7); have HR7 := Lib.hid hb7
          clear hb7 a0 a1 a2 a3 HS HT HSE
          have y2 : ¬ 9223372036854775807 < SU.size + 6 + S.size := by omega
          have y3 : ¬ 9223372036854775807 < SU.size + 6 + S.size + 7 := by omega
          have y4 : ¬ 9223372036854775807 < SU.size + 6 + S.size + 7 + S.size := by omega
          have y5 : ¬ 9223372036854775807 < SU.size + 6 + S.size + 7 + S.size + 8 := by omega
          have y6 : ¬ 9223372036854775807 < SU.size + 6 + S.size + 7 + S.size + 8 + S.size := by omega
          have y7 : ¬ 9223372036854775807 < SU.size + 6 + S.size + 7 + S.size + 8 + S.size + 1 := by omega
          go_upto_region 14 with fail
          clear y1 y2 y3 y4 y5 y6 y7
          have hHz := HHZ.out
          have z1 : ¬ 9223372036854775807 < 10 + H.size := by omega
          have z2 : ¬ 9223372036854775807 < 10 + H.size + 1 := by omega
          have z3 : ¬ 9223372036854775807 < 10 + H.size + 1 + J.size := by omega
          have z4 : ¬ 9223372036854775807 < 10 + H.size + 1 + J.size + 1 := by omega
          have hfin : ((⟨#[111, 107, 10, 111, 107, 10, 121, 101, 115, 10]⟩ ++ H ++ ⟨#[10]⟩ ++ J ++ ⟨#[10]⟩ : ByteArray).toList == (⟨#[111, 107, 10, 111, 107, 10, 121, 101, 115, 10]⟩ ++ H ++ ⟨#[10]⟩ ++ J ++ ⟨#[10]⟩ : ByteArray).toList) = true := beq_self_eq_true _
          have HRR := Lib.hid (fun (W : World) (hb : Below w7.heap.size w7 W) => HRUN.out W (HML.out.below (HBW.out W (bel_onM HT7.out hb)) (Nat.le_refl _)))
          have HYY := Lib.hid (fun (W : World) (hb : Below w7.heap.size w7 W) => HHY.out W (bel_onM HT7.out hb))
          have HJY := Lib.hid (fun (W : World) (hb : Below w7.heap.size w7 W) => HRJ.out W (bel_onM HR7.out hb))
          have HCC := Lib.hid (fun (W : World) (hb : Below w7.heap.size w7 W) => (HS7.out.below hb).all4.1)
          have hbr : Below w7.heap.size w7 w7 := Below.refl _ _
          have hbd : Below w7.heap.size w7 w7.drew := (Below.refl _ _).drew
          clear hHz HRUN HHY HRJ
          go_region_held3 (fun W => W.cell? ⟨P, 0, none⟩ = some (.slice A1 M cx) ∧ W.cell? ⟨P, 1, none⟩ = some (.string T1) ∧ W.cell? ⟨P, 2, none⟩ = some (.string T2) ∧ W.cell? ⟨P, 3, none⟩ = some (.string T3)) (first | with_reducible assumption | with_reducible exact HCC.out _ (by with_reducible assumption) | with_reducible exact HCC.out _ (below_drewN' (by with_reducible assumption) q10) | fail) (first | (go_at_call 11; refine (HRR.out _ (by with_reducible assumption)).mono ?_; rintro _ w8 ⟨rfl, hb8⟩; have b8 := bel_onM (a := w7) (by with_reducible assumption) hb8) | (go_at_call 12; refine (HYY.out _ (by with_reducible assumption)).mono ?_; rintro _ w9 ⟨rfl, hb9⟩; have b9 := bel_onM (a := w7) (by with_reducible assumption) hb9) | (go_at_call 13; refine (HJY.out _ (by with_reducible assumption)).mono ?_; rintro _ _ ⟨rfl, q10, rfl⟩) | fail)
          all_goals
            have HBF := Lib.hid (HBW.out _ (bel_onM HT7.out (below_drewN' b9 q10)))
            clear z1 z2 z3 z4 hb8 hb9 b8 b9 hbr hbd hfin
            go_wp2_with fail
            go_ret
            exact ⟨rfl, HBF.out⟩
end Go.Proofs.YtnbdimbhklbadaaGreatDoor
