/-
  Contracts of functions and plain laws that the law's proof uses (parts: BomH). Conditions: what each theorem names.
-/
import Derived.BigQuiet
import Derived.Test.YtnbdimbhklbadaaGreatDoorQBoA
namespace Go.Proofs.YtnbdimbhklbadaaGreatDoor
open Go.RowKit Pl
set_option linter.unusedVariables false
def chkB (K : Nat → List Nat) (ms : List Lnk) : Bool := ms.all fun l => nth (K l.2.2) (lx l) == ly l
set_option maxHeartbeats 8000000 in
set_option maxRecDepth 100000 in
theorem checkMenu_is (w : World) (A : Option Addr) (cap : Nat) (rs : List (ByteArray × ByteArray)) (r q rg : List Nat) (o : ByteArray) (h : Rd w w.heap.size A (rotV rs)) (hc : rs.length ≤ cap) (hv : SetV rs (pT r) (pT rg) (pT q) o) (hr : Prm r) (hri : invP r = r) (hq : Prm q) (hqi : invP q = q) (hrg : rg.length = rs.length) (hrl : ∀ x ∈ rg, x < 10)
    (Am : Option Addr) (cm : Nat) (ms : List Lnk) (hm : Rd w w.heap.size Am (linkV ms)) (hmc : ms.length ≤ cm) (hmv : menuV ms) :
    Calls Tryz.prog 5 #[.agg #[.slice A rs.length cap, .string (pT r), .string (pT rg), .string (pT q)], .string o, .slice Am ms.length cm] w fun e w' => e = .returned (.bool (chkB (keyP q r rs rg o) ms)) ∧ Below w.heap.size w w' := by
  have hK : ∀ k, Prm (keyP q r rs rg o k) := fun k => keyP_prm hq hr (fun i hi => (wir_ok hv.1.1.1.2.2.2 hi).1) k
  obtain ⟨w0, hw0⟩ : ∃ w0, w0 = w.alloc (.cells #[.slice A rs.length cap, .string (pT r), .string (pT rg), .string (pT q)] 27) := ⟨_, rfl⟩
  have hb0 : Below w.heap.size w w0 := by rw [hw0]; exact (Below.refl _ _).alloc (Nat.le_refl _) _
  have hs0 := SB.made w #[.slice A rs.length cap, .string (pT r), .string (pT rg), .string (pT q)] 27
  rw [← hw0] at hs0
  have hcon := settingValid_any w0 A cap rs (pT r) (pT rg) (pT q) o true ((h.below hb0).mono hb0.size) hc (by have := hv.1.1.1.2.1; omega) (by simp [hv])
  have hmvc := fun (w' : World) (hb : Below w.heap.size w w') => menuValid_true w' Am cm ms ((hm.below hb).mono hb.size) hmc hmv
  have hmk := fun (w' : World) (hb : Below w.heap.size w w') => menuKeys_is w' A cap rs r q rg o ((h.below hb).mono hb.size) hc hv hr hri hq hqi hrg hrl Am cm ms ((hm.below hb).mono hb.size) hmc hmv
  have hok := menuV_ok hmv
  obtain ⟨n, hn⟩ : ∃ n, n = ms.length := ⟨_, rfl⟩
  have hn12 : n ≤ 12 := by rw [hn]; exact hmv.2.1
  obtain ⟨N, hN⟩ : ∃ N, N = rs.length := ⟨_, rfl⟩
  rw [← hn] at hmvc hmk ⊢
  rw [← hN] at hcon hmk hs0 hw0 ⊢
  generalize keyP q r rs rg o = K at *
  have HMR := Lib.hid hm; have HOK := Lib.hid hok; have HN := Lib.hid hn; have HK := Lib.hid hK
  have HB0 := Lib.hid hb0; have HCON := Lib.hid hcon; have HMV := Lib.hid hmvc; have HMK := Lib.hid hmk
  clear h hc hv hr hri hrg hrl hm hmc hmv hb0 hcon hmvc hmk hn hN hq hqi hok hK
  generalize pT r = T1 at *
  generalize pT rg = T2 at *
  generalize pT q = T3 at *
  obtain ⟨P, hP⟩ : ∃ P, P = w.heap.size := ⟨_, rfl⟩
  rw [← hP] at hs0
  have HS0 := Lib.hid hs0
  obtain ⟨⟨c0, c1, c2, c3⟩, _⟩ := hs0.all4
  clear hs0
  go_enter Tryz.func5, Tryz.ntmps5
  go_wp2_with fail
  rw [← hw0]
  rw [← hP]
  clear hw0 hP
  go_wp2_with fail
  refine HCON.out.mono ?_
  rintro _ w1 ⟨rfl, hb1⟩
  have HB1 := Lib.hid (HB0.out.trans (hb1.mono HB0.out.size)); have HS1 := Lib.hid (HS0.out.below hb1)
  clear hb1 c0 c1 c2 c3 HCON HB0 HS0
  obtain ⟨⟨c0, c1, c2, c3⟩, _⟩ := HS1.out.all4
  go_wp2_with fail
  refine (HMV.out _ HB1.out).mono ?_
  rintro _ w2 ⟨rfl, hb2⟩
  have HB2 := Lib.hid (HB1.out.trans (hb2.mono HB1.out.size)); have HS2 := Lib.hid (HS1.out.below hb2)
  clear hb2 c0 c1 c2 c3 HMV HB1 HS1
  obtain ⟨⟨c0, c1, c2, c3⟩, _⟩ := HS2.out.all4
  go_wp2_with fail
  refine (HMK.out _ HB2.out).mono ?_
  rintro _ w3 ⟨A2, a2, rfl, ho3, hb3⟩
  have HB3 := Lib.hid (HB2.out.trans (hb3.mono HB2.out.size))
  have hl10 : ∀ x ∈ keysL K ms, x.length = 10 := fun x hx => by
    obtain ⟨l, _, rfl⟩ := List.mem_map.1 hx
    exact (HK.out _).len
  have HKR := Lib.hid (own_rd3' ho3)
  have hkn := own_le3 ho3
  have HL10 := Lib.hid hl10
  clear hb3 c0 c1 c2 c3 HMK HB2 HS2 ho3 hl10
  go_wp2_with fail
  go_loopw [25] (fun i wr => ∃ k : Nat, k ≤ n ∧ i = .int .i64 k ∧ Hid (∀ j (hj : j < ms.length), j < k → (nth (K ms[j].2.2) (lx ms[j]) == ly ms[j]) = true) ∧ Hid (Below w3.heap.size w3 wr)) (fun i _ => n - (intOf i).toNat)
  case atStart => exact ⟨0, Nat.zero_le _, rfl, Lib.hid (fun j hj hk => by omega), Lib.hid (Below.refl _ _)⟩
  case round =>
    obtain ⟨k, hk, rfl, HJ, HBL⟩ := hrel
    by_cases hlt : k < n
    · have hkm : k < ms.length := by rw [← HN.out]; exact hlt
      have hbw : Below w.heap.size w wr := HB3.out.trans (HBL.out.mono HB3.out.size)
      obtain ⟨b0, off, hA, hbb, c0, c1, c2⟩ := (HMR.out.below hbw).link hkm
      subst hA
      have hok := HOK.out _ (List.getElem_mem hkm)
      obtain ⟨p0, p1, p2, p3⟩ := letter_at hok.s1 hok.w1
      obtain ⟨q0, q1, q2, q3⟩ := letter_at hok.s2 hok.w2
      have hkl : k < (keysL K ms).length := by rw [keysL_len]; exact hkm
      have hkne : pF (keysL K ms) ≠ [] := by
        intro e
        have h1 := pF_length _ HL10.out
        rw [e, keysL_len, List.length_nil] at h1; omega
      have hkr := HKR.out
      obtain ⟨kb, ko, hkA, hkb, hkc⟩ := hkr hkne
      have hkq : (keysL K ms)[k] = K ms[k].2.2 := by simp [keysL]
      have hra := pF_range HL10.out (fun j hj => (hkc j hj).trans (List.getElem?_eq_getElem hj).symm) hkl
      rw [hkq] at hra
      have hra' := rangeAt_below hra HBL.out
      have HJN := Lib.hid (fun (hh : (nth (K ms[k].2.2) (lx ms[k]) == ly ms[k]) = true) => (show ∀ j (hj : j < ms.length), j < k + 1 → (nth (K ms[j].2.2) (lx ms[j]) == ly ms[j]) = true from fun j hj hk2 => by
        by_cases e : j = k
        · subst e; exact hh
        · exact HJ.out j hj (by omega)))
      have HFA := Lib.hid (fun (hh : (nth (K ms[k].2.2) (lx ms[k]) == ly ms[k]) = false) => (show chkB K ms = false from by
        unfold chkB
        rw [List.all_eq_false]
        exact ⟨_, List.getElem_mem hkm, by rw [hh]; simp⟩))
      have hpl : (K ms[k].2.2).length = 10 := (HK.out _).len
      have hx10 : lx ms[k] < 10 := p3
      have HN1 := Lib.hid (fun w' => number_any _ w' p1)
      have HN2 := Lib.hid (fun w' => number_any _ w' q1)
      rw [p2] at HN1
      rw [q2] at HN2
      have ck : wr.cell? ⟨kb, ko + k * 10 + lx ms[k], none⟩ = some (.int .u8 (nth (K ms[k].2.2) (lx ms[k]) : Int)) := by
        refine hra' (lx ms[k]) _ ?_
        show (pV _)[_]? = _
        rw [nth_eq (by omega)]
        simp [pV, hpl, hx10]
      have hn10 : nth (K ms[k].2.2) (lx ms[k]) < 10 := nth_ten (HK.out _).toTen
      subst hkA
      clear hkne hkr hkc hkq hra hra' hpl hkl p1 p2 q1 q2 hok hbw
      unfold lx ly at *
      generalize ms[k] = l at *
      obtain ⟨s, t, key⟩ := l
      simp only at *
      have hp0 : 0 < s.size := p0
      have hq0 : 0 < t.size := q0
      have hy10 : d1 t < 10 := q3
      clear p3 q3
      generalize d1 s = x at *
      generalize d1 t = y at *
      generalize nth (K key) x = z at *
      obtain ⟨W1, hW1⟩ : ∃ W1, W1 = wr.alloc (.cells #[.string s, .string t, .int .i64 (key : Int)] 50) := ⟨_, rfl⟩
      obtain ⟨B, hB⟩ : ∃ B, B = wr.heap.size := ⟨_, rfl⟩
      have e3 : SB W1 B #[.string s, .string t, .int .i64 (key : Int)] 50 := by rw [hW1, hB]; exact SB.made _ _ _
      have hb1 : Below wr.heap.size wr W1 := by rw [hW1]; exact (Below.refl _ _).alloc (Nat.le_refl _) _
      have f0 : W1.cell? ⟨B, 0, none⟩ = some (.string s) := e3.cell 0 _ rfl
      have f1 : W1.cell? ⟨B, 1, none⟩ = some (.string t) := e3.cell 1 _ rfl
      have ck1 : W1.cell? ⟨kb, ko + k * 10 + x, none⟩ = some (.int .u8 (z : Int)) := cell_bel hb1 (World.block_lt_of_cell? _ _ ck) ck
      have HBL1 := Lib.hid (HBL.out.trans (hb1.mono HBL.out.size))
      have HW1 := Lib.hid (And.intro hW1 hB)
      have v1 : IntKind.i64.wrap (z : Int) = (z : Int) := by rw [IntKind.wrap_i64]; omega
      have v2 : (x : Int) < 10 := by omega
      clear hW1 hB e3 hb1 ck
      go_upto_region 7 with fail
      rw [← HW1.out.1, ← HW1.out.2]
      clear c0 c1 c2
      go_quiet (first | (go_at_call 21; first | with_reducible exact Calls.quiet_of_same (HN1.out _) | with_reducible exact Calls.quiet_of_same (HN2.out _)) | fail)
      clear f0 f1 ck1 v1
      have HBQ := Lib.hid (below_drewN' HBL1.out nq)
      by_cases he : z = y
      · have hb := HJN.out (by rw [he]; exact beq_self_eq_true _)
        have HJ2 := Lib.hid hb
        have g1 : ((z : Int) != (y : Int)) = false := by rw [he]; simp
        clear he hb
        go_wp2_with fail
        go_roundw
        case rel => exact ⟨k + 1, by omega, by go_num, HJ2, HBQ⟩
        case measure => simp [intOf]; omega
      · have hb := HFA.out (by rw [beq_eq_false_iff_ne]; exact he)
        have HFB := Lib.hid hb
        have g1 : ((z : Int) != (y : Int)) = true := by simp; omega
        clear hb
        go_wp2_with fail
        go_ret
        exact ⟨by rw [HFB.out]; rfl, HB3.out.trans (HBQ.out.mono HB3.out.size)⟩
    · have hke : k = n := by omega
      subst hke
      have hall : chkB K ms = true := by
        unfold chkB
        refine List.all_eq_true.2 fun l hl => ?_
        obtain ⟨j, hj, rfl⟩ := List.getElem_of_mem hl
        exact HJ.out j hj (by rw [HN.out]; exact hj)
      have HAL := Lib.hid hall
      clear hall
      go_wp2_with fail
      go_ret
      exact ⟨by rw [HAL.out]; rfl, HB3.out.trans (HBL.out.mono HB3.out.size)⟩
end Go.Proofs.YtnbdimbhklbadaaGreatDoor
