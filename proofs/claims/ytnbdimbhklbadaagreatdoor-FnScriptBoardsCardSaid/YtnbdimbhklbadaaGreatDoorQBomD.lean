/-
  Contracts of functions and plain laws that the law's proof uses (parts: BomD). Conditions: what each theorem names.
-/
import Derived.StillTailTactics
import Derived.BigRegion
import Derived.Deep.RegionHeld3
import Derived.Deep.DeepCutAuto
import Derived.BigQuiet
import Derived.Deep.RegionLaw
import Derived.Test.YtnbdimbhklbadaaGreatDoorQBoA
namespace Go.Proofs.YtnbdimbhklbadaaGreatDoor
open Go.RowKit Pl
set_option linter.unusedVariables false
theorem Tryz.infoWr : (Tryz.prog.info? 103).map (fun i => (i.zero, i.size, i.bytes)) = some (some (.agg #[.int .i64 0, .int .u8 0, .int .u8 0, .int .u8 0, .int .u8 0, .int .u8 0, .int .u8 0, .int .u8 0, .int .u8 0, .int .u8 0, .int .u8 0]), 11, 24) := by kernel_rfl
theorem Tryz.undWr : Tryz.prog.underlying 99 = some (.slice 103) := by kernel_rfl
theorem invP_id : invP (List.range 10) = List.range 10 := by decide +kernel
theorem isBoard_id : IsBoard (pT (List.range 10)) := ⟨List.range 10, prm_id10, invP_id, rfl⟩
theorem wire_one {y a0 a1 a2 a3 a4 a5 a6 a7 a8 a9 : Int} : ∀ u ∈ [Value.int .i64 y, Value.int .u8 a0, .int .u8 a1, .int .u8 a2, .int .u8 a3, .int .u8 a4, .int .u8 a5, .int .u8 a6, .int .u8 a7, .int .u8 a8, .int .u8 a9], u.oneCell' = true := by
  intro u hu
  simp at hu
  rcases hu with rfl | rfl | rfl | rfl | rfl | rfl | rfl | rfl | rfl | rfl | rfl <;> rfl
theorem bel_aldB {a : World} {o : Obj} : Below a.heap.size a (a.alloc o).drew := ((Below.refl _ _).alloc (Nat.le_refl _) o).drew
theorem keepB4 {W : World} {B X : Nat} (hB : B ≠ X) {a b c d u v y z : Value} (h : W.cell? ⟨B, 0, none⟩ = some a ∧ W.cell? ⟨B, 1, none⟩ = some b ∧ W.cell? ⟨B, 2, none⟩ = some c ∧ W.cell? ⟨B, 3, none⟩ = some d) :
    ((((W.setCell ⟨X, 0, none⟩ u).setCell ⟨X, 1, none⟩ v).setCell ⟨X, 2, none⟩ y).setCell ⟨X, 3, none⟩ z).cell? ⟨B, 0, none⟩ = some a ∧ ((((W.setCell ⟨X, 0, none⟩ u).setCell ⟨X, 1, none⟩ v).setCell ⟨X, 2, none⟩ y).setCell ⟨X, 3, none⟩ z).cell? ⟨B, 1, none⟩ = some b ∧ ((((W.setCell ⟨X, 0, none⟩ u).setCell ⟨X, 1, none⟩ v).setCell ⟨X, 2, none⟩ y).setCell ⟨X, 3, none⟩ z).cell? ⟨B, 2, none⟩ = some c ∧ ((((W.setCell ⟨X, 0, none⟩ u).setCell ⟨X, 1, none⟩ v).setCell ⟨X, 2, none⟩ y).setCell ⟨X, 3, none⟩ z).cell? ⟨B, 3, none⟩ = some d := by
  simp only [cell_set_ne hB]; exact h
def MacAt (w W : World) (Y : Nat) (rs : List (ByteArray × ByteArray)) (p g l : ByteArray) : Prop :=
  ∃ A c, SB W Y #[.slice A rs.length c, .string p, .string g, .string l] 27 ∧ W.ownsRow w.heap.size 142 2 (.slice A rs.length c) rs.length (rotV rs) ∧ Below w.heap.size w W
theorem macAt_fresh {w w0 w8 : World} {A : Option Addr} {c : Nat} {rs : List (ByteArray × ByteArray)} {p g l : ByteArray} (h0 : Below w.heap.size w w0) (b8 : Below w0.heap.size w0 w8) (o8 : w8.ownsRow w0.heap.size 142 2 (.slice A rs.length c) rs.length (rotV rs)) :
    MacAt w (w8.alloc (.cells #[.slice A rs.length c, .string p, .string g, .string l] 27)) w8.heap.size rs p g l :=
  ⟨A, c, SB.made w8 _ _, own_mono3 (o8.alloc _) h0.size, h0.trans ((bel_alS b8).mono h0.size)⟩
theorem macAt_set {w w0 w8 : World} {A : Option Addr} {c Y : Nat} {rs : List (ByteArray × ByteArray)} {p g l : ByteArray} (h0 : Below w.heap.size w w0) (hY : w0.heap.size ≤ Y) (b8 : Below w0.heap.size w0 w8) (o8 : w8.ownsRow w0.heap.size 142 2 (.slice A rs.length c) rs.length (rotV rs))
    (hq : SB w8 Y #[.slice none 0 0, .string ⟨#[]⟩, .string ⟨#[]⟩, .string ⟨#[]⟩] 27) :
    MacAt w ((((w8.setCell ⟨Y, 0, none⟩ (.slice A rs.length c)).setCell ⟨Y, 1, none⟩ (.string p)).setCell ⟨Y, 2, none⟩ (.string g)).setCell ⟨Y, 3, none⟩ (.string l)) Y rs p g l := by
  have hne := own_ne_type o8 hq (by decide)
  have hb := (((b8.setCell (p := ⟨Y, 0, none⟩) hY (.slice A rs.length c)).setCell (p := ⟨Y, 1, none⟩) hY (.string p)).setCell (p := ⟨Y, 2, none⟩) hY (.string g)).setCell (p := ⟨Y, 3, none⟩) hY (.string l)
  exact ⟨A, c, hq.four _ _ _ _, own_mono3 (own_set (own_set (own_set (own_set o8 hne 0 _) hne 1 _) hne 2 _) hne 3 _) h0.size, h0.trans (hb.mono h0.size)⟩
set_option maxHeartbeats 16000000 in
set_option maxRecDepth 100000 in
theorem newBombe_is (w : World) (A : Option Addr) (cap : Nat) (rs : List (ByteArray × ByteArray)) (r q rg : List Nat) (o : ByteArray) (h : Rd w w.heap.size A (rotV rs)) (hc : rs.length ≤ cap) (hv : SetV rs (pT r) (pT rg) (pT q) o) (hr : Prm r) (hri : invP r = r) (hrg : rg.length = rs.length) (hrl : ∀ x ∈ rg, x < 10)
    (Am : Option Addr) (cm : Nat) (ms : List Lnk) (hm : Rd w w.heap.size Am (linkV ms)) (hmc : ms.length ≤ cm) (hmv : menuV ms) :
    Calls Tryz.prog 28 #[.agg #[.slice A rs.length cap, .string (pT r), .string (pT rg), .string (pT q)], .string o, .slice Am ms.length cm] w fun e w' => ∃ X f, e = .returned (.pointer (some ⟨X, 0, none⟩)) ∧ w.heap.size ≤ X ∧ BomR w' X (wirs (edgs (keyP (List.range 10) r rs rg o) ms)) f ∧ Below w.heap.size w w' := by
  obtain ⟨w0, hw0⟩ : ∃ w0, w0 = w.alloc (.cells #[.slice A rs.length cap, .string (pT r), .string (pT rg), .string (pT q)] 27) := ⟨_, rfl⟩
  have hb0 : Below w.heap.size w w0 := by rw [hw0]; exact (Below.refl _ _).alloc (Nat.le_refl _) _
  have hs0 : SB w0 w.heap.size #[.slice A rs.length cap, .string (pT r), .string (pT rg), .string (pT q)] 27 := by rw [hw0]; exact SB.made _ _ _
  have hip : ∀ w' : World, Below w0.heap.size w0 w' → Calls Tryz.prog 57 #[] w' fun e w'' => e = .returned (.string (pT (List.range 10))) ∧ Below w'.heap.size w' w'' := fun w' hb => identityPerm_is w'
  have hwp : ∀ w' : World, Below w0.heap.size w0 w' → Calls Tryz.prog 56 #[.agg #[.slice A rs.length cap, .string (pT r), .string (pT rg), .string (pT q)], .string (pT (List.range 10))] w' fun e w'' => ∃ A' c', e = .returned (.tuple #[.agg #[.slice A' rs.length c', .string (pT r), .string (pT rg), .string (pT (List.range 10))], .bool true]) ∧ w''.ownsRow w0.heap.size 142 2 (.slice A' rs.length c') rs.length (rotV rs) ∧ Below w'.heap.size w' w'' := fun w' hb => by
    have hb2 := hb0.trans (hb.mono hb0.size)
    refine (withPlugs_yes w' A cap rs (pT r) (pT rg) (pT q) (pT (List.range 10)) ((h.below hb2).mono hb2.size) hc hv.1 isBoard_id).mono ?_
    rintro e w'' ⟨A', c', rfl, ho, hb3⟩
    exact ⟨A', c', rfl, own_mono3 ho hb.size, hb3⟩
  have hmk : ∀ (w' : World) (A' : Option Addr) (c' : Nat), Below w.heap.size w w' → Rd w' w'.heap.size A' (rotV rs) → rs.length ≤ c' → Calls Tryz.prog 20 #[.agg #[.slice A' rs.length c', .string (pT r), .string (pT rg), .string (pT (List.range 10))], .string o, .slice Am ms.length cm] w' fun e w'' => ∃ A2 c2, e = .returned (.slice A2 ms.length c2) ∧ w''.ownsRow w'.heap.size 52 10 (.slice A2 ms.length c2) ms.length (pF (keysL (keyP (List.range 10) r rs rg o) ms)) ∧ Below w'.heap.size w' w'' := fun w' A' c' hb hr' hc' =>
    menuKeys_is w' A' c' rs r (List.range 10) rg o hr' hc' ⟨⟨hv.1.1, isBoard_id⟩, hv.2⟩ hr hri prm_id10 (invP_id) hrg hrl Am cm ms ((hm.below hb).mono hb.size) hmc hmv
  have HIP := Lib.hid hip; have HWP := Lib.hid hwp; have HMK := Lib.hid hmk; have HB0 := Lib.hid hb0; have HS0 := Lib.hid hs0
  have HMR := Lib.hid hm; have HMV := Lib.hid hmv; have HMC := Lib.hid hmc
  have hK : ∀ k, Prm (keyP (List.range 10) r rs rg o k) := fun k => keyP_prm prm_id10 hr (fun i hi => (wir_ok hv.1.1.1.2.2.2 hi).1) k
  have HK := Lib.hid hK
  obtain ⟨n, hn⟩ : ∃ n, n = ms.length := ⟨_, rfl⟩
  have hn12 : n ≤ 12 := by rw [hn]; exact hmv.2.1
  rw [← hn] at HMK ⊢
  have HN := Lib.hid hn
  obtain ⟨K, hKe⟩ : ∃ K, K = keyP (List.range 10) r rs rg o := ⟨_, rfl⟩
  rw [← hKe] at HMK HK ⊢
  clear h hc hv hr hri hrg hrl hm hmc hmv hip hwp hmk hb0 hs0 hK hn hKe
  generalize pT r = T1 at *
  generalize pT rg = T2 at *
  generalize pT q = T3 at *
  generalize pT (List.range 10) = TI at *
  obtain ⟨⟨c0, c1, c2, c3⟩, _⟩ := HS0.out.all4
  have hss : ∀ W' : World, Below w0.heap.size w0 W' → (W'.cell? ⟨w.heap.size, 0, none⟩ = some (.slice A rs.length cap) ∧ W'.cell? ⟨w.heap.size, 1, none⟩ = some (.string T1) ∧ W'.cell? ⟨w.heap.size, 2, none⟩ = some (.string T2) ∧ W'.cell? ⟨w.heap.size, 3, none⟩ = some (.string T3)) := fun W' hb => (HS0.out.below hb).all4.1
  have HSS := Lib.hid hss
  have HW0 := Lib.hid hw0
  clear hss c0 c1 c2 c3
  go_enter Tryz.func28, Tryz.ntmps28
  go_upto_region 1 with fail
  rw [← hw0]
  clear hw0
  go_cut [7, 8] (fun s7 s8 wx => s8 = .bool true ∧ ∃ Y, s7 = .pointer (some ⟨Y, 0, none⟩) ∧ MacAt w wx Y rs T1 T2 TI)
  case first =>
    have hbr : Below w0.heap.size w0 w0 := Below.refl _ _
    have hbd : Below w0.heap.size w0 w0.drew := (Below.refl _ _).drew
    have HN1 := Lib.hid (fun (W' : World) (hb : Below w0.heap.size w0 W') => (show w.heap.size ≠ W'.heap.size from Nat.ne_of_lt (Nat.lt_of_lt_of_le HS0.out.lt hb.size)))
    have HQZ := Lib.hid ((SB.made w0 #[.slice none 0 0, .string ⟨#[]⟩, .string ⟨#[]⟩, .string ⟨#[]⟩] 27).below (Below.refl _ _).drew)
    go_region_held3 (fun W' => W'.cell? ⟨w.heap.size, 0, none⟩ = some (.slice A rs.length cap) ∧ W'.cell? ⟨w.heap.size, 1, none⟩ = some (.string T1) ∧ W'.cell? ⟨w.heap.size, 2, none⟩ = some (.string T2) ∧ W'.cell? ⟨w.heap.size, 3, none⟩ = some (.string T3)) (first | with_reducible assumption | with_reducible exact HSS.out _ (by with_reducible assumption) | with_reducible exact HSS.out _ bel_aldB | with_reducible exact HSS.out _ (bel_alS (by with_reducible assumption)) | with_reducible exact keepB4 (HN1.out _ (by with_reducible assumption)) (HSS.out _ (by with_reducible assumption)) | fail) (first | (go_at_call 57; refine (HIP.out _ (by first | with_reducible assumption | with_reducible exact bel_aldB | exact bel_alS (by with_reducible assumption))).mono ?_; rintro _ w7 ⟨rfl, hb7⟩; have b7 := bel_on (a := w0) (by first | with_reducible assumption | with_reducible exact bel_aldB | exact bel_alS (by with_reducible assumption)) hb7; (first | (have HQ7 := Lib.hid (HQZ.out.below hb7)) | skip)) | (go_at_call 56; refine (HWP.out _ (by first | with_reducible assumption | exact bel_alS (by with_reducible assumption))).mono ?_; rintro _ w8 ⟨A8, c8, rfl, o8, hb8⟩; have b8 := bel_on (a := w0) (by first | with_reducible assumption | exact bel_alS (by with_reducible assumption)) hb8; (first | (have hq8 := HQ7.out.below hb8; have HQ8 := Lib.hid hq8; obtain ⟨⟨x0, x1, x2, x3⟩, f0, f1, f2, f3⟩ := hq8.all4; clear hq8) | (have hq8 := (SB.made w7 #[.slice none 0 0, .string ⟨#[]⟩, .string ⟨#[]⟩, .string ⟨#[]⟩] 27).below hb8; have HQ8 := Lib.hid hq8; obtain ⟨⟨x0, x1, x2, x3⟩, f0, f1, f2, f3⟩ := hq8.all4; clear hq8) | skip)) | fail)
    all_goals (go_wp2_with fail; go_meet)
    all_goals
      first
      | with_reducible exact ⟨rfl, w8.heap.size, rfl, macAt_fresh HB0.out b8 o8⟩
      | with_reducible exact ⟨rfl, w7.heap.size, rfl, macAt_set HB0.out b7.size b8 o8 HQ8.out⟩
      | with_reducible exact ⟨rfl, w0.heap.size, rfl, macAt_set HB0.out (Nat.le_refl _) b8 o8 HQ8.out⟩
  case rest =>
    obtain ⟨rfl, Y, rfl, A1, a1, hy, ho1, hb1⟩ := hcut
    obtain ⟨⟨c0, c1, c2, c3⟩, _⟩ := hy.all4
    have HKE := Lib.hid (HMK.out _ A1 a1 hb1 (own_rd3' ho1) (own_le3 ho1))
    have HB1 := Lib.hid hb1
    clear hb1 ho1 hy HMK
    go_wp2_with fail
    refine HKE.out.mono ?_
    rintro _ w3 ⟨A2, a2, rfl, ho3, hb3⟩
    clear c0 c1 c2 c3 HKE
    have hl10 : ∀ x ∈ keysL K ms, x.length = 10 := fun x hx => by
      obtain ⟨l, _, rfl⟩ := List.mem_map.1 hx
      exact (HK.out _).len
    have HKR := Lib.hid (own_rd3' ho3)
    have hkn := own_le3 ho3
    have HKN := Lib.hid hkn
    have HB3 := Lib.hid (HB1.out.trans (hb3.mono HB1.out.size))
    have HL10 := Lib.hid hl10
    clear ho3 hb3 hkn hl10
    obtain ⟨W0, hW0⟩ : ∃ W0, W0 = w3.alloc (.cells #[.slice none 0 0, .slice none 0 0, .slice none 0 0, .slice none 0 0, .slice none 0 0, .slice none 0 0, .slice none 0 0, .slice none 0 0, .slice none 0 0, .slice none 0 0] 101) := ⟨_, rfl⟩
    obtain ⟨X, hX⟩ : ∃ X, X = w3.heap.size := ⟨_, rfl⟩
    have hbx : BomR W0 X (wirs (edgs K (ms.take 0))) (fun _ => (none, 0)) := by
      refine ⟨?_, fun x hx => World.ownsRow_nil _ _ _ _, fun x y _ _ _ j hj => by simp [slV, Value.ownBlock] at hj⟩
      rw [hW0, hX]; exact SB.made _ _ _
    have hbX : Below X w3 W0 := by rw [hW0, hX]; exact (Below.refl _ _).alloc (Nat.le_refl _) _
    have HBX := Lib.hid hbx; have HBE := Lib.hid hbX
    have HWX := Lib.hid (And.intro hW0 hX)
    clear hbx hbX hW0 hX
    go_wp2_with fail
    rw [← HWX.out.1, ← HWX.out.2]
    go_loopw [29] (fun i wr => ∃ k : Nat, k ≤ n ∧ i = .int .i64 k ∧ Hid (∃ f, BomR wr X (wirs (edgs K (ms.take k))) f) ∧ Hid (Below X w3 wr)) (fun i _ => n - (intOf i).toNat)
    case atStart => exact ⟨0, Nat.zero_le _, rfl, Lib.hid ⟨_, HBX.out⟩, HBE⟩
    case round =>
      obtain ⟨k, hk, rfl, HQ, HBL⟩ := hrel
      by_cases hlt : k < n
      · have hkm : k < ms.length := by rw [← HN.out]; exact hlt
        have hbw : Below w.heap.size w wr := HB3.out.trans (HBL.out.mono (by rw [HWX.out.2]; exact HB3.out.size))
        have hb3r : Below w3.heap.size w3 wr := by have h1 := HBL.out; rw [HWX.out.2] at h1; exact h1
        obtain ⟨b0, off, hA, hbb, c0, c1, c2⟩ := (HMR.out.below hbw).link hkm
        subst hA
        have hok := menuV_ok HMV.out _ (List.getElem_mem hkm)
        obtain ⟨p0, p1, p2, p3⟩ := letter_at hok.s1 hok.w1
        obtain ⟨q0, q1, q2, q3⟩ := letter_at hok.s2 hok.w2
        have hxy : d1 ms[k].1 ≠ d1 ms[k].2.1 := by
          intro e
          obtain ⟨a, ha, ha1, ha2, _⟩ := one_letter hok.s1 hok.w1
          obtain ⟨b, hb, hb1, hb2, _⟩ := one_letter hok.s2 hok.w2
          exact hok.ne (by rw [← mk_tl ms[k].1, ← mk_tl ms[k].2.1, ha, hb, ← letter_dg ha1, ← letter_dg hb1, ← ha2, ← hb2, e])
        have hkl : k < (keysL K ms).length := by rw [keysL_len]; exact hkm
        have hkne : pF (keysL K ms) ≠ [] := by
          intro e
          have h1 := pF_length _ HL10.out
          rw [e, keysL_len, List.length_nil] at h1; omega
        have hkr := HKR.out
        obtain ⟨kb, ko, hkA, hkb, hkc⟩ := hkr hkne
        have hkq : (keysL K ms)[k] = K ms[k].2.2 := by simp [keysL]
        have hra := pF_range HL10.out (fun j hj => (hkc j hj).trans (List.getElem?_eq_getElem hj).symm) hkl
        rw [hkq] at hra
        have hra' := rangeAt_below hra hb3r
        have HR3 := Lib.hid hra
        have he := edgs_take K ms hkm
        have HE := Lib.hid he
        have HN1 := Lib.hid (fun w' => number_any _ w' p1)
        have HN2 := Lib.hid (fun w' => number_any _ w' q1)
        rw [p2] at HN1
        rw [q2] at HN2
        unfold lx ly at HE
        have hpl : (K ms[k].2.2).length = 10 := (HK.out _).len
        have HXY := Lib.hid hxy; have HRA := Lib.hid hra'; have HPL := Lib.hid hpl
        clear hok p1 p2 q1 q2 hxy hkl hkne hkr hkc hkq hra hra' he hbw hb3r hpl
        subst hkA
        generalize ms[k] = l at *
        obtain ⟨s, t, key⟩ := l
        simp only at *
        have hp0 : 0 < s.size := p0
        have hq0 : 0 < t.size := q0
        have hx10 : d1 s < 10 := p3
        have hy10 : d1 t < 10 := q3
        clear p3 q3
        generalize d1 s = x at *
        generalize d1 t = y at *
        generalize K key = kq at *
        obtain ⟨f, hf⟩ := HQ.out
        have HF := Lib.hid hf
        clear hf
        obtain ⟨L, hL⟩ : ∃ L, L = wirs (edgs K (ms.take k)) := ⟨_, rfl⟩
        rw [← hL] at HF
        have HLE := Lib.hid hL
        clear hL
        obtain ⟨W1, hW1⟩ : ∃ W1, W1 = wr.alloc (.cells #[.string s, .string t, .int .i64 (key : Int)] 50) := ⟨_, rfl⟩
        obtain ⟨B, hB⟩ : ∃ B, B = wr.heap.size := ⟨_, rfl⟩
        have e3 : SB W1 B #[.string s, .string t, .int .i64 (key : Int)] 50 := by rw [hW1, hB]; exact SB.made _ _ _
        have hb1 : Below wr.heap.size wr W1 := by rw [hW1]; exact (Below.refl _ _).alloc (Nat.le_refl _) _
        have f0 : W1.cell? ⟨B, 0, none⟩ = some (.string s) := e3.cell 0 _ rfl
        have f1 : W1.cell? ⟨B, 1, none⟩ = some (.string t) := e3.cell 1 _ rfl
        have hXw : X ≤ wr.heap.size := by have h1 := HBL.out.size; have h2 := HWX.out.2; omega
        have HF1 := Lib.hid (HF.out.below hb1)
        have HBL1 := Lib.hid (HBL.out.trans (hb1.mono hXw))
        have HRA1 := Lib.hid (rangeAt_below HRA.out hb1)
        have HW1 := Lib.hid (And.intro hW1 hB)
        clear hW1 hB e3 hb1 hXw
        go_wp2_with fail
        rw [← HW1.out.1, ← HW1.out.2]
        clear c0 c1 c2
        go_quiet (first | (go_at_call 21; first | with_reducible exact Calls.quiet_of_same (HN1.out _) | with_reducible exact Calls.quiet_of_same (HN2.out _)) | fail)
        clear f0 f1
        obtain ⟨W2, hW2⟩ : ∃ W2, W2 = W1.drewN nq := ⟨_, rfl⟩
        have hb2 : Below W1.heap.size W1 W2 := by rw [hW2]; exact below_drewN' (Below.refl _ _) _
        have HF2 := Lib.hid (HF1.out.below hb2)
        have HBL2 := Lib.hid (HBL1.out.trans (hb2.mono (by have h1 := HBL1.out.size; have h2 := HWX.out.2; omega)))
        have HRA2 := Lib.hid (rangeAt_below HRA1.out hb2)
        rw [← hW2]
        clear hW2 hb2
        have HLN := Lib.hid (show (L x).length ≤ 24 from by
          rw [HLE.out]
          refine Nat.le_trans (wirs_len _ _) ?_
          rw [edgs_len, List.length_take]; omega)
        have HLM := Lib.hid (show (L y).length ≤ 24 from by
          rw [HLE.out]
          refine Nat.le_trans (wirs_len _ _) ?_
          rw [edgs_len, List.length_take]; omega)
        go_upto_region 8 with fail
        go_cut [42] (fun _ wx => Hid (∃ f', BomR wx X (updN L x (L x ++ [(y, kq)])) f') ∧ Hid (Below X w3 wx))
        case first =>
          obtain ⟨iW, hi, hz0, hz1, hz2⟩ := info_parts Tryz.infoWr
          have HI := Lib.hid hi; have HZ0 := Lib.hid hz0; have HZ1 := Lib.hid hz1; have HZ2 := Lib.hid hz2
          clear hi hz0 hz1 hz2
          have hpv := pV_ten HPL.out
          have hA : ∀ i, i < 10 → W2.drew.cell? ⟨kb, ko + k * 10 + i, none⟩ = some (.int .u8 (nth kq i : Int)) := fun i hi => by
            refine HRA2.out i _ ?_
            have hq := HPL.out
            rw [List.getElem?_map, List.getElem?_eq_getElem (by omega), nth_eq (by omega)]; rfl
          have hkbl : kb < W2.heap.size := World.block_lt_of_cell? _ _ (hA 0 (by omega))
          have hAo : ∀ i, i < 10 → ∀ o : Obj, (W2.alloc o).cell? ⟨kb, ko + k * 10 + i, none⟩ = some (.int .u8 (nth kq i : Int)) := fun i hi o => (((Below.refl W2.heap.size W2).alloc (Nat.le_refl _) o).cell hkbl).trans (hA i hi)
          have p0 := hA 0 (by omega)
          have p1 := hA 1 (by omega)
          have p2 := hA 2 (by omega)
          have p3 := hA 3 (by omega)
          have p4 := hA 4 (by omega)
          have p5 := hA 5 (by omega)
          have p6 := hA 6 (by omega)
          have p7 := hA 7 (by omega)
          have p8 := hA 8 (by omega)
          have p9 := hA 9 (by omega)
          have r0 := fun o : Obj => hAo 0 (by omega) o
          have r1 := fun o : Obj => hAo 1 (by omega) o
          have r2 := fun o : Obj => hAo 2 (by omega) o
          have r3 := fun o : Obj => hAo 3 (by omega) o
          have r4 := fun o : Obj => hAo 4 (by omega) o
          have r5 := fun o : Obj => hAo 5 (by omega) o
          have r6 := fun o : Obj => hAo 6 (by omega) o
          have r7 := fun o : Obj => hAo 7 (by omega) o
          have r8 := fun o : Obj => hAo 8 (by omega) o
          have r9 := fun o : Obj => hAo 9 (by omega) o
          rw [Nat.add_zero] at p0 r0
          have hrow := HF2.out.row x hx10
          obtain ⟨Ax, hAx⟩ : ∃ Ax, Ax = (f x).1 := ⟨_, rfl⟩
          obtain ⟨cx, hcx⟩ : ∃ cx, cx = (f x).2 := ⟨_, rfl⟩
          obtain ⟨nx, hnx⟩ : ∃ nx, nx = (L x).length := ⟨_, rfl⟩
          have hsv : slV f L x = .slice Ax nx cx := by rw [hAx, hcx, hnx]; rfl
          have hsx : W2.drew.cell? ⟨X, x, none⟩ = some (.slice Ax nx cx) := by rw [← hsv]; exact HF2.out.blk.cell x _ (slC_get f L hx10)
          have hXl : X < W2.heap.size := HF2.out.blk.lt
          have hsxo : ∀ o : Obj, (W2.alloc o).cell? ⟨X, x, none⟩ = some (.slice Ax nx cx) := fun o => (((Below.refl W2.heap.size W2).alloc (Nat.le_refl _) o).cell hXl).trans hsx
          have hn24 : nx ≤ 24 := by rw [hnx]; exact HLN.out
          have hro : ∀ o : Obj, (W2.alloc o).drew.ownsRow (X + 1) 103 11 (.slice Ax nx cx) nx (wireV (L x)) := fun o => by
            have h1 : W2.ownsRow (X + 1) 103 11 (slV f L x) (L x).length (wireV (L x)) := hrow
            rw [hsv, ← hnx] at h1
            exact ownsRow_below (h1.alloc o) (Below.refl _ _).drew
          have HRO := Lib.hid hro
          have HNW := Lib.hid (show wirV (y, kq) = .int .i64 (y : Int) :: pV kq from rfl)
          rw [hpv] at HNW
          have HSV := Lib.hid (And.intro hsv hnx)
          have HXL := Lib.hid hXl
          have v1 : (x : Int) < 10 := by omega
          have v2 : (k : Int) < (n : Int) := by omega
          have HSB := Lib.hid (fun (o : Obj) (w5 : World) (hg : (W2.alloc o).drew.grownBy w5 (Value.slice Ax nx cx).ownBlock) => (show w5.cell? ⟨X, x, none⟩ = some (.slice Ax nx cx) ∧ w5.frozen? ⟨X, x, none⟩ = false from by
            have h1 : SB (W2.alloc o).drew X (slC f L) 101 := HF2.out.blk.below ((Below.refl W2.heap.size W2).alloc (Nat.le_refl _) o).drew
            have h2 : SB w5 X (slC f L) 101 := SB.own (v := .slice Ax nx cx) h1 hg (by rw [← hsv]; exact HF2.out.ne hx10 (Nat.le_refl _))
            exact ⟨(h2.cell x _ (slC_get f L hx10)).trans (by rw [hsv]), h2.frozen x⟩))
          clear hA hAo hrow hAx hcx hnx hsv hro hkbl hXl hpv
          have hbz : X + 1 ≤ W2.heap.size + 1 := by have := HXL.out; omega
          generalize nth kq 0 = a0 at *
          generalize nth kq 1 = a1 at *
          generalize nth kq 2 = a2 at *
          generalize nth kq 3 = a3 at *
          generalize nth kq 4 = a4 at *
          generalize nth kq 5 = a5 at *
          generalize nth kq 6 = a6 at *
          generalize nth kq 7 = a7 at *
          generalize nth kq 8 = a8 at *
          generalize nth kq 9 = a9 at *
          go_region_law (first | (refine step_append_lies _ (by rfl) (.tmp 48) (.tmp 55) 99 (by rfl) (X + 1) 103 iW _ 11 24 Tryz.undWr HI.out HZ0.out HZ1.out HZ2.out rfl (by decide) (.slice Ax nx cx) nx _ (by rfl) (HRO.out _) ⟨W2.heap.size, 0, none⟩ 1 1 [.int .i64 (y : Int), .int .u8 (a0 : Int), .int .u8 (a1 : Int), .int .u8 (a2 : Int), .int .u8 (a3 : Int), .int .u8 (a4 : Int), .int .u8 (a5 : Int), .int .u8 (a6 : Int), .int .u8 (a7 : Int), .int .u8 (a8 : Int), .int .u8 (a9 : Int)] (by rfl) rfl (World.news_of_block (fr := (0, 0)) (heap_alloc_new W2 _)) wire_one (by decide) (by unfold maxLen; omega) (by omega) (by simp; omega) (W2.heap.size + 1) (by simp) ?_; intro g5 c5 w5 ho5 hg5 hat5 hlt5; obtain ⟨sx5, sf5⟩ := HSB.out _ _ hg5) | fail)
          all_goals
            rw [← HNW.out] at ho5
            have HO5 := Lib.hid ho5; have HG5 := Lib.hid hg5; have HA5 := Lib.hid hat5
            clear p0 p1 p2 p3 p4 p5 p6 p7 p8 p9 r0 r1 r2 r3 r4 r5 r6 r7 r8 r9 hsx hsxo ho5 hg5 hat5 hlt5 sx5 sf5
            go_wp2_with fail
            go_meet
            have ho5 := HO5.out
            have hg5 := HG5.out
            have hat5 := HA5.out
            have hsv := HSV.out.1
            have hnx := HSV.out.2
            subst hnx
            rw [← hsv] at hg5 hat5
            have hz9 := HXL.out
            refine ⟨Lib.hid ⟨_, HF2.out.add hx10 (((Below.refl W2.heap.size W2).alloc (Nat.le_refl _) _).drew) ho5 hg5 hat5 (Nat.le_succ _)⟩, Lib.hid ?_⟩
            have h7 : Below X W2 (W2.alloc (.cells #[.int .i64 (y : Int), .int .u8 (a0 : Int), .int .u8 (a1 : Int), .int .u8 (a2 : Int), .int .u8 (a3 : Int), .int .u8 (a4 : Int), .int .u8 (a5 : Int), .int .u8 (a6 : Int), .int .u8 (a7 : Int), .int .u8 (a8 : Int), .int .u8 (a9 : Int)] 103)).drew := ((Below.refl _ _).alloc (Nat.le_of_lt hz9) _).drew
            exact ((HBL2.out.trans h7).grown hg5 (by simp; omega) (fun j e => by have h8 := (HF2.out.row x hx10).lt j e; omega)).setCell (p := ⟨X, x, none⟩) (Nat.le_refl _) _
        case rest =>
          obtain ⟨HQ3, HBL3⟩ := hcut
          obtain ⟨f3, hf3⟩ := HQ3.out
          have HF3 := Lib.hid hf3
          obtain ⟨L3, hL3⟩ : ∃ L3, L3 = updN L x (L x ++ [(y, kq)]) := ⟨_, rfl⟩
          rw [← hL3] at HF3
          have hL3y : L3 y = L y := by rw [hL3]; exact updN_ne _ _ (fun e => HXY.out e.symm)
          have HLN3 := Lib.hid (show (L3 y).length ≤ 24 from by rw [hL3y]; exact HLM.out)
          have HRA3 := Lib.hid (rangeAt_below HR3.out (by have h1 := HBL3.out; rw [HWX.out.2] at h1; exact h1))
          have HL3 := Lib.hid hL3
          clear hf3 hL3 hL3y HQ3 HF2 HBL2 HRA2 HF1 HBL1 HRA1 HRA HF
          go_upto_region 9 with fail
          have HLL := Lib.hid (show updN L3 y (L3 y ++ [(x, kq)]) = wirs (edgs K (ms.take (k + 1))) from by
            funext z
            rw [HE.out, wirs_snoc, ← HLE.out, HL3.out]
            have hxy := HXY.out
            show updN (updN L x (L x ++ [(y, kq)])) y (updN L x (L x ++ [(y, kq)]) y ++ [(x, kq)]) z = L z ++ ((if x = z then [(y, kq)] else []) ++ (if y = z then [(x, kq)] else []))
            by_cases e1 : z = y
            · rw [e1, updN_same, updN_ne _ _ (fun e => hxy e.symm), if_neg hxy, if_pos rfl]; rfl
            · rw [updN_ne _ _ e1, if_neg (show ¬ y = z from fun e => e1 e.symm)]
              by_cases e2 : z = x
              · rw [e2, updN_same, if_pos rfl]; simp
              · rw [updN_ne _ _ e2, if_neg (show ¬ x = z from fun e => e2 e.symm)]; simp)
          obtain ⟨iW, hi, hz0, hz1, hz2⟩ := info_parts Tryz.infoWr
          have HI := Lib.hid hi; have HZ0 := Lib.hid hz0; have HZ1 := Lib.hid hz1; have HZ2 := Lib.hid hz2
          clear hi hz0 hz1 hz2
          have hpv := pV_ten HPL.out
          have hA : ∀ i, i < 10 → wc.drew.cell? ⟨kb, ko + k * 10 + i, none⟩ = some (.int .u8 (nth kq i : Int)) := fun i hi => by
            refine HRA3.out i _ ?_
            have hq := HPL.out
            rw [List.getElem?_map, List.getElem?_eq_getElem (by omega), nth_eq (by omega)]; rfl
          have hkbl : kb < wc.heap.size := World.block_lt_of_cell? _ _ (hA 0 (by omega))
          have hAo : ∀ i, i < 10 → ∀ o : Obj, (wc.alloc o).cell? ⟨kb, ko + k * 10 + i, none⟩ = some (.int .u8 (nth kq i : Int)) := fun i hi o => (((Below.refl wc.heap.size wc).alloc (Nat.le_refl _) o).cell hkbl).trans (hA i hi)
          have p0 := hA 0 (by omega)
          have p1 := hA 1 (by omega)
          have p2 := hA 2 (by omega)
          have p3 := hA 3 (by omega)
          have p4 := hA 4 (by omega)
          have p5 := hA 5 (by omega)
          have p6 := hA 6 (by omega)
          have p7 := hA 7 (by omega)
          have p8 := hA 8 (by omega)
          have p9 := hA 9 (by omega)
          have r0 := fun o : Obj => hAo 0 (by omega) o
          have r1 := fun o : Obj => hAo 1 (by omega) o
          have r2 := fun o : Obj => hAo 2 (by omega) o
          have r3 := fun o : Obj => hAo 3 (by omega) o
          have r4 := fun o : Obj => hAo 4 (by omega) o
          have r5 := fun o : Obj => hAo 5 (by omega) o
          have r6 := fun o : Obj => hAo 6 (by omega) o
          have r7 := fun o : Obj => hAo 7 (by omega) o
          have r8 := fun o : Obj => hAo 8 (by omega) o
          have r9 := fun o : Obj => hAo 9 (by omega) o
          rw [Nat.add_zero] at p0 r0
          have hrow := HF3.out.row y hy10
          obtain ⟨Ax, hAx⟩ : ∃ Ax, Ax = (f3 y).1 := ⟨_, rfl⟩
          obtain ⟨cx, hcx⟩ : ∃ cx, cx = (f3 y).2 := ⟨_, rfl⟩
          obtain ⟨nx, hnx⟩ : ∃ nx, nx = (L3 y).length := ⟨_, rfl⟩
          have hsv : slV f3 L3 y = .slice Ax nx cx := by rw [hAx, hcx, hnx]; rfl
          have hsx : wc.drew.cell? ⟨X, y, none⟩ = some (.slice Ax nx cx) := by rw [← hsv]; exact HF3.out.blk.cell y _ (slC_get f3 L3 hy10)
          have hXl : X < wc.heap.size := HF3.out.blk.lt
          have hsxo : ∀ o : Obj, (wc.alloc o).cell? ⟨X, y, none⟩ = some (.slice Ax nx cx) := fun o => (((Below.refl wc.heap.size wc).alloc (Nat.le_refl _) o).cell hXl).trans hsx
          have hn24 : nx ≤ 24 := by rw [hnx]; exact HLN3.out
          have hro : ∀ o : Obj, (wc.alloc o).drew.ownsRow (X + 1) 103 11 (.slice Ax nx cx) nx (wireV (L3 y)) := fun o => by
            have h1 : wc.ownsRow (X + 1) 103 11 (slV f3 L3 y) (L3 y).length (wireV (L3 y)) := hrow
            rw [hsv, ← hnx] at h1
            exact ownsRow_below (h1.alloc o) (Below.refl _ _).drew
          have HRO := Lib.hid hro
          have HNW := Lib.hid (show wirV (x, kq) = .int .i64 (x : Int) :: pV kq from rfl)
          rw [hpv] at HNW
          have HSV := Lib.hid (And.intro hsv hnx)
          have HXL := Lib.hid hXl
          have v1 : (y : Int) < 10 := by omega
          have v2 : (k : Int) < (n : Int) := by omega
          have HSB := Lib.hid (fun (o : Obj) (w5 : World) (hg : (wc.alloc o).drew.grownBy w5 (Value.slice Ax nx cx).ownBlock) => (show w5.cell? ⟨X, y, none⟩ = some (.slice Ax nx cx) ∧ w5.frozen? ⟨X, y, none⟩ = false from by
            have h1 : SB (wc.alloc o).drew X (slC f3 L3) 101 := HF3.out.blk.below ((Below.refl wc.heap.size wc).alloc (Nat.le_refl _) o).drew
            have h2 : SB w5 X (slC f3 L3) 101 := SB.own (v := .slice Ax nx cx) h1 hg (by rw [← hsv]; exact HF3.out.ne hy10 (Nat.le_refl _))
            exact ⟨(h2.cell y _ (slC_get f3 L3 hy10)).trans (by rw [hsv]), h2.frozen y⟩))
          clear hA hAo hrow hAx hcx hnx hsv hro hkbl hXl hpv
          have hbz : X + 1 ≤ wc.heap.size + 1 := by have := HXL.out; omega
          generalize nth kq 0 = a0 at *
          generalize nth kq 1 = a1 at *
          generalize nth kq 2 = a2 at *
          generalize nth kq 3 = a3 at *
          generalize nth kq 4 = a4 at *
          generalize nth kq 5 = a5 at *
          generalize nth kq 6 = a6 at *
          generalize nth kq 7 = a7 at *
          generalize nth kq 8 = a8 at *
          generalize nth kq 9 = a9 at *
          go_region_law (first | (refine step_append_lies _ (by rfl) (.tmp 65) (.tmp 72) 99 (by rfl) (X + 1) 103 iW _ 11 24 Tryz.undWr HI.out HZ0.out HZ1.out HZ2.out rfl (by decide) (.slice Ax nx cx) nx _ (by rfl) (HRO.out _) ⟨wc.heap.size, 0, none⟩ 1 1 [.int .i64 (x : Int), .int .u8 (a0 : Int), .int .u8 (a1 : Int), .int .u8 (a2 : Int), .int .u8 (a3 : Int), .int .u8 (a4 : Int), .int .u8 (a5 : Int), .int .u8 (a6 : Int), .int .u8 (a7 : Int), .int .u8 (a8 : Int), .int .u8 (a9 : Int)] (by rfl) rfl (World.news_of_block (fr := (0, 0)) (heap_alloc_new wc _)) wire_one (by decide) (by unfold maxLen; omega) (by omega) (by simp; omega) (wc.heap.size + 1) (by simp) ?_; intro g5 c5 w5 ho5 hg5 hat5 hlt5; obtain ⟨sx5, sf5⟩ := HSB.out _ _ hg5) | fail)
          all_goals
            rw [← HNW.out] at ho5
            have HO5 := Lib.hid ho5; have HG5 := Lib.hid hg5; have HA5 := Lib.hid hat5
            clear p0 p1 p2 p3 p4 p5 p6 p7 p8 p9 r0 r1 r2 r3 r4 r5 r6 r7 r8 r9 hsx hsxo ho5 hg5 hat5 hlt5 sx5 sf5
            have ho5 := HO5.out
            have hg5 := HG5.out
            have hat5 := HA5.out
            have hsv := HSV.out.1
            have hnx := HSV.out.2
            subst hnx
            rw [← hsv] at hg5 hat5
            have hz9 := HXL.out
            have hb4 := HF3.out.add hy10 (((Below.refl wc.heap.size wc).alloc (Nat.le_refl _) (.cells #[.int .i64 (x : Int), .int .u8 (a0 : Int), .int .u8 (a1 : Int), .int .u8 (a2 : Int), .int .u8 (a3 : Int), .int .u8 (a4 : Int), .int .u8 (a5 : Int), .int .u8 (a6 : Int), .int .u8 (a7 : Int), .int .u8 (a8 : Int), .int .u8 (a9 : Int)] 103)).drew) ho5 hg5 hat5 (Nat.le_succ _)
            rw [HLL.out] at hb4
            have HQ4 := Lib.hid hb4
            have h7 : Below X wc (wc.alloc (.cells #[.int .i64 (x : Int), .int .u8 (a0 : Int), .int .u8 (a1 : Int), .int .u8 (a2 : Int), .int .u8 (a3 : Int), .int .u8 (a4 : Int), .int .u8 (a5 : Int), .int .u8 (a6 : Int), .int .u8 (a7 : Int), .int .u8 (a8 : Int), .int .u8 (a9 : Int)] 103)).drew := ((Below.refl _ _).alloc (Nat.le_of_lt hz9) _).drew
            have HBL4 := Lib.hid (((HBL3.out.trans h7).grown hg5 (by simp; omega) (fun j e => by have h8 := (HF3.out.row y hy10).lt j e; omega)).setCell (p := ⟨X, y, none⟩) (Nat.le_refl _) (.slice (some ⟨g5, 0, none⟩) ((L3 y).length + 1) c5))
            clear ho5 hg5 hat5 hsv hz9 h7 hb4
            go_wp2_with fail
            go_roundw
            case rel => exact ⟨k + 1, by omega, by go_num, Lib.hid ⟨_, HQ4.out⟩, HBL4⟩
            case measure => simp [intOf]; omega
      · obtain ⟨f, hf⟩ := HQ.out
        have hke : k = n := by omega
        rw [hke, HN.out, List.take_length] at hf
        have HF := Lib.hid hf
        clear hf hke
        go_wp2_with fail
        go_ret
        refine ⟨X, f, rfl, by rw [HWX.out.2]; exact HB3.out.size, HF.out, HB3.out.trans (HBL.out.mono (by rw [HWX.out.2]; exact HB3.out.size))⟩
end Go.Proofs.YtnbdimbhklbadaaGreatDoor
