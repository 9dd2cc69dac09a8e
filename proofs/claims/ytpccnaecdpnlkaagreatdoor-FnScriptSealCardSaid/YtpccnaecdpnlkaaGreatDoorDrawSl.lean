/-
  Contracts of the draws of a machine, two windows, and a word. Conditions: what each theorem names.
-/
import Derived.Test.YtpccnaecdpnlkaaGreatDoorDrawMa
import Derived.Test.YtpccnaecdpnlkaaGreatDoorGrpI
namespace Go.Proofs.YtpccnaecdpnlkaaGreatDoor
open Go.RowKit Pl
set_option linter.unusedVariables false

/-- a machine and two windows were drawn, whatever they are -/
def DbD (w : World) (R N : Nat) (e : Ending) (w' : World) : Prop :=
  ∃ (A : Option Addr) (cap : Nat) (rs : List (ByteArray × ByteArray)) (p g l o y : ByteArray), e = .returned (.tuple #[.agg #[.slice A rs.length cap, .string p, .string g, .string l], .string o, .string y]) ∧ Rd w' w'.heap.size A (rotV rs) ∧ rs.length ≤ cap ∧ rs.length ≤ 6 ∧ p.size ≤ 20 ∧ g.size ≤ 10 ∧ l.size ≤ 20 ∧ o.size ≤ 10 ∧ y.size ≤ 10 ∧ (∀ x, A = some x → R < x.block) ∧ Below R w w' ∧ Rdr w' R N

def DbO (w : World) (e : Ending) (w' : World) : Prop :=
  ∃ (A : Option Addr) (cap : Nat) (rs : List (ByteArray × ByteArray)) (p g l o y : ByteArray), e = .returned (.tuple #[.agg #[.slice A rs.length cap, .string p, .string g, .string l], .string o, .string y]) ∧ Rd w' w'.heap.size A (rotV rs) ∧ rs.length ≤ cap ∧ rs.length ≤ 6 ∧ p.size ≤ 20 ∧ g.size ≤ 10 ∧ l.size ≤ 20 ∧ o.size ≤ 10 ∧ y.size ≤ 10 ∧ (∀ x, A = some x → w.heap.size < x.block) ∧ Below w.heap.size w w'

set_option maxHeartbeats 8000000 in
set_option maxRecDepth 100000 in
theorem l9Open_any (w : World) (R N : Nat) (h : Rdr w R N) (hN : N ≤ 1000) :
    Calls Tryz.prog 35 #[.pointer (some ⟨R, 0, none⟩)] w (DbD w R (N + 500)) := by
  have hlt := h.lt
  have hb0 : Below R w (w.alloc (.cells #[.slice none 0 0, .string ⟨#[]⟩, .string ⟨#[]⟩, .string ⟨#[]⟩] 27)) := (Below.refl _ _).alloc (Nat.le_of_lt hlt) _
  have hs0 := SB.made w #[.slice none 0 0, .string ⟨#[]⟩, .string ⟨#[]⟩, .string ⟨#[]⟩] 27
  have hr1 := h.alloc (.cells #[.slice none 0 0, .string ⟨#[]⟩, .string ⟨#[]⟩, .string ⟨#[]⟩] 27)
  have hz1 : (w.alloc (.cells #[.slice none 0 0, .string ⟨#[]⟩, .string ⟨#[]⟩, .string ⟨#[]⟩] 27)).heap.size = w.heap.size + 1 := by simp
  obtain ⟨w1, hw1⟩ : ∃ w1, w1 = w.alloc (.cells #[.slice none 0 0, .string ⟨#[]⟩, .string ⟨#[]⟩, .string ⟨#[]⟩] 27) := ⟨_, rfl⟩
  rw [← hw1] at hb0 hs0 hr1 hz1
  obtain ⟨P, hP⟩ : ∃ P, P = w.heap.size := ⟨_, rfl⟩
  have hlw := hlt
  rw [← hP] at hs0 hz1 hlt
  have hpw : R ≤ P := Nat.le_of_lt hlt
  have HS1 := Lib.hid hs0; have HB1 := Lib.hid hb0; have HZ1 := Lib.hid hz1
  have hpn : P ≠ R := by omega
  clear hb0 hs0 h hz1
  go_enter Tryz.func35, Tryz.ntmps35
  go_wp2_with fail
  rw [← hw1, ← hP]
  clear hw1 hP
  go_wp2_with fail
  refine (l8Any_any _ R N hr1 (by omega)).mono ?_
  rintro _ w2 ⟨v, rs, q, rg, pl, ws, rfl, hrb, hq, hpl, h1, h3, hrl, hrlo, hwl, hlo, hr2, ho2⟩
  obtain ⟨b, c2, e2⟩ := own_some hrb.own (by omega)
  subst e2
  have hzq : (pT q).size ≤ 20 := by rw [pT_size, hq.len]; omega
  have hzp : (pT pl).size ≤ 20 := by rw [pT_size, hpl.len]; omega
  have hzr1 : 1 ≤ (pT rg).size := by rw [pT_size, hrl]; exact h1
  have hzr3 : (pT rg).size ≤ 3 := by rw [pT_size, hrl]; exact h3
  have hzw1 : 1 ≤ (pT ws).size := by rw [pT_size, hwl]; exact h1
  have hzw3 : (pT ws).size ≤ 3 := by rw [pT_size, hwl]; exact h3
  have HRT := Lib.hid (rotT_sizes hrb.rot)
  have hown := hrb.own
  have hb2 : b < w2.heap.size := (hown.lt b rfl).2
  have hb2' : P + 1 ≤ b := by have := (hown.lt b rfl).1; have := HZ1.out; omega
  have hsz2 : P + 1 ≤ w2.heap.size := by have := ho2.size; have := HZ1.out; omega
  have HS2 := Lib.hid (HS1.out.grow ho2 hpn); have HB2 := Lib.hid (HB1.out.trans (below_of_only ho2 (by have := HB1.out.size; have := HZ1.out; omega) (Nat.le_refl _)))
  rw [HZ1.out] at hown
  unfold macC
  generalize pT q = p2 at hzq ⊢
  generalize pT pl = l2 at hzp ⊢
  generalize pT rg = g2 at hzr1 hzr3 ⊢
  generalize pT ws = o2 at hzw1 hzw3 ⊢
  have hwal : (w2.alloc (.cells #[.slice (some ⟨b, 0, none⟩) rs.length c2, .string p2, .string g2, .string l2] 27)).ownsRow (P + 1) 114 2 (.slice (some ⟨b, 0, none⟩) rs.length c2) rs.length (rotV rs) := hown.alloc _
  have hral := hr2.alloc (.cells #[.slice (some ⟨b, 0, none⟩) rs.length c2, .string p2, .string g2, .string l2] 27)
  have hbal : Below R w (w2.alloc (.cells #[.slice (some ⟨b, 0, none⟩) rs.length c2, .string p2, .string g2, .string l2] 27)) := HB2.out.alloc (by have := HB2.out.size; have := HZ1.out; omega) _
  have hsal := SB.below HS2.out ((Below.refl _ _).alloc (Nat.le_refl _) (.cells #[.slice (some ⟨b, 0, none⟩) rs.length c2, .string p2, .string g2, .string l2] 27))
  have hmal := SB.made w2 #[.slice (some ⟨b, 0, none⟩) rs.length c2, .string p2, .string g2, .string l2] 27
  obtain ⟨w3, hw3⟩ : ∃ w3, w3 = w2.alloc (.cells #[.slice (some ⟨b, 0, none⟩) rs.length c2, .string p2, .string g2, .string l2] 27) := ⟨_, rfl⟩
  rw [← hw3] at hwal hral hbal hsal hmal
  have hsz3 : P + 1 ≤ w3.heap.size := by rw [hw3]; simp; omega
  have hbd := l8Bad_any w3 R _ (P + 1) b c2 rs p2 g2 l2 hral (by omega) (by omega) hsz3 hwal h1 h3 HRT.out hzq hzr1 hzr3 hzp
  have HBD := Lib.hid hbd; have HSAL := Lib.hid hsal; have HBAL := Lib.hid hbal
  obtain ⟨⟨c0, c1, c4, c5⟩, _⟩ := hmal.all4
  have hbw := (hown.lt b rfl)
  have hwP : R < b := by omega
  have hPb : P ≠ b := by omega
  clear hbd hwal hral hbal hsal hmal hrb hq hpl hrl hrlo hwl hlo hr2 ho2 hown hr1 hbw HS2 HB2 HS1 HB1
  go_wp2_with fail
  rw [← hw3]
  clear hw3
  refine HBD.out.mono ?_
  rintro _ w4 ⟨v4, rs4, p4, g4, l4, rfl, how4, hl4, hzp4, hzg4, hzl4, hr4, hk4⟩
  obtain ⟨A4, c4', e4⟩ := slot_slice how4
  subst e4
  have hs4 := hk4.sb HSAL.out hpn (by intro e; injection e with e; simp only at e; omega)
  have hb4 : Below R w w4 := HBAL.out.trans (hk4.below (by have := HBAL.out.size; have := HZ1.out; omega) (by omega) (fun k e => by injection e with e; simp only at e; omega))
  have HS4 := Lib.hid hs4; have HB4 := Lib.hid hb4; have HW4 := Lib.hid how4
  clear hs4 hb4 hk4 HBD HSAL HBAL c0 c1 c4 c5
  go_wp2_with fail
  refine (l8Off_any w4 R _ o2 hr4 (by omega) hzw1 hzw3).mono ?_
  rintro _ w5 ⟨o5, rfl, hzo, hr5, ho5⟩
  have how5 := HW4.out.kept ho5 (.inr (by intro e; have := (how4.lt R e).1; omega))
  have hs5 := HS4.out.grow ho5 hpn
  have hb5 := HB4.out.trans (below_of_only ho5 (by have := HB4.out.size; have := HZ1.out; omega) (Nat.le_refl _))
  have HW5 := Lib.hid how5; have HS5 := Lib.hid hs5; have HB5 := Lib.hid hb5; have HA4 := Lib.hid (fun x (e : (Value.slice A4 rs4.length c4').ownBlock = some x) => (how4.lt x e).1)
  have hzo2 : o2.size ≤ 3 := hzw3
  clear how5 hs5 hb5 how4 ho5 hr4 HS4 HB4 HW4
  go_wp2_with fail
  refine (l1Some_any w5 R _ o2.size hr5 (by omega) (by omega)).mono ?_
  rintro _ w6 ⟨yl, rfl, hyl, _, hr6, ho6⟩
  have how6 := HW5.out.kept ho6 (.inr (by intro e; have := HA4.out R e; omega))
  have hs6 := HS5.out.grow ho6 hpn
  have hb6 := HB5.out.trans (below_of_only ho6 (by have := HB5.out.size; have := HZ1.out; omega) (Nat.le_refl _))
  have HW6 := Lib.hid how6; have HS6 := Lib.hid hs6; have HB6 := Lib.hid hb6
  have hy1 : 1 ≤ (mk yl).size := by rw [size_mk, hyl]; exact hzw1
  have hy3 : (mk yl).size ≤ 3 := by rw [size_mk, hyl]; exact hzw3
  generalize mk yl = y0 at hy1 hy3 ⊢
  clear how6 hs6 hb6 ho6 hr5 HS5 HB5 HW5 hyl
  go_wp2_with fail
  refine (l8Off_any w6 R _ y0 hr6 (by omega) hy1 hy3).mono ?_
  rintro _ w7 ⟨y5, rfl, hzy, hr7, ho7⟩
  have how7 := HW6.out.kept ho7 (.inr (by intro e; have := HA4.out R e; omega))
  have hs7 := HS6.out.grow ho7 hpn
  have hb7 := HB6.out.trans (below_of_only ho7 (by have := HB6.out.size; have := HZ1.out; omega) (Nat.le_refl _))
  obtain ⟨⟨d0, d1, d2, d3⟩, f0, f1, f2, f3⟩ := hs7.all4
  have hna := own_ne_type how7 hs7 (by decide)
  have HSF := Lib.hid (hs7.four (.slice A4 rs4.length c4') (.string p4) (.string g4) (.string l4))
  have HWF := Lib.hid (own_set (own_set (own_set (own_set how7 hna 0 (.slice A4 rs4.length c4')) hna 1 (.string p4)) hna 2 (.string g4)) hna 3 (.string l4))
  have HBF := Lib.hid ((((hb7.setCell hpw (p := ⟨P, 0, none⟩) (.slice A4 rs4.length c4')).setCell hpw (p := ⟨P, 1, none⟩) (.string p4)).setCell hpw (p := ⟨P, 2, none⟩) (.string g4)).setCell hpw (p := ⟨P, 3, none⟩) (.string l4))
  have HRF := Lib.hid (((((hr7.far hlt 0 (.slice A4 rs4.length c4')).far hlt 1 (.string p4)).far hlt 2 (.string g4)).far hlt 3 (.string l4)).mono (show _ ≤ N + 500 by omega))
  clear how7 hs7 hb7 hna ho7 hr6 hr7 HS6 HB6 HW6
  go_wp2_with fail
  refine bodyPost_ret (results_st_tmp2 rfl _ _ P _ #[.slice A4 rs4.length c4', .string p4, .string g4, .string l4] _ _ rfl HSF.out Tryz.underlying27 ⟨_, rfl⟩ macSize) rfl ⟨A4, c4', rs4, p4, g4, l4, o5, y5, rfl, own_rd3' HWF.out, own_le3 HWF.out, hl4, hzp4, hzg4, hzl4, hzo, hzy, fun x e => by subst e; have := (HWF.out.lt x.block rfl).1; omega, HBF.out, HRF.out⟩










































theorem results_st_tmp3 {fn : Func} {p u v x : Tmp} {ty : TypeId} (h : fn.results = #[.cell p ty, .tmp u, .tmp v, .tmp x]) (tmps : Array Value) (w : World) (g : Nat) (t : TypeId) (cs : Array Value) (fr : Nat × Nat) (d : TypeDesc)
    (hp : tmps.getD p undef = .pointer (some ⟨g, 0, none⟩)) (hg : w.heap[g]? = some (.cells cs t fr))
    (hu : Tryz.prog.underlying ty = some d) (hd : (∃ fs, d = .struct fs)) (hi : (Tryz.prog.info? ty).map (·.size) = some cs.size) :
    (results fn tmps).run Tryz.prog w = .ok (.tuple #[.agg cs, tmps.getD u undef, tmps.getD v undef, tmps.getD x undef]) w := by
  obtain ⟨fs, rfl⟩ := hd
  have hp' : tmps[p]?.getD undef = .pointer (some ⟨g, 0, none⟩) := by simpa using hp
  simp [results, h, hp', asAddr, run_loadVar_row w g t ty cs fr _ hg hu rfl hi]

theorem Rd.grownR {w w' : World} {A : Option Addr} {xs : List Value} {R : Nat} (h : Rd w w.heap.size A xs) (hA : ∀ x, A = some x → x.block ≠ R) (ho : w.grownBy w' (some R)) : Rd w' w'.heap.size A xs := fun hn => by
  obtain ⟨b, off, e, hb, hc⟩ := h hn
  have hbR : b ≠ R := hA _ e
  exact ⟨b, off, e, Nat.lt_of_lt_of_le hb ho.size, fun j hj => (World.cell?_of_block (a := ⟨b, off + j, none⟩) (ho.block b hb (by intro e2; injection e2 with e2; omega))).trans (hc j hj)⟩

/-- a machine, two windows and a word were drawn, whatever they are -/
def SlD (w : World) (e : Ending) (w' : World) : Prop :=
  ∃ (A : Option Addr) (cap : Nat) (rs : List (ByteArray × ByteArray)) (p g l o y x : ByteArray), e = .returned (.tuple #[.agg #[.slice A rs.length cap, .string p, .string g, .string l], .string o, .string y, .string x]) ∧ Rd w' w'.heap.size A (rotV rs) ∧ rs.length ≤ cap ∧ rs.length ≤ 6 ∧ p.size ≤ 20 ∧ g.size ≤ 10 ∧ l.size ≤ 20 ∧ o.size ≤ 10 ∧ y.size ≤ 10 ∧ x.size ≤ 300 ∧ Below w.heap.size w w'

set_option maxHeartbeats 8000000 in
set_option maxRecDepth 100000 in
theorem drawSeal_any (w : World) (A : Option Addr) (cap : Nat) (bs : List UInt8) (h : Rd w w.heap.size A (bytesV bs)) (hc : bs.length ≤ cap) :
    Calls Tryz.prog 7 #[.slice A bs.length cap] w (SlD w) := by
  have hb0 : Below w.heap.size w (w.alloc (.cells #[.slice none 0 0, .string ⟨#[]⟩, .string ⟨#[]⟩, .string ⟨#[]⟩] 27)) := (Below.refl _ _).alloc (Nat.le_refl _) _
  have hs0 := SB.made w #[.slice none 0 0, .string ⟨#[]⟩, .string ⟨#[]⟩, .string ⟨#[]⟩] 27
  obtain ⟨w0, hw0⟩ : ∃ w0, w0 = w.alloc (.cells #[.slice none 0 0, .string ⟨#[]⟩, .string ⟨#[]⟩, .string ⟨#[]⟩] 27) := ⟨_, rfl⟩
  rw [← hw0] at hb0 hs0
  have hop := l21Open_any w0 A cap bs ((h.below hb0).mono hb0.size) hc
  obtain ⟨P, hP⟩ : ∃ P, P = w.heap.size := ⟨_, rfl⟩
  have hpw : w.heap.size ≤ P := by omega
  rw [← hP] at hs0
  have HOP := Lib.hid hop; have HB0 := Lib.hid hb0; have HS0 := Lib.hid hs0
  clear hop hb0 hs0 h
  go_enter Tryz.func7, Tryz.ntmps7
  go_wp2_with fail
  rw [← hw0, ← hP]
  clear hw0 hP
  refine HOP.out.mono ?_
  rintro _ w1 ⟨rfl, hr1, hb1, hz1⟩
  obtain ⟨R, hR⟩ : ∃ R, R = w0.heap.size := ⟨_, rfl⟩
  rw [← hR] at hr1 hz1 ⊢
  have hpr : P < R := by rw [hR]; exact HS0.out.lt
  have hpn : P ≠ R := by omega
  have hs1 := HS0.out.below hb1
  have HS1 := Lib.hid hs1; have HB1 := Lib.hid (HB0.out.trans (hb1.mono HB0.out.size))
  clear hb1 HB0 HS0 HOP hR hs1
  go_wp2_with fail
  refine (l9Open_any w1 R 0 hr1 (by omega)).mono ?_
  rintro _ w4 ⟨A4, c4', rs4, p4, g4, l4, o5, y5, rfl, hrd, hcl, hl4, hzp4, hzg4, hzl4, hzo, hzy, hA4, hb4, hr4⟩
  have hs5 : SB w4 P #[.slice none 0 0, .string ⟨#[]⟩, .string ⟨#[]⟩, .string ⟨#[]⟩] 27 := (hb4.block P hpr).trans HS1.out
  have hb5 : Below w.heap.size w w4 := HB1.out.trans (hb4.mono (by omega))
  obtain ⟨w3, hw3⟩ : ∃ w3, w3 = w4.alloc (.cells #[.slice A4 rs4.length c4', .string p4, .string g4, .string l4] 27) := ⟨_, rfl⟩
  have hal : Below w4.heap.size w4 w3 := by rw [hw3]; exact (Below.refl _ _).alloc (Nat.le_refl _) _
  have hm3 := SB.made w4 #[.slice A4 rs4.length c4', .string p4, .string g4, .string l4] 27
  rw [← hw3] at hm3
  have hr3 : Rdr w3 R (0 + 500) := hr4.below hal
  have hRl := hr4.lt
  obtain ⟨Q, hQ⟩ : ∃ Q, Q = w4.heap.size := ⟨_, rfl⟩
  have hQR : Q ≠ R := by omega
  rw [← hQ] at hm3
  have hAR : ∀ x, A4 = some x → x.block ≠ R := fun x e => by have := hA4 x e; omega
  have hAP : ∀ x, A4 = some x → x.block ≠ P := fun x e => by have := hA4 x e; omega
  have HAR := Lib.hid hAR; have HAP := Lib.hid hAP
  have HRD3 := Lib.hid ((hrd.below hal).mono hal.size); have HS3 := Lib.hid (hs5.below hal); have HM3 := Lib.hid hm3; have HB3 := Lib.hid (hb5.trans (hal.mono hb5.size)); have HR3 := Lib.hid hr3
  have hwR : w.heap.size ≤ R := by omega
  clear hAR hAP hal hm3 hr3 hr4 hRl hs5 hb5 hrd hA4 hb4 hr1 HS1 HB1 hz1
  go_wp2_with fail
  rw [← hw3, ← hQ]
  clear hw3 hQ
  refine (l1Word_any w3 R _ 10 HR3.out (by omega) (by omega)).mono ?_
  rintro _ w5 ⟨xl, rfl, hxl, _, hr5, ho5⟩
  have HS5 := Lib.hid (HS3.out.grow ho5 hpn); have HM5 := Lib.hid (HM3.out.grow ho5 hQR)
  have HB5 := Lib.hid (HB3.out.trans (below_of_only ho5 HB3.out.size hwR)); have HRD5 := Lib.hid (HRD3.out.grownR HAR.out ho5)
  clear ho5 HS3 HM3 HB3 HR3 HRD3
  have hxz : (mk xl).size ≤ 10 := by rw [size_mk]; exact hxl
  generalize mk xl = X at hxz ⊢
  clear hxl
  go_wp2_with fail
  refine (pick_pos _ R _ _ hr5 (by omega) (by omega) (by omega)).mono ?_
  rintro _ w6 ⟨k, rfl, hk, hr6, ho6⟩
  have HS6 := Lib.hid (HS5.out.grow ho6 hpn); have HM6 := Lib.hid (HM5.out.grow ho6 hQR)
  have HB6 := Lib.hid (HB5.out.trans (below_of_only ho6 HB5.out.size hwR)); have HRD6 := Lib.hid (HRD5.out.grownR HAR.out ho6)
  clear ho6 HS5 HM5 HB5 HRD5 hr5
  by_cases h0 : k = 0
  case' pos =>
    subst h0
    go_wp2_with fail
    refine (l1Bad_any _ R _ X hr6 (by omega) (by omega)).mono ?_
    rintro _ w7 ⟨t, rfl, htz, hr7, ho7⟩
    have htz2 : t.size ≤ 300 := by omega
    have HS7 := Lib.hid (HS6.out.grow ho7 hpn); have HM7 := Lib.hid (HM6.out.grow ho7 hQR)
    have HB7 := Lib.hid (HB6.out.trans (below_of_only ho7 HB6.out.size hwR)); have HRD7 := Lib.hid (HRD6.out.grownR HAR.out ho7)
    clear ho7 HS6 HM6 HB6 HRD6 hr6 hr7 htz
    obtain ⟨⟨c0, c1, c2, c3⟩, _⟩ := HM7.out.all4
    obtain ⟨⟨d0, d1, d2, d3⟩, f0, f1, f2, f3⟩ := HS7.out.all4
  case' neg =>
    have b0 : ((k : Int) == 0) = false := by rw [beq_eq_false_iff_ne]; omega
    have htz2 : X.size ≤ 300 := by omega
    have HS7 := HS6; have HM7 := HM6; have HB7 := HB6; have HRD7 := HRD6
    obtain ⟨⟨c0, c1, c2, c3⟩, _⟩ := HM7.out.all4
    obtain ⟨⟨d0, d1, d2, d3⟩, f0, f1, f2, f3⟩ := HS7.out.all4
    clear HS6 HM6 HB6 HRD6 hr6
  all_goals
    have HSF := Lib.hid (HS7.out.four (.slice A4 rs4.length c4') (.string p4) (.string g4) (.string l4))
    have HBF := Lib.hid ((((HB7.out.setCell hpw (p := ⟨P, 0, none⟩) (.slice A4 rs4.length c4')).setCell hpw (p := ⟨P, 1, none⟩) (.string p4)).setCell hpw (p := ⟨P, 2, none⟩) (.string g4)).setCell hpw (p := ⟨P, 3, none⟩) (.string l4))
    have HRF := Lib.hid ((((HRD7.out.far HAP.out 0 (.slice A4 rs4.length c4')).far HAP.out 1 (.string p4)).far HAP.out 2 (.string g4)).far HAP.out 3 (.string l4))
    have hsz := fun (W : World) => show W.heap.size ≤ ((((W.setCell ⟨P, 0, none⟩ (.slice A4 rs4.length c4')).setCell ⟨P, 1, none⟩ (.string p4)).setCell ⟨P, 2, none⟩ (.string g4)).setCell ⟨P, 3, none⟩ (.string l4)).heap.size by simp [World.setCell]
    have HSZ := Lib.hid hsz
    clear hsz HS7 HM7 HB7 HRD7
    go_wp2_with fail
    refine bodyPost_ret (results_st_tmp3 rfl _ _ P _ #[.slice A4 rs4.length c4', .string p4, .string g4, .string l4] _ _ rfl HSF.out Tryz.underlying27 ⟨_, rfl⟩ macSize) rfl ⟨A4, c4', rs4, p4, g4, l4, o5, y5, _, rfl, HRF.out.mono (HSZ.out _), hcl, hl4, hzp4, hzg4, hzl4, hzo, hzy, htz2, HBF.out⟩

end Go.Proofs.YtpccnaecdpnlkaaGreatDoor
