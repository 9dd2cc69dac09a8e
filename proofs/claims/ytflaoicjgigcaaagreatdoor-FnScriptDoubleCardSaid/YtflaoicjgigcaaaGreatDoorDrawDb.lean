/-
  Contract of the draw of a machine and two windows. Conditions: what each theorem names.
-/
import Derived.Test.YtflaoicjgigcaaaGreatDoorDrawMa
namespace Go.Proofs.YtflaoicjgigcaaaGreatDoor
open Go.RowKit Pl
set_option linter.unusedVariables false

theorem results_st_tmp2 {fn : Func} {p u v : Tmp} {ty : TypeId} (h : fn.results = #[.cell p ty, .tmp u, .tmp v]) (tmps : Array Value) (w : World) (g : Nat) (t : TypeId) (cs : Array Value) (fr : Nat × Nat) (d : TypeDesc)
    (hp : tmps.getD p undef = .pointer (some ⟨g, 0, none⟩)) (hg : w.heap[g]? = some (.cells cs t fr))
    (hu : Tryz.prog.underlying ty = some d) (hd : (∃ fs, d = .struct fs)) (hi : (Tryz.prog.info? ty).map (·.size) = some cs.size) :
    (results fn tmps).run Tryz.prog w = .ok (.tuple #[.agg cs, tmps.getD u undef, tmps.getD v undef]) w := by
  obtain ⟨fs, rfl⟩ := hd
  have hp' : tmps[p]?.getD undef = .pointer (some ⟨g, 0, none⟩) := by simpa using hp
  simp [results, h, hp', asAddr, run_loadVar_row w g t ty cs fr _ hg hu rfl hi]
/-- a machine and two windows were drawn, whatever they are -/
def DbD (w : World) (R N : Nat) (e : Ending) (w' : World) : Prop :=
  ∃ (A : Option Addr) (cap : Nat) (rs : List (ByteArray × ByteArray)) (p g l o y : ByteArray), e = .returned (.tuple #[.agg #[.slice A rs.length cap, .string p, .string g, .string l], .string o, .string y]) ∧ Rd w' w'.heap.size A (rotV rs) ∧ rs.length ≤ cap ∧ rs.length ≤ 6 ∧ p.size ≤ 20 ∧ g.size ≤ 10 ∧ l.size ≤ 20 ∧ o.size ≤ 10 ∧ y.size ≤ 10 ∧ (∀ x, A = some x → R < x.block) ∧ Below R w w' ∧ Rdr w' R N

def DbO (w : World) (e : Ending) (w' : World) : Prop :=
  ∃ (A : Option Addr) (cap : Nat) (rs : List (ByteArray × ByteArray)) (p g l o y : ByteArray), e = .returned (.tuple #[.agg #[.slice A rs.length cap, .string p, .string g, .string l], .string o, .string y]) ∧ Rd w' w'.heap.size A (rotV rs) ∧ rs.length ≤ cap ∧ rs.length ≤ 6 ∧ p.size ≤ 20 ∧ g.size ≤ 10 ∧ l.size ≤ 20 ∧ o.size ≤ 10 ∧ y.size ≤ 10 ∧ (∀ x, A = some x → w.heap.size < x.block) ∧ Below w.heap.size w w'

set_option maxHeartbeats 8000000 in
set_option maxRecDepth 100000 in
theorem l9Open_any (w : World) (R N : Nat) (h : Rdr w R N) (hN : N ≤ 1000) :
    Calls Tryz.prog 39 #[.pointer (some ⟨R, 0, none⟩)] w (DbD w R (N + 500)) := by
  have hlt := h.lt
  have hb0 : Below R w (w.alloc (.cells #[.slice none 0 0, .string ⟨#[]⟩, .string ⟨#[]⟩, .string ⟨#[]⟩] 27)) := (Below.refl _ _).alloc (Nat.le_of_lt hlt) _
  have hs0 := SB.made w #[.slice none 0 0, .string ⟨#[]⟩, .string ⟨#[]⟩, .string ⟨#[]⟩] 27
  have hr1 := h.alloc (.cells #[.slice none 0 0, .string ⟨#[]⟩, .string ⟨#[]⟩, .string ⟨#[]⟩] 27)
  have hz1 : (w.alloc (.cells #[.slice none 0 0, .string ⟨#[]⟩, .string ⟨#[]⟩, .string ⟨#[]⟩] 27)).heap.size = w.heap.size + 1 := by simp
  obtain ⟨w1, hw1⟩ : ∃ w1, w1 = w.alloc (.cells #[.slice none 0 0, .string ⟨#[]⟩, .string ⟨#[]⟩, .string ⟨#[]⟩] 27) := ⟨_, rfl⟩
  rw [← hw1] at hb0 hs0 hr1 hz1
  obtain ⟨P, hP⟩ : ∃ P, P = w.heap.size := ⟨_, rfl⟩
  have hlw := hlt
  rw [← hP] at hs0 hz1 hlt
  have hpw : R ≤ P := Nat.le_of_lt hlt
  have HS1 := Lib.hid hs0; have HB1 := Lib.hid hb0; have HZ1 := Lib.hid hz1
  have hpn : P ≠ R := by omega
  clear hb0 hs0 h hz1
  go_enter Tryz.func39, Tryz.ntmps39
  go_wp2_with fail
  rw [← hw1, ← hP]
  clear hw1 hP
  go_wp2_with fail
  refine (l8Any_any _ R N hr1 (by omega)).mono ?_
  rintro _ w2 ⟨v, rs, q, rg, pl, ws, rfl, hrb, hq, hpl, h1, h3, hrl, hrlo, hwl, hlo, hr2, ho2⟩
  obtain ⟨b, c2, e2⟩ := own_some hrb.own (by omega)
  subst e2
  have hzq : (pT q).size ≤ 20 := by rw [pT_size, hq.len]; omega
  have hzp : (pT pl).size ≤ 20 := by rw [pT_size, hpl.len]; omega
  have hzr1 : 1 ≤ (pT rg).size := by rw [pT_size, hrl]; exact h1
  have hzr3 : (pT rg).size ≤ 3 := by rw [pT_size, hrl]; exact h3
  have hzw1 : 1 ≤ (pT ws).size := by rw [pT_size, hwl]; exact h1
  have hzw3 : (pT ws).size ≤ 3 := by rw [pT_size, hwl]; exact h3
  have HRT := Lib.hid (rotT_sizes hrb.rot)
  have hown := hrb.own
  have hb2 : b < w2.heap.size := (hown.lt b rfl).2
  have hb2' : P + 1 ≤ b := by have := (hown.lt b rfl).1; have := HZ1.out; omega
  have hsz2 : P + 1 ≤ w2.heap.size := by have := ho2.size; have := HZ1.out; omega
  have HS2 := Lib.hid (HS1.out.grow ho2 hpn); have HB2 := Lib.hid (HB1.out.trans (below_of_only ho2 (by have := HB1.out.size; have := HZ1.out; omega) (Nat.le_refl _)))
  rw [HZ1.out] at hown
  unfold macC
  generalize pT q = p2 at hzq ⊢
  generalize pT pl = l2 at hzp ⊢
  generalize pT rg = g2 at hzr1 hzr3 ⊢
  generalize pT ws = o2 at hzw1 hzw3 ⊢
  have hwal : (w2.alloc (.cells #[.slice (some ⟨b, 0, none⟩) rs.length c2, .string p2, .string g2, .string l2] 27)).ownsRow (P + 1) 94 2 (.slice (some ⟨b, 0, none⟩) rs.length c2) rs.length (rotV rs) := hown.alloc _
  have hral := hr2.alloc (.cells #[.slice (some ⟨b, 0, none⟩) rs.length c2, .string p2, .string g2, .string l2] 27)
  have hbal : Below R w (w2.alloc (.cells #[.slice (some ⟨b, 0, none⟩) rs.length c2, .string p2, .string g2, .string l2] 27)) := HB2.out.alloc (by have := HB2.out.size; have := HZ1.out; omega) _
  have hsal := SB.below HS2.out ((Below.refl _ _).alloc (Nat.le_refl _) (.cells #[.slice (some ⟨b, 0, none⟩) rs.length c2, .string p2, .string g2, .string l2] 27))
  have hmal := SB.made w2 #[.slice (some ⟨b, 0, none⟩) rs.length c2, .string p2, .string g2, .string l2] 27
  obtain ⟨w3, hw3⟩ : ∃ w3, w3 = w2.alloc (.cells #[.slice (some ⟨b, 0, none⟩) rs.length c2, .string p2, .string g2, .string l2] 27) := ⟨_, rfl⟩
  rw [← hw3] at hwal hral hbal hsal hmal
  have hsz3 : P + 1 ≤ w3.heap.size := by rw [hw3]; simp; omega
  have hbd := l8Bad_any w3 R _ (P + 1) b c2 rs p2 g2 l2 hral (by omega) (by omega) hsz3 hwal h1 h3 HRT.out hzq hzr1 hzr3 hzp
  have HBD := Lib.hid hbd; have HSAL := Lib.hid hsal; have HBAL := Lib.hid hbal
  obtain ⟨⟨c0, c1, c4, c5⟩, _⟩ := hmal.all4
  have hbw := (hown.lt b rfl)
  have hwP : R < b := by omega
  have hPb : P ≠ b := by omega
  clear hbd hwal hral hbal hsal hmal hrb hq hpl hrl hrlo hwl hlo hr2 ho2 hown hr1 hbw HS2 HB2 HS1 HB1
  go_wp2_with fail
  rw [← hw3]
  clear hw3
  refine HBD.out.mono ?_
  rintro _ w4 ⟨v4, rs4, p4, g4, l4, rfl, how4, hl4, hzp4, hzg4, hzl4, hr4, hk4⟩
  obtain ⟨A4, c4', e4⟩ := slot_slice how4
  subst e4
  have hs4 := hk4.sb HSAL.out hpn (by intro e; injection e with e; simp only at e; omega)
  have hb4 : Below R w w4 := HBAL.out.trans (hk4.below (by have := HBAL.out.size; have := HZ1.out; omega) (by omega) (fun k e => by injection e with e; simp only at e; omega))
  have HS4 := Lib.hid hs4; have HB4 := Lib.hid hb4; have HW4 := Lib.hid how4
  clear hs4 hb4 hk4 HBD HSAL HBAL c0 c1 c4 c5
  go_wp2_with fail
  refine (l8Off_any w4 R _ o2 hr4 (by omega) hzw1 hzw3).mono ?_
  rintro _ w5 ⟨o5, rfl, hzo, hr5, ho5⟩
  have how5 := HW4.out.kept ho5 (.inr (by intro e; have := (how4.lt R e).1; omega))
  have hs5 := HS4.out.grow ho5 hpn
  have hb5 := HB4.out.trans (below_of_only ho5 (by have := HB4.out.size; have := HZ1.out; omega) (Nat.le_refl _))
  have HW5 := Lib.hid how5; have HS5 := Lib.hid hs5; have HB5 := Lib.hid hb5; have HA4 := Lib.hid (fun x (e : (Value.slice A4 rs4.length c4').ownBlock = some x) => (how4.lt x e).1)
  have hzo2 : o2.size ≤ 3 := hzw3
  clear how5 hs5 hb5 how4 ho5 hr4 HS4 HB4 HW4
  go_wp2_with fail
  refine (l1Some_any w5 R _ o2.size hr5 (by omega) (by omega)).mono ?_
  rintro _ w6 ⟨yl, rfl, hyl, _, hr6, ho6⟩
  have how6 := HW5.out.kept ho6 (.inr (by intro e; have := HA4.out R e; omega))
  have hs6 := HS5.out.grow ho6 hpn
  have hb6 := HB5.out.trans (below_of_only ho6 (by have := HB5.out.size; have := HZ1.out; omega) (Nat.le_refl _))
  have HW6 := Lib.hid how6; have HS6 := Lib.hid hs6; have HB6 := Lib.hid hb6
  have hy1 : 1 ≤ (mk yl).size := by rw [size_mk, hyl]; exact hzw1
  have hy3 : (mk yl).size ≤ 3 := by rw [size_mk, hyl]; exact hzw3
  generalize mk yl = y0 at hy1 hy3 ⊢
  clear how6 hs6 hb6 ho6 hr5 HS5 HB5 HW5 hyl
  go_wp2_with fail
  refine (l8Off_any w6 R _ y0 hr6 (by omega) hy1 hy3).mono ?_
  rintro _ w7 ⟨y5, rfl, hzy, hr7, ho7⟩
  have how7 := HW6.out.kept ho7 (.inr (by intro e; have := HA4.out R e; omega))
  have hs7 := HS6.out.grow ho7 hpn
  have hb7 := HB6.out.trans (below_of_only ho7 (by have := HB6.out.size; have := HZ1.out; omega) (Nat.le_refl _))
  obtain ⟨⟨d0, d1, d2, d3⟩, f0, f1, f2, f3⟩ := hs7.all4
  have hna := own_ne_type how7 hs7 (by decide)
  have HSF := Lib.hid (hs7.four (.slice A4 rs4.length c4') (.string p4) (.string g4) (.string l4))
  have HWF := Lib.hid (own_set (own_set (own_set (own_set how7 hna 0 (.slice A4 rs4.length c4')) hna 1 (.string p4)) hna 2 (.string g4)) hna 3 (.string l4))
  have HBF := Lib.hid ((((hb7.setCell hpw (p := ⟨P, 0, none⟩) (.slice A4 rs4.length c4')).setCell hpw (p := ⟨P, 1, none⟩) (.string p4)).setCell hpw (p := ⟨P, 2, none⟩) (.string g4)).setCell hpw (p := ⟨P, 3, none⟩) (.string l4))
  have HRF := Lib.hid (((((hr7.far hlt 0 (.slice A4 rs4.length c4')).far hlt 1 (.string p4)).far hlt 2 (.string g4)).far hlt 3 (.string l4)).mono (show _ ≤ N + 500 by omega))
  clear how7 hs7 hb7 hna ho7 hr6 hr7 HS6 HB6 HW6
  go_wp2_with fail
  refine bodyPost_ret (results_st_tmp2 rfl _ _ P _ #[.slice A4 rs4.length c4', .string p4, .string g4, .string l4] _ _ rfl HSF.out Tryz.underlying27 ⟨_, rfl⟩ macSize) rfl ⟨A4, c4', rs4, p4, g4, l4, o5, y5, rfl, own_rd3' HWF.out, own_le3 HWF.out, hl4, hzp4, hzg4, hzl4, hzo, hzy, fun x e => by subst e; have := (HWF.out.lt x.block rfl).1; omega, HBF.out, HRF.out⟩

set_option maxHeartbeats 4000000 in
theorem drawDouble_any (w : World) (A : Option Addr) (cap : Nat) (bs : List UInt8) (h : Rd w w.heap.size A (bytesV bs)) (hc : bs.length ≤ cap) :
    Calls Tryz.prog 14 #[.slice A bs.length cap] w (DbO w) := by
  have hb0 : Below w.heap.size w (w.alloc (.cells #[.slice none 0 0, .string ⟨#[]⟩, .string ⟨#[]⟩, .string ⟨#[]⟩] 27)) := (Below.refl _ _).alloc (Nat.le_refl _) _
  have hs0 := SB.made w #[.slice none 0 0, .string ⟨#[]⟩, .string ⟨#[]⟩, .string ⟨#[]⟩] 27
  obtain ⟨w0, hw0⟩ : ∃ w0, w0 = w.alloc (.cells #[.slice none 0 0, .string ⟨#[]⟩, .string ⟨#[]⟩, .string ⟨#[]⟩] 27) := ⟨_, rfl⟩
  rw [← hw0] at hb0 hs0
  have hop := l21Open_any w0 A cap bs ((h.below hb0).mono hb0.size) hc
  obtain ⟨P, hP⟩ : ∃ P, P = w.heap.size := ⟨_, rfl⟩
  have hpw : w.heap.size ≤ P := by omega
  rw [← hP] at hs0
  have HOP := Lib.hid hop; have HB0 := Lib.hid hb0; have HS0 := Lib.hid hs0
  clear hop hb0 hs0 h
  go_enter Tryz.func14, Tryz.ntmps14
  go_wp2_with fail
  rw [← hw0, ← hP]
  clear hw0 hP
  refine HOP.out.mono ?_
  rintro _ w1 ⟨rfl, hr1, hb1, hz1⟩
  obtain ⟨R, hR⟩ : ∃ R, R = w0.heap.size := ⟨_, rfl⟩
  rw [← hR] at hr1 hz1 ⊢
  have hpr : P < R := by rw [hR]; exact HS0.out.lt
  have hs1 := HS0.out.below hb1
  have HS1 := Lib.hid hs1; have HB1 := Lib.hid (HB0.out.trans (hb1.mono HB0.out.size))
  clear hb1 HB0 HS0 HOP hR hs1
  go_wp2_with fail
  refine (l9Open_any w1 R 0 hr1 (by omega)).mono ?_
  rintro _ w4 ⟨A4, c4', rs4, p4, g4, l4, o5, y5, rfl, hrd, hcl, hl4, hzp4, hzg4, hzl4, hzo, hzy, hA4, hb4, _⟩
  have hs5 : SB w4 P #[.slice none 0 0, .string ⟨#[]⟩, .string ⟨#[]⟩, .string ⟨#[]⟩] 27 := (hb4.block P hpr).trans HS1.out
  have hb5 : Below w.heap.size w w4 := HB1.out.trans (hb4.mono (by omega))
  obtain ⟨⟨d0, d1, d2, d3⟩, f0, f1, f2, f3⟩ := hs5.all4
  have HSF := Lib.hid (hs5.four (.slice A4 rs4.length c4') (.string p4) (.string g4) (.string l4))
  have HBF := Lib.hid ((((hb5.setCell hpw (p := ⟨P, 0, none⟩) (.slice A4 rs4.length c4')).setCell hpw (p := ⟨P, 1, none⟩) (.string p4)).setCell hpw (p := ⟨P, 2, none⟩) (.string g4)).setCell hpw (p := ⟨P, 3, none⟩) (.string l4))
  have hap : ∀ x, A4 = some x → x.block ≠ P := fun x e => by have := hA4 x e; omega
  have HRF := Lib.hid ((((hrd.far hap 0 (.slice A4 rs4.length c4')).far hap 1 (.string p4)).far hap 2 (.string g4)).far hap 3 (.string l4))
  have hsz : w4.heap.size ≤ ((((w4.setCell ⟨P, 0, none⟩ (.slice A4 rs4.length c4')).setCell ⟨P, 1, none⟩ (.string p4)).setCell ⟨P, 2, none⟩ (.string g4)).setCell ⟨P, 3, none⟩ (.string l4)).heap.size := by simp [World.setCell]
  have HA := Lib.hid (show ∀ x, A4 = some x → w.heap.size < x.block from fun x e => by have := hA4 x e; omega)
  clear hap hA4 hrd hb4 hs5 hb5
  go_wp2_with fail
  refine bodyPost_ret (results_st_tmp2 rfl _ _ P _ #[.slice A4 rs4.length c4', .string p4, .string g4, .string l4] _ _ rfl HSF.out Tryz.underlying27 ⟨_, rfl⟩ macSize) rfl ⟨A4, c4', rs4, p4, g4, l4, o5, y5, rfl, HRF.out.mono hsz, hcl, hl4, hzp4, hzg4, hzl4, hzo, hzy, HA.out, HBF.out⟩

end Go.Proofs.YtflaoicjgigcaaaGreatDoor
