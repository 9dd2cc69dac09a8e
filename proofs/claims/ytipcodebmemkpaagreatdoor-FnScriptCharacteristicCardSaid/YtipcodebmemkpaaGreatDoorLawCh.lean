/-
  The walk of the law FnScriptCharacteristic: it returns true whatever the bytes are; nothing that was there is changed. With what both sides answer, the commands and their script. Conditions: what each theorem names.
-/
import Derived.Test.YtipcodebmemkpaaGreatDoorDayPr
import Derived.Test.YtipcodebmemkpaaGreatDoorChrA
import Derived.Test.YtipcodebmemkpaaGreatDoorRunTw
import Derived.Test.YtipcodebmemkpaaGreatDoorJoinC
import Derived.Test.YtipcodebmemkpaaGreatDoorRcJoin
import Derived.Test.YtipcodebmemkpaaGreatDoorMachP
import Derived.Test.YtipcodebmemkpaaGreatDoorDrawMa
import Derived.Deep.QuietTactic
import Derived.BigQuiet
namespace Go.Proofs.YtipcodebmemkpaaGreatDoor
set_option linter.unusedVariables false

section
open Go.RowKit Pl

/-- nothing was made -/
def NoneMade (w : World) (e : Ending) (w' : World) : Prop := ∃ A c, e = .returned (.slice A 0 c) ∧ Below w.heap.size w w'

set_option maxHeartbeats 4000000 in
set_option maxRecDepth 100000 in
theorem sDayProducts_yes (w : World) (A : Option Addr) (cap : Nat) (rs : List (ByteArray × ByteArray)) (p g l o : ByteArray) (K : Nat → List Nat) (n : Nat) (htp : ∀ w' : World, Rd w' w'.heap.size A (rotV rs) → Calls Tryz.prog 103 #[.agg #[.slice A rs.length cap, .string p, .string g, .string l], .string o] w' (PrMade K n w')) (h : Rd w w.heap.size A (rotV rs)) (hc : rs.length ≤ cap) (hl : rs.length ≤ 100) (hs : SetV rs p g l o) :
    Calls Tryz.prog 58 #[.agg #[.slice A rs.length cap, .string p, .string g, .string l], .string o] w (PrMade K n w) := by
  obtain ⟨w0, hw0⟩ : ∃ w0, w0 = w.alloc (.cells #[.slice A rs.length cap, .string p, .string g, .string l] 29) := ⟨_, rfl⟩
  have hb0 : Below w.heap.size w w0 := by rw [hw0]; exact (Below.refl _ _).alloc (Nat.le_refl _) _
  have hs0 := SB.made w #[.slice A rs.length cap, .string p, .string g, .string l] 29
  rw [← hw0] at hs0
  have hrd0 := (h.below hb0).mono hb0.size
  have hcon := sFits_any w0 A cap rs p g l o true hrd0 hc hl (by simp [hs])
  obtain ⟨M, hM⟩ : ∃ M, M = rs.length := ⟨_, rfl⟩
  have HB0 := Lib.hid hb0; have HCON := Lib.hid hcon; have HS0 := Lib.hid hs0; have HRD := Lib.hid hrd0; have HTP := Lib.hid htp
  rw [← hM] at hw0 HCON hs0 HS0 HTP ⊢
  obtain ⟨P, hP⟩ : ∃ P, P = w.heap.size := ⟨_, rfl⟩
  rw [← hP] at hs0 HS0
  obtain ⟨⟨c0, c1, c2, c3⟩, _⟩ := hs0.all4
  clear h hb0 hcon hM hc hl hs0 hs hrd0
  go_enter Tryz.func58, Tryz.ntmps58
  go_wp2_with fail
  rw [← hw0]
  rw [← hP]
  clear hw0 hP
  go_wp2_with fail
  refine HCON.out.mono ?_
  rintro _ w1 ⟨rfl, hb1⟩
  have HB1 := Lib.hid (HB0.out.trans (hb1.mono HB0.out.size)); have HS1 := Lib.hid (HS0.out.below hb1); have HR1 := Lib.hid ((HRD.out.below hb1).mono hb1.size)
  clear hb1 c0 c1 c2 c3 HB0 HS0 HRD HCON
  obtain ⟨⟨c0, c1, c2, c3⟩, _⟩ := HS1.out.all4
  go_wp2_with fail
  refine (HTP.out _ HR1.out).mono ?_
  rintro _ w2 ⟨A2, k2, rfl, ho2, hb2⟩
  have HO2 := Lib.hid (own_mono3 ho2 HB1.out.size); have HB2 := Lib.hid (HB1.out.trans (hb2.mono HB1.out.size))
  clear ho2 hb2
  go_wp2_with fail
  go_ret
  exact ⟨A2, k2, rfl, HO2.out, HB2.out⟩

set_option maxHeartbeats 4000000 in
set_option maxRecDepth 100000 in
theorem iDayProducts_no (w : World) (A : Option Addr) (cap : Nat) (rs : List (ByteArray × ByteArray)) (p g l o : ByteArray) (h : Rd w w.heap.size A (rotV rs)) (hc : rs.length ≤ cap) (hl : rs.length ≤ 100) (hs : ¬ SetV rs p g l o) :
    Calls Tryz.prog 56 #[.agg #[.slice A rs.length cap, .string p, .string g, .string l], .string o] w (NoneMade w) := by
  obtain ⟨w0, hw0⟩ : ∃ w0, w0 = w.alloc (.cells #[.slice A rs.length cap, .string p, .string g, .string l] 29) := ⟨_, rfl⟩
  have hb0 : Below w.heap.size w w0 := by rw [hw0]; exact (Below.refl _ _).alloc (Nat.le_refl _) _
  have hs0 := SB.made w #[.slice A rs.length cap, .string p, .string g, .string l] 29
  rw [← hw0] at hs0
  have hrd0 := (h.below hb0).mono hb0.size
  have hcon := settingValid_any w0 A cap rs p g l o false hrd0 hc hl (by simp [hs])
  obtain ⟨M, hM⟩ : ∃ M, M = rs.length := ⟨_, rfl⟩
  have HB0 := Lib.hid hb0; have HCON := Lib.hid hcon; have HS0 := Lib.hid hs0; have HRD := Lib.hid hrd0
  rw [← hM] at hw0 HCON hs0 HS0 ⊢
  obtain ⟨P, hP⟩ : ∃ P, P = w.heap.size := ⟨_, rfl⟩
  rw [← hP] at hs0 HS0
  obtain ⟨⟨c0, c1, c2, c3⟩, _⟩ := hs0.all4
  clear h hb0 hcon hM hc hl hs0 hs hrd0
  go_enter Tryz.func56, Tryz.ntmps56
  go_wp2_with fail
  rw [← hw0]
  rw [← hP]
  clear hw0 hP
  go_wp2_with fail
  refine HCON.out.mono ?_
  rintro _ w1 ⟨rfl, hb1⟩
  have HB1 := Lib.hid (HB0.out.trans (hb1.mono HB0.out.size)); have HS1 := Lib.hid (HS0.out.below hb1); have HR1 := Lib.hid ((HRD.out.below hb1).mono hb1.size)
  clear hb1 c0 c1 c2 c3 HB0 HS0 HRD HCON
  obtain ⟨⟨c0, c1, c2, c3⟩, _⟩ := HS1.out.all4
  go_wp2_with fail
  go_ret
  exact ⟨none, 0, rfl, HB1.out⟩

set_option maxHeartbeats 4000000 in
set_option maxRecDepth 100000 in
theorem sDayProducts_no (w : World) (A : Option Addr) (cap : Nat) (rs : List (ByteArray × ByteArray)) (p g l o : ByteArray) (h : Rd w w.heap.size A (rotV rs)) (hc : rs.length ≤ cap) (hl : rs.length ≤ 100) (hs : ¬ SetV rs p g l o) :
    Calls Tryz.prog 58 #[.agg #[.slice A rs.length cap, .string p, .string g, .string l], .string o] w (NoneMade w) := by
  obtain ⟨w0, hw0⟩ : ∃ w0, w0 = w.alloc (.cells #[.slice A rs.length cap, .string p, .string g, .string l] 29) := ⟨_, rfl⟩
  have hb0 : Below w.heap.size w w0 := by rw [hw0]; exact (Below.refl _ _).alloc (Nat.le_refl _) _
  have hs0 := SB.made w #[.slice A rs.length cap, .string p, .string g, .string l] 29
  rw [← hw0] at hs0
  have hrd0 := (h.below hb0).mono hb0.size
  have hcon := sFits_any w0 A cap rs p g l o false hrd0 hc hl (by simp [hs])
  obtain ⟨M, hM⟩ : ∃ M, M = rs.length := ⟨_, rfl⟩
  have HB0 := Lib.hid hb0; have HCON := Lib.hid hcon; have HS0 := Lib.hid hs0; have HRD := Lib.hid hrd0
  rw [← hM] at hw0 HCON hs0 HS0 ⊢
  obtain ⟨P, hP⟩ : ∃ P, P = w.heap.size := ⟨_, rfl⟩
  rw [← hP] at hs0 HS0
  obtain ⟨⟨c0, c1, c2, c3⟩, _⟩ := hs0.all4
  clear h hb0 hcon hM hc hl hs0 hs hrd0
  go_enter Tryz.func58, Tryz.ntmps58
  go_wp2_with fail
  rw [← hw0]
  rw [← hP]
  clear hw0 hP
  go_wp2_with fail
  refine HCON.out.mono ?_
  rintro _ w1 ⟨rfl, hb1⟩
  have HB1 := Lib.hid (HB0.out.trans (hb1.mono HB0.out.size)); have HS1 := Lib.hid (HS0.out.below hb1); have HR1 := Lib.hid ((HRD.out.below hb1).mono hb1.size)
  clear hb1 c0 c1 c2 c3 HB0 HS0 HRD HCON
  obtain ⟨⟨c0, c1, c2, c3⟩, _⟩ := HS1.out.all4
  go_wp2_with fail
  go_ret
  exact ⟨_, 0, rfl, HB1.out.alloc HB1.out.size _⟩

set_option maxHeartbeats 4000000 in
set_option maxRecDepth 100000 in
theorem iChar_no (w : World) (A : Option Addr) (cap : Nat) (rs : List (ByteArray × ByteArray)) (p g l o : ByteArray) (h : Rd w w.heap.size A (rotV rs)) (hd : ∀ w' : World, Rd w' w'.heap.size A (rotV rs) → Calls Tryz.prog 56 #[.agg #[.slice A rs.length cap, .string p, .string g, .string l], .string o] w' (NoneMade w')) :
    Calls Tryz.prog 15 #[.agg #[.slice A rs.length cap, .string p, .string g, .string l], .string o] w (NoneMade w) := by
  obtain ⟨w0, hw0⟩ : ∃ w0, w0 = w.alloc (.cells #[.slice A rs.length cap, .string p, .string g, .string l] 29) := ⟨_, rfl⟩
  have hb0 : Below w.heap.size w w0 := by rw [hw0]; exact (Below.refl _ _).alloc (Nat.le_refl _) _
  have hs0 := SB.made w #[.slice A rs.length cap, .string p, .string g, .string l] 29
  rw [← hw0] at hs0
  obtain ⟨P, hP⟩ : ∃ P, P = w.heap.size := ⟨_, rfl⟩
  have HB0 := Lib.hid hb0
  have HDP := Lib.hid (hd w0 ((h.below hb0).mono hb0.size))
  rw [← hP] at hs0
  obtain ⟨⟨c0, c1, c2, c3⟩, _⟩ := hs0.all4
  clear h hb0 hs0 hd
  generalize rs.length = M at *
  go_enter Tryz.func15, Tryz.ntmps15
  go_wp2_with fail
  rw [← hw0, ← hP]
  clear hw0 hP
  go_wp2_with fail
  refine HDP.out.mono ?_
  rintro _ w1 ⟨A1, k1, rfl, hb1⟩
  have HB1 := Lib.hid (HB0.out.trans (hb1.mono HB0.out.size))
  clear hb1 c0 c1 c2 c3
  go_wp2_with fail
  go_loopw [13] (fun iv wr => iv = .int .i64 0 ∧ Hid (Below w.heap.size w wr)) (fun _ _ => 0)
  case atStart => exact ⟨rfl, HB1⟩
  case round =>
    obtain ⟨rfl, HBL⟩ := hrel
    go_wp2_with fail
    go_ret
    exact ⟨A1, k1, rfl, HBL.out⟩

set_option maxHeartbeats 4000000 in
set_option maxRecDepth 100000 in
theorem sChar_no (w : World) (A : Option Addr) (cap : Nat) (rs : List (ByteArray × ByteArray)) (p g l o : ByteArray) (h : Rd w w.heap.size A (rotV rs)) (hd : ∀ w' : World, Rd w' w'.heap.size A (rotV rs) → Calls Tryz.prog 58 #[.agg #[.slice A rs.length cap, .string p, .string g, .string l], .string o] w' (NoneMade w')) :
    Calls Tryz.prog 17 #[.agg #[.slice A rs.length cap, .string p, .string g, .string l], .string o] w (NoneMade w) := by
  obtain ⟨w0, hw0⟩ : ∃ w0, w0 = w.alloc (.cells #[.slice A rs.length cap, .string p, .string g, .string l] 29) := ⟨_, rfl⟩
  have hb0 : Below w.heap.size w w0 := by rw [hw0]; exact (Below.refl _ _).alloc (Nat.le_refl _) _
  have hs0 := SB.made w #[.slice A rs.length cap, .string p, .string g, .string l] 29
  rw [← hw0] at hs0
  obtain ⟨P, hP⟩ : ∃ P, P = w.heap.size := ⟨_, rfl⟩
  have HB0 := Lib.hid hb0
  have HDP := Lib.hid (hd w0 ((h.below hb0).mono hb0.size))
  rw [← hP] at hs0
  obtain ⟨⟨c0, c1, c2, c3⟩, _⟩ := hs0.all4
  clear h hb0 hs0 hd
  generalize rs.length = M at *
  go_enter Tryz.func17, Tryz.ntmps17
  go_wp2_with fail
  rw [← hw0, ← hP]
  clear hw0 hP
  go_wp2_with fail
  refine HDP.out.mono ?_
  rintro _ w1 ⟨A1, k1, rfl, hb1⟩
  have HB1 := Lib.hid (HB0.out.trans (hb1.mono HB0.out.size))
  clear hb1 c0 c1 c2 c3
  go_wp2_with fail
  go_loopw [6] (fun iv wr => iv = .int .i64 0 ∧ Hid (Below w.heap.size w wr)) (fun _ _ => 0)
  case atStart => exact ⟨rfl, HB1⟩
  case round =>
    obtain ⟨rfl, HBL⟩ := hrel
    go_wp2_with fail
    go_ret
    exact ⟨A1, k1, rfl, HBL.out⟩

/-- what the program's Characteristic answers -/
abbrev ICh (rs : List (ByteArray × ByteArray)) (p g l o : ByteArray) (T : List ByteArray) : Prop := ∀ (w' : World) (A : Option Addr) (cap : Nat), GW w' → Rd w' w'.heap.size A (rotV rs) → rs.length ≤ cap → Calls Tryz.prog 15 #[.agg #[.slice A rs.length cap, .string p, .string g, .string l], .string o] w' fun e w'' => ∃ G c', e = .returned (.slice (some ⟨G, 0, none⟩) T.length c') ∧ w'.heap.size ≤ G ∧ Rd w'' w''.heap.size (some ⟨G, 0, none⟩) (strV T) ∧ T.length ≤ c' ∧ Below w'.heap.size w' w''
/-- what the reference's Characteristic answers -/
abbrev SCh (rs : List (ByteArray × ByteArray)) (p g l o : ByteArray) (T : List ByteArray) : Prop := ∀ (w' : World) (A : Option Addr) (cap : Nat), Rd w' w'.heap.size A (rotV rs) → rs.length ≤ cap → Calls Tryz.prog 17 #[.agg #[.slice A rs.length cap, .string p, .string g, .string l], .string o] w' fun e w'' => ∃ G c', e = .returned (.slice (some ⟨G, 0, none⟩) T.length c') ∧ w'.heap.size ≤ G ∧ Rd w'' w''.heap.size (some ⟨G, 0, none⟩) (strV T) ∧ T.length ≤ c' ∧ Below w'.heap.size w' w''

theorem ich_of {rs : List (ByteArray × ByteArray)} {o : ByteArray} {r q rg : List Nat} (hv : SetV rs (pT r) (pT rg) (pT q) o) (hr : Prm r) (hri : invP r = r) (hq : Prm q) (hi : invP q = q) (hrg : rg.length = rs.length) (hrl : ∀ x ∈ rg, x < 10) : ICh rs (pT r) (pT rg) (pT q) o (chrL (keyP q r rs rg o) o.size) := by
  intro w' A cap hg h hc
  have hl3 := hv.1.1.1.2.1
  have hl1 := hv.1.1.1.1
  have hz : o.size = rs.length := hv.2.1.trans hv.1.1.2.1
  have hwi : ∀ i, i < rs.length → Prm (wirP rs i) := fun i hi => (wir_ok hv.1.1.1.2.2.2 hi).1
  have hK := fun k => keyP_prm (o := o) (rg := rg) hq hr hwi k
  have hc2 := iChar_of w' hg A cap rs (pT r) (pT rg) (pT q) o (keyP q r rs rg o) o.size (by omega) (by omega) hK h (fun w'' h'' => iDayProducts_yes w'' A cap rs (pT r) (pT rg) (pT q) o (keyP q r rs rg o) o.size rfl (by omega) (by omega) hK h'' hc (by omega) hv (fun w3 A3 c3 h3 k3 => dayProducts_is w3 A3 c3 rs r q rg o h3 k3 hv hr hri hq hi hrg hrl))
  rw [chrL_length]
  exact hc2
theorem sch_of {rs : List (ByteArray × ByteArray)} {o : ByteArray} {r q rg : List Nat} (hv : SetV rs (pT r) (pT rg) (pT q) o) (hr : Prm r) (hri : invP r = r) (hq : Prm q) (hi : invP q = q) (hrg : rg.length = rs.length) (hrl : ∀ x ∈ rg, x < 10) : SCh rs (pT r) (pT rg) (pT q) o (chrL (keyP q r rs rg o) o.size) := by
  intro w' A cap h hc
  have hl3 := hv.1.1.1.2.1
  have hl1 := hv.1.1.1.1
  have hrv := hv.1.1.1.2.2.2
  have hz : o.size = rs.length := hv.2.1.trans hv.1.1.2.1
  have hwo := hv.2.2
  have hwp : WinV rs (pT r) o := ⟨hv.1.1.1, hz, hwo⟩
  have hwi : ∀ i, i < rs.length → Prm (wirP rs i) := fun i hi => (wir_ok hrv hi).1
  have hK := fun k => keyP_prm (o := o) (rg := rg) hq hr hwi k
  have hpe : ∀ (w3 : World) (m : Int), m = ((2 * o.size : Nat) : Int) → Rd w3 w3.heap.size A (rotV rs) → Calls Tryz.prog 169 #[.agg #[.slice A rs.length cap, .string (pT r), .string (pT rg), .string (pT q)], .string o, .int .i64 m] w3 fun e w'' => ∃ v : Value, e = .returned v ∧ w''.ownsRow w3.heap.size 9 1 v (2 * o.size) (strV (pTs (permsTo (keyP q r rs rg o) (2 * o.size)))) ∧ Below w3.heap.size w3 w'' := fun w3 m hm h3 => by
    have h0 := l8Perms_is w3 A cap rs r rg q (stepW rs o) (keyP q r rs rg o) (2 * o.size) m hm (by omega) ⟨h3, hc, fun x hx => rotT_of (hrv x hx), hl1, hl3⟩
      (fun w' k h' => by
        have hs := l7Step_is w' A cap rs (pT r) (stepW rs o k) ((WhB.make h'.rd h'.cap hwp).word _ (by rw [stepW_size]; exact hz) (stepW_wv rs hwo k))
        refine hs.mono ?_
        rintro e w'' ⟨e1, e2⟩
        refine ⟨?_, e2⟩
        rw [e1]; unfold stepW; simp only [tl_mk]; rfl)
      (fun w' k h' => by
        have hp := l8Perm_is w' A cap rs r rg q (wnd rs o k) h' hr hq (by rw [wnd_len]; exact hz) (wnd_lo hwo k) hrg hrl hwi
        rw [wnd_pT hwo] at hp
        refine hp.mono ?_
        rintro e w'' ⟨e1, e2⟩
        exact ⟨by rw [e1, perm_same hq hi hr hwi]; rfl, e2⟩)
    rw [stepW_zero] at h0
    exact h0
  have hc2 := sChar_of w' A cap rs (pT r) (pT rg) (pT q) o (keyP q r rs rg o) o.size (by omega) (by omega) hK h (fun w'' h'' => sDayProducts_yes w'' A cap rs (pT r) (pT rg) (pT q) o (keyP q r rs rg o) o.size (fun w3 h3 => l10Products_is w3 A cap rs (pT r) (pT rg) (pT q) o (keyP q r rs rg o) o.size rfl (by omega) (by omega) hK h3 hc hpe) h'' hc (by omega) hv)
  rw [chrL_length]
  exact hc2
theorem dec_two {u : Nat} (h : u < 100) : (Lib.decDigits u).length ≤ 2 := by
  by_cases h1 : u < 10
  · rw [dec_small h1]; simp
  · rw [dec_big h1, dec_small (show u / 10 < 10 by omega)]; simp
theorem lenT_size2 {q : List Nat} (hq : Prm q) : (lenT q).size ≤ 100 := by
  unfold lenT
  have h := joinW_le (lenL q) [32] 2 (fun s hs => by
    obtain ⟨n, hn, rfl⟩ := List.mem_map.1 hs
    rw [size_mk, itoa_nat]; exact dec_two (by have := (lenD_mem hq hn).2; omega)) (lenL q).length (Nat.le_refl _)
  rw [List.take_length] at h
  rw [size_mk]
  have h2 := lenD_le q
  rw [← lenL_length] at h2
  have h3 : (lenL q).length * (2 + [32].length) ≤ 10 * 3 := Nat.mul_le_mul h2 (Nat.le_refl _)
  omega
/-- both sides' characteristic, and the program's without pairs -/
theorem chr_yes {rs : List (ByteArray × ByteArray)} {p g l o : ByteArray} (hv : SetV rs p g l o) : ∃ T : List ByteArray, T.length = o.size ∧ (∀ s ∈ T, s.size ≤ 100) ∧ ICh rs p g l o T ∧ SCh rs p g l o T ∧ ICh rs p g (pT (List.range 10)) o T := by
  obtain ⟨r, q, rg, ws, hr, hri, rfl, hq, hi, rfl, rfl, hrg, hrl, ho, hws, hwl⟩ := setV_parts hv
  have hwi : ∀ i, i < rs.length → Prm (wirP rs i) := fun i hi => (wir_ok hv.1.1.1.2.2.2 hi).1
  have hv2 : SetV rs (pT r) (pT rg) (pT (List.range 10)) o := ⟨⟨hv.1.1, ⟨List.range 10, prm_id10, by decide +kernel, rfl⟩⟩, hv.2⟩
  refine ⟨chrL (keyP q r rs rg o) o.size, chrL_length _ _, fun s hs => ?_, ich_of hv hr hri hq hi hrg hrl, sch_of hv hr hri hq hi hrg hrl, ?_⟩
  · obtain ⟨i, _, rfl⟩ := List.mem_map.1 hs
    exact lenT_size2 (prodP_prm (fun k => keyP_prm hq hr hwi k) _ _)
  · have h := ich_of hv2 hr hri prm_id10 (by decide +kernel) hrg hrl
    rw [← chrL_same hq hi hr hwi] at h
    exact h

end

section
open Go.RowKit Pl

theorem join_rd (w : World) (A : Option Addr) (cap : Nat) (ws : List ByteArray) (sep : ByteArray) (hr : Rd w w.heap.size A (strV ws)) (hc : ws.length ≤ cap) (h0 : ws ≠ [])
    (hl : ws.length ≤ 1000000) (hz : (Lib.join (ws.map tl) (tl sep)).length ≤ 1000000) :
    Calls Tryz.prog 86 #[.slice A ws.length cap, .string sep] w fun e w' => e = .returned (.string (mk (Lib.join (ws.map tl) (tl sep)))) ∧ Below w.heap.size w w' := by
  obtain ⟨b, o, rfl, hb, hcells⟩ := hr (by intro e; have := congrArg List.length e; rw [length_strV, List.length_nil] at this; exact h0 (List.length_eq_zero_iff.1 this))
  exact Tryz.strings_Join b o cap ws sep w (by
    intro j x hx
    obtain ⟨hj, rfl⟩ := List.getElem?_eq_some_iff.1 hx
    rw [hcells j (by rw [length_strV]; exact hj)]; simp [strV]) hb (by omega) hc (Nat.le_trans hz (by decide))
theorem size_six (w : World) (p : Nat) (u0 u1 u2 u3 u4 u5 : Value) : (six w p u0 u1 u2 u3 u4 u5).heap.size = w.heap.size := by simp [six, World.setCell]
theorem rd_six {w : World} {G p : Nat} {xs : List Value} (h : Rd w w.heap.size (some ⟨G, 0, none⟩) xs) (hp : p < G) {u0 u1 u2 u3 u4 u5 : Value} : Rd (six w p u0 u1 u2 u3 u4 u5) (six w p u0 u1 u2 u3 u4 u5).heap.size (some ⟨G, 0, none⟩) xs := fun hn => by
  obtain ⟨b, off, e, hb, hc⟩ := h hn
  have e2 : G = b := by injection e with e; injection e
  refine ⟨b, off, e, by rw [size_six]; exact hb, fun j hj => ?_⟩
  rw [cell_six (by omega)]
  exact hc j hj
/-- the answer of the command characteristic -/
def chrT (T : List ByteArray) : ByteArray := mk (Lib.join (T.map tl) [47])
theorem chrT_size {T : List ByteArray} (h : ∀ s ∈ T, s.size ≤ 150) (hl : T.length ≤ 3) : (chrT T).size ≤ 500 := by
  unfold chrT
  rw [size_mk]
  have h1 := join_le (T.map tl) [47] 150 (fun s hs => by obtain ⟨x, hx, rfl⟩ := List.mem_map.1 hs; rw [length_tl]; exact h x hx)
  rw [List.length_map] at h1
  have h2 : T.length * (150 + [47].length) ≤ 3 * 151 := Nat.mul_le_mul hl (Nat.le_refl _)
  omega

set_option maxHeartbeats 8000000 in
set_option maxRecDepth 100000 in
theorem runChr_ok (w : World) (hg : GW w) (d : Dk) (a : At) (R : ByteArray) (F : Value) (T : List ByteArray) (h1 : 1 ≤ T.length) (h3 : T.length ≤ 3) (hz : ∀ s ∈ T, s.size ≤ 150) (hch : ICh d.rs d.rf d.ri d.pl d.wi T) (ho : Own d a w) :
    Calls Tryz.prog 142 #[dkV d a, .string R, F] w (Answered d (chrT T) w) := by
  have hb := bel_two (w := w) (.cells (dkC d a) 85) (.cells #[.slice none 0 0, .string ⟨#[]⟩, .string ⟨#[]⟩, .string ⟨#[]⟩, .string ⟨#[]⟩, .slice none 0 0] 85)
  have hdk := heap_alloc_new (w.alloc (.cells (dkC d a) 85)) (.cells #[.slice none 0 0, .string ⟨#[]⟩, .string ⟨#[]⟩, .string ⟨#[]⟩, .string ⟨#[]⟩, .slice none 0 0] 85)
  rw [szalloc] at hdk
  have hpa : ((w.alloc (.cells (dkC d a) 85)).alloc (.cells #[.slice none 0 0, .string ⟨#[]⟩, .string ⟨#[]⟩, .string ⟨#[]⟩, .string ⟨#[]⟩, .slice none 0 0] 85)).heap[w.heap.size]? = some (.cells (dkC d a) 85 (0, 0)) := block_below (heap_alloc_new w _) ((Below.refl _ _).alloc (Nat.le_refl _) _)
  obtain ⟨w1, hw1⟩ : ∃ w1, w1 = ((w.alloc (.cells (dkC d a) 85)).alloc (.cells #[.slice none 0 0, .string ⟨#[]⟩, .string ⟨#[]⟩, .string ⟨#[]⟩, .string ⟨#[]⟩, .slice none 0 0] 85)) := ⟨_, rfl⟩
  rw [← hw1] at hb hdk hpa
  have ho1 := ho.below hb
  have HG := Lib.hid (hg.below hb (Nat.le_refl _)); have HB := Lib.hid hb; have HDK := Lib.hid hdk; have HPA := Lib.hid hpa; have HO := Lib.hid ho1
  clear ho hg
  have hjz := chrT_size hz h3
  have HCH := Lib.hid (fun (w' : World) (g' : GW w') (h' : Own d a w') => hch w' a.Ar a.cr g' (own_rd3' h'.r) (own_le3 h'.r))
  have hjn := fun (w' : World) (G k : Nat) (hr : Rd w' w'.heap.size (some ⟨G, 0, none⟩) (strV T)) (hk : T.length ≤ k) => join_rd w' (some ⟨G, 0, none⟩) k T (mk [47]) hr hk (by intro e; rw [e] at h1; simp at h1) (by omega) (by
    have h := hjz
    unfold chrT at h
    rw [size_mk] at h
    rw [tl_mk]; omega)
  rw [tl_mk, show mk (Lib.join (T.map tl) [47]) = chrT T from rfl] at hjn
  generalize chrT T = X at hjn ⊢
  generalize T.length = n at hjn HCH
  have HJN := Lib.hid hjn
  clear hjn hch hz hjz h1 h3
  have hs : ∀ W : World, Below w1.heap.size w1 W → (W.cell? ⟨w.heap.size, 0, none⟩ = some (.slice a.Ar d.rs.length a.cr) ∧ W.cell? ⟨w.heap.size, 1, none⟩ = some (.string d.rf) ∧ W.cell? ⟨w.heap.size, 2, none⟩ = some (.string d.ri) ∧ W.cell? ⟨w.heap.size, 3, none⟩ = some (.string d.pl) ∧ W.cell? ⟨w.heap.size, 4, none⟩ = some (.string d.wi) ∧ W.cell? ⟨w.heap.size, 5, none⟩ = some (.slice a.Ab d.bk.length a.cb)) := fun W hbw => by
    obtain ⟨v0, v1, v2, v3, v4, v5⟩ := row_six (block_below HPA.out hbw)
    exact ⟨v0, v1, v2, v3, v4, v5⟩
  have HS := Lib.hid hs
  obtain ⟨k0, k1, k2, k3, k4, k5⟩ := row_six hpa
  have hbd : Below w1.heap.size w1 w1.drew := (Below.refl _ _).drew
  have hbr : Below w1.heap.size w1 w1 := Below.refl _ _
  have hn1 : w.heap.size ≠ w.heap.size + 1 := by omega
  have hw1z : w.heap.size + 1 < w1.heap.size := (Array.getElem?_eq_some_iff.1 hdk).1
  clear hb hdk hpa ho1 hs
  have hz0 := fun (W : World) (hb : Below w1.heap.size w1 W) => (row_six (block_below HDK.out hb)).1
  have hz1 := fun (W : World) (hb : Below w1.heap.size w1 W) => (row_six (block_below HDK.out hb)).2.1
  have hz2 := fun (W : World) (hb : Below w1.heap.size w1 W) => (row_six (block_below HDK.out hb)).2.2.1
  have hz3 := fun (W : World) (hb : Below w1.heap.size w1 W) => (row_six (block_below HDK.out hb)).2.2.2.1
  have hz4 := fun (W : World) (hb : Below w1.heap.size w1 W) => (row_six (block_below HDK.out hb)).2.2.2.2.1
  have hz5 := fun (W : World) (hb : Below w1.heap.size w1 W) => (row_six (block_below HDK.out hb)).2.2.2.2.2
  have e0 := fun (W : World) (hb : Below w1.heap.size w1 W) => frozen_cells (block_below HDK.out hb) 0
  have e1 := fun (W : World) (hb : Below w1.heap.size w1 W) => frozen_cells (block_below HDK.out hb) 1
  have e2 := fun (W : World) (hb : Below w1.heap.size w1 W) => frozen_cells (block_below HDK.out hb) 2
  have e3 := fun (W : World) (hb : Below w1.heap.size w1 W) => frozen_cells (block_below HDK.out hb) 3
  have e4 := fun (W : World) (hb : Below w1.heap.size w1 W) => frozen_cells (block_below HDK.out hb) 4
  have e5 := fun (W : World) (hb : Below w1.heap.size w1 W) => frozen_cells (block_below HDK.out hb) 5
  go_enter Tryz.func142, Tryz.ntmps142
  go_wp2_with fail
  rw [← hw1]
  clear hw1
  go_wp2_with fail
  go_region_held3 (fun W => W.cell? ⟨w.heap.size, 0, none⟩ = some (.slice a.Ar d.rs.length a.cr) ∧ W.cell? ⟨w.heap.size, 1, none⟩ = some (.string d.rf) ∧ W.cell? ⟨w.heap.size, 2, none⟩ = some (.string d.ri) ∧ W.cell? ⟨w.heap.size, 3, none⟩ = some (.string d.pl) ∧ W.cell? ⟨w.heap.size, 4, none⟩ = some (.string d.wi) ∧ W.cell? ⟨w.heap.size, 5, none⟩ = some (.slice a.Ab d.bk.length a.cb)) (first | with_reducible assumption | with_reducible exact HS.out _ (by with_reducible assumption) | with_reducible exact keep_p6e hn1 (HS.out _ (by with_reducible assumption))) (first | (go_at_call 15; refine (HCH.out _ (HG.out.below (by with_reducible assumption) (Nat.le_refl _)) (HO.out.below (by with_reducible assumption))).mono ?_; rintro _ w4 ⟨G4, k4, rfl, hG4, hr4, hk4, hb4⟩; have b4 := bel_next (a := w1) (by with_reducible assumption) hb4; clear hb4) | (go_at_call 86; refine (HJN.out _ G4 k4 hr4 hk4).mono ?_; rintro _ w5 ⟨rfl, hb5⟩; have b4 := bel_next (a := w1) (by with_reducible assumption) hb5; clear hb5) | fail)
  all_goals
    have hd4 := block_below HDK.out b4
    have HD4 := Lib.hid hd4; have HO4 := Lib.hid (HO.out.below b4); have HB4 := Lib.hid (HB.out.trans (b4.mono HB.out.size))
    obtain ⟨z0, z1, z2, z3, z4, z5⟩ := row_six hd4
    clear hd4 hz0 hz1 hz2 hz3 hz4 hz5 e0 e1 e2 e3 e4 e5
    go_wp2_with fail
    refine bodyPost_ret (v := .tuple #[dkV d a, .string X]) (by simp [results, Tryz.results142, go_sem, z0, z1, z2, z3, z4, z5]) rfl ⟨a, rfl, ⟨?_, ?_⟩, ?_⟩
    · exact World.ownsRow.kept HO4.out.r (only_six _ (w.heap.size + 1) _ _ _ _ _ _) (own_ne HO4.out.r HD4.out (by decide))
    · exact World.ownsRow.kept HO4.out.b (only_six _ (w.heap.size + 1) _ _ _ _ _ _) (own_ne HO4.out.b HD4.out (by decide))
    · exact bel_six HB4.out (by omega) _ _ _ _ _ _

set_option maxHeartbeats 4000000 in
set_option maxRecDepth 100000 in
theorem runPlugs_ok (w : World) (hg : GW w) (d : Dk) (a : At) (q : List Nat) (F : Value) (hq : Prm q) (hi : invP q = q) (ho : Own d a w) :
    Calls Tryz.prog 131 #[dkV d a, .string (mk (plugT q)), F] w (Answered ⟨d.rs, d.rf, d.ri, pT q, d.wi, d.bk⟩ (mk [111, 107]) w) := by
  have hb := bel_two (w := w) (.cells (dkC d a) 85) (.cells #[.slice none 0 0, .string ⟨#[]⟩, .string ⟨#[]⟩, .string ⟨#[]⟩, .string ⟨#[]⟩, .slice none 0 0] 85)
  have hdk := heap_alloc_new (w.alloc (.cells (dkC d a) 85)) (.cells #[.slice none 0 0, .string ⟨#[]⟩, .string ⟨#[]⟩, .string ⟨#[]⟩, .string ⟨#[]⟩, .slice none 0 0] 85)
  rw [szalloc] at hdk
  have hpa : ((w.alloc (.cells (dkC d a) 85)).alloc (.cells #[.slice none 0 0, .string ⟨#[]⟩, .string ⟨#[]⟩, .string ⟨#[]⟩, .string ⟨#[]⟩, .slice none 0 0] 85)).heap[w.heap.size]? = some (.cells (dkC d a) 85 (0, 0)) := block_below (heap_alloc_new w _) ((Below.refl _ _).alloc (Nat.le_refl _) _)
  obtain ⟨w1, hw1⟩ : ∃ w1, w1 = (w.alloc (.cells (dkC d a) 85)).alloc (.cells #[.slice none 0 0, .string ⟨#[]⟩, .string ⟨#[]⟩, .string ⟨#[]⟩, .string ⟨#[]⟩, .slice none 0 0] 85) := ⟨_, rfl⟩
  rw [← hw1] at hb hdk hpa
  have ho1 := ho.below hb
  have hset := parsePlugs_yes w1 (hg.below hb (Nat.le_refl _)).ml q hq hi
  generalize mk (plugT q) = T at hset ⊢
  generalize pT q = o at hset ⊢
  have HB := Lib.hid hb; have HDK := Lib.hid hdk; have HPA := Lib.hid hpa; have HO := Lib.hid ho1; have HSET := Lib.hid hset
  obtain ⟨k0, k1, k2, k3, k4, k5⟩ := row_six hpa
  clear hb hdk hpa ho1 hset hq hi ho hg
  go_enter Tryz.func131, Tryz.ntmps131
  go_wp2_with fail
  rw [← hw1]
  clear hw1
  go_wp2_with fail
  refine HSET.out.mono ?_
  rintro _ w2 ⟨rfl, hb2⟩
  have HDK2 := Lib.hid (block_below HDK.out hb2); have HPA2 := Lib.hid (block_below HPA.out hb2); have HB2 := Lib.hid (HB.out.trans (hb2.mono HB.out.size)); have HO2 := Lib.hid (HO.out.below hb2)
  obtain ⟨r0, r1, r2, r3, r4, r5⟩ := row_six HPA2.out
  have f3' := frozen_cells HPA2.out 3
  have hdw := HDK2.out
  obtain ⟨z0, z1, z2, z3, z4, z5⟩ := row_six hdw
  have f0 := frozen_cells hdw 0; have f1 := frozen_cells hdw 1; have f2 := frozen_cells hdw 2; have f3 := frozen_cells hdw 3; have f4 := frozen_cells hdw 4; have f5 := frozen_cells hdw 5
  clear hb2 k0 k1 k2 k3 k4 k5 hdw
  have hnr : (Value.slice a.Ar d.rs.length a.cr).ownBlock = none ∨ (Value.slice a.Ar d.rs.length a.cr).ownBlock ≠ some w.heap.size := own_ne HO2.out.r HPA2.out (by decide)
  have hnb : (Value.slice a.Ab d.bk.length a.cb).ownBlock = none ∨ (Value.slice a.Ab d.bk.length a.cb).ownBlock ≠ some w.heap.size := own_ne HO2.out.b HPA2.out (by decide)
  have HOF := Lib.hid (Own.mk (d := ⟨d.rs, d.rf, d.ri, o, d.wi, d.bk⟩) (a := a) (own_setn HO2.out.r hnr 3 (.string o)) (own_setn HO2.out.b hnb 3 (.string o)))
  have HBF := Lib.hid (HB2.out.setCell (Nat.le_refl _) (p := ⟨w.heap.size, 3, none⟩) (.string o))
  have hne : (w.heap.size + 1) ≠ w.heap.size := by omega
  have HDF := Lib.hid (block_set_other HDK2.out hne 3 (.string o))
  clear hnr hnb hne
  go_wp2_with fail
  refine bodyPost_ret (v := .tuple #[dkV ⟨d.rs, d.rf, d.ri, o, d.wi, d.bk⟩ a, .string (mk [111, 107])]) (by simp [results, Tryz.results131, go_sem, z0, z1, z2, z3, z4, z5]; rfl) rfl ⟨a, rfl, ⟨?_, ?_⟩, ?_⟩
  · exact World.ownsRow.kept HOF.out.r (only_six _ (w.heap.size + 1) _ _ _ _ _ _) (own_ne HOF.out.r HDF.out (by decide))
  · exact World.ownsRow.kept HOF.out.b (only_six _ (w.heap.size + 1) _ _ _ _ _ _) (own_ne HOF.out.b HDF.out (by decide))
  · exact bel_six HBF.out (by omega) _ _ _ _ _ _

theorem exec_chr (d : Dk) (T : List ByteArray) (h1 : 1 ≤ T.length) (h3 : T.length ≤ 3) (hz : ∀ s ∈ T, s.size ≤ 150) (hch : ICh d.rs d.rf d.ri d.pl d.wi T) (hm : tl d.wi ≠ []) : Exec d (mk [99, 104, 97, 114, 97, 99, 116, 101, 114, 105, 115, 116, 105, 99]) d (chrT T) :=
  exec_bareM d d [99, 104, 97, 114, 97, 99, 116, 101, 114, 105, 115, 116, 105, 99] (chrT T) (by decide) (by decide) 142 (enters_of Tryz.func142 (by kernel_rfl) rfl) hm (fun _ _ _ _ _ _ _ => rfl)
    (fun w a p0 p1 p2 p3 p4 p5 p6 hml ho hbx => runChr_ok w hml d a _ _ T h1 h3 hz hch ho)
theorem plugT_id : plugT (List.range 10) = [45] := by decide +kernel
theorem inv_id10 : invP (List.range 10) = List.range 10 := by decide +kernel
theorem exec_plugs (d : Dk) (hm : tl d.wi ≠ []) : Exec d (mk [112, 108, 117, 103, 115, 32, 45]) ⟨d.rs, d.rf, d.ri, pT (List.range 10), d.wi, d.bk⟩ (mk [111, 107]) := by
  have h := exec_restM d ⟨d.rs, d.rf, d.ri, pT (List.range 10), d.wi, d.bk⟩ [112, 108, 117, 103, 115] (mk [45]) (mk [111, 107]) (by decide) (by decide) (by rw [size_mk]; decide) (-1) 131 (enters_of Tryz.func131 (by kernel_rfl) rfl) (by decide) hm (fun h => absurd h (by decide)) (fun _ _ _ _ _ _ _ => rfl)
    (fun w a p0 p1 p2 p3 p4 p5 p6 B hml ho hbx hr hB => by
      have h2 := runPlugs_ok w hml d a (List.range 10) (.slice (some ⟨B, 0, none⟩) (spl 32 (tl (mk [45]))).length (spl 32 (tl (mk [45]))).length) prm_id10 inv_id10 ho
      rw [plugT_id] at h2
      exact h2)
  rw [tl_mk] at h
  exact h

theorem run_chr (w : World) (hg : GW w) (S : ByteArray) (rs : List (ByteArray × ByteArray)) (p g o : ByteArray) (q : List Nat) (T : List ByteArray) (hv : WinV rs p g) (hq : Prm q) (hi : invP q = q) (ho : o.size = g.size) (hwo : wv (tl o) = true)
    (h1 : 1 ≤ T.length) (h3 : T.length ≤ 3) (hz : ∀ s ∈ T, s.size ≤ 150) (hc1 : ICh rs p g (pT q) o T) (hc2 : ICh rs p g (pT (List.range 10)) o T)
    (hT : tl S = [machLine rs p g q, windLine o, [99, 104, 97, 114, 97, 99, 116, 101, 114, 105, 115, 116, 105, 99], [112, 108, 117, 103, 115, 32, 45], [99, 104, 97, 114, 97, 99, 116, 101, 114, 105, 115, 116, 105, 99]].flatMap (· ++ [10])) :
    Calls Tryz.prog 13 #[.string S] w fun e w' => e = .returned (.string (mk ([111, 107, 10, 111, 107, 10] ++ (tl (chrT T) ++ [10]) ++ [111, 107, 10] ++ (tl (chrT T) ++ [10])))) ∧ Below w.heap.size w w' := by
  have hg1 : 1 ≤ g.size ∧ g.size ≤ 3 := ⟨by have := hv.1.1; have := hv.2.1; omega, by have := hv.1.2.1; have := hv.2.1; omega⟩
  have hon : tl o ≠ [] := by intro e; have := congrArg List.length e; rw [length_tl, List.length_nil] at this; omega
  have z1 := chrT_size hz h3
  have E1 := exec_chr (deskM rs p g q o []) T h1 h3 hz hc1 hon
  have E2 := exec_plugs (deskM rs p g q o []) hon
  have E3 := exec_chr (deskM rs p g (List.range 10) o []) T h1 h3 hz hc2 hon
  obtain ⟨X, hX⟩ : ∃ X, X = chrT T := ⟨_, rfl⟩
  rw [← hX] at E1 E3 z1 ⊢
  have h := run_more w hg S rs p g o q [[99, 104, 97, 114, 97, 99, 116, 101, 114, 105, 115, 116, 105, 99], [112, 108, 117, 103, 115, 32, 45], [99, 104, 97, 114, 97, 99, 116, 101, 114, 105, 115, 116, 105, 99]]
    (fun j => if j = 0 then deskM rs p g q o [] else if j = 1 then deskM rs p g q o [] else deskM rs p g (List.range 10) o [])
    (fun j => if j = 0 then X else if j = 1 then mk [111, 107] else X) hv hq hi ho hwo (by simp)
    (fun y hy => by
      simp only [List.mem_cons, List.not_mem_nil, or_false] at hy
      rcases hy with rfl | rfl | rfl <;> decide) rfl
    (fun j hj => by
      split
      · omega
      · split
        · rw [size_mk]; decide
        · omega)
    (fun j hj => by
      simp only [List.length_cons, List.length_nil] at hj
      rcases (show j = 0 ∨ j = 1 ∨ j = 2 by omega) with rfl | rfl | rfl
      · exact E1
      · exact E2
      · exact E3) hT
  refine h.mono ?_
  rintro e w' ⟨rfl, hb⟩
  refine ⟨?_, hb⟩
  simp [ansL, tl_mk, List.range_succ]

end

section
open Go.RowKit Pl

set_option maxHeartbeats 4000000 in
theorem drawChr_any (w : World) (A : Option Addr) (cap : Nat) (bs : List UInt8) (h : Rd w w.heap.size A (bytesV bs)) (hc : bs.length ≤ cap) :
    Calls Tryz.prog 14 #[.slice A bs.length cap] w (KPD w) := by
  have hb0 : Below w.heap.size w (w.alloc (.cells #[.slice none 0 0, .string ⟨#[]⟩, .string ⟨#[]⟩, .string ⟨#[]⟩] 29)) := (Below.refl _ _).alloc (Nat.le_refl _) _
  have hs0 := SB.made w #[.slice none 0 0, .string ⟨#[]⟩, .string ⟨#[]⟩, .string ⟨#[]⟩] 29
  obtain ⟨w0, hw0⟩ : ∃ w0, w0 = w.alloc (.cells #[.slice none 0 0, .string ⟨#[]⟩, .string ⟨#[]⟩, .string ⟨#[]⟩] 29) := ⟨_, rfl⟩
  rw [← hw0] at hb0 hs0
  have hop := drawMachineOffsets_any w0 A cap bs ((h.below hb0).mono hb0.size) hc
  obtain ⟨P, hP⟩ : ∃ P, P = w.heap.size := ⟨_, rfl⟩
  have hpw : w.heap.size ≤ P := by omega
  rw [← hP] at hs0
  have HOP := Lib.hid hop; have HB0 := Lib.hid hb0; have HS0 := Lib.hid hs0
  clear hop hb0 hs0 h
  go_enter Tryz.func14, Tryz.ntmps14
  go_wp2_with fail
  rw [← hw0, ← hP]
  clear hw0 hP
  refine HOP.out.mono ?_
  rintro _ w4 ⟨A4, c4', rs4, p4, g4, l4, o5, rfl, hrd, hcl, hl4, hzp4, hzg4, hzl4, hzo, hA4, hb4⟩
  have hs5 := HS0.out.below hb4
  have hb5 := HB0.out.trans (hb4.mono HB0.out.size)
  obtain ⟨⟨d0, d1, d2, d3⟩, f0, f1, f2, f3⟩ := hs5.all4
  have HSF := Lib.hid (hs5.four (.slice A4 rs4.length c4') (.string p4) (.string g4) (.string l4))
  have HBF := Lib.hid ((((hb5.setCell hpw (p := ⟨P, 0, none⟩) (.slice A4 rs4.length c4')).setCell hpw (p := ⟨P, 1, none⟩) (.string p4)).setCell hpw (p := ⟨P, 2, none⟩) (.string g4)).setCell hpw (p := ⟨P, 3, none⟩) (.string l4))
  have hsz0 : P + 1 ≤ w0.heap.size := HS0.out.lt
  have hap : ∀ x, A4 = some x → x.block ≠ P := fun x e => by have := hA4 x e; omega
  have HRF := Lib.hid ((((hrd.far hap 0 (.slice A4 rs4.length c4')).far hap 1 (.string p4)).far hap 2 (.string g4)).far hap 3 (.string l4))
  have hsz : w4.heap.size ≤ ((((w4.setCell ⟨P, 0, none⟩ (.slice A4 rs4.length c4')).setCell ⟨P, 1, none⟩ (.string p4)).setCell ⟨P, 2, none⟩ (.string g4)).setCell ⟨P, 3, none⟩ (.string l4)).heap.size := by simp [World.setCell]
  have HA := Lib.hid (show ∀ x, A4 = some x → w.heap.size ≤ x.block from fun x e => by have := hA4 x e; omega)
  clear hap hA4 hrd hb4 hs5 hb5
  go_wp2_with fail
  refine bodyPost_ret (results_st_tmp rfl _ _ P _ #[.slice A4 rs4.length c4', .string p4, .string g4, .string l4] _ _ rfl HSF.out Tryz.underlying29 ⟨_, rfl⟩ macSize) rfl ⟨A4, c4', rs4, p4, g4, l4, o5, rfl, HRF.out.mono hsz, hcl, hl4, hzp4, hzg4, hzl4, hzo, HA.out, HBF.out⟩

theorem ch_setup (rs : List (ByteArray × ByteArray)) (p g o T : ByteArray) (q : List Nat) (hT : T = mk (machT rs p g q)) :
    tl (⟨#[109, 97, 99, 104, 105, 110, 101, 32]⟩ ++ T ++ ⟨#[10, 119, 105, 110, 100, 111, 119, 115, 32]⟩ ++ o ++ ⟨#[10]⟩) = [machLine rs p g q, windLine o].flatMap (· ++ [10]) := by
  subst hT
  simp only [append_tl, tl_mk]
  rw [show tl (⟨#[109, 97, 99, 104, 105, 110, 101, 32]⟩ : ByteArray) = [109, 97, 99, 104, 105, 110, 101, 32] from rfl, show tl (⟨#[10, 119, 105, 110, 100, 111, 119, 115, 32]⟩ : ByteArray) = [10, 119, 105, 110, 100, 111, 119, 115, 32] from rfl, show tl (⟨#[10]⟩ : ByteArray) = [10] from rfl]
  simp [machLine, windLine]
theorem ch_text (rs : List (ByteArray × ByteArray)) (p g o SU : ByteArray) (q : List Nat) (hS : tl SU = [machLine rs p g q, windLine o].flatMap (· ++ [10])) :
    tl (SU ++ ⟨#[99, 104, 97, 114, 97, 99, 116, 101, 114, 105, 115, 116, 105, 99, 10, 112, 108, 117, 103, 115, 32, 45, 10, 99, 104, 97, 114, 97, 99, 116, 101, 114, 105, 115, 116, 105, 99, 10]⟩) = [machLine rs p g q, windLine o, [99, 104, 97, 114, 97, 99, 116, 101, 114, 105, 115, 116, 105, 99], [112, 108, 117, 103, 115, 32, 45], [99, 104, 97, 114, 97, 99, 116, 101, 114, 105, 115, 116, 105, 99]].flatMap (· ++ [10]) := by
  simp only [append_tl, tl_mk]
  rw [hS, show tl (⟨#[99, 104, 97, 114, 97, 99, 116, 101, 114, 105, 115, 116, 105, 99, 10, 112, 108, 117, 103, 115, 32, 45, 10, 99, 104, 97, 114, 97, 99, 116, 101, 114, 105, 115, 116, 105, 99, 10]⟩ : ByteArray) = [99, 104, 97, 114, 97, 99, 116, 101, 114, 105, 115, 116, 105, 99, 10, 112, 108, 117, 103, 115, 32, 45, 10, 99, 104, 97, 114, 97, 99, 116, 101, 114, 105, 115, 116, 105, 99, 10] from rfl]
  simp
theorem ch_out (X : ByteArray) : mk ([111, 107, 10, 111, 107, 10] ++ (tl X ++ [10]) ++ [111, 107, 10] ++ (tl X ++ [10])) = ⟨#[111, 107, 10, 111, 107, 10]⟩ ++ (X ++ ⟨#[10]⟩) ++ ⟨#[111, 107, 10]⟩ ++ (X ++ ⟨#[10]⟩) := by
  apply tl_inj
  simp only [append_tl, tl_mk]
  rw [show tl (⟨#[111, 107, 10, 111, 107, 10]⟩ : ByteArray) = [111, 107, 10, 111, 107, 10] from rfl, show tl (⟨#[111, 107, 10]⟩ : ByteArray) = [111, 107, 10] from rfl, show tl (⟨#[10]⟩ : ByteArray) = [10] from rfl]

set_option maxHeartbeats 8000000 in
set_option maxRecDepth 100000 in
theorem fnScriptCharacteristic_walk (w : World) (hml : GW w) (A : Option Addr) (cap : Nat) (bs : List UInt8) (h : Rd w w.heap.size A (bytesV bs)) (hc : bs.length ≤ cap) :
    Calls Tryz.prog 4 #[.slice A bs.length cap] w fun e w' => e = .returned (.bool true) ∧ Below w.heap.size w w' := by
  have HML := Lib.hid hml; clear hml
  by_cases hlen : 1048576 < bs.length
  · go_enter Tryz.func4, Tryz.ntmps4
    go_wp2_with fail
    go_ret
    exact ⟨rfl, Below.refl _ _⟩
  · go_enter Tryz.func4, Tryz.ntmps4
    go_wp2_with fail
    refine (drawChr_any w A cap bs h hc).mono ?_
    rintro _ w1 ⟨A1, c1, rs, p, g, l, o, rfl, hr1, hc1, hrz, hpz, hgz, hlz, hoz, _, hb1⟩
    have HB1 := Lib.hid hb1; clear hb1 h hc hlen
    obtain ⟨w2, hw2⟩ : ∃ w2, w2 = w1.alloc (.cells #[.slice A1 rs.length c1, .string p, .string g, .string l] 29) := ⟨_, rfl⟩
    have hal : Below w1.heap.size w1 w2 := by rw [hw2]; exact (Below.refl _ _).alloc (Nat.le_refl _) _
    have hs2 := SB.made w1 #[.slice A1 rs.length c1, .string p, .string g, .string l] 29
    rw [← hw2] at hs2
    have HB2 := Lib.hid (HB1.out.trans (hal.mono HB1.out.size)); have HR2 := Lib.hid ((hr1.below hal).mono hal.size)
    clear hal hr1 HB1
    obtain ⟨P, hP⟩ : ∃ P, P = w1.heap.size := ⟨_, rfl⟩
    rw [← hP] at hs2
    have HS2 := Lib.hid hs2
    obtain ⟨⟨a0, a1, a2, a3⟩, _⟩ := hs2.all4
    rw [hw2, hP] at a0 a1 a2 a3
    clear hs2
    by_cases hv : SetV rs p g l o
    · obtain ⟨T, hTl, hTz, hI1, hS1, hI2⟩ := chr_yes hv
      obtain ⟨⟨hwv, q, hq, hi, rfl⟩, hog, hwo⟩ := hv
      have hrl3 := hwv.1.2.1
      have hrl1 := hwv.1.1
      have hgz2 := hwv.2.1
      have hT1 : 1 ≤ T.length := by omega
      have hT3 : T.length ≤ 3 := by omega
      have ho3 : o.size ≤ 3 := by omega
      obtain ⟨SU, hSU⟩ : ∃ SU : ByteArray, SU = ⟨#[109, 97, 99, 104, 105, 110, 101, 32]⟩ ++ mk (machT rs p g q) ++ ⟨#[10, 119, 105, 110, 100, 111, 119, 115, 32]⟩ ++ o ++ ⟨#[10]⟩ := ⟨_, rfl⟩
      have hsu := ch_setup rs p g o _ q rfl
      rw [← hSU] at hsu
      have hSUz : SU.size ≤ 200 := by
        have zm := @machT_len rs p g q hwv
        rw [hSU]
        simp only [ByteArray.size_append, size_mk]
        have z1 : (⟨#[109, 97, 99, 104, 105, 110, 101, 32]⟩ : ByteArray).size = 8 := rfl
        have z2 : (⟨#[10, 119, 105, 110, 100, 111, 119, 115, 32]⟩ : ByteArray).size = 9 := rfl
        have z3 : (⟨#[10]⟩ : ByteArray).size = 1 := rfl
        omega
      have hse := fun (w' : World) (h' : Rd w' w'.heap.size A1 (rotV rs)) => rcSetup_ok w' A1 c1 rs p g o q h' hc1 hwv hq hi (by omega)
      rw [← hSU] at hse
      have hrun := fun (w' : World) (hg' : GW w') => run_chr w' hg' _ rs p g o q T hwv hq hi hog hwo hT1 hT3 (fun s hs => Nat.le_trans (hTz s hs) (by decide)) hI1 hI2 (ch_text rs p g o SU q hsu)
      rw [ch_out] at hrun
      have hcz := chrT_size (fun s hs => Nat.le_trans (hTz s hs) (by decide)) hT3
      have hrj := fun (w' : World) (G k : Nat) (hr : Rd w' w'.heap.size (some ⟨G, 0, none⟩) (strV T)) (hk : T.length ≤ k) => rcJoin_any w' (some ⟨G, 0, none⟩) k T (mk [47]) hr (by omega) hk hTz (by rw [size_mk]; decide)
      rw [tl_mk, show mk (Lib.join (T.map tl) [47]) = chrT T from rfl] at hrj
      have hrt := fun (w' : World) (G1 G2 k1 k2 : Nat) (h1 : Rd w' w'.heap.size (some ⟨G1, 0, none⟩) (strV T)) (h2 : Rd w' w'.heap.size (some ⟨G2, 0, none⟩) (strV T)) (q1 : T.length ≤ k1) (q2 : T.length ≤ k2) => rcTexts_same w' (some ⟨G1, 0, none⟩) (some ⟨G2, 0, none⟩) k1 k2 T h1 h2 (by omega) q1 q2
      have hi1 := fun (w' : World) (g' : GW w') (h' : Rd w' w'.heap.size A1 (rotV rs)) => hI1 w' A1 c1 g' h' hc1
      have hs1 := fun (w' : World) (h' : Rd w' w'.heap.size A1 (rotV rs)) => hS1 w' A1 c1 h' hc1
      have hn0 : ((T.length : Int) == 0) = false := by rw [beq_eq_false_iff_ne]; omega
      have HSE := Lib.hid hse; have HRU := Lib.hid hrun; have HRJ := Lib.hid hrj; have HRT := Lib.hid hrt; have HI1 := Lib.hid hi1; have HS1 := Lib.hid hs1
      clear hse hrun hrj hrt hi1 hs1 hI1 hI2 hS1 hsu hSU hwv hq hi hog hwo hTz
      generalize pT q = l at hw2 HS2 HSE HI1 HS1 a0 a1 a2 a3 hlz
      generalize chrT T = X at HRJ HRU hcz
      obtain ⟨tv, htv⟩ : ∃ tv, tv = strV T := ⟨_, rfl⟩
      rw [← htv] at HI1 HS1 HRJ HRT
      clear htv hTl
      generalize T.length = n at HI1 HS1 HRJ HRT hT1 hT3 hn0
      obtain ⟨M, hM⟩ : ∃ M, M = rs.length := ⟨_, rfl⟩
      rw [← hM] at hw2 HS2 HSE HI1 HS1 a0 ⊢
      clear hM hrl3 hrl1 hgz2 hc1 hrz
      go_wp2_with fail
      rw [← hw2, ← hP]
      clear hw2 hP a0 a1 a2 a3
      refine (HI1.out _ (HML.out.below HB2.out (Nat.le_refl _)) HR2.out).mono ?_
      rintro _ w3 ⟨G3, k3, rfl, _, hr3, hk3, hb3⟩
      have HB3 := Lib.hid (HB2.out.trans (hb3.mono HB2.out.size)); have HR3 := Lib.hid ((HR2.out.below hb3).mono hb3.size); have HS3 := Lib.hid (HS2.out.below hb3); have HT3 := Lib.hid hr3
      obtain ⟨⟨a0, a1, a2, a3⟩, _⟩ := HS3.out.all4
      clear hb3 hr3 HB2 HR2 HS2 HI1
      go_wp2_with fail
      refine (HS1.out _ HR3.out).mono ?_
      rintro _ w4 ⟨G4, k4, rfl, _, hr4, hk4, hb4⟩
      have HB4 := Lib.hid (HB3.out.trans (hb4.mono HB3.out.size)); have HR4 := Lib.hid ((HR3.out.below hb4).mono hb4.size); have HS4 := Lib.hid (HS3.out.below hb4); have HT4 := Lib.hid ((HT3.out.below hb4).mono hb4.size); have HU4 := Lib.hid hr4
      clear hb4 hr4 HB3 HR3 HS3 HT3 HS1 a0 a1 a2 a3
      go_wp2_with fail
      refine (HRT.out _ G3 G4 k3 k4 HT4.out HU4.out hk3 hk4).mono ?_
      rintro _ w5 ⟨rfl, hb5⟩
      have HB5 := Lib.hid (HB4.out.trans (hb5.mono HB4.out.size)); have HR5 := Lib.hid ((HR4.out.below hb5).mono hb5.size); have HS5 := Lib.hid (HS4.out.below hb5); have HT5 := Lib.hid ((HT4.out.below hb5).mono hb5.size)
      clear hb5 HB4 HR4 HS4 HT4 HU4 HRT
      have y0 : ¬ 9223372036854775807 < X.size + 1 := by omega
      go_wp2_with fail
      refine (HRJ.out _ G3 k3 HT5.out hk3).mono ?_
      rintro _ w6 ⟨rfl, qn, hq6⟩
      have hb6 : Below w5.heap.size w5 w6 := by rw [hq6]; exact below_drewN' (Below.refl _ _) _
      have HB6 := Lib.hid (HB5.out.trans (hb6.mono HB5.out.size)); have HR6 := Lib.hid ((HR5.out.below hb6).mono hb6.size); have HS6 := Lib.hid (HS5.out.below hb6)
      obtain ⟨⟨a0, a1, a2, a3⟩, _⟩ := HS6.out.all4
      clear hb6 hq6 HB5 HR5 HS5 HT5 HRJ
      have y1 : ¬ 9223372036854775807 < SU.size + 37 := by omega
      have y2 : ¬ 9223372036854775807 < 6 + (X.size + 1) := by omega
      have y3 : ¬ 9223372036854775807 < 6 + (X.size + 1) + 3 := by omega
      have y4 : ¬ 9223372036854775807 < 6 + (X.size + 1) + 3 + (X.size + 1) := by omega
      have hfin : ((⟨#[111, 107, 10, 111, 107, 10]⟩ ++ (X ++ ⟨#[10]⟩) ++ ⟨#[111, 107, 10]⟩ ++ (X ++ ⟨#[10]⟩) : ByteArray).toList == (⟨#[111, 107, 10, 111, 107, 10]⟩ ++ (X ++ ⟨#[10]⟩) ++ ⟨#[111, 107, 10]⟩ ++ (X ++ ⟨#[10]⟩) : ByteArray).toList) = true := beq_self_eq_true _
      go_wp2_with fail
      refine (HSE.out _ HR6.out).mono ?_
      rintro _ w7 ⟨rfl, hb7⟩
      have HB7 := Lib.hid (HB6.out.trans (hb7.mono HB6.out.size))
      clear hb7 a0 a1 a2 a3 HB6 HR6 HS6
      go_wp2_with fail
      refine (HRU.out _ (HML.out.below HB7.out (Nat.le_refl _))).mono ?_
      rintro _ w8 ⟨rfl, hb8⟩
      have HB8 := Lib.hid (HB7.out.trans (hb8.mono HB7.out.size))
      clear hb8
      go_wp2_with fail
      go_ret
      exact ⟨rfl, HB8.out⟩
    · have hl : rs.length ≤ 100 := by omega
      have HI1 := Lib.hid (fun (w' : World) (h' : Rd w' w'.heap.size A1 (rotV rs)) => iChar_no w' A1 c1 rs p g l o h' (fun w'' h'' => iDayProducts_no w'' A1 c1 rs p g l o h'' hc1 hl hv))
      have HS1 := Lib.hid (fun (w' : World) (h' : Rd w' w'.heap.size A1 (rotV rs)) => sChar_no w' A1 c1 rs p g l o h' (fun w'' h'' => sDayProducts_no w'' A1 c1 rs p g l o h'' hc1 hl hv))
      have HRT := Lib.hid (fun (w' : World) (G1 G2 : Option Addr) (k1 k2 : Nat) => rcTexts_same w' G1 G2 k1 k2 [] (fun hn => absurd rfl hn) (fun hn => absurd rfl hn) (Nat.zero_le _) (Nat.zero_le _) (Nat.zero_le _))
      simp only [List.length_nil] at HRT
      obtain ⟨M, hM⟩ : ∃ M, M = rs.length := ⟨_, rfl⟩
      rw [← hM] at hw2 HS2 HI1 HS1 a0 ⊢
      clear hM hc1 hrz hl hv
      unfold NoneMade at HI1 HS1
      go_wp2_with fail
      rw [← hw2, ← hP]
      clear hw2 hP a0 a1 a2 a3
      refine (HI1.out _ HR2.out).mono ?_
      rintro _ w3 ⟨G3, k3, rfl, hb3⟩
      have HB3 := Lib.hid (HB2.out.trans (hb3.mono HB2.out.size)); have HR3 := Lib.hid ((HR2.out.below hb3).mono hb3.size); have HS3 := Lib.hid (HS2.out.below hb3)
      obtain ⟨⟨a0, a1, a2, a3⟩, _⟩ := HS3.out.all4
      clear hb3 HB2 HR2 HS2 HI1
      go_wp2_with fail
      refine (HS1.out _ HR3.out).mono ?_
      rintro _ w4 ⟨G4, k4, rfl, hb4⟩
      have HB4 := Lib.hid (HB3.out.trans (hb4.mono HB3.out.size)); have HR4 := Lib.hid ((HR3.out.below hb4).mono hb4.size); have HS4 := Lib.hid (HS3.out.below hb4)
      clear hb4 HB3 HR3 HS3 a0 a1 a2 a3
      go_wp2_with fail
      refine (HRT.out _ G3 G4 k3 k4).mono ?_
      rintro _ w5 ⟨rfl, hb5⟩
      have HB5 := Lib.hid (HB4.out.trans (hb5.mono HB4.out.size)); have HR5 := Lib.hid ((HR4.out.below hb5).mono hb5.size); have HS5 := Lib.hid (HS4.out.below hb5)
      obtain ⟨⟨a0, a1, a2, a3⟩, _⟩ := HS5.out.all4
      clear hb5 HB4 HR4 HS4
      go_wp2_with fail
      refine (HS1.out _ HR5.out).mono ?_
      rintro _ w6 ⟨G6, k6, rfl, hb6⟩
      have HB6 := Lib.hid (HB5.out.trans (hb6.mono HB5.out.size))
      clear hb6 HB5 HR5 HS5 a0 a1 a2 a3
      go_wp2_with fail
      refine (HRT.out _ G3 G6 k3 k6).mono ?_
      rintro _ w7 ⟨rfl, hb7⟩
      have HB7 := Lib.hid (HB6.out.trans (hb7.mono HB6.out.size))
      clear hb7
      go_wp2_with fail
      go_ret
      exact ⟨rfl, HB7.out⟩

end

end Go.Proofs.YtipcodebmemkpaaGreatDoor
