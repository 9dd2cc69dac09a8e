/-
  Contracts of functions and plain laws that the law's proof uses (parts: TextF). Conditions: what each theorem names.
-/
import Derived.OwnWalk
import Derived.Test.YtnbdimbhklbadaaGreatDoorQTextC
import Derived.Test.YtnbdimbhklbadaaGreatDoorQPlA
import Derived.Test.YtnbdimbhklbadaaGreatDoorQBsA
namespace Go.Proofs.YtnbdimbhklbadaaGreatDoor
open Go.RowKit Pl
set_option linter.unusedVariables false
def fdx (c : UInt8) (l : List UInt8) : Int := if c ∈ l then (l.idxOf c : Int) else -1
theorem fdx_hit {c : UInt8} {l : List UInt8} {k : Nat} (hk : k < l.length) (hc : l[k] = c) (hn : c ∉ l.take k) : fdx c l = k := by
  unfold fdx
  rw [if_pos (by rw [← hc]; exact List.getElem_mem hk)]
  rw [idxOf_hit (i := k) (by rw [List.getElem?_eq_getElem hk, hc]) (fun j hj e => hn (by
    have hjl := (List.getElem?_eq_some_iff.1 e).1
    have h2 := (List.getElem?_eq_some_iff.1 e).2
    rw [← h2, List.mem_take_iff_getElem]
    exact ⟨j, by omega, rfl⟩))]
theorem fdx_miss {c : UInt8} {l : List UInt8} (h : c ∉ l) : fdx c l = -1 := if_neg h
theorem fdx_ge {c : UInt8} {l : List UInt8} (h : c ∈ l) : fdx c l = (l.idxOf c : Int) := if_pos h
theorem notin_snoc2 {c : UInt8} {l : List UInt8} {k : Nat} (hk : k < l.length) (h : c ∉ l.take k) (hc : l[k] ≠ c) : c ∉ l.take (k + 1) := by
  rw [List.take_succ_eq_append_getElem hk]
  simp only [List.mem_append, List.mem_singleton, not_or]
  exact ⟨h, fun e => hc e.symm⟩
set_option maxHeartbeats 2000000 in
theorem l21Find_is (w : World) (s : ByteArray) (c : UInt8) (hs : s.size ≤ 9223372036854775807) :
    Calls Tryz.prog 258 #[.string s, .int .u8 c.toNat] w fun e w' => e = .returned (.int .i64 (fdx c (tl s))) ∧ w = w' := by
  obtain ⟨r, hr⟩ : ∃ r, r = fdx c (tl s) := ⟨_, rfl⟩
  rw [← hr]
  have HRR := Lib.hid hr; clear hr
  go_enter Tryz.func258, Tryz.ntmps258
  go_wp2_with fail
  go_loop [5] (fun i => ∃ k : Nat, k ≤ s.size ∧ i = .int .i64 k ∧ c ∉ (tl s).take k) (fun i => s.size - (intOf i).toNat)
  case atStart => exact ⟨0, Nat.zero_le _, rfl, by simp⟩
  case round =>
    obtain ⟨k, hk, rfl, hn⟩ := hrel
    have HN := Lib.hid hn; clear hn
    by_cases hlt : k < s.size
    · by_cases hc : s[k] = c
      · have hr2 : r = (k : Int) := by rw [HRR.out]; exact fdx_hit (by rw [length_tl]; exact hlt) hc HN.out
        subst hr2
        have hb : ((s[k].toNat : Int) == (c.toNat : Int)) = true := by rw [hc]; simp
        go_wp2_with fail
        go_ret
        exact ⟨rfl, rfl⟩
      · have hb : ((s[k].toNat : Int) == (c.toNat : Int)) = false := by
          rw [beq_eq_false_iff_ne]; intro e
          exact hc (UInt8.toNat_inj.1 (by omega))
        have hn2 := notin_snoc2 (l := tl s) (by rw [length_tl]; exact hlt) HN.out hc
        have HN2 := Lib.hid hn2; clear hn2 hc
        go_wp2_with fail
        go_round
        case rel => exact ⟨k + 1, by omega, by go_num, HN2.out⟩
        case measure => simp [intOf]; omega
    · have hm : r = -1 := by
        rw [HRR.out]; refine fdx_miss ?_
        have := HN.out
        rwa [List.take_of_length_le (by rw [length_tl]; omega)] at this
      subst hm
      go_wp2_with fail
      go_ret
      exact ⟨rfl, rfl⟩
theorem Rd.rot {w : World} {B : Nat} {A : Option Addr} {l : List (ByteArray × ByteArray)} (h : Rd w B A (rotV l)) {k : Nat} (hk : k < l.length) :
    ∃ b off, A = some ⟨b, off, none⟩ ∧ b < B ∧ w.cell? ⟨b, off + k * 2, none⟩ = some (.string l[k].1) ∧ w.cell? ⟨b, off + k * 2 + 1, none⟩ = some (.string l[k].2) := by
  have hlen := length_rotV l
  have hn : rotV l ≠ [] := by intro e; have := congrArg List.length e; rw [hlen, List.length_nil] at this; omega
  obtain ⟨b, off, e, hb, hcell⟩ := h hn
  obtain ⟨j1, j2⟩ := rotV_at l k hk
  refine ⟨b, off, e, hb, ?_, ?_⟩
  · rw [hcell (k * 2) (by omega), ← List.getElem?_eq_getElem]; exact j1
  · rw [Nat.add_assoc, hcell (k * 2 + 1) (by omega), ← List.getElem?_eq_getElem]; exact j2
structure WhA (w : World) (A : Option Addr) (cap : Nat) (rs : List (ByteArray × ByteArray)) : Prop where
  rd : Rd w w.heap.size A (rotV rs)
  cap : rs.length ≤ cap
  rot : ∀ r ∈ rs, RotT r
  pos : 1 ≤ rs.length
  le : rs.length ≤ 3
theorem WhA.below {w w' : World} {A : Option Addr} {cap : Nat} {rs : List (ByteArray × ByteArray)} (h : WhA w A cap rs) (hb : Below w.heap.size w w') : WhA w' A cap rs :=
  ⟨(h.rd.below hb).mono hb.size, h.cap, h.rot, h.pos, h.le⟩
theorem WhA.alloc {w : World} {A : Option Addr} {cap : Nat} {rs : List (ByteArray × ByteArray)} (h : WhA w A cap rs) (o : Obj) : WhA (w.alloc o) A cap rs := h.below ((Below.refl _ _).alloc (Nat.le_refl _) o)
theorem WhA.drew {w : World} {A : Option Addr} {cap : Nat} {rs : List (ByteArray × ByteArray)} (h : WhA w A cap rs) : WhA w.drew A cap rs := h.below (Below.refl _ _).drew
theorem RBk.wha {w : World} {B cap : Nat} {A : Option Addr} {rs : List (ByteArray × ByteArray)} (h : RBk w B (.slice A rs.length cap) rs) (h1 : 1 ≤ rs.length) (h3 : rs.length ≤ 3) : WhA w A cap rs := by
  obtain ⟨A', cap', e, hc, _, hr⟩ := h.slice
  simp only [Value.slice.injEq] at e
  obtain ⟨rfl, _, rfl⟩ := e
  exact ⟨hr, hc, h.rot, h1, h3⟩
set_option maxHeartbeats 2000000 in
theorem l7At_any (w : World) (A : Option Addr) (cap : Nat) (rs : List (ByteArray × ByteArray)) (q ws : List Nat) (k : Nat) (m : Int) (hm : m = (k : Int)) (h : WhA w A cap rs) (hk : k < rs.length) (hw : ws.length = rs.length) :
    Calls Tryz.prog 208 #[.agg (whC (.slice A rs.length cap) (.string (pT q))), .string (pT ws), .int .i64 m] w fun e w' => ∃ b : Bool, e = .returned (.bool b) ∧ Below w.heap.size w w' := by
  subst hm
  obtain ⟨b0, off, rfl, hb, c0, c1⟩ := h.rd.rot hk
  have hrt := h.rot _ (List.getElem_mem hk)
  have hcap := h.cap
  have hle := h.le
  have hn3 := hrt.siz.2
  generalize rs[k] = r at c0 c1 hrt hn3
  obtain ⟨r1, r2⟩ := r
  simp only at c0 c1 hn3
  have hb1 : Below w.heap.size w (w.alloc (.cells (whC (.slice (some ⟨b0, off, none⟩) rs.length cap) (.string (pT q))) 25)) := (Below.refl _ _).alloc (Nat.le_refl _) _
  have c1a : (w.alloc (.cells #[.slice (some ⟨b0, off, none⟩) rs.length cap, .string (pT q)] 25)).cell? ⟨b0, off + k * 2 + 1, none⟩ = some (.string r2) := (hb1.cell (p := ⟨b0, off + k * 2 + 1, none⟩) hb).trans c1
  have hkw : k < (pT ws).size := by rw [pT_size]; omega
  have hzw : (pT ws).size ≤ 3 := by rw [pT_size]; omega
  have hfd := fun w' => (l21Find_is w' r2 (pT ws)[k] (by omega)).mono fun _ _ ⟨a, b⟩ => (⟨a, b.symm⟩ : _ ∧ _ = w')
  have HB1 := Lib.hid hb1; have HFD := Lib.hid hfd; clear hb1 hfd hrt h hw c0 c1
  generalize fdx (pT ws)[k] (tl r2) = F at HFD
  generalize rs.length = M at *
  go_enter Tryz.func208, Tryz.ntmps208
  go_wp2_with fail
  go_quiet (first | (go_at_call 258; exact Calls.quiet_of_same (HFD.out _)))
  go_wp2_with fail
  go_ret
  exact ⟨_, rfl, below_drewN' HB1.out _⟩
set_option maxHeartbeats 4000000 in
theorem l7Moves_any (w : World) (A : Option Addr) (cap : Nat) (rs : List (ByteArray × ByteArray)) (q ws : List Nat) (k : Nat) (m : Int) (hm : m = (k : Int)) (h : WhA w A cap rs) (hk : k < rs.length) (hw : ws.length = rs.length) :
    Calls Tryz.prog 144 #[.agg (whC (.slice A rs.length cap) (.string (pT q))), .string (pT ws), .int .i64 m] w fun e w' => ∃ b : Bool, e = .returned (.bool b) ∧ Below w.heap.size w w' := by
  subst hm
  have hle := h.le
  have hb1 : Below w.heap.size w (w.alloc (.cells (whC (.slice A rs.length cap) (.string (pT q))) 25)) := (Below.refl _ _).alloc (Nat.le_refl _) _
  have hsb := SB.made w (whC (.slice A rs.length cap) (.string (pT q))) 25
  have hz1 : (pT ws).size ≤ rs.length := by rw [pT_size]; omega
  have hz2 : rs.length ≤ (pT ws).size := by rw [pT_size]; omega
  have hat := fun (w' : World) (h' : WhA w' A cap rs) (j : Nat) (n : Int) (hn : n = (j : Int)) (hj : j < rs.length) => l7At_any w' A cap rs q ws j n hn h' hj hw
  have HAT := Lib.hid hat; have HB1 := Lib.hid hb1; have HSB := Lib.hid hsb; have HH := Lib.hid h
  clear hat hb1 hsb h hw
  obtain ⟨T, hT⟩ : ∃ T, T = pT ws := ⟨_, rfl⟩
  rw [← hT] at HAT hz1 hz2 ⊢
  clear hT
  by_cases hl : k + 1 = rs.length
  · have hbq : ((k : Int) == (T.size : Int) - 1) = true := by rw [beq_iff_eq]; omega
    clear hl
    go_enter Tryz.func144, Tryz.ntmps144
    go_wp2_with fail
    go_ret
    exact ⟨true, rfl, HB1.out⟩
  · have hbq : ((k : Int) == (T.size : Int) - 1) = false := by rw [beq_eq_false_iff_ne]; omega
    have hk1 : k + 1 < rs.length := by omega
    clear hl
    go_enter Tryz.func144, Tryz.ntmps144
    go_wp2_with fail
    refine (HAT.out _ (HH.out.alloc _) (k + 1) _ (by omega) hk1).mono ?_
    rintro _ w2 ⟨b1, rfl, hb2⟩
    have hsb2 := HSB.out.below hb2
    have c0 := hsb2.cell 0 (.slice A rs.length cap) rfl
    have c1 := hsb2.cell 1 (.string (pT q)) rfl
    have hb3 := HB1.out.trans (hb2.mono HB1.out.size)
    have HB3 := Lib.hid hb3; clear hsb2 hb2 hb3
    cases b1 with
    | true =>
      go_wp2_with fail
      go_ret
      exact ⟨true, rfl, HB3.out⟩
    | false =>
      by_cases hk0 : 0 < k
      · go_wp2_with fail
        refine (HAT.out _ (HH.out.below HB3.out) k _ rfl hk).mono ?_
        rintro _ w4 ⟨b2, rfl, hb4⟩
        have HB4 := Lib.hid (HB3.out.trans (hb4.mono HB3.out.size)); clear hb4
        cases b2 with
        | true =>
          go_wp2_with fail
          go_ret
          exact ⟨true, rfl, HB4.out⟩
        | false =>
          go_wp2_with fail
          go_ret
          exact ⟨false, rfl, HB4.out⟩
      · go_wp2_with fail
        go_ret
        exact ⟨false, rfl, HB3.out⟩
set_option maxHeartbeats 4000000 in
set_option maxRecDepth 100000 in
theorem l7Step_any (w : World) (A : Option Addr) (cap : Nat) (rs : List (ByteArray × ByteArray)) (q ws : List Nat) (h : WhA w A cap rs) (hw : ws.length = rs.length) (hlo : Lo ws) :
    Calls Tryz.prog 91 #[.agg (whC (.slice A rs.length cap) (.string (pT q))), .string (pT ws)] w fun e w' => ∃ us : List Nat, e = .returned (.string (pT us)) ∧ us.length = rs.length ∧ Lo us ∧ Below w.heap.size w w' := by
  have hle := h.le
  obtain ⟨w0, hw0⟩ : ∃ w0, w0 = w.alloc (.cells (whC (.slice A rs.length cap) (.string (pT q))) 25) := ⟨_, rfl⟩
  have hb0 : Below w.heap.size w w0 := by rw [hw0]; exact (Below.refl _ _).alloc (Nat.le_refl _) _
  have hsb0 : SB w0 w.heap.size (whC (.slice A rs.length cap) (.string (pT q))) 25 := by rw [hw0]; exact SB.made w _ _
  have hcv := Lib.run_convert_string_bytes (P := Tryz.prog) w0 9 22 5 (pT ws) Tryz.underlying9 Tryz.underlying22 Tryz.underlying5
  have hbuf := Buf.made w0 (pT ws)
  have hbel := below_made w0 (pT ws)
  have htl : tl (pT ws) = ws.map letter := by unfold pT; rw [tl_mk]
  rw [htl] at hbuf
  have hse : (pT ws).size = ws.length := pT_size ws
  obtain ⟨w1, hw1⟩ : ∃ w1, w1 = Lib.bytesWorld w0 5 (pT ws) := ⟨_, rfl⟩
  obtain ⟨bc, hbc⟩ : ∃ bc, bc = grownCap w0 (pT ws).size 0 5 := ⟨_, rfl⟩
  rw [← hw1] at hcv hbuf hbel
  rw [← hbc] at hcv
  have hz1 : (pT ws).size ≤ rs.length := by omega
  have hz2 : rs.length ≤ (pT ws).size := by omega
  have hsb1 := hsb0.below hbel
  have hb1 := hb0.trans (hbel.mono hb0.size)
  have hgg : w.heap.size ≤ w0.heap.size := hb0.size
  have hpg : w.heap.size ≠ w0.heap.size := by rw [hw0]; simp
  obtain ⟨G, hG⟩ : ∃ G, G = w0.heap.size := ⟨_, rfl⟩
  rw [← hG] at hcv hbuf hgg hpg
  have hdg := fun w' (k : Nat) (hk : k < rs.length) => l1Digit_nth w' ws hlo k k rfl (by omega) (by omega)
  have hmv := fun (w' : World) (h' : WhA w' A cap rs) (k : Nat) (hk : k < rs.length) => l7Moves_any w' A cap rs q ws k k rfl h' hk hw
  have hnl := nth_lt hlo
  have HDG := Lib.hid hdg; have HMV := Lib.hid hmv; have HNL := Lib.hid hnl; have HB1 := Lib.hid hb1; have HSB := Lib.hid hsb1; have HBUF := Lib.hid hbuf; have HH := Lib.hid h; have HSE := Lib.hid hse
  have HW := Lib.hid hw; have HLO := Lib.hid hlo
  clear hdg hmv hnl hb1 hsb1 hbuf h hbel hb0 hsb0 hw1 hbc htl hse hG hw hlo
  obtain ⟨T, hT⟩ : ∃ T, T = pT ws := ⟨_, rfl⟩
  rw [← hT] at HDG HMV hcv hz1 hz2 HSE ⊢
  clear hT
  rw [hw0] at hcv
  clear hw0
  go_enter Tryz.func91, Tryz.ntmps91
  go_wp2_with fail
  go_loopw [6] (fun i wr => ∃ (k : Nat) (us : List Nat), i = .int .i64 k ∧ k ≤ rs.length ∧ Hid (us.length = rs.length) ∧ Hid (Lo us) ∧ Buf wr G (us.map letter) ∧ Hid (SB wr w.heap.size (whC (.slice A rs.length cap) (.string (pT q))) 25) ∧ Below w.heap.size w wr) (fun i _ => rs.length - (intOf i).toNat)
  case atStart => exact ⟨0, ws, rfl, by omega, HW, HLO, HBUF.out, HSB, HB1.out⟩
  case round =>
    obtain ⟨k, us, rfl, hk, HL, HLU, hbuf, HS, hbl⟩ := hrel
    have HBL := Lib.hid hbl; have HBF := Lib.hid hbuf; clear hbl hbuf
    by_cases hlt : k < rs.length
    · have c0 := HS.out.cell 0 (.slice A rs.length cap) rfl
      have c1 := HS.out.cell 1 (.string (pT q)) rfl
      have hltT : k < T.size := by omega
      go_wp2_with fail
      refine (HMV.out _ (HH.out.below HBL.out) k hlt).mono ?_
      rintro _ w2 ⟨b1, rfl, hb2⟩
      have HS2 := Lib.hid (HS.out.below hb2)
      have hbf2 : Buf w2 G (us.map letter) := by
        obtain ⟨cs, mm, hb', h1, h2, h3⟩ := HBF.out
        exact ⟨cs, mm, (hb2.block G HBF.out.lt).trans hb', h1, h2, h3⟩
      have HB2 := Lib.hid (HBL.out.trans (hb2.mono HBL.out.size)); clear hb2 c0 c1
      cases b1 with
      | true =>
        have hd := HNL.out k
        have HD := Lib.hid (fun w' => HDG.out w' k hlt)
        generalize nth ws k = a at hd HD
        have HBF2 := Lib.hid hbf2; clear hbf2
        go_wp2_with fail
        refine (HD.out _).mono ?_
        rintro _ _ ⟨rfl, rfl⟩
        go_wp2_with fail
        refine (l1Letter_is _ _ ((a + 1) % 10) (by omega) (by omega)).mono ?_
        rintro _ w3 ⟨rfl, hb3⟩
        have hul : k < (us.map letter).length := by rw [List.length_map, HL.out]; exact hlt
        have hbf3 : Buf w3 G (us.map letter) := by
          obtain ⟨cs, mm, hb', h1, h2, h3⟩ := HBF2.out
          exact ⟨cs, mm, (hb3.block G HBF2.out.lt).trans hb', h1, h2, h3⟩
        have d0 := hbf3.cell hul
        have f0 := hbf3.frozen hul
        have hput := hbf3.set_ (j := k) (letter ((a + 1) % 10))
        rw [← List.map_set] at hput
        have hzc : 0 < (mk [letter ((a + 1) % 10)]).size := by rw [size_mk]; simp
        have hz0 : ((mk [letter ((a + 1) % 10)])[0]'hzc) = letter ((a + 1) % 10) := rfl
        have HS3 := Lib.hid ((HS2.out.below hb3).far hpg k (.int .u8 ((letter ((a + 1) % 10)).toNat : Nat)))
        have HB3 := Lib.hid ((HB2.out.trans (hb3.mono HB2.out.size)).setCell (p := ⟨G, k, none⟩) (show w.heap.size ≤ G from hgg) (.int .u8 ((letter ((a + 1) % 10)).toNat : Nat)))
        have HPUT := Lib.hid hput
        obtain ⟨v0, d0'⟩ : ∃ v0, w3.cell? ⟨G, k, none⟩ = some v0 := ⟨_, d0⟩
        have HLS := Lib.hid (show Lo (us.set k ((a + 1) % 10)) from fun x hx => by
          rcases List.mem_or_eq_of_mem_set hx with hx | rfl
          · exact HLU.out x hx
          · exact Nat.mod_lt _ (by decide))
        clear hput d0 hb3 hbf3 hul
        go_wp2_with fail
        go_roundw
        case rel => exact ⟨k + 1, us.set k ((a + 1) % 10), by go_num, by omega, Lib.hid (by rw [List.length_set]; exact HL.out), HLS, HPUT.out, HS3, HB3.out⟩
        case measure => simp [intOf]; omega
      | false =>
        go_wp2_with fail
        go_roundw
        case rel => exact ⟨k + 1, us, by go_num, by omega, HL, HLU, hbf2, HS2, HB2.out⟩
        case measure => simp [intOf]; omega
    · have hcv2 := HBF.out.conv bc
      have hul : (us.map letter).length = T.size := by rw [List.length_map, HL.out, HSE.out, HW.out]
      rw [hul] at hcv2
      clear hul
      go_wp2_with fail
      go_ret
      exact ⟨us, rfl, HL.out, HLU.out, HBL.out⟩
theorem Rd.num {w : World} {B : Nat} {A : Option Addr} {l : List Nat} (h : Rd w B A (natV l)) {k : Nat} (hk : k < l.length) :
    ∃ b off, A = some ⟨b, off, none⟩ ∧ b < B ∧ w.cell? ⟨b, off + k, none⟩ = some (.int .i64 (l[k] : Int)) := by
  have hn : natV l ≠ [] := by intro e; have := congrArg List.length e; rw [length_natV, List.length_nil] at this; omega
  obtain ⟨b, off, e, hb, hcell⟩ := h hn
  exact ⟨b, off, e, hb, by rw [hcell k (by rw [length_natV]; exact hk)]; simp [natV]⟩
theorem cell_bel {w w' : World} {b o : Nat} {v : Value} (hb : Below w.heap.size w w') (hl : b < w.heap.size) (h : w.cell? ⟨b, o, none⟩ = some v) : w'.cell? ⟨b, o, none⟩ = some v :=
  (hb.cell (p := ⟨b, o, none⟩) hl).trans h
set_option maxHeartbeats 8000000 in
set_option maxRecDepth 100000 in
theorem l8Offsets_any (w : World) (A : Option Addr) (n cap : Nat) (q rg pl ws : List Nat) (hn : n ≤ 3) (hw : ws.length = n) (hlo : Lo ws) (hr : rg.length = n) (hro : Lo rg) :
    Calls Tryz.prog 147 #[.agg (macC (.slice A n cap) q rg pl), .string (pT ws)] w fun e w' => ∃ (v : Value) (l : List Nat), e = .returned v ∧ w'.ownsRow w.heap.size 3 1 v l.length (natV l) ∧ l.length = n ∧ Lo l ∧ Below w.heap.size w w' := by
  obtain ⟨iI, hi, hz0, hz1, hz2⟩ := info_parts Tryz.infoI
  have HI := Lib.hid hi; have HZ0 := Lib.hid hz0; have HZ1 := Lib.hid hz1; have HZ2 := Lib.hid hz2
  clear hi hz0 hz1 hz2
  obtain ⟨w0, hw0⟩ : ∃ w0, w0 = w.alloc (.cells (macC (.slice A n cap) q rg pl) 27) := ⟨_, rfl⟩
  have hb0 : Below w.heap.size w w0 := by rw [hw0]; exact (Below.refl _ _).alloc (Nat.le_refl _) _
  have hsb0 : SB w0 w.heap.size (macC (.slice A n cap) q rg pl) 27 := by rw [hw0]; exact SB.made w _ _
  have hz0 : w0.heap.size = w.heap.size + 1 := by rw [hw0]; simp
  have how : (w0.alloc (.cells #[] 3)).ownsRow (w.heap.size + 1) 3 1 (.slice (some ⟨w0.heap.size, 0, none⟩) 0 0) 0 (natV []) := World.ownsRow_made w0 #[] 0 (by omega) (by decide) rfl
  have hb1 : Below w.heap.size w (w0.alloc (.cells #[] 3)) := hb0.alloc hb0.size _
  have hsb1 : SB (w0.alloc (.cells #[] 3)) w.heap.size (macC (.slice A n cap) q rg pl) 27 := hsb0.below ((Below.refl _ _).alloc (Nat.le_refl _) _)
  have hd1 := fun w' (k : Nat) (hk : k < n) => l1Digit_nth w' ws hlo k k rfl (by omega) (by omega)
  have hd2 := fun w' (k : Nat) (hk : k < n) => l1Digit_nth w' rg hro k k rfl (by omega) (by omega)
  have hl1 := nth_lt hlo
  have hl2 := nth_lt hro
  have hzw : (pT ws).size ≤ n := by rw [pT_size]; omega
  have hzw2 : n ≤ (pT ws).size := by rw [pT_size]; omega
  rw [hw0] at how hb1 hsb1
  have hsz : (w.alloc (.cells (macC (.slice A n cap) q rg pl) 27)).heap.size = w.heap.size + 1 := by simp
  rw [hsz] at how
  have HOW := Lib.hid how; have HB1 := Lib.hid hb1; have HSB := Lib.hid hsb1; have HD1 := Lib.hid hd1; have HD2 := Lib.hid hd2; have HL1 := Lib.hid hl1; have HL2 := Lib.hid hl2
  clear hb0 hsb0 hz0 how hb1 hsb1 hd1 hd2 hl1 hl2 hw0 hw hlo hr hro hsz
  obtain ⟨T, hT⟩ : ∃ T, T = pT ws := ⟨_, rfl⟩
  rw [← hT] at HD1 hzw hzw2 ⊢
  clear hT
  obtain ⟨U, hU⟩ : ∃ U, U = pT rg := ⟨_, rfl⟩
  have HUE := Lib.hid hU
  rw [← hU] at HD2
  clear hU
  obtain ⟨P, hP⟩ : ∃ P, P = w.heap.size := ⟨_, rfl⟩
  have HPE := Lib.hid hP
  go_enter Tryz.func147, Tryz.ntmps147
  go_wp2_with fail
  rw [← hP] at HOW HSB ⊢
  clear hP
  go_loopw [5, 6] (fun o i wr => ∃ (k : Nat) (l : List Nat), i = .int .i64 k ∧ k ≤ n ∧ wr.ownsRow (P + 1) 3 1 o l.length (natV l) ∧ Hid (l.length = k) ∧ Hid (Lo l) ∧ Hid (SB wr P (macC (.slice A n cap) q rg pl) 27) ∧ Below w.heap.size w wr) (fun _ i _ => n - (intOf i).toNat)
  case atStart => exact ⟨0, [], rfl, by omega, HOW.out, Lib.hid rfl, Lib.hid (fun x hx => by simp at hx), HSB, HB1.out⟩
  case round =>
    obtain ⟨k, l, rfl, hk, hown, HL, HLO, HS, hbl⟩ := hrel
    have HO := Lib.hid hown; have HBL := Lib.hid hbl; clear hown hbl HOW HSB HB1
    obtain ⟨A3, c3, e3⟩ := slot_slice HO.out
    subst e3
    by_cases hlt : k < n
    · have d2 : wr.cell? ⟨P, 2, none⟩ = some (.string U) := by rw [HUE.out]; exact HS.out.cell 2 _ rfl
      have HU2 := Lib.hid (show (macC (.slice A n cap) q rg pl)[2]? = some (.string U) by rw [HUE.out]; rfl)
      have hPs := HS.out.lt
      have hlt2 : k < T.size := by omega
      have hla := HL1.out k
      have hlb := HL2.out k
      have HA := Lib.hid (fun w' => HD1.out w' k hlt)
      have HB := Lib.hid (fun w' => HD2.out w' k hlt)
      generalize nth ws k = a at hla HA
      generalize nth rg k = b at hlb HB
      have hll : l.length ≤ 3 := by rw [HL.out]; omega
      have hnb := ownBlock_ne HO.out (Nat.lt_succ_self P)
      have HNB := Lib.hid hnb; clear hnb
      have x1 : IntKind.i64.wrap ((a : Int) - (b : Int)) = (a : Int) - (b : Int) := by rw [IntKind.wrap_i64]; omega
      have x2 : IntKind.i64.wrap ((a : Int) - (b : Int) + 10) = (a : Int) - (b : Int) + 10 := by rw [IntKind.wrap_i64]; omega
      have x3 : ((a : Int) - (b : Int) + 10).tmod 10 = (((a + 10 - b) % 10 : Nat) : Int) := by rw [Int.tmod_eq_emod_of_nonneg (by omega)]; omega
      go_wp2_with fail
      go_region_held3 (fun W => W.cell? ⟨P, 2, none⟩ = some (.string U)) (first | assumption | exact d2 | exact cell_bel ((Below.refl _ _).alloc (Nat.le_refl _) _) hPs d2 | exact cell_bel (((Below.refl _ _).alloc (Nat.le_refl _) _).drew) hPs d2 | exact (SB.own (SB.below HS.out (((Below.refl _ _).alloc (Nat.le_refl _) _).drew)) hg5 HNB.out).cell 2 (.string U) HU2.out | exact (SB.own (SB.below HS.out ((Below.refl _ _).alloc (Nat.le_refl _) _)) hg5 HNB.out).cell 2 (.string U) HU2.out) (first | (go_at_call 25; refine (HA.out _).mono ?_; rintro _ _ ⟨rfl, rfl⟩) | (go_at_call 25; refine (HB.out _).mono ?_; rintro _ _ ⟨rfl, rfl⟩) | (rw [if_pos (by rfl)]; refine wp_append_lies _ (.tmp 14) (.tmp 25) 132 (by rfl) (P + 1) 3 iI _ 1 8 Tryz.undI HI.out HZ0.out HZ1.out HZ2.out rfl (by decide) _ l.length _ (by rfl) (HO.out.alloc _) ⟨wr.heap.size, 0, none⟩ 1 1 [.int .i64 (((a + 10 - b) % 10 : Nat) : Int)] (by rfl) rfl (one_new wr _ _) nat_cell (by decide) (by unfold maxLen; omega) (by omega) (Nat.le_trans hPs (by simp)) _ rfl ?_; intro g5 c5 w5 ho5 hg5 hat5 hlt5) | fail)
      all_goals
        have hs5 : SB w5 P (macC (.slice A n cap) q rg pl) 27 := SB.own (SB.below HS.out (((Below.refl _ _).alloc (Nat.le_refl _) _).drew)) hg5 HNB.out
        have hbw := HBL.out.size
        have hb5 : Below w.heap.size w w5 := ((HBL.out.alloc hbw _).drew).grown hg5 (by simp; omega) fun k' e' => by have := (HO.out.lt k' e').1; have := HPE.out; omega
        have hx10 : (a + 10 - b) % 10 < 10 := Nat.mod_lt _ (by decide)
        generalize (a + 10 - b) % 10 = x at ho5 hx10
        rw [natV_snoc, show l.length + 1 = (l ++ [x]).length by simp] at ho5
        have HO5 := Lib.hid ho5; have HS5 := Lib.hid hs5; have HB5 := Lib.hid hb5
        clear ho5 hs5 hb5 hg5 hat5 hlt5 d2 x1 x2 x3
        go_wp2_with fail
        go_roundw
        case rel => exact ⟨k + 1, l ++ [x], by go_num, by omega, by have := HO5.out; simpa using this, Lib.hid (by simp [HL.out]), Lib.hid (lo_snoc HLO.out hx10), HS5, HB5.out⟩
        case measure => simp [intOf]; omega
    · go_wp2_with fail
      go_ret
      exact ⟨_, l, rfl, own_mono3 HO.out (by rw [HPE.out]; exact Nat.le_succ _), by rw [HL.out]; omega, HLO.out, HBL.out⟩
theorem below_of_drew2 {a b : World} (h : Below a.drew.heap.size a.drew b) : Below a.heap.size a b := ⟨h.os, h.tape, h.output, h.size, h.block⟩
theorem three_keep2 {wr W W' : World} {a1 a2 a3 : Addr} {u1 u2 u3 : Value} (h : W.cell? a1 = some u1 ∧ W.cell? a2 = some u2 ∧ W.cell? a3 = some u3 ∧ Below wr.heap.size wr W) (hb : Below W.heap.size W W') :
    W'.cell? a1 = some u1 ∧ W'.cell? a2 = some u2 ∧ W'.cell? a3 = some u3 ∧ Below wr.heap.size wr W' := by
  obtain ⟨h1, h2, h3, h5⟩ := h
  exact ⟨(hb.cell (World.block_lt_of_cell? _ _ h1)).trans h1, (hb.cell (World.block_lt_of_cell? _ _ h2)).trans h2, (hb.cell (World.block_lt_of_cell? _ _ h3)).trans h3, h5.trans (hb.mono h5.size)⟩
theorem two_keep2 {wr W W' : World} {a1 a2 : Addr} {u1 u2 : Value} (h : W.cell? a1 = some u1 ∧ W.cell? a2 = some u2 ∧ Below wr.heap.size wr W) (hb : Below W.heap.size W W') :
    W'.cell? a1 = some u1 ∧ W'.cell? a2 = some u2 ∧ Below wr.heap.size wr W' := by
  obtain ⟨h1, h2, h5⟩ := h
  exact ⟨(hb.cell (World.block_lt_of_cell? _ _ h1)).trans h1, (hb.cell (World.block_lt_of_cell? _ _ h2)).trans h2, h5.trans (hb.mono h5.size)⟩
theorem quad_keep2 {wr W W' : World} {a1 a2 a3 a4 : Addr} {u1 u2 u3 u4 : Value} (h : W.cell? a1 = some u1 ∧ W.cell? a2 = some u2 ∧ W.cell? a3 = some u3 ∧ W.cell? a4 = some u4 ∧ Below wr.heap.size wr W) (hb : Below W.heap.size W W') :
    W'.cell? a1 = some u1 ∧ W'.cell? a2 = some u2 ∧ W'.cell? a3 = some u3 ∧ W'.cell? a4 = some u4 ∧ Below wr.heap.size wr W' := by
  obtain ⟨h1, h2, h3, h4, h5⟩ := h
  exact ⟨(hb.cell (World.block_lt_of_cell? _ _ h1)).trans h1, (hb.cell (World.block_lt_of_cell? _ _ h2)).trans h2, (hb.cell (World.block_lt_of_cell? _ _ h3)).trans h3, (hb.cell (World.block_lt_of_cell? _ _ h4)).trans h4, h5.trans (hb.mono h5.size)⟩
theorem own_rd3 {w : World} {base : Nat} {e : TypeId} {size n cap : Nat} {A : Option Addr} {xs : List Value} (h : w.ownsRow base e size (.slice A n cap) n xs) : Rd w w.heap.size A xs := by
  obtain ⟨A', c', e', h2, h3, h4⟩ := ownsRow_rd h
  simp only [Value.slice.injEq] at e'
  obtain ⟨rfl, _, rfl⟩ := e'
  exact h4
theorem own_le3 {w : World} {base : Nat} {e : TypeId} {size n cap : Nat} {A : Option Addr} {xs : List Value} (h : w.ownsRow base e size (.slice A n cap) n xs) : n ≤ cap := by
  obtain ⟨A', c', e', h2, h3, h4⟩ := ownsRow_rd h
  simp only [Value.slice.injEq] at e'
  obtain ⟨rfl, _, rfl⟩ := e'
  exact h2
def MadeP (w : World) (e : Ending) (w' : World) : Prop := ∃ p : List Nat, e = .returned (.string (pT p)) ∧ Prm p ∧ Below w.heap.size w w'
set_option maxHeartbeats 8000000 in
set_option maxRecDepth 100000 in
theorem l6Through_any (w : World) (A : Option Addr) (cap : Nat) (rs : List (ByteArray × ByteArray)) (q : List Nat) (Ao : Option Addr) (co : Nat) (l : List Nat) (h : WhA w A cap rs)
    (hr : Rd w w.heap.size Ao (natV l)) (hll : l.length = rs.length) (hlc : l.length ≤ co) (hlo : Lo l) :
    Calls Tryz.prog 210 #[.agg (whC (.slice A rs.length cap) (.string (pT q))), .slice Ao l.length co] w (MadeP w) := by
  have hb0 : Below w.heap.size w (w.alloc (.cells (whC (.slice A rs.length cap) (.string (pT q))) 25)) := (Below.refl _ _).alloc (Nat.le_refl _) _
  have HH := Lib.hid h; have HR := Lib.hid hr; have HLL := Lib.hid hll; have HLO := Lib.hid hlo; have HB0 := Lib.hid hb0
  have HS0 := Lib.hid (SB.made w (whC (.slice A rs.length cap) (.string (pT q))) 25)
  have hle := h.le
  have hcap := h.cap
  have hl3 : l.length ≤ 3 := by omega
  clear h hr hll hlo hb0
  obtain ⟨P, hP⟩ : ∃ P, P = w.heap.size := ⟨_, rfl⟩
  go_enter Tryz.func210, Tryz.ntmps210
  go_wp2_with fail
  refine (identityPerm_any _).mono ?_
  rintro _ w1 ⟨rfl, hb1⟩
  have HS1 := Lib.hid (HS0.out.below hb1)
  have HB1 := Lib.hid (HB0.out.trans (hb1.mono HB0.out.size)); clear hb1 HS0 HB0
  rw [← hP] at HS1 ⊢
  have HPE := Lib.hid hP; clear hP
  go_wp2_with fail
  go_loopw [5, 6] (fun o i wr => ∃ (k : Nat) (p : List Nat), i = .int .i64 ((k : Int) - 1) ∧ o = .string (pT p) ∧ k ≤ l.length ∧ Hid (Prm p) ∧ Hid (SB wr P (whC (.slice A rs.length cap) (.string (pT q))) 25) ∧ Below w.heap.size w wr) (fun _ i _ => (intOf i + 1).toNat)
  case atStart => exact ⟨l.length, List.range 10, rfl, rfl, Nat.le_refl _, Lib.hid prm_range, HS1, HB1.out⟩
  case round =>
    obtain ⟨k, p, rfl, rfl, hk, HP, HS, hbl⟩ := hrel
    have HBL := Lib.hid hbl; clear hbl HS1 HB1
    by_cases hpos : 0 < k
    · obtain ⟨j, rfl⟩ : ∃ j, k = j + 1 := ⟨k - 1, by omega⟩
      rw [show ((j + 1 : Nat) : Int) - 1 = (j : Int) by omega]
      have hjl : j < l.length := by omega
      have hjr : j < rs.length := by have := HLL.out; omega
      obtain ⟨b0, off, rfl, hb0, c1, _⟩ := (HH.out.rd.below HBL.out).rot hjr
      obtain ⟨b1, off1, rfl, hb1, c2⟩ := (HR.out.below HBL.out).num hjl
      have c0 := HS.out.cell 0 (.slice (some ⟨b0, off, none⟩) rs.length cap) rfl
      obtain ⟨pq, nt, hrt, hpq, _, _⟩ := HH.out.rot _ (List.getElem_mem hjr)
      rw [hrt] at c1
      simp only at c1
      have hlx := HLO.out _ (List.getElem_mem hjl)
      generalize l[j] = x at c2 hlx
      have hcon := fun w' => l5At_any w' pq x x rfl hpq hlx
      have hcon2 := fun w' => l2Then_any w' p (atP pq x) HP.out.toTen (prm_at hpq (by omega)).toTen
      have HPN := Lib.hid (prm_then HP.out (prm_at hpq (show x ≤ 10 by omega)))
      have HC1 := Lib.hid hcon; have HC2 := Lib.hid hcon2
      clear hcon hcon2 hrt hpq
      generalize pT pq = R1 at c1 HC1
      generalize pT (atP pq x) = R2 at HC1 HC2
      obtain ⟨O, hO⟩ : ∃ O, O = pT p := ⟨_, rfl⟩
      rw [← hO] at HC2 ⊢
      clear hO
      go_wp2_with fail
      go_region_held3 (fun W => W.cell? ⟨P, 0, none⟩ = some (.slice (some ⟨b0, off, none⟩) rs.length cap) ∧ W.cell? ⟨b0, off + j * 2, none⟩ = some (.string R1) ∧ W.cell? ⟨b1, off1 + j, none⟩ = some (.int .i64 (x : Int)) ∧ Below wr.heap.size wr W) (first | assumption | exact ⟨c0, c1, c2, (Below.refl _ _).drew⟩ | exact three_keep2 (by assumption) (by assumption)) (first | (go_at_call 259; refine (HC1.out _).mono ?_; rintro _ w7 ⟨rfl, hb7⟩) | (go_at_call 209; refine (HC2.out _).mono ?_; rintro _ w8 ⟨rfl, hb8⟩) | fail)
      all_goals
        have hb9 := (below_of_drew2 hb7).trans (hb8.mono (below_of_drew2 hb7).size)
        have HS9 := Lib.hid (HS.out.below hb9)
        have HB9 := Lib.hid (HBL.out.trans (hb9.mono HBL.out.size))
        clear hb7 hb8 hb9 c0 c1 c2
        go_wp2_with fail
        go_roundw
        case rel => exact ⟨j, _, by go_num, rfl, by omega, HPN, HS9, HB9.out⟩
        case measure => simp [intOf]
    · obtain rfl : k = 0 := by omega
      go_wp2_with fail
      go_ret
      exact ⟨p, rfl, HP.out, HBL.out⟩
set_option maxHeartbeats 8000000 in
set_option maxRecDepth 100000 in
theorem l6Scramble_any (w : World) (A : Option Addr) (cap : Nat) (rs : List (ByteArray × ByteArray)) (q : List Nat) (Ao : Option Addr) (co : Nat) (l : List Nat) (h : WhA w A cap rs) (hq : Prm q)
    (hr : Rd w w.heap.size Ao (natV l)) (hll : l.length = rs.length) (hlc : l.length ≤ co) (hlo : Lo l) :
    Calls Tryz.prog 146 #[.agg (whC (.slice A rs.length cap) (.string (pT q))), .slice Ao l.length co] w (MadeP w) := by
  obtain ⟨w0, hw0⟩ : ∃ w0, w0 = w.alloc (.cells (whC (.slice A rs.length cap) (.string (pT q))) 25) := ⟨_, rfl⟩
  have hb0 : Below w.heap.size w w0 := by rw [hw0]; exact (Below.refl _ _).alloc (Nat.le_refl _) _
  have hs0 : SB w0 w.heap.size (whC (.slice A rs.length cap) (.string (pT q))) 25 := by rw [hw0]; exact SB.made w _ _
  have hcon := l6Through_any w0.drew A cap rs q Ao co l (h.below hb0).drew ((hr.below hb0).mono hb0.size) hll hlc hlo
  have HCON := Lib.hid hcon; have HB0 := Lib.hid hb0; have HQ := Lib.hid hq
  have c0 := hs0.cell 0 (.slice A rs.length cap) rfl
  have c1 := hs0.cell 1 (.string (pT q)) rfl
  clear hcon hs0 h hr hll hlc hlo hq hb0
  obtain ⟨P, hP⟩ : ∃ P, P = w.heap.size := ⟨_, rfl⟩
  obtain ⟨L, hL⟩ : ∃ L, L = l.length := ⟨_, rfl⟩
  rw [← hL] at HCON ⊢
  clear hL
  go_enter Tryz.func146, Tryz.ntmps146
  go_wp2_with fail
  rw [← hP] at c0 c1
  rw [← hP, ← hw0]
  have HPE := Lib.hid hP
  clear hw0 hP
  go_region_held3 (fun W => W.cell? ⟨P, 0, none⟩ = some (.slice A rs.length cap) ∧ W.cell? ⟨P, 1, none⟩ = some (.string (pT q)) ∧ Below w0.heap.size w0 W) (first | assumption | exact ⟨c0, c1, (Below.refl _ _).drew⟩ | exact two_keep2 (by assumption) (by assumption)) (first | (go_at_call 210; refine HCON.out.mono ?_; rintro _ w7 ⟨p7, rfl, hp7, hb7⟩) | (go_at_call 207; refine (l2Back_any _ p7 hp7).mono ?_; rintro _ w8 ⟨rfl, hb8⟩) | (go_at_call 145; refine (l2Renamed_any _ q (invP p7) HQ.out (prm_inv hp7)).mono ?_; rintro _ w9 ⟨rfl, hb9⟩) | fail)
  all_goals
    have hbA := below_of_drew2 hb7
    have hbB := hbA.trans (hb8.mono hbA.size)
    have hbC := hbB.trans (hb9.mono hbB.size)
    have HBC := Lib.hid (HB0.out.trans (hbC.mono HB0.out.size))
    have HPP := Lib.hid hp7
    clear hb7 hb8 hb9 hbA hbB hbC c0 c1 hp7
    go_wp2_with fail
    go_ret
    exact ⟨_, rfl, prm_then (prm_then (prm_inv (prm_inv HPP.out)) HQ.out) (prm_inv HPP.out), HBC.out⟩
set_option maxHeartbeats 8000000 in
set_option maxRecDepth 100000 in
theorem l8Perm_any (w : World) (A : Option Addr) (cap : Nat) (rs : List (ByteArray × ByteArray)) (q rg pl ws : List Nat) (h : WhA w A cap rs) (hq : Prm q) (hpl : Prm pl) (hw : ws.length = rs.length) (hlo : Lo ws) (hr : rg.length = rs.length) (hro : Lo rg) :
    Calls Tryz.prog 92 #[.agg (macC (.slice A rs.length cap) q rg pl), .string (pT ws)] w (MadeP w) := by
  obtain ⟨w0, hw0⟩ : ∃ w0, w0 = w.alloc (.cells (macC (.slice A rs.length cap) q rg pl) 27) := ⟨_, rfl⟩
  have hb0 : Below w.heap.size w w0 := by rw [hw0]; exact (Below.refl _ _).alloc (Nat.le_refl _) _
  have hs0 : SB w0 w.heap.size (macC (.slice A rs.length cap) q rg pl) 27 := by rw [hw0]; exact SB.made w _ _
  have hcon := l8Offsets_any w0.drew A rs.length cap q rg pl ws h.le hw hlo hr hro
  have HCON := Lib.hid hcon; have HB0 := Lib.hid hb0; have HQ := Lib.hid hq; have HPL := Lib.hid hpl; have HW0 := Lib.hid (h.below hb0).drew
  obtain ⟨⟨c0, c1, c2, c3⟩, _⟩ := hs0.all4
  clear hcon hs0 h hw hlo hr hro hb0 hq hpl
  obtain ⟨P, hP⟩ : ∃ P, P = w.heap.size := ⟨_, rfl⟩
  obtain ⟨T, hT⟩ : ∃ T, T = pT ws := ⟨_, rfl⟩
  rw [← hT] at HCON ⊢
  clear hT
  go_enter Tryz.func92, Tryz.ntmps92
  go_wp2_with fail
  rw [← hP] at c0 c1 c2 c3
  rw [← hP, ← hw0]
  have HPE := Lib.hid hP
  clear hw0 hP
  go_region_held3 (fun W => W.cell? ⟨P, 0, none⟩ = some (.slice A rs.length cap) ∧ W.cell? ⟨P, 1, none⟩ = some (.string (pT q)) ∧ W.cell? ⟨P, 2, none⟩ = some (.string (pT rg)) ∧ W.cell? ⟨P, 3, none⟩ = some (.string (pT pl)) ∧ Below w0.heap.size w0 W) (first | assumption | exact ⟨c0, c1, c2, c3, (Below.refl _ _).drew⟩ | exact quad_keep2 (by assumption) (by assumption)) (first | (go_at_call 147; refine HCON.out.mono ?_; rintro _ w7 ⟨v7, l7, rfl, ho7, hl7, hlo7, hb7⟩; obtain ⟨A7, c7, rfl⟩ := slot_slice ho7; have HL7 := Lib.hid hl7; clear hl7) | (go_at_call 146; refine (l6Scramble_any w7 A cap rs q A7 c7 l7 (HW0.out.below hb7) HQ.out (own_rd3 ho7) HL7.out (own_le3 ho7) hlo7).mono ?_; rintro _ w8 ⟨p8, rfl, hp8, hb8⟩) | (go_at_call 145; refine (l2Renamed_any _ p8 pl hp8 HPL.out).mono ?_; rintro _ w9 ⟨rfl, hb9⟩) | fail)
  all_goals
    have hbA := below_of_drew2 hb7
    have hbB := hbA.trans (hb8.mono hbA.size)
    have hbC := hbB.trans (hb9.mono hbB.size)
    have HBC := Lib.hid (HB0.out.trans (hbC.mono HB0.out.size))
    have HPP := Lib.hid hp8
    clear hb7 hb8 hb9 hbA hbB hbC c0 c1 c2 c3 hp8 ho7
    go_wp2_with fail
    go_ret
    exact ⟨_, rfl, prm_then (prm_then (prm_inv HPL.out) HPP.out) HPL.out, HBC.out⟩
def pTs (ps : List (List Nat)) : List ByteArray := ps.map pT
theorem pTs_snoc (ps : List (List Nat)) (p : List Nat) : strV (pTs ps) ++ [Value.string (pT p)] = strV (pTs (ps ++ [p])) := by simp [pTs, strV]
theorem pTs_len (ps : List (List Nat)) : (pTs ps).length = ps.length := by simp [pTs]
def Prms (ps : List (List Nat)) : Prop := ∀ p ∈ ps, Prm p
theorem prms_snoc {ps : List (List Nat)} {p : List Nat} (h : Prms ps) (hp : Prm p) : Prms (ps ++ [p]) := fun x hx => by
  rcases List.mem_append.1 hx with hx | hx
  · exact h x hx
  · simp at hx; subst hx; exact hp
set_option maxHeartbeats 8000000 in
set_option maxRecDepth 100000 in
theorem l8Perms_any (w : World) (A : Option Addr) (cap : Nat) (rs : List (ByteArray × ByteArray)) (q rg pl ws : List Nat) (n : Nat) (m : Int) (hm : m = (n : Int)) (hn : n ≤ 100) (h : WhA w A cap rs) (hq : Prm q) (hpl : Prm pl) (hw : ws.length = rs.length) (hlo : Lo ws) (hr : rg.length = rs.length) (hro : Lo rg) :
    Calls Tryz.prog 52 #[.agg (macC (.slice A rs.length cap) q rg pl), .string (pT ws), .int .i64 m] w fun e w' => ∃ (v : Value) (ps : List (List Nat)), e = .returned v ∧ w'.ownsRow w.heap.size 9 1 v ps.length (strV (pTs ps)) ∧ ps.length = n ∧ Prms ps ∧ Below w.heap.size w w' := by
  subst hm
  obtain ⟨iS, hi, hz0, hz1, hz2⟩ := info_parts Tryz.infoS
  have HI := Lib.hid hi; have HZ0 := Lib.hid hz0; have HZ1 := Lib.hid hz1; have HZ2 := Lib.hid hz2
  clear hi hz0 hz1 hz2
  have hsz : (w.alloc (.cells (macC (.slice A rs.length cap) q rg pl) 27)).heap.size = w.heap.size + 1 := by simp
  have how : ((w.alloc (.cells (macC (.slice A rs.length cap) q rg pl) 27)).alloc (.cells #[] 9)).ownsRow (w.heap.size + 1) 9 1 (.slice (some ⟨(w.alloc (.cells (macC (.slice A rs.length cap) q rg pl) 27)).heap.size, 0, none⟩) 0 0) 0 (strV (pTs [])) := World.ownsRow_made _ #[] 0 (by rw [hsz]; exact Nat.le_refl _) (by decide) rfl
  have hb1 : Below w.heap.size w ((w.alloc (.cells (macC (.slice A rs.length cap) q rg pl) 27)).alloc (.cells #[] 9)) := ((Below.refl _ _).alloc (Nat.le_refl _) _).alloc (by rw [hsz]; omega) _
  have hs1 : SB ((w.alloc (.cells (macC (.slice A rs.length cap) q rg pl) 27)).alloc (.cells #[] 9)) w.heap.size (macC (.slice A rs.length cap) q rg pl) 27 := (SB.made w _ _).below ((Below.refl _ _).alloc (Nat.le_refl _) _)
  rw [hsz] at how
  have hst := fun (w' : World) (h' : WhA w' A cap rs) (us : List Nat) (h1 : us.length = rs.length) (h2 : Lo us) => l7Step_any w' A cap rs q us h' h1 h2
  have hpm := fun (w' : World) (h' : WhA w' A cap rs) (us : List Nat) (h1 : us.length = rs.length) (h2 : Lo us) => l8Perm_any w' A cap rs q rg pl us h' hq hpl h1 h2 hr hro
  have HST := Lib.hid hst; have HPM := Lib.hid hpm; have HOW := Lib.hid how; have HB1 := Lib.hid hb1; have HS1 := Lib.hid hs1; have HH := Lib.hid h; have HW := Lib.hid hw; have HLO := Lib.hid hlo
  clear hst hpm how hb1 hs1 h hw hlo hr hro hq hpl hsz
  obtain ⟨P, hP⟩ : ∃ P, P = w.heap.size := ⟨_, rfl⟩
  go_enter Tryz.func52, Tryz.ntmps52
  go_wp2_with fail
  rw [← hP] at HOW HS1 ⊢
  have HPE := Lib.hid hP; clear hP
  go_loopw [1, 7, 8] (fun s o i wr => ∃ (k : Nat) (us : List Nat) (ps : List (List Nat)), s = .string (pT us) ∧ i = .int .i64 k ∧ k ≤ n ∧ Hid (us.length = rs.length) ∧ Hid (Lo us) ∧ wr.ownsRow (P + 1) 9 1 o ps.length (strV (pTs ps)) ∧ Hid (ps.length = k) ∧ Hid (Prms ps) ∧ Hid (SB wr P (macC (.slice A rs.length cap) q rg pl) 27) ∧ Below w.heap.size w wr) (fun _ _ i _ => n - (intOf i).toNat)
  case atStart => exact ⟨0, ws, [], rfl, rfl, by omega, HW, HLO, HOW.out, Lib.hid rfl, Lib.hid (fun x hx => by simp at hx), HS1, HB1.out⟩
  case round =>
    clear HW HLO HOW HS1 HB1
    obtain ⟨k, us, ps, rfl, rfl, hk, HW, HLO, hown, HL, HPS, HS, hbl⟩ := hrel
    have HO := Lib.hid hown; have HBL := Lib.hid hbl; clear hown hbl
    obtain ⟨A3, c3, e3⟩ := slot_slice HO.out
    subst e3
    by_cases hlt : k < n
    · obtain ⟨⟨c0, c1, c2, c4⟩, _⟩ := HS.out.all4
      have HT1 := Lib.hid (HST.out wr (HH.out.below HBL.out) us HW.out HLO.out)
      obtain ⟨T, hT⟩ : ∃ T, T = pT us := ⟨_, rfl⟩
      rw [← hT] at HT1 ⊢
      clear hT
      go_wp2_with fail
      refine HT1.out.mono ?_
      rintro _ w2 ⟨vs, rfl, hvl, hvo, hb2⟩
      have HVL := Lib.hid hvl; have HVO := Lib.hid hvo; have HS2 := Lib.hid (HS.out.below hb2); have HO2 := Lib.hid (ownsRow_below HO.out hb2)
      have HB2 := Lib.hid (HBL.out.trans (hb2.mono HBL.out.size))
      clear hvl hvo hb2 c0 c1 c2 c4 HO HS HBL
      obtain ⟨⟨c0, c1, c2, c4⟩, _⟩ := HS2.out.all4
      have HT2 := Lib.hid (HPM.out w2 (HH.out.below HB2.out) vs HVL.out HVO.out)
      have hll : ps.length ≤ 100 := by rw [HL.out]; omega
      obtain ⟨U, hU⟩ : ∃ U, U = pT vs := ⟨_, rfl⟩
      rw [← hU] at HT2 ⊢
      have HUE := Lib.hid hU
      clear hU
      go_wp2_with fail
      refine HT2.out.mono ?_
      rintro _ w3 ⟨p, rfl, hp, hb3⟩
      have HS3 := Lib.hid (HS2.out.below hb3); have HO3 := Lib.hid (ownsRow_below HO2.out hb3); have HPP := Lib.hid hp
      have HB3 := Lib.hid (HB2.out.trans (hb3.mono HB2.out.size))
      have hPs := HS3.out.lt
      clear hp hb3 c0 c1 c2 c4 HS2 HO2 HB2
      go_wp2_with (at_builtin; refine wpList_append_own _ rfl _ _ 33 rfl (P + 1) 9 iS (.string ByteArray.empty) 1 16 Tryz.undS HI.out HZ0.out HZ1.out HZ2.out rfl (by decide) _ ps.length _ rfl (HO3.out.alloc _) ⟨w3.heap.size, 0, none⟩ 1 1 [.string (pT p)] rfl rfl (one_new w3 (.string (pT p)) 9) one_cell (by unfold maxLen; omega) (by omega) (by simp; omega) ?_)
      intro v' w6 ho' hg' _
      rw [pTs_snoc, show ps.length + 1 = (ps ++ [p]).length by simp] at ho'
      have hs6 : SB w6 P (macC (.slice A rs.length cap) q rg pl) 27 := SB.own (SB.below HS3.out ((Below.refl _ _).alloc (Nat.le_refl _) _)) hg' (ownBlock_ne HO3.out (Nat.lt_succ_self P))
      have hb6 : Below w.heap.size w w6 := (HB3.out.alloc HB3.out.size _).grown hg' (Nat.le_trans HB3.out.size (by simp)) fun k' e => by have := (HO3.out.lt k' e).1; have := HPE.out; omega
      have HO6 := Lib.hid ho'; have HB6 := Lib.hid hb6; have HS6 := Lib.hid hs6; clear ho' hg' hb6 hs6
      go_wp2_with fail
      go_roundw
      case rel => exact ⟨k + 1, vs, ps ++ [p], by rw [HUE.out], by go_num, by omega, HVL, HVO, HO6.out, Lib.hid (by simp [HL.out]), Lib.hid (prms_snoc HPS.out HPP.out), HS6, HB6.out⟩
      case measure => simp [intOf]; omega
    · go_wp2_with fail
      go_ret
      exact ⟨_, ps, rfl, own_mono3 HO.out (by rw [HPE.out]; exact Nat.le_succ _), by rw [HL.out]; omega, HPS.out, HBL.out⟩
theorem Rd.perm {w : World} {B : Nat} {A : Option Addr} {ps : List (List Nat)} (h : Rd w B A (strV (pTs ps))) {k : Nat} (hk : k < ps.length) :
    ∃ b off, A = some ⟨b, off, none⟩ ∧ b < B ∧ w.cell? ⟨b, off + k, none⟩ = some (.string (pT ps[k])) := by
  obtain ⟨b, off, e, hb, hc⟩ := h.str (k := k) (by rw [pTs_len]; exact hk)
  exact ⟨b, off, e, hb, by rw [hc]; simp [pTs]⟩
theorem one_keep2 {wr W W' : World} {a1 : Addr} {u1 : Value} (h : W.cell? a1 = some u1 ∧ Below wr.heap.size wr W) (hb : Below W.heap.size W W') :
    W'.cell? a1 = some u1 ∧ Below wr.heap.size wr W' := by
  obtain ⟨h1, h5⟩ := h
  exact ⟨(hb.cell (World.block_lt_of_cell? _ _ h1)).trans h1, h5.trans (hb.mono h5.size)⟩
end Go.Proofs.YtnbdimbhklbadaaGreatDoor
