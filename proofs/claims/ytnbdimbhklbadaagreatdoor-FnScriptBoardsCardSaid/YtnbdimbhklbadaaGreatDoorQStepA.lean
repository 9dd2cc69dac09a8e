/-
  Contracts of functions and plain laws that the law's proof uses (parts: StepA). Conditions: what each theorem names.
-/
import Derived.Deep.RegionLaw
import Derived.Deep.LoopGhost
import Derived.Deep.RegionHeld3
import Derived.Test.YtnbdimbhklbadaaGreatDoorQPerms
import Derived.Test.YtnbdimbhklbadaaGreatDoorQTextF
import Derived.Test.YtnbdimbhklbadaaGreatDoorQShelf
import Derived.Test.YtnbdimbhklbadaaGreatDoorQMachB
namespace Go.Proofs.YtnbdimbhklbadaaGreatDoor
open Go.RowKit Pl
set_option linter.unusedVariables false
abbrev Rot := ByteArray × ByteArray
def atB (rs : List Rot) (l : List UInt8) (i : Nat) : Bool := match rs[i]?, l[i]? with | some r, some c => decide (c ∈ tl r.2) | _, _ => false
def mvB (rs : List Rot) (l : List UInt8) (i : Nat) : Bool := decide (i + 1 = l.length) || (atB rs l (i + 1) || (decide (0 < i) && atB rs l i))
def stepB (rs : List Rot) (l : List UInt8) : List UInt8 := l.mapIdx fun i c => if mvB rs l i then letter ((dg c + 1) % 10) else c
theorem stepB_len (rs : List Rot) (l : List UInt8) : (stepB rs l).length = l.length := by simp [stepB]
theorem stepB_get (rs : List Rot) (l : List UInt8) (i : Nat) (h : i < l.length) (h2 : i < (stepB rs l).length) : (stepB rs l)[i] = if mvB rs l i then letter ((dg l[i] + 1) % 10) else l[i] := by simp [stepB]
theorem stepB_wv (rs : List Rot) {l : List UInt8} (h : wv l = true) : wv (stepB rs l) = true := by
  have h1 := wv_length h
  rw [wv_all (by rw [stepB_len]; exact h1), List.all_eq_true]
  intro c hc
  obtain ⟨i, hi, e⟩ := List.mem_iff_getElem.1 hc
  have hi2 : i < l.length := by rw [stepB_len] at hi; exact hi
  rw [stepB_get rs l i hi2] at e
  subst e
  split
  · exact isL_letter (Nat.mod_lt _ (by decide))
  · exact wv_mem h (List.getElem_mem hi2)
def stepTo (rs : List Rot) (l : List UInt8) (k : Nat) : List UInt8 := (stepB rs l).take k ++ l.drop k
theorem stepTo_zero (rs : List Rot) (l : List UInt8) : stepTo rs l 0 = l := by simp [stepTo]
theorem stepTo_end (rs : List Rot) (l : List UInt8) : stepTo rs l l.length = stepB rs l := by
  unfold stepTo; rw [List.drop_of_length_le (Nat.le_refl _), List.append_nil, List.take_of_length_le (by rw [stepB_len]; exact Nat.le_refl _)]
theorem stepTo_len (rs : List Rot) (l : List UInt8) (k : Nat) (h : k ≤ l.length) : (stepTo rs l k).length = l.length := by
  unfold stepTo; rw [List.length_append, List.length_take, List.length_drop, stepB_len]; omega
theorem stepTo_get (rs : List Rot) (l : List UInt8) (k : Nat) (h : k < l.length) (h2 : k < (stepTo rs l k).length) : (stepTo rs l k)[k] = l[k] := by
  have e : (stepTo rs l k)[k]? = some l[k] := by
    unfold stepTo
    rw [List.getElem?_append_right (by rw [List.length_take, stepB_len]; omega), List.length_take, stepB_len, Nat.min_eq_left (Nat.le_of_lt h), Nat.sub_self, List.getElem?_drop, Nat.add_zero, List.getElem?_eq_getElem h]
  rw [List.getElem?_eq_getElem h2] at e; exact Option.some.inj e
theorem stepTo_drop (rs : List Rot) (l : List UInt8) (k : Nat) (h : k < l.length) : l.drop k = l[k] :: l.drop (k + 1) := (List.drop_eq_getElem_cons h)
theorem stepTo_yes (rs : List Rot) (l : List UInt8) (k : Nat) (h : k < l.length) (hm : mvB rs l k = true) : (stepTo rs l k).set k (letter ((dg l[k] + 1) % 10)) = stepTo rs l (k + 1) := by
  have hk : k < (stepB rs l).length := by rw [stepB_len]; exact h
  unfold stepTo
  rw [stepTo_drop rs l k h, List.set_append_right _ _ (by rw [List.length_take]; omega)]
  have e : k - ((stepB rs l).take k).length = 0 := by rw [List.length_take]; omega
  rw [e, List.set_cons_zero, List.take_succ_eq_append_getElem hk, stepB_get rs l k h, if_pos hm, List.append_assoc, List.singleton_append]
theorem stepTo_no (rs : List Rot) (l : List UInt8) (k : Nat) (h : k < l.length) (hm : mvB rs l k = false) : stepTo rs l k = stepTo rs l (k + 1) := by
  have hk : k < (stepB rs l).length := by rw [stepB_len]; exact h
  unfold stepTo
  rw [stepTo_drop rs l k h, List.take_succ_eq_append_getElem hk, stepB_get rs l k h, if_neg (by rw [hm]; decide), List.append_assoc, List.singleton_append]
def stepN (rs : List Rot) (l : List UInt8) : Nat → List UInt8
  | 0 => l
  | n + 1 => stepB rs (stepN rs l n)
theorem stepN_len (rs : List Rot) (l : List UInt8) : ∀ n, (stepN rs l n).length = l.length
  | 0 => rfl
  | n + 1 => by rw [stepN, stepB_len, stepN_len rs l n]
theorem stepN_wv (rs : List Rot) {l : List UInt8} (h : wv l = true) : ∀ n, wv (stepN rs l n) = true
  | 0 => h
  | n + 1 => by rw [stepN]; exact stepB_wv rs (stepN_wv rs h n)
structure WhB (w : World) (A : Option Addr) (cap : Nat) (rs : List Rot) (o : ByteArray) : Prop where
  rd : Rd w w.heap.size A (rotV rs)
  cap : rs.length ≤ cap
  note : ∀ r ∈ rs, r.2.size ≤ 3
  pos : 1 ≤ rs.length
  le : rs.length ≤ 3
  siz : o.size = rs.length
  wv : wv (tl o) = true
theorem WhB.below {w w' : World} {A : Option Addr} {cap : Nat} {rs : List Rot} {o : ByteArray} (h : WhB w A cap rs o) (hb : Below w.heap.size w w') : WhB w' A cap rs o :=
  ⟨(h.rd.below hb).mono hb.size, h.cap, h.note, h.pos, h.le, h.siz, h.wv⟩
theorem WhB.alloc {w : World} {A : Option Addr} {cap : Nat} {rs : List Rot} {o : ByteArray} (h : WhB w A cap rs o) (x : Obj) : WhB (w.alloc x) A cap rs o := h.below ((Below.refl _ _).alloc (Nat.le_refl _) x)
theorem WhB.drew {w : World} {A : Option Addr} {cap : Nat} {rs : List Rot} {o : ByteArray} (h : WhB w A cap rs o) : WhB w.drew A cap rs o := h.below (Below.refl _ _).drew
theorem WhB.word {w : World} {A : Option Addr} {cap : Nat} {rs : List Rot} {o : ByteArray} (h : WhB w A cap rs o) (u : ByteArray) (hz : u.size = rs.length) (hw : Pl.wv (tl u) = true) : WhB w A cap rs u :=
  ⟨h.rd, h.cap, h.note, h.pos, h.le, hz, hw⟩
theorem fdx_nonneg (c : UInt8) (l : List UInt8) : decide (0 ≤ fdx c l) = decide (c ∈ l) := by
  unfold fdx
  by_cases h : c ∈ l
  · rw [if_pos h]; simp [h]
  · rw [if_neg h]; simp [h]
theorem sDigit_at (w : World) (o : ByteArray) (k : Nat) (hk : k < (tl o).length) (hl : isL (tl o)[k] = true) (hz : o.size ≤ 1000000) :
    Calls Tryz.prog 25 #[.string o, .int .i64 (k : Int)] w fun e w' => e = .returned (.int .i64 (dg (tl o)[k] : Int)) ∧ w = w' := by
  have hk2 : k < o.size := by rw [← length_tl]; exact hk
  have e : o[k] = (tl o)[k] := by simp [tl]; rfl
  refine (l1Digit_any o k w hk2 (by omega)).mono ?_
  rintro _ _ ⟨rfl, rfl⟩
  have h1 := isL_bounds hl
  have h2 : ((o[k].toNat : Int) - 97) = (dg (tl o)[k] : Int) := by rw [e]; unfold dg; omega
  rw [h2]
  exact ⟨rfl, rfl⟩
set_option maxHeartbeats 2000000 in
theorem l7At_is (w : World) (A : Option Addr) (cap : Nat) (rs : List Rot) (p o : ByteArray) (k : Nat) (m : Int) (hm : m = (k : Int)) (h : WhB w A cap rs o) (hk : k < rs.length) :
    Calls Tryz.prog 208 #[.agg (whC (.slice A rs.length cap) (.string p)), .string o, .int .i64 m] w fun e w' => e = .returned (.bool (atB rs (tl o) k)) ∧ Below w.heap.size w w' := by
  subst hm
  obtain ⟨b0, off, rfl, hb, c0, c1⟩ := h.rd.rot hk
  have hn3 := h.note _ (List.getElem_mem hk)
  have hcap := h.cap
  have hle := h.le
  have hko : k < o.size := by rw [h.siz]; exact hk
  have hkt : k < (tl o).length := by rw [length_tl]; exact hko
  have hat : atB rs (tl o) k = decide (o[k] ∈ tl rs[k].2) := by
    unfold atB
    rw [List.getElem?_eq_getElem hk, List.getElem?_eq_getElem hkt]; rfl
  rw [hat]
  clear hat
  generalize rs[k] = r at c0 c1 hn3 ⊢
  obtain ⟨r1, r2⟩ := r
  simp only at c0 c1 hn3 ⊢
  have hb1 : Below w.heap.size w (w.alloc (.cells (whC (.slice (some ⟨b0, off, none⟩) rs.length cap) (.string p)) 25)) := (Below.refl _ _).alloc (Nat.le_refl _) _
  have c1a : (w.alloc (.cells #[.slice (some ⟨b0, off, none⟩) rs.length cap, .string p] 25)).cell? ⟨b0, off + k * 2 + 1, none⟩ = some (.string r2) := (hb1.cell (p := ⟨b0, off + k * 2 + 1, none⟩) hb).trans c1
  have hzo : o.size ≤ 3 := by rw [h.siz]; exact hle
  have hfd := fun w' => (l21Find_is w' r2 o[k] (by omega)).mono fun _ _ ⟨a, b⟩ => (⟨a, b.symm⟩ : _ ∧ _ = w')
  have hnn := fdx_nonneg o[k] (tl r2)
  have HB1 := Lib.hid hb1; have HFD := Lib.hid hfd; have HNN := Lib.hid hnn; clear hb1 hfd h c0 c1 hnn
  generalize fdx o[k] (tl r2) = F at HFD HNN
  generalize decide (o[k] ∈ tl r2) = D at HNN ⊢
  generalize rs.length = M at *
  go_enter Tryz.func208, Tryz.ntmps208
  go_wp2_with fail
  go_quiet (first | (go_at_call 258; exact Calls.quiet_of_same (HFD.out _)))
  go_wp2_with fail
  go_ret
  exact ⟨by rw [← HNN.out]; try rfl, below_drewN' HB1.out _⟩
set_option maxHeartbeats 4000000 in
theorem l7Moves_is (w : World) (A : Option Addr) (cap : Nat) (rs : List Rot) (p o : ByteArray) (k : Nat) (m : Int) (hm : m = (k : Int)) (h : WhB w A cap rs o) (hk : k < rs.length) :
    Calls Tryz.prog 144 #[.agg (whC (.slice A rs.length cap) (.string p)), .string o, .int .i64 m] w fun e w' => e = .returned (.bool (mvB rs (tl o) k)) ∧ Below w.heap.size w w' := by
  subst hm
  have hle := h.le
  have hb1 : Below w.heap.size w (w.alloc (.cells (whC (.slice A rs.length cap) (.string p)) 25)) := (Below.refl _ _).alloc (Nat.le_refl _) _
  have hsb := SB.made w (whC (.slice A rs.length cap) (.string p)) 25
  have hz1 : o.size ≤ rs.length := by rw [h.siz]; exact Nat.le_refl _
  have hz2 : rs.length ≤ o.size := by rw [h.siz]; exact Nat.le_refl _
  have hat := fun (w' : World) (h' : WhB w' A cap rs o) (j : Nat) (n : Int) (hn : n = (j : Int)) (hj : j < rs.length) => l7At_is w' A cap rs p o j n hn h' hj
  have hdl : decide (k + 1 = (tl o).length) = decide (k + 1 = rs.length) := by rw [length_tl, h.siz]
  obtain ⟨mv, hmv⟩ : ∃ mv, mv = mvB rs (tl o) k := ⟨_, rfl⟩
  rw [← hmv]
  unfold mvB at hmv
  rw [hdl] at hmv
  generalize atB rs (tl o) = at' at hat hmv
  have HAT := Lib.hid hat; have HB1 := Lib.hid hb1; have HSB := Lib.hid hsb; have HH := Lib.hid h; have HMV := Lib.hid hmv
  clear hat hb1 hsb h hmv hdl
  by_cases hl : k + 1 = rs.length
  · have hbq : ((k : Int) == (o.size : Int) - 1) = true := by rw [beq_iff_eq]; omega
    have hmt : mv = true := by rw [HMV.out, decide_eq_true hl]; rfl
    subst hmt
    clear hl
    go_enter Tryz.func144, Tryz.ntmps144
    go_wp2_with fail
    go_ret
    exact ⟨rfl, HB1.out⟩
  · have hbq : ((k : Int) == (o.size : Int) - 1) = false := by rw [beq_eq_false_iff_ne]; omega
    have hk1 : k + 1 < rs.length := by omega
    have hm1 := HMV.out
    rw [decide_eq_false hl, Bool.false_or] at hm1
    have HM1 := Lib.hid hm1
    clear hl hm1 HMV
    have ha1 := fun w' h' => HAT.out w' h' (k + 1) (((k : Int)) + 1) (by omega) hk1
    have ha0 := fun w' h' => HAT.out w' h' k ((k : Int)) rfl hk
    generalize at' (k + 1) = b1 at ha1 HM1
    generalize at' k = b2 at ha0 HM1
    have HA1 := Lib.hid ha1; have HA0 := Lib.hid ha0; clear ha1 ha0 HAT
    go_enter Tryz.func144, Tryz.ntmps144
    go_wp2_with fail
    refine (HA1.out _ (HH.out.alloc _)).mono ?_
    rintro _ w2 ⟨rfl, hb2⟩
    have hsb2 := HSB.out.below hb2
    have c0 := hsb2.cell 0 (.slice A rs.length cap) rfl
    have c1 := hsb2.cell 1 (.string p) rfl
    have hb3 := HB1.out.trans (hb2.mono HB1.out.size)
    have HB3 := Lib.hid hb3; clear hsb2 hb2 hb3
    cases b1 with
    | true =>
      have hmt : mv = true := by rw [HM1.out]; rfl
      subst hmt
      go_wp2_with fail
      go_ret
      exact ⟨rfl, HB3.out⟩
    | false =>
      by_cases hk0 : 0 < k
      · have hmt : mv = b2 := by rw [HM1.out, decide_eq_true hk0]; rfl
        subst hmt
        go_wp2_with fail
        refine (HA0.out _ (HH.out.below HB3.out)).mono ?_
        rintro _ w4 ⟨rfl, hb4⟩
        have HB4 := Lib.hid (HB3.out.trans (hb4.mono HB3.out.size)); clear hb4
        cases mv with
        | true =>
          go_wp2_with fail
          go_ret
          exact ⟨rfl, HB4.out⟩
        | false =>
          go_wp2_with fail
          go_ret
          exact ⟨rfl, HB4.out⟩
      · have hmt : mv = false := by rw [HM1.out, decide_eq_false hk0]; rfl
        subst hmt
        go_wp2_with fail
        go_ret
        exact ⟨rfl, HB3.out⟩
set_option maxHeartbeats 4000000 in
set_option maxRecDepth 100000 in
theorem l7Step_is (w : World) (A : Option Addr) (cap : Nat) (rs : List Rot) (p o : ByteArray) (h : WhB w A cap rs o) :
    Calls Tryz.prog 91 #[.agg (whC (.slice A rs.length cap) (.string p)), .string o] w fun e w' => e = .returned (.string (mk (stepB rs (tl o)))) ∧ Below w.heap.size w w' := by
  have hle := h.le
  obtain ⟨w0, hw0⟩ : ∃ w0, w0 = w.alloc (.cells (whC (.slice A rs.length cap) (.string p)) 25) := ⟨_, rfl⟩
  have hb0 : Below w.heap.size w w0 := by rw [hw0]; exact (Below.refl _ _).alloc (Nat.le_refl _) _
  have hsb0 : SB w0 w.heap.size (whC (.slice A rs.length cap) (.string p)) 25 := by rw [hw0]; exact SB.made w _ _
  have hcv := Lib.run_convert_string_bytes (P := Tryz.prog) w0 9 22 5 o Tryz.underlying9 Tryz.underlying22 Tryz.underlying5
  have hbuf := Buf.made w0 o
  have hbel := below_made w0 o
  obtain ⟨w1, hw1⟩ : ∃ w1, w1 = Lib.bytesWorld w0 5 o := ⟨_, rfl⟩
  obtain ⟨bc, hbc⟩ : ∃ bc, bc = grownCap w0 o.size 0 5 := ⟨_, rfl⟩
  rw [← hw1] at hcv hbuf hbel
  rw [← hbc] at hcv
  have hz1 : o.size ≤ rs.length := by rw [h.siz]; exact Nat.le_refl _
  have hz2 : rs.length ≤ o.size := by rw [h.siz]; exact Nat.le_refl _
  have hsb1 := hsb0.below hbel
  have hb1 := hb0.trans (hbel.mono hb0.size)
  have hgg : w.heap.size ≤ w0.heap.size := hb0.size
  have hpg : w.heap.size ≠ w0.heap.size := by rw [hw0]; simp
  obtain ⟨G, hG⟩ : ∃ G, G = w0.heap.size := ⟨_, rfl⟩
  rw [← hG] at hcv hbuf hgg hpg
  have hlt3 : ∀ k, k < rs.length → k < (tl o).length := fun k hk => by rw [length_tl, h.siz]; exact hk
  have hlet : ∀ c ∈ tl o, isL c = true := fun c hc => wv_mem h.wv hc
  have hdg : ∀ w' (k : Nat) (hk : k < (tl o).length), Calls Tryz.prog 25 #[.string o, .int .i64 (k : Int)] w' fun e w'' => e = .returned (.int .i64 (dg (tl o)[k] : Int)) ∧ w' = w'' := fun w' k hk => sDigit_at w' o k hk (hlet _ (List.getElem_mem hk)) (by rw [length_tl] at hk; omega)
  have hmv := fun (w' : World) (h' : WhB w' A cap rs o) (k : Nat) (hk : k < rs.length) => l7Moves_is w' A cap rs p o k k rfl h' hk
  have hln : (tl o).length = rs.length := by rw [length_tl, h.siz]
  have hse : o.size = rs.length := h.siz
  have hyes := fun k h1 h2 => stepTo_yes rs (tl o) k h1 h2
  have hno := fun k h1 h2 => stepTo_no rs (tl o) k h1 h2
  have hzer := stepTo_zero rs (tl o)
  have hend := stepTo_end rs (tl o)
  have hstl := fun k h1 => stepTo_len rs (tl o) k h1
  have hstg := fun k h1 h2 => stepTo_get rs (tl o) k h1 h2
  generalize stepTo rs (tl o) = ST at hyes hno hzer hend hstl hstg
  generalize stepB rs (tl o) = SF at hend ⊢
  generalize mvB rs (tl o) = MV at hmv hyes hno
  have HDG := Lib.hid hdg; have HMV := Lib.hid hmv; have HLET := Lib.hid hlet; have HB1 := Lib.hid hb1; have HSB := Lib.hid hsb1; have HBUF := Lib.hid hbuf; have HH := Lib.hid h; have HSE := Lib.hid hse; have HLN := Lib.hid hln
  have HY := Lib.hid hyes; have HN := Lib.hid hno; have HZ := Lib.hid hzer; have HE := Lib.hid hend; have HSL := Lib.hid hstl; have HSG := Lib.hid hstg; have HLT := Lib.hid hlt3
  clear hdg hmv hlet hb1 hsb1 hbuf h hbel hb0 hsb0 hw1 hbc hse hG hln hyes hno hzer hend hstl hstg hlt3
  rw [hw0] at hcv
  clear hw0
  go_enter Tryz.func91, Tryz.ntmps91
  go_wp2_with fail
  go_loopw [6] (fun i wr => ∃ (k : Nat), i = .int .i64 k ∧ k ≤ rs.length ∧ Buf wr G (ST k) ∧ Hid (SB wr w.heap.size (whC (.slice A rs.length cap) (.string p)) 25) ∧ Below w.heap.size w wr) (fun i _ => rs.length - (intOf i).toNat)
  case atStart => exact ⟨0, rfl, by omega, by rw [HZ.out]; exact HBUF.out, HSB, HB1.out⟩
  case round =>
    obtain ⟨k, rfl, hk, hbuf, HS, hbl⟩ := hrel
    have HBL := Lib.hid hbl; have HBF := Lib.hid hbuf; clear hbl hbuf
    by_cases hlt : k < rs.length
    · have c0 := HS.out.cell 0 (.slice A rs.length cap) rfl
      have c1 := HS.out.cell 1 (.string p) rfl
      have hltT : k < o.size := by omega
      have hkt := HLT.out k hlt
      have hst1 := HSL.out k (Nat.le_of_lt hkt)
      have hmv := fun w' h' => HMV.out w' h' k hlt
      have hy := HY.out k hkt
      have hno := HN.out k hkt
      generalize MV k = b1 at hmv hy hno
      obtain ⟨c, hcd⟩ : ∃ c, c = (tl o)[k] := ⟨_, rfl⟩
      have hlc : isL c = true := by rw [hcd]; exact HLET.out _ (List.getElem_mem hkt)
      have hdc := fun w' => HDG.out w' k hkt
      rw [← hcd] at hy hdc
      have HMV2 := Lib.hid hmv; have HY2 := Lib.hid hy; have HN2 := Lib.hid hno; have HKT := Lib.hid hkt; have HST1 := Lib.hid hst1; have HLC := Lib.hid hlc; have HDC := Lib.hid hdc
      clear hmv hy hno hst1 hlc hdc hcd hkt
      go_wp2_with fail
      refine (HMV2.out _ (HH.out.below HBL.out)).mono ?_
      rintro _ w2 ⟨rfl, hb2⟩
      have HS2 := Lib.hid (HS.out.below hb2)
      have hbf2 : Buf w2 G (ST k) := by
        obtain ⟨cs, mm, hb', h1, h2, h3⟩ := HBF.out
        exact ⟨cs, mm, (hb2.block G HBF.out.lt).trans hb', h1, h2, h3⟩
      have HB2 := Lib.hid (HBL.out.trans (hb2.mono HBL.out.size)); clear hb2 c0 c1
      cases b1 with
      | true =>
        have hd := dg_lt HLC.out
        have HD := Lib.hid (fun w' => HDC.out w')
        have hput0 := HY2.out rfl
        generalize dg c = a at hd HD hput0
        have HBF2 := Lib.hid hbf2; have HPUT0 := Lib.hid hput0; clear hbf2 hput0
        go_wp2_with fail
        refine (HD.out _).mono ?_
        rintro _ _ ⟨rfl, rfl⟩
        go_wp2_with fail
        refine (l1Letter_is _ _ ((a + 1) % 10) (by omega) (by omega)).mono ?_
        rintro _ w3 ⟨rfl, hb3⟩
        have hul : k < (ST k).length := by rw [HST1.out]; exact HKT.out
        have hbf3 : Buf w3 G (ST k) := by
          obtain ⟨cs, mm, hb', h1, h2, h3⟩ := HBF2.out
          exact ⟨cs, mm, (hb3.block G HBF2.out.lt).trans hb', h1, h2, h3⟩
        have d0 := hbf3.cell hul
        have f0 := hbf3.frozen hul
        have hput := hbf3.set_ (j := k) (letter ((a + 1) % 10))
        rw [HPUT0.out] at hput
        have hzc : 0 < (mk [letter ((a + 1) % 10)]).size := by rw [size_mk]; simp
        have hz0 : ((mk [letter ((a + 1) % 10)])[0]'hzc) = letter ((a + 1) % 10) := rfl
        have HS3 := Lib.hid ((HS2.out.below hb3).far hpg k (.int .u8 ((letter ((a + 1) % 10)).toNat : Nat)))
        have HB3 := Lib.hid ((HB2.out.trans (hb3.mono HB2.out.size)).setCell (p := ⟨G, k, none⟩) (show w.heap.size ≤ G from hgg) (.int .u8 ((letter ((a + 1) % 10)).toNat : Nat)))
        have HPUT := Lib.hid hput
        obtain ⟨v0, d0'⟩ : ∃ v0, w3.cell? ⟨G, k, none⟩ = some v0 := ⟨_, d0⟩
        clear hput d0 hb3 hbf3 hul
        go_wp2_with fail
        go_roundw
        case rel => exact ⟨k + 1, by go_num, by omega, HPUT.out, HS3, HB3.out⟩
        case measure => simp [intOf]; omega
      | false =>
        have hnx := HN2.out rfl
        rw [hnx] at hbf2
        have HBN := Lib.hid hbf2; clear hbf2 hnx
        go_wp2_with fail
        go_roundw
        case rel => exact ⟨k + 1, by go_num, by omega, HBN.out, HS2, HB2.out⟩
        case measure => simp [intOf]; omega
    · have hcv2 := HBF.out.conv bc
      have hke : k = (tl o).length := by have := HLN.out; omega
      have hul : (ST k).length = o.size := by rw [HSL.out k (by omega), HLN.out, HSE.out]
      have hfin : ST k = SF := by rw [hke]; exact HE.out
      rw [hul, hfin] at hcv2
      clear hul hke hfin
      go_wp2_with fail
      go_ret
      exact ⟨rfl, HBL.out⟩
theorem indexByte_mem : ∀ (l : List UInt8) (c : UInt8), decide (0 ≤ Lib.indexByte l c) = decide (c ∈ l)
  | [], c => by simp [Lib.indexByte]
  | b :: l, c => by
    have ih := indexByte_mem l c
    have hge := Lib.indexByte_ge l c
    rw [Lib.indexByte]
    by_cases h : b == c
    · rw [if_pos h]; have := eq_of_beq h; subst this; simp
    · rw [if_neg h]
      have hne : c ≠ b := fun e => h (by subst e; exact beq_self_eq_true _)
      have hm : (c ∈ b :: l) = (c ∈ l) := by simp [hne]
      rw [decide_eq_decide] at ih ⊢
      rw [hm, ← ih]
      by_cases h1 : Lib.indexByte l c == -1
      · rw [if_pos h1]; have := eq_of_beq h1; omega
      · rw [if_neg h1]; have : Lib.indexByte l c ≠ -1 := fun e => h1 (by rw [e]; rfl)
        omega
abbrev T3 (w : World) (p : Nat) (f : Nat → Bool) : Prop := w.heap[p]? = some (.cells #[.bool (f 0), .bool (f 1), .bool (f 2)] 163 (0, 0))
theorem T3.cell {w : World} {p : Nat} {f : Nat → Bool} (h : T3 w p f) {k : Nat} (hk : k < 3) : w.cell? ⟨p, k, none⟩ = some (.bool (f k)) := by
  rw [cell_of_row w p k _ _ _ h]
  rcases (show k = 0 ∨ k = 1 ∨ k = 2 by omega) with rfl | rfl | rfl <;> rfl
theorem T3.frozen {w : World} {p : Nat} {f : Nat → Bool} (h : T3 w p f) (k : Nat) : w.frozen? ⟨p, k, none⟩ = false := by
  have h2 : w.heap[p]? = some (.cells #[.bool (f 0), .bool (f 1), .bool (f 2)] 163 (0, 0)) := h
  simp [World.frozen?, h2]
theorem T3.put {w : World} {p : Nat} {f g : Nat → Bool} {b : Bool} (h : T3 w p f) {k : Nat} (hk : k < 3) (hg : ∀ i, i < 3 → g i = if i = k then b else f i) : T3 (w.setCell ⟨p, k, none⟩ (.bool b)) p g := by
  have h0 := hg 0 (by decide); have h1 := hg 1 (by decide); have h2 := hg 2 (by decide)
  unfold T3
  rw [setCell_eq_setRow w p k _ _ _ _ h]
  refine (setRow_heap w p _ _ _ _ h).trans ?_
  rcases (show k = 0 ∨ k = 1 ∨ k = 2 by omega) with rfl | rfl | rfl
  · rw [h0, h1, h2]; rfl
  · rw [h0, h1, h2]; rfl
  · rw [h0, h1, h2]; rfl
theorem T3.far {w : World} {p p' : Nat} {f : Nat → Bool} (h : T3 w p f) (hne : p ≠ p') (k : Nat) (v : Value) : T3 (w.setCell ⟨p', k, none⟩ v) p f :=
  (Below.heap_setCell w ⟨p', k, none⟩ v p (by intro e; exact hne e)).trans h
theorem T3.below {w w' : World} {p : Nat} {f : Nat → Bool} (h : T3 w p f) (hb : Below w.heap.size w w') : T3 w' p f := (hb.block p (Array.getElem?_eq_some_iff.1 h).1).trans h
theorem t3size : (Tryz.prog.info? 163).map (·.size) = some 3 := by kernel_rfl
theorem t3one (a b c : Bool) : (#[.bool a, .bool b, .bool c] : Array Value).all (·.oneCell') = true := by
  rw [Array.all_eq_true_iff_forall_mem]
  intro x hx
  simp at hx
  rcases hx with rfl | rfl | rfl <;> rfl
def up (f : Nat → Bool) (k : Nat) : Nat → Bool := fun i => decide (i < k) && f i
theorem up_next (f : Nat → Bool) (k : Nat) : ∀ i, i < 3 → up f (k + 1) i = if i = k then f k else up f k i := fun i _ => by
  unfold up
  by_cases h : i = k
  · subst h; simp
  · rw [if_neg h]; congr 1; rw [decide_eq_decide]; omega
theorem atB_out {rs : List Rot} {l : List UInt8} {i : Nat} (h : rs.length ≤ i) : atB rs l i = false := by
  unfold atB; rw [List.getElem?_eq_none h]
def mvF (rs : List Rot) (l : List UInt8) (i : Nat) : Bool := decide (i < l.length) && mvB rs l i
theorem indexByte_is (w : World) (s : ByteArray) (c : UInt8) :
    Calls Tryz.prog 204 #[.string s, .int .u8 c.toNat] w fun e w' => e = .returned (.int .i64 (Lib.indexByte (tl s) c)) ∧ w' = w := by
  have h := Tryz.strings_IndexByte s (c.toNat : Int) w
  have e : ((c.toNat : Int)).toNat.toUInt8 = c := by rw [Int.toNat_natCast]; simp
  rw [e] at h
  exact h
theorem four_made (w : World) (o1 o2 o3 o4 : Obj) (w0 : World) (h : w0 = (((w.alloc o1).alloc o2).alloc o3).alloc o4) :
    w0.heap[w.heap.size]? = some o1 ∧ w0.heap[w.heap.size + 1]? = some o2 ∧ w0.heap[w.heap.size + 1 + 1]? = some o3 ∧ w0.heap[w.heap.size + 1 + 1 + 1]? = some o4 ∧ Below w.heap.size w w0 := by
  have e : w0.heap = (((w.heap.push o1).push o2).push o3).push o4 := by rw [h]; rfl
  have hb : Below w.heap.size w w0 := by
    rw [h]
    exact ((((Below.refl _ _).alloc (Nat.le_refl _) _).alloc (by simp) _).alloc (by simp; omega) _).alloc (by simp; omega) _
  rw [e]
  have z1 : (w.heap.push o1).size = w.heap.size + 1 := Array.size_push _
  have z2 : ((w.heap.push o1).push o2).size = w.heap.size + 1 + 1 := by rw [Array.size_push, z1]
  have z3 : (((w.heap.push o1).push o2).push o3).size = w.heap.size + 1 + 1 + 1 := by rw [Array.size_push, z2]
  refine ⟨?_, ?_, ?_, ?_, hb⟩
  · rw [Array.getElem?_push, z3, if_neg (by omega), Array.getElem?_push, z2, if_neg (by omega), Array.getElem?_push, z1, if_neg (by omega), Array.getElem?_push, if_pos rfl]
  · rw [Array.getElem?_push, z3, if_neg (by omega), Array.getElem?_push, z2, if_neg (by omega), Array.getElem?_push, z1, if_pos rfl]
  · rw [Array.getElem?_push, z3, if_neg (by omega), Array.getElem?_push, z2, if_pos rfl]
  · rw [Array.getElem?_push, z3, if_pos rfl]
set_option maxHeartbeats 4000000 in
set_option maxRecDepth 100000 in
theorem pawls_is (w : World) (A : Option Addr) (cap : Nat) (rs : List Rot) (p o : ByteArray) (h : WhB w A cap rs o) :
    Calls Tryz.prog 138 #[.agg #[.slice A rs.length cap, .string p], .string o] w fun e w' => e = .returned (.agg #[.bool (mvF rs (tl o) 0), .bool (mvF rs (tl o) 1), .bool (mvF rs (tl o) 2)]) ∧ Below w.heap.size w w' := by
  have hle := h.le
  have hpos := h.pos
  have hso := h.siz
  have hcap := h.cap
  obtain ⟨w0, hw0⟩ : ∃ w0, w0 = (((w.alloc (.cells #[.slice A rs.length cap, .string p] 25)).alloc (.cells #[.bool false, .bool false, .bool false] 163)).alloc (.cells #[.bool false, .bool false, .bool false] 163)).alloc (.cells #[.bool false, .bool false, .bool false] 163) := ⟨_, rfl⟩
  obtain ⟨g0, g1, g2, g3, hb0⟩ := four_made w _ _ _ _ w0 hw0
  have g0' : SB w0 w.heap.size #[.slice A rs.length cap, .string p] 25 := g0
  have g1' : T3 w0 (w.heap.size + 1) (fun _ => false) := g1
  have g2' : T3 w0 (w.heap.size + 1 + 1) (up (atB rs (tl o)) 0) := g2
  have g3' : T3 w0 (w.heap.size + 1 + 1 + 1) (fun _ => false) := g3
  have hln : (tl o).length = rs.length := by rw [length_tl, hso]
  -- the notches
  have hnote : ∀ (w' : World), WhB w' A cap rs o → ∀ k (hk : k < rs.length), ∃ (b off : Nat) (n : ByteArray) (hk2 : k < o.size), A = some ⟨b, off, none⟩ ∧ w'.cell? ⟨b, off + k * 2 + 1, none⟩ = some (.string n) ∧ atB rs (tl o) k = decide (0 ≤ Lib.indexByte (tl n) o[k]) := fun w' h' k hk => by
    obtain ⟨b, off, e, _, c0, c1⟩ := h'.rd.rot hk
    have hko : k < o.size := by rw [hso]; exact hk
    refine ⟨b, off, rs[k].2, hko, e, c1, ?_⟩
    rw [indexByte_mem]
    unfold atB
    have hkt : k < (tl o).length := by rw [length_tl]; exact hko
    rw [List.getElem?_eq_getElem hk, List.getElem?_eq_getElem hkt]; rfl
  obtain ⟨at', hat⟩ : ∃ at', at' = atB rs (tl o) := ⟨_, rfl⟩
  have hout : ∀ i, rs.length ≤ i → at' i = false := fun i hi => by rw [hat]; exact atB_out hi
  have hmv : ∀ i, mvF rs (tl o) i = (decide (i < rs.length) && (decide (i + 1 = rs.length) || (at' (i + 1) || (decide (0 < i) && at' i)))) := fun i => by rw [hat]; unfold mvF mvB; rw [hln]
  rw [← hat] at hnote g2'
  generalize mvF rs (tl o) = mv at hmv ⊢
  obtain ⟨n, hn⟩ : ∃ n, n = rs.length := ⟨_, rfl⟩
  obtain ⟨P, hP⟩ : ∃ P, P = w.heap.size := ⟨_, rfl⟩
  rw [← hP] at g0' g1' g2' g3'
  rw [← hn] at hle hpos hso hcap hw0 g0' hout hmv hnote ⊢
  have HB0 := Lib.hid hb0; have HH := Lib.hid h; have G0 := Lib.hid g0'; have G1 := Lib.hid g1'; have G2 := Lib.hid g2'; have G3 := Lib.hid g3'; have HNOTE := Lib.hid hnote; have HOUT := Lib.hid hout; have HMV := Lib.hid hmv; have HP := Lib.hid hP; have HN := Lib.hid hn
  clear hb0 h g0 g1 g2 g3 g0' g1' g2' g3' hnote hout hmv hat hln hn
  go_enter Tryz.func138, Tryz.ntmps138
  go_wp2_with fail
  rw [← hw0, ← hP]
  clear hw0 hP
  go_loopw [8, 15] (fun _ i wr => ∃ k : Nat, k ≤ n ∧ i = .int .i64 k ∧ Hid (SB wr P #[.slice A n cap, .string p] 25) ∧ Hid (T3 wr (P + 1) (fun _ => false)) ∧ Hid (T3 wr (P + 1 + 1) (up at' k)) ∧ Hid (T3 wr (P + 1 + 1 + 1) (fun _ => false)) ∧ Hid (Below w.heap.size w wr)) (fun _ i _ => n - (intOf i).toNat)
  case atStart => exact ⟨0, Nat.zero_le _, rfl, G0, G1, G2, G3, HB0⟩
  case round =>
    obtain ⟨k, hk, rfl, H0, H1, H2, H3, HBL⟩ := hrel
    clear G0 G1 G2 G3 HB0
    by_cases hlt : k < n
    · obtain ⟨b, off, nt, hk2, rfl, c1, hI⟩ := HNOTE.out wr (HH.out.below HBL.out) k hlt
      have hk3 : k < 3 := by omega
      have v3 : (k : Int) < 3 := by omega
      have c0 := H0.out.cell 0 (.slice (some ⟨b, off, none⟩) n cap) rfl
      have d0 := H2.out.cell hk3
      have f0 := H2.out.frozen k
      have HIX := Lib.hid (fun w' => indexByte_is w' nt o[k])
      generalize Lib.indexByte (tl nt) o[k] = I at HIX hI
      have HI := Lib.hid hI; clear hI
      go_wp2_with fail
      go_region_law (first | (go_simp; go_at_call 204; refine (HIX.out _).mono ?_; rintro _ w6 ⟨rfl, rfl⟩) | fail)
      all_goals
        have hp0 := H0.out.far (show P ≠ P + 1 + 1 by omega) k (.bool (decide (0 ≤ I)))
        have hp1 := H1.out.far (show P + 1 ≠ P + 1 + 1 by omega) k (.bool (decide (0 ≤ I)))
        have hp2 := H2.out.put (b := decide (0 ≤ I)) (g := up at' (k + 1)) hk3 (fun i hi => by rw [up_next at' k i hi, HI.out])
        have hp3 := H3.out.far (show P + 1 + 1 + 1 ≠ P + 1 + 1 by omega) k (.bool (decide (0 ≤ I)))
        have hbl := HBL.out.setCell (p := ⟨P + 1 + 1, k, none⟩) (show w.heap.size ≤ P + 1 + 1 by have := HP.out; omega) (.bool (decide (0 ≤ I)))
        have HQ0 := Lib.hid hp0; have HQ1 := Lib.hid hp1; have HQ2 := Lib.hid hp2; have HQ3 := Lib.hid hp3; have HQB := Lib.hid hbl
        clear hp0 hp1 hp2 hp3 hbl c0 c1 d0 f0
        go_wp2_with fail
        go_roundw
        case rel => exact ⟨k + 1, by omega, by go_num, HQ0, HQ1, HQ2, HQ3, by first | exact HQB | exact Lib.hid HQB.out.drew⟩
        case measure => simp [intOf]; omega
    · obtain rfl : n = k := by omega
      have h3z : T3 wr (P + 1 + 1 + 1) (up mv 0) := H3.out
      have H3Z := Lib.hid h3z; clear h3z
      go_wp2_with fail
      go_loopw [9, 33] (fun _ i wr2 => ∃ k : Nat, k + 1 ≤ n ∧ i = .int .i64 k ∧ Hid (T3 wr2 (P + 1) (fun _ => false)) ∧ Hid (T3 wr2 (P + 1 + 1) (up at' n)) ∧ Hid (T3 wr2 (P + 1 + 1 + 1) (up mv k)) ∧ Hid (Below w.heap.size w wr2)) (fun _ i _ => n - (intOf i).toNat)
      case atStart => exact ⟨0, by omega, rfl, H1, H2, H3Z, HBL⟩
      case round =>
        obtain ⟨k, hk1, rfl, J1, J2, J3, JBL⟩ := hrel
        clear H0 H1 H2 H3 HBL H3Z
        by_cases hlt : k + 1 < n
        · have hk3 : k < 3 := by omega
          have hkk3 : k + 1 < 3 := by omega
          have v3 : (k : Int) < 3 := by omega
          have v4 : (k : Int) + 1 < 3 := by omega
          have v5 : (k : Int) < (n : Int) - 1 := by omega
          have d1 := J2.out.cell hkk3
          have d0 := J2.out.cell hk3
          have d3 := J3.out.cell hk3
          have f3 := J3.out.frozen k
          have e1 : up at' n (k + 1) = at' (k + 1) := by unfold up; rw [decide_eq_true (show k + 1 < n by omega)]; rfl
          have e0 : up at' n k = at' k := by unfold up; rw [decide_eq_true (show k < n by omega)]; rfl
          rw [e1] at d1
          rw [e0] at d0
          have hm := HMV.out k
          rw [decide_eq_true (show k < n by omega), decide_eq_false (show ¬ k + 1 = n by omega), Bool.true_and, Bool.false_or] at hm
          generalize at' (k + 1) = b1 at d1 hm
          generalize at' k = b2 at d0 hm
          have HM := Lib.hid hm; clear hm e1 e0
          have hput := fun (b : Bool) (hb : mv k = b) => J3.out.put (b := b) (g := up mv (k + 1)) hk3 (fun i hi => by rw [up_next mv k i hi, hb])
          have hf1 := fun (b : Bool) => J1.out.far (show P + 1 ≠ P + 1 + 1 + 1 by omega) k (.bool b)
          have hf2 := fun (b : Bool) => J2.out.far (show P + 1 + 1 ≠ P + 1 + 1 + 1 by omega) k (.bool b)
          have hbl := fun (b : Bool) => JBL.out.setCell (p := ⟨P + 1 + 1 + 1, k, none⟩) (show w.heap.size ≤ P + 1 + 1 + 1 by have := HP.out; omega) (.bool b)
          have HPUT := Lib.hid hput; have HF1 := Lib.hid hf1; have HF2 := Lib.hid hf2; have HBB := Lib.hid hbl
          clear hput hf1 hf2 hbl
          cases b1 with
          | true =>
            have HMT := Lib.hid (HPUT.out true (by rw [HM.out]; rfl))
            go_wp2_with fail
            go_roundw
            case rel => exact ⟨k + 1, by omega, by go_num, Lib.hid (HF1.out true), Lib.hid (HF2.out true), HMT, Lib.hid (HBB.out true)⟩
            case measure => simp [intOf]; omega
          | false =>
            cases b2 with
            | true =>
              by_cases h0 : 0 < k
              · have HMT := Lib.hid (HPUT.out true (by rw [HM.out, decide_eq_true h0]; rfl))
                go_wp2_with fail
                go_roundw
                case rel => exact ⟨k + 1, by omega, by go_num, Lib.hid (HF1.out true), Lib.hid (HF2.out true), HMT, Lib.hid (HBB.out true)⟩
                case measure => simp [intOf]; omega
              · have HMT := Lib.hid (HPUT.out false (by rw [HM.out, decide_eq_false h0]; rfl))
                go_wp2_with fail
                go_roundw
                case rel => exact ⟨k + 1, by omega, by go_num, Lib.hid (HF1.out false), Lib.hid (HF2.out false), HMT, Lib.hid (HBB.out false)⟩
                case measure => simp [intOf]; omega
            | false =>
              have HMT := Lib.hid (HPUT.out false (by rw [HM.out]; simp))
              go_wp2_with fail
              go_roundw
              case rel => exact ⟨k + 1, by omega, by go_num, Lib.hid (HF1.out false), Lib.hid (HF2.out false), HMT, Lib.hid (HBB.out false)⟩
              case measure => simp [intOf]; omega
        · have hk3 : k < 3 := by omega
          have v3 : (k : Int) < 3 := by omega
          have hkn : (n : Int) - 1 = k := by omega
          have d3 := J3.out.cell hk3
          have f3 := J3.out.frozen k
          have hpu := J3.out.put (b := true) (g := mv) hk3 (fun i hi => by
            by_cases e : i = k
            · subst e
              rw [if_pos rfl, HMV.out i, decide_eq_true (show i < n by omega), decide_eq_true (show i + 1 = n by omega)]; rfl
            · rw [if_neg e]
              unfold up
              by_cases hi2 : i < k
              · rw [decide_eq_true hi2]; rfl
              · rw [decide_eq_false hi2, HMV.out i, decide_eq_false (show ¬ i < n by omega)]; rfl)
          have hf1 := J1.out.far (show P + 1 ≠ P + 1 + 1 + 1 by omega) k (.bool true)
          have hbl := JBL.out.setCell (p := ⟨P + 1 + 1 + 1, k, none⟩) (show w.heap.size ≤ P + 1 + 1 + 1 by have := HP.out; omega) (.bool true)
          rw [hkn]
          have HX := Lib.hid hpu; have HF1 := Lib.hid hf1; have HBB := Lib.hid hbl
          clear hkn hpu hf1 hbl
          go_wp2_with (first | (refine wpList_load_row rfl 163 _ rfl (P + 1 + 1 + 1) rfl _ _ _ _ HX.out Tryz.underlying163 rfl t3size ?_) | (refine wpList_store_row rfl 163 _ _ rfl (P + 1) #[.bool (mv 0), .bool (mv 1), .bool (mv 2)] rfl rfl _ _ HF1.out t3size (by rfl) (t3one _ _ _) ?_))
          have hs := setRow_heap (wr.setCell ⟨P + 1 + 1 + 1, k, none⟩ (.bool true)) (P + 1) _ #[.bool (mv 0), .bool (mv 1), .bool (mv 2)] _ _ HF1.out
          refine bodyPost_ret (results_cell_row rfl _ _ (P + 1) _ #[.bool (mv 0), .bool (mv 1), .bool (mv 2)] _ _ rfl hs Tryz.underlying163 rfl t3size) rfl ⟨rfl, ?_⟩
          exact below_setRow HBB.out (by have := HP.out; omega) _
set_option maxHeartbeats 4000000 in
set_option maxRecDepth 100000 in
theorem step_is (w : World) (A : Option Addr) (cap : Nat) (rs : List Rot) (p o : ByteArray) (h : WhB w A cap rs o) :
    Calls Tryz.prog 85 #[.agg #[.slice A rs.length cap, .string p], .string o] w fun e w' => e = .returned (.string (mk (stepB rs (tl o)))) ∧ Below w.heap.size w w' := by
  have hle := h.le
  have hso := h.siz
  obtain ⟨w0, hw0⟩ : ∃ w0, w0 = w.alloc (.cells #[.slice A rs.length cap, .string p] 25) := ⟨_, rfl⟩
  have hb0 : Below w.heap.size w w0 := by rw [hw0]; exact (Below.refl _ _).alloc (Nat.le_refl _) _
  have h01 : w0.cell? ⟨w.heap.size, 0, none⟩ = some (.slice A rs.length cap) ∧ w0.cell? ⟨w.heap.size, 1, none⟩ = some (.string p) := by rw [hw0]; exact ⟨by simp, by simp⟩
  have hpw := pawls_is w0 A cap rs p o (h.below hb0)
  have hln : (tl o).length = rs.length := by rw [length_tl, hso]
  have hmv : ∀ k, k < rs.length → mvF rs (tl o) k = mvB rs (tl o) k := fun k hk => by unfold mvF; rw [decide_eq_true (by rw [hln]; exact hk)]; rfl
  have hlet : ∀ c ∈ tl o, isL c = true := fun c hc => wv_mem h.wv hc
  have hyes := fun k h1 h2 => stepTo_yes rs (tl o) k h1 h2
  have hno := fun k h1 h2 => stepTo_no rs (tl o) k h1 h2
  have hzer := stepTo_zero rs (tl o)
  have hend := stepTo_end rs (tl o)
  have hstl := fun k h1 => stepTo_len rs (tl o) k h1
  have hstg := fun k h1 h2 => stepTo_get rs (tl o) k h1 h2
  generalize stepTo rs (tl o) = ST at hyes hno hzer hend hstl hstg
  generalize stepB rs (tl o) = SF at hend ⊢
  generalize mvB rs (tl o) = MV at hmv hyes hno
  generalize mvF rs (tl o) = mv at hmv hpw
  obtain ⟨n, hn⟩ : ∃ n, n = rs.length := ⟨_, rfl⟩
  rw [← hn] at hle hso hw0 h01 hpw hln hmv ⊢
  obtain ⟨P, hP⟩ : ∃ P, P = w.heap.size := ⟨_, rfl⟩
  rw [← hP] at h01
  obtain ⟨c0, c1⟩ := h01
  have HB0 := Lib.hid hb0; have HPW := Lib.hid hpw; have HLET := Lib.hid hlet; have HLN := Lib.hid hln
  have HY := Lib.hid hyes; have HN := Lib.hid hno; have HZ := Lib.hid hzer; have HE := Lib.hid hend; have HSL := Lib.hid hstl; have HSG := Lib.hid hstg; have HMV := Lib.hid hmv
  clear h hb0 hpw hlet hln hyes hno hzer hend hstl hstg hmv hn
  go_enter Tryz.func85, Tryz.ntmps85
  go_wp2_with fail
  rw [← hw0]
  rw [← hP]
  clear hw0 hP
  go_wp2_with fail
  refine HPW.out.mono ?_
  rintro _ w1 ⟨rfl, hb1⟩
  have hb1' := HB0.out.trans (hb1.mono HB0.out.size)
  have ht := heap_alloc_new w1 (.cells #[.bool (mv 0), .bool (mv 1), .bool (mv 2)] 163)
  have hal : Below w1.heap.size w1 (w1.alloc (.cells #[.bool (mv 0), .bool (mv 1), .bool (mv 2)] 163)) := (Below.refl _ _).alloc (Nat.le_refl _) _
  obtain ⟨w2, hw2⟩ : ∃ w2, w2 = w1.alloc (.cells #[.bool (mv 0), .bool (mv 1), .bool (mv 2)] 163) := ⟨_, rfl⟩
  rw [← hw2] at ht hal
  have ht2 : T3 w2 w1.heap.size mv := ht
  have hcv := Lib.run_convert_string_bytes (P := Tryz.prog) w2 9 22 5 o Tryz.underlying9 Tryz.underlying22 Tryz.underlying5
  have hbuf := Buf.made w2 o
  have hbel := below_made w2 o
  obtain ⟨w3, hw3⟩ : ∃ w3, w3 = Lib.bytesWorld w2 5 o := ⟨_, rfl⟩
  obtain ⟨bc, hbc⟩ : ∃ bc, bc = grownCap w2 o.size 0 5 := ⟨_, rfl⟩
  rw [← hw3] at hcv hbuf hbel
  rw [← hbc] at hcv
  have ht3 := ht2.below hbel
  have hb2 := hb1'.trans (hal.mono hb1'.size)
  have hb3 := hb2.trans (hbel.mono hb2.size)
  have hMG : w1.heap.size ≠ w2.heap.size := by rw [hw2]; simp
  have hwG : w.heap.size ≤ w2.heap.size := hb2.size
  obtain ⟨G, hG⟩ : ∃ G, G = w2.heap.size := ⟨_, rfl⟩
  rw [← hG] at hcv hbuf hMG hwG
  have HT := Lib.hid ht3; have HB3 := Lib.hid hb3; have HBUF := Lib.hid hbuf; have HWG := Lib.hid hwG
  obtain ⟨M, hM⟩ : ∃ M, M = w1.heap.size := ⟨_, rfl⟩
  rw [← hM] at HT hMG
  rw [hw2] at hcv
  clear hb1 hb1' ht hal ht2 ht3 hb2 hb3 hbel hbuf hwG hw3 hbc hG c0 c1 hw2 HB0 HPW
  go_wp2_with fail
  rw [← hM]
  clear hM
  go_loopw [7, 15] (fun _ i wr => ∃ k : Nat, k ≤ n ∧ i = .int .i64 k ∧ Hid (Buf wr G (ST k)) ∧ Hid (T3 wr M mv) ∧ Hid (Below w.heap.size w wr)) (fun _ i _ => n - (intOf i).toNat)
  case atStart => exact ⟨0, by omega, rfl, Lib.hid (by rw [HZ.out]; exact HBUF.out), HT, HB3⟩
  case round =>
    obtain ⟨k, hk, rfl, HBF, HT3, HBL⟩ := hrel
    clear HBUF HT HB3
    by_cases hlt : k < n
    · have hk3 : k < 3 := by omega
      have v3 : (k : Int) < 3 := by omega
      have d0 := HT3.out.cell hk3
      have hkt : k < (tl o).length := by rw [HLN.out]; exact hlt
      rw [HMV.out k hlt] at d0
      have hst1 := HSL.out k (Nat.le_of_lt hkt)
      have hy := HY.out k hkt
      have hno := HN.out k hkt
      have hkS : k < (ST k).length := by rw [hst1]; exact hkt
      have hgt := HSG.out k hkt hkS
      have e0 := HBF.out.cell hkS
      rw [hgt] at e0
      have g0 := HBF.out.frozen hkS
      generalize MV k = b1 at d0 hy hno
      obtain ⟨c, hcd⟩ : ∃ c, c = (tl o)[k] := ⟨_, rfl⟩
      have hlc : isL c = true := by rw [hcd]; exact HLET.out _ (List.getElem_mem hkt)
      rw [← hcd] at hy e0
      have HY2 := Lib.hid hy; have HN2 := Lib.hid hno; have HLC := Lib.hid hlc
      clear hy hno hst1 hlc hcd hgt hkS hkt
      cases b1 with
      | true =>
        have hput := HBF.out.set_ (j := k) (letter ((dg c + 1) % 10))
        rw [HY2.out rfl] at hput
        have HPUT := Lib.hid hput
        have HTF := Lib.hid (HT3.out.far hMG k (.int .u8 ((letter ((dg c + 1) % 10)).toNat : Nat)))
        have HBB := Lib.hid (HBL.out.setCell (p := ⟨G, k, none⟩) HWG.out (.int .u8 ((letter ((dg c + 1) % 10)).toNat : Nat)))
        clear hput
        go_wp2_with fail
        refine (shifted_any c 1 _ HLC.out (by decide)).mono ?_
        rintro _ w5 ⟨rfl, rfl⟩
        go_wp2_with fail
        go_roundw
        case rel => exact ⟨k + 1, by omega, by go_num, HPUT, HTF, HBB⟩
        case measure => simp [intOf]; omega
      | false =>
        have hbn := HBF.out
        rw [HN2.out rfl] at hbn
        have HBN := Lib.hid hbn; clear hbn
        go_wp2_with fail
        go_roundw
        case rel => exact ⟨k + 1, by omega, by go_num, HBN, HT3, HBL⟩
        case measure => simp [intOf]; omega
    · have hcv2 := HBF.out.conv bc
      have hke : k = (tl o).length := by have := HLN.out; omega
      have hul : (ST k).length = n := by rw [HSL.out k (by omega), HLN.out]
      have hfin : ST k = SF := by rw [hke]; exact HE.out
      rw [hul, hfin] at hcv2
      clear hul hke hfin
      go_wp2_with fail
      go_ret
      exact ⟨rfl, HBL.out⟩
theorem WhB.make {w : World} {A : Option Addr} {cap : Nat} {rs : List Rot} {p o : ByteArray} (h : Rd w w.heap.size A (rotV rs)) (hc : rs.length ≤ cap) (hv : WinV rs p o) : WhB w A cap rs o :=
  ⟨h, hc, fun r hr => (hv.1.2.2.2 r hr).2.1, hv.1.1, hv.1.2.1, hv.2.1, hv.2.2⟩
def stepW (rs : List Rot) (o : ByteArray) (n : Nat) : ByteArray := mk (stepN rs (tl o) n)
theorem stepW_zero (rs : List Rot) (o : ByteArray) : stepW rs o 0 = o := mk_tl o
theorem stepW_size (rs : List Rot) (o : ByteArray) (n : Nat) : (stepW rs o n).size = o.size := by unfold stepW; rw [size_mk, stepN_len, length_tl]
theorem stepW_wv (rs : List Rot) {o : ByteArray} (h : wv (tl o) = true) (n : Nat) : wv (tl (stepW rs o n)) = true := by unfold stepW; rw [tl_mk]; exact stepN_wv rs h n
theorem step_at (w : World) (A : Option Addr) (cap : Nat) (rs : List Rot) (p o : ByteArray) (h : WhB w A cap rs o) (k : Nat) :
    Calls Tryz.prog 85 #[.agg #[.slice A rs.length cap, .string p], .string (stepW rs o k)] w fun e w' => e = .returned (.string (stepW rs o (k + 1))) ∧ Below w.heap.size w w' := by
  have h1 := step_is w A cap rs p (stepW rs o k) (h.word _ (by rw [stepW_size]; exact h.siz) (stepW_wv rs h.wv k))
  have e : mk (stepB rs (tl (stepW rs o k))) = stepW rs o (k + 1) := by unfold stepW; rw [tl_mk]; rfl
  rw [e] at h1; exact h1
end Go.Proofs.YtnbdimbhklbadaaGreatDoor
