/-
  impl.GroupWord; the draw of a machine, windows and a word. Conditions: what each theorem names.
-/
import Derived.Test.YtflaoicjgigcaaaGreatDoorRunL
import Derived.Test.YtflaoicjgigcaaaGreatDoorWords
import Derived.Test.YtflaoicjgigcaaaGreatDoorDrawMa
namespace Go.Proofs.YtflaoicjgigcaaaGreatDoor
open Go.RowKit Pl
set_option linter.unusedVariables false

/-- the first k groups -/
def grpF (l : List UInt8) : Nat → List UInt8
  | 0 => []
  | k + 1 => grpF l k ++ ((if k = 0 then [] else [32]) ++ (l.drop (5 * k)).take 5)
theorem grpF_len (l : List UInt8) : ∀ k, (grpF l k).length ≤ 6 * k
  | 0 => by simp [grpF]
  | k + 1 => by
    have := grpF_len l k
    unfold grpF
    rw [List.length_append, List.length_append, List.length_take]
    split <;> simp <;> omega
theorem take_min (l : List UInt8) (a n : Nat) (h : l.length = n) : (l.drop a).take 5 = (l.drop a).take (min (a + 5) n - a) := by
  by_cases e : a + 5 ≤ n
  · rw [Nat.min_eq_left e]; congr 1; omega
  · rw [Nat.min_eq_right (by omega), List.take_of_length_le (by rw [List.length_drop]; omega), List.take_of_length_le (by rw [List.length_drop]; omega)]
def grpT (s : ByteArray) : ByteArray := mk (grpF (tl s) ((s.size + 4) / 5))
theorem grpT_size (s : ByteArray) : (grpT s).size ≤ 2 * s.size + 10 := by
  have := grpF_len (tl s) ((s.size + 4) / 5)
  unfold grpT; rw [size_mk]; omega

theorem min_nat (n : Nat) : (min (5 : Int) (n : Int)).toNat = min 5 n := by omega
theorem min_nat5 (k n : Nat) : (min (5 * (k : Int) + 5) (n : Int)).toNat = min (5 * k + 5) n := by omega
/-- WriteByte's laying: its own functions beside strings.Join's types -/
def renWB : Go.Shelf.Ren := { Tryz.lays156_ren with f := fun | 167 => 54 | 240 => 67 | 276 => 101 | n => n }
theorem laysWB : Go.Proofs.Lays.n167 Tryz.prog renWB := { Tryz.lays156 with
  f167 := Tryz.func54.trans (congrArg some (by kernel_rfl))
  f240 := Tryz.func67.trans (congrArg some (by kernel_rfl))
  f276 := Tryz.func101.trans (congrArg some (by kernel_rfl))
  t5 := Tryz.underlying5
  a5 := Tryz.isAgg5
  z5 := Tryz.sizeOf5
  v5 := Tryz.zeroValue5 }
theorem extraWB : Builder.Extra Tryz.prog renWB := {
  sizeBuilder := by kernel_rfl
  liesBuilder := by kernel_rfl
  t5 := Tryz.underlying5
  a5 := Tryz.isAgg5
  z5 := Tryz.sizeOf5
  v5 := Tryz.zeroValue5
  infoByte := by kernel_rfl
  cellsByte := by kernel_rfl
  sizeByte := by kernel_rfl
  neB5 := by decide }
/-- a byte written into a builder -/
theorem byte_k (Y : Nat) (l : List UInt8) (c : UInt8) (w : World) (h : BF Y l w) (hl : l.length ≤ 100000) (hY : Y ≤ w.heap.size) :
    Calls Tryz.prog 54 #[.pointer (some ⟨Y, 0, none⟩), .int .u8 c.toNat] w fun e w' => e = .returned .nilIface ∧ BF Y (l ++ [c]) w' ∧ Below Y w w' ∧ Lib.OthersKept 5 (some Y) w w' := by
  refine (Any.Builder_WriteByte_k (ρ := renWB) laysWB extraWB Y Y _ c.toNat w h (by rw [Lib.byteCells_length]; omega) hY).mono ?_
  rintro e w' ⟨he, h1, h2, h3⟩
  refine ⟨he, .inr ?_, h2, h3⟩
  have : Lib.byteCells (l ++ [c]) = Lib.byteCells l ++ [.int .u8 c.toNat] := by rw [Lib.byteCells_append]; rfl
  rw [this]; exact h1

theorem stringB_k (Y : Nat) (l : List UInt8) (w : World) (h : BF Y l w) (hY : Y ≤ w.heap.size) :
    Calls Tryz.prog 33 #[.pointer (some ⟨Y, 0, none⟩)] w fun e w' => e = .returned (.string (mk l)) ∧ Below Y w w' := by
  refine (Any.Builder_String_any_f Tryz.lays169 Tryz.Builder_Extra_169 Y Y l w h hY).mono ?_
  rintro e w' ⟨he, h2⟩
  exact ⟨he, h2.2⟩

set_option maxHeartbeats 4000000 in
set_option maxRecDepth 100000 in
theorem groupWord_yes (w : World) (s : ByteArray) (hs : wv (tl s) = true) :
    Calls Tryz.prog 21 #[.string s] w fun e w' => e = .returned (.string (grpT s)) ∧ Below w.heap.size w w' := by
  have hz : s.size ≤ 200 := by rw [← length_tl]; exact wv_length hs
  have HS := Lib.hid hs; have HZ := Lib.hid hz
  have hbf0 := Lib.IsBuilderF.of (Lib.fresh_isBuilder 53 5 w)
  have hbf : BF w.heap.size [] (w.alloc (.cells #[.pointer none, .slice none 0 0] 53)) := hbf0
  have hbb : Below w.heap.size w (w.alloc (.cells #[.pointer none, .slice none 0 0] 53)) := (Below.refl _ _).alloc (Nat.le_refl _) _
  obtain ⟨wb, hwb⟩ : ∃ wb, wb = w.alloc (.cells #[.pointer none, .slice none 0 0] 53) := ⟨_, rfl⟩
  rw [← hwb] at hbf hbb
  obtain ⟨Y, hY⟩ : ∃ Y, Y = w.heap.size := ⟨_, rfl⟩
  rw [← hY] at hbf
  have HBF0 := Lib.hid hbf; have HBB := Lib.hid hbb; have HYE := Lib.hid hY
  obtain ⟨N, hN⟩ : ∃ N, s.size = N := ⟨_, rfl⟩
  have HN := Lib.hid hN
  obtain ⟨FT, hFT⟩ : ∃ FT, FT = grpF (tl s) := ⟨_, rfl⟩
  have hf0 : FT 0 = [] := by rw [hFT]; rfl
  have hfl : ∀ k, (FT k).length ≤ 6 * k := by rw [hFT]; exact grpF_len _
  have hfa : ∀ k, k ≠ 0 → FT (k + 1) = (FT k ++ [32]) ++ tl (s.extract (5 * k) (min (5 * k + 5) N)) := fun k hk => by
    rw [hFT, extract_mk', tl_mk]
    show grpF (tl s) k ++ ((if k = 0 then [] else [32]) ++ ((tl s).drop (5 * k)).take 5) = _
    rw [if_neg hk, List.append_assoc]
    congr 2
    exact take_min _ _ _ (by rw [length_tl]; exact hN)
  have hfz : FT 1 = FT 0 ++ tl (s.extract 0 (min 5 N)) := by
    rw [hFT, extract_mk', tl_mk]
    show grpF (tl s) 0 ++ ((if 0 = 0 then [] else [32]) ++ ((tl s).drop (5 * 0)).take 5) = _
    rw [if_pos rfl, List.nil_append]
    congr 1
    have := take_min (tl s) 0 N (by rw [length_tl]; exact hN)
    simpa using this
  have hft : grpT s = mk (FT ((N + 4) / 5)) := by rw [hFT, ← hN]; rfl
  rw [hft]
  have HF0 := Lib.hid hf0; have HFL := Lib.hid hfl; have HFA := Lib.hid hfa; have HFZ := Lib.hid hfz
  clear hs hz hbf0 hbf hbb hFT hf0 hfl hfa hfz hft
  go_enter Tryz.func21, Tryz.ntmps21
  go_wp2_with fail
  refine (wordValid_is _ true _ HS.out).mono ?_
  rintro _ _ ⟨rfl, rfl⟩
  go_wp2_with fail
  rw [← hwb, ← hY]
  clear hwb hY
  go_loopw [4] (fun i wr => ∃ k : Nat, k ≤ (N + 4) / 5 ∧ i = .int .i64 ((5 * k : Nat) : Int) ∧ Hid (BF Y (FT k) wr) ∧ Hid (Below w.heap.size w wr)) (fun i _ => 200 + 5 - (intOf i).toNat)
  case atStart => exact ⟨0, Nat.zero_le _, rfl, by rw [HF0.out]; exact HBF0, HBB⟩
  case round =>
    obtain ⟨k, hk, rfl, HBF, HBL⟩ := hrel
    clear HBF0 HBB
    have hys : Y ≤ wr.heap.size := by
      obtain ⟨cs, hb⟩ := bf_block HBF.out
      exact Nat.le_of_lt (Array.getElem?_eq_some_iff.1 hb).1
    have hYw : w.heap.size ≤ Y := by have := HYE.out; omega
    have hN200 : N ≤ 200 := by have := HN.out; have := HZ.out; omega
    have hfk := HFL.out k
    by_cases hlt : 5 * k < N
    · have v0 : ((5 * k : Nat) : Int) < (s.size : Int) := by have := HN.out; omega
      by_cases h0 : k = 0
      · subst h0
        have hwk := write_k Y (FT 0) (s.extract 0 (min 5 N)) wr HBF.out (by rw [ByteArray.size_extract]; omega) hys
        rw [← HFZ.out] at hwk
        have HWK := Lib.hid hwk
        clear hwk
        go_wp2_with fail
        rw [min_nat]
        refine HWK.out.mono ?_
        rintro _ w2 ⟨rfl, hbf2, hb2, hk2⟩
        have HBF2 := Lib.hid hbf2; have HBL2 := Lib.hid (HBL.out.trans (hb2.mono hYw))
        clear hbf2 hb2 hk2 HWK
        go_wp2_with fail
        go_roundw
        case rel => exact ⟨1, by omega, rfl, HBF2, HBL2⟩
        case measure => simp [intOf]
      · have v1 : (0 : Int) < ((5 * k : Nat) : Int) := by omega
        have hbk := byte_k Y (FT k) 32 wr HBF.out (by omega) hys
        rw [show (((32 : UInt8).toNat : Nat) : Int) = 32 from rfl] at hbk
        have HBK := Lib.hid hbk
        clear hbk
        go_wp2_with fail
        refine HBK.out.mono ?_
        rintro _ w2 ⟨rfl, hbf2, hb2, hk2⟩
        have hys2 : Y ≤ w2.heap.size := by have := hb2.size; omega
        have hwk := write_k Y (FT k ++ [32]) (s.extract (5 * k) (min (5 * k + 5) N)) w2 hbf2 (by rw [ByteArray.size_extract, List.length_append, List.length_singleton]; omega) hys2
        rw [← HFA.out k h0] at hwk
        have HWK := Lib.hid hwk; have HBL2 := Lib.hid (HBL.out.trans (hb2.mono hYw))
        clear hwk hbf2 hb2 hk2 HBK
        go_wp2_with fail
        rw [min_nat5]
        refine HWK.out.mono ?_
        rintro _ w3 ⟨rfl, hbf3, hb3, hk3⟩
        have HBF3 := Lib.hid hbf3; have HBL3 := Lib.hid (HBL2.out.trans (hb3.mono hYw))
        clear hbf3 hb3 hk3 HWK
        go_wp2_with fail
        go_roundw
        case rel => exact ⟨k + 1, by omega, by go_num, HBF3, HBL3⟩
        case measure => simp [intOf]; omega
    · have hke : k = (N + 4) / 5 := by omega
      have v0 : ¬ ((5 * k : Nat) : Int) < (s.size : Int) := by have := HN.out; omega
      have HKE := Lib.hid hke
      clear hke
      go_wp2_with fail
      refine (stringB_k Y (FT k) wr HBF.out hys).mono ?_
      rintro _ w3 ⟨rfl, hb3⟩
      have HBL3 := Lib.hid (HBL.out.trans (hb3.mono hYw))
      clear hb3
      go_wp2_with fail
      go_ret
      exact ⟨by rw [HKE.out]; rfl, HBL3.out⟩

theorem results_st_tmp2 {fn : Func} {p u v : Tmp} {ty : TypeId} (h : fn.results = #[.cell p ty, .tmp u, .tmp v]) (tmps : Array Value) (w : World) (g : Nat) (t : TypeId) (cs : Array Value) (fr : Nat × Nat) (d : TypeDesc)
    (hp : tmps.getD p undef = .pointer (some ⟨g, 0, none⟩)) (hg : w.heap[g]? = some (.cells cs t fr))
    (hu : Tryz.prog.underlying ty = some d) (hd : (∃ fs, d = .struct fs)) (hi : (Tryz.prog.info? ty).map (·.size) = some cs.size) :
    (results fn tmps).run Tryz.prog w = .ok (.tuple #[.agg cs, tmps.getD u undef, tmps.getD v undef]) w := by
  obtain ⟨fs, rfl⟩ := hd
  have hp' : tmps[p]?.getD undef = .pointer (some ⟨g, 0, none⟩) := by simpa using hp
  simp [results, h, hp', asAddr, run_loadVar_row w g t ty cs fr _ hg hu rfl hi]
/-- a machine, windows and a word were drawn, whatever they are -/
def EnD (w : World) (e : Ending) (w' : World) : Prop :=
  ∃ (A : Option Addr) (cap : Nat) (rs : List (ByteArray × ByteArray)) (p g l o x : ByteArray), e = .returned (.tuple #[.agg #[.slice A rs.length cap, .string p, .string g, .string l], .string o, .string x]) ∧ Rd w' w'.heap.size A (rotV rs) ∧ rs.length ≤ cap ∧ rs.length ≤ 6 ∧ p.size ≤ 20 ∧ g.size ≤ 10 ∧ l.size ≤ 20 ∧ o.size ≤ 10 ∧ x.size ≤ 300 ∧ (∀ x, A = some x → w.heap.size ≤ x.block) ∧ Below w.heap.size w w'

set_option maxHeartbeats 8000000 in
set_option maxRecDepth 100000 in
theorem drawEncipher_any (w : World) (A : Option Addr) (cap : Nat) (bs : List UInt8) (h : Rd w w.heap.size A (bytesV bs)) (hc : bs.length ≤ cap) :
    Calls Tryz.prog 17 #[.slice A bs.length cap] w (EnD w) := by
  have hb0 : Below w.heap.size w (w.alloc (.cells #[.slice none 0 0, .string ⟨#[]⟩, .string ⟨#[]⟩, .string ⟨#[]⟩] 27)) := (Below.refl _ _).alloc (Nat.le_refl _) _
  have hs0 := SB.made w #[.slice none 0 0, .string ⟨#[]⟩, .string ⟨#[]⟩, .string ⟨#[]⟩] 27
  obtain ⟨w0, hw0⟩ : ∃ w0, w0 = w.alloc (.cells #[.slice none 0 0, .string ⟨#[]⟩, .string ⟨#[]⟩, .string ⟨#[]⟩] 27) := ⟨_, rfl⟩
  rw [← hw0] at hb0 hs0
  have hop := l21Open_any w0 A cap bs ((h.below hb0).mono hb0.size) hc
  obtain ⟨P, hP⟩ : ∃ P, P = w.heap.size := ⟨_, rfl⟩
  have hpw : w.heap.size ≤ P := by omega
  rw [← hP] at hs0
  have HOP := Lib.hid hop; have HB0 := Lib.hid hb0; have HS0 := Lib.hid hs0
  clear hop hb0 hs0 h
  go_enter Tryz.func17, Tryz.ntmps17
  go_wp2_with fail
  rw [← hw0, ← hP]
  clear hw0 hP
  refine HOP.out.mono ?_
  rintro _ w1 ⟨rfl, hr1, hb1, hz1⟩
  obtain ⟨R, hR⟩ : ∃ R, R = w0.heap.size := ⟨_, rfl⟩
  rw [← hR] at hr1 hz1 ⊢
  have hpr : P < R := by rw [hR]; exact HS0.out.lt
  have HS1 := Lib.hid (HS0.out.below hb1); have HB1 := Lib.hid (HB0.out.trans (hb1.mono HB0.out.size))
  have HZ1 := Lib.hid hz1
  clear hb1 HB0 HS0 HOP hR hz1
  have hpn : P ≠ R := by omega
  go_wp2_with fail
  refine (l8Any_any _ R 0 hr1 (by omega)).mono ?_
  rintro _ w2 ⟨v, rs, q, rg, pl, ws, rfl, hrb, hq, hpl, h1, h3, hrl, hrlo, hwl, hlo, hr2, ho2⟩
  obtain ⟨b, c2, e2⟩ := own_some hrb.own (by omega)
  subst e2
  have hzq : (pT q).size ≤ 20 := by rw [pT_size, hq.len]; omega
  have hzp : (pT pl).size ≤ 20 := by rw [pT_size, hpl.len]; omega
  have hzr1 : 1 ≤ (pT rg).size := by rw [pT_size, hrl]; exact h1
  have hzr3 : (pT rg).size ≤ 3 := by rw [pT_size, hrl]; exact h3
  have hzw1 : 1 ≤ (pT ws).size := by rw [pT_size, hwl]; exact h1
  have hzw3 : (pT ws).size ≤ 3 := by rw [pT_size, hwl]; exact h3
  have HRT := Lib.hid (rotT_sizes hrb.rot)
  have hown := hrb.own
  have hb2 : b < w2.heap.size := (hown.lt b rfl).2
  have hb2' : R + 1 ≤ b := by have := (hown.lt b rfl).1; have := HZ1.out; omega
  have hsz2 : R + 1 ≤ w2.heap.size := by have := ho2.size; have := HZ1.out; omega
  have HS2 := Lib.hid (HS1.out.grow ho2 hpn); have HB2 := Lib.hid (HB1.out.trans (below_of_only ho2 HB1.out.size (by omega)))
  rw [HZ1.out] at hown
  unfold macC
  generalize pT q = p2 at hzq ⊢
  generalize pT pl = l2 at hzp ⊢
  generalize pT rg = g2 at hzr1 hzr3 ⊢
  generalize pT ws = o2 at hzw1 hzw3 ⊢
  have hwal : (w2.alloc (.cells #[.slice (some ⟨b, 0, none⟩) rs.length c2, .string p2, .string g2, .string l2] 27)).ownsRow (R + 1) 94 2 (.slice (some ⟨b, 0, none⟩) rs.length c2) rs.length (rotV rs) := hown.alloc _
  have hral := hr2.alloc (.cells #[.slice (some ⟨b, 0, none⟩) rs.length c2, .string p2, .string g2, .string l2] 27)
  have hbal : Below w.heap.size w (w2.alloc (.cells #[.slice (some ⟨b, 0, none⟩) rs.length c2, .string p2, .string g2, .string l2] 27)) := HB2.out.alloc HB2.out.size _
  have hsal := SB.below HS2.out ((Below.refl _ _).alloc (Nat.le_refl _) (.cells #[.slice (some ⟨b, 0, none⟩) rs.length c2, .string p2, .string g2, .string l2] 27))
  have hmal := SB.made w2 #[.slice (some ⟨b, 0, none⟩) rs.length c2, .string p2, .string g2, .string l2] 27
  obtain ⟨w3, hw3⟩ : ∃ w3, w3 = w2.alloc (.cells #[.slice (some ⟨b, 0, none⟩) rs.length c2, .string p2, .string g2, .string l2] 27) := ⟨_, rfl⟩
  rw [← hw3] at hwal hral hbal hsal hmal
  have hsz3 : R + 1 ≤ w3.heap.size := by rw [hw3]; simp; omega
  have HSAL := Lib.hid hsal; have HBAL := Lib.hid hbal; have HMAL := Lib.hid hmal; have HWAL := Lib.hid hwal
  have hbw := (hown.lt b rfl)
  have hwP : w.heap.size ≤ b := by omega
  have hPb : P ≠ b := by omega
  have hQR : w2.heap.size ≠ R := by omega
  have hne : (Value.slice (some ⟨b, 0, none⟩) rs.length c2).ownBlock = none ∨ (Value.slice (some ⟨b, 0, none⟩) rs.length c2).ownBlock ≠ some R := .inr (by intro e; have := (hown.lt R e).1; omega)
  have HNE := Lib.hid hne; have HRAL := Lib.hid hral
  obtain ⟨Q, hQ⟩ : ∃ Q, Q = w2.heap.size := ⟨_, rfl⟩
  rw [← hQ] at HMAL hQR
  clear hwal hral hbal hsal hmal hrb hq hpl hrl hrlo hwl hlo hr2 ho2 hown hr1 hbw HS2 HB2 HS1 HB1 hne
  go_wp2_with fail
  rw [← hw3, ← hQ]
  clear hw3 hQ
  refine (l1Word_any w3 R _ 12 HRAL.out (by omega) (by omega)).mono ?_
  rintro _ w4 ⟨xl, rfl, hxl, _, hr4, ho4⟩
  have hz4 : R + 1 ≤ w4.heap.size := by have := ho4.size; omega
  have HW4 := Lib.hid (HWAL.out.kept ho4 HNE.out); have HS4 := Lib.hid (HSAL.out.grow ho4 hpn); have HM4 := Lib.hid (HMAL.out.grow ho4 hQR)
  have HB4 := Lib.hid (HBAL.out.trans (below_of_only ho4 HBAL.out.size (by omega)))
  clear ho4 HWAL HSAL HMAL HBAL HRAL
  have hxz : (mk xl).size ≤ 12 := by rw [size_mk]; exact hxl
  generalize mk xl = X at hxz ⊢
  clear hxl
  go_wp2_with fail
  refine (pick_pos _ R _ _ hr4 (by omega) (by omega) (by omega)).mono ?_
  rintro _ w5 ⟨k, rfl, hk, hr5, ho5⟩
  have hz5 : R + 1 ≤ w5.heap.size := by have := ho5.size; omega
  have HW5 := Lib.hid (HW4.out.kept ho5 HNE.out); have HS5 := Lib.hid (HS4.out.grow ho5 hpn); have HM5 := Lib.hid (HM4.out.grow ho5 hQR)
  have HB5 := Lib.hid (HB4.out.trans (below_of_only ho5 HB4.out.size (by omega)))
  clear ho5 HW4 HS4 HM4 HB4 hr4
  by_cases h0 : k = 0
  case' pos =>
    subst h0
    obtain ⟨⟨c0, c1, c4, c5⟩, _⟩ := HM5.out.all4
    go_wp2_with fail
    refine (l1Bad_any _ R _ X hr5 (by omega) (by omega)).mono ?_
    rintro _ w6 ⟨t, rfl, htz, hr6, ho6⟩
    have htz2 : t.size ≤ 300 := by omega
    have hz6 : R + 1 ≤ w6.heap.size := by have := ho6.size; omega
    have HW6 := Lib.hid (HW5.out.kept ho6 HNE.out); have HS6 := Lib.hid (HS5.out.grow ho6 hpn); have HM6 := Lib.hid (HM5.out.grow ho6 hQR)
    have HB6 := Lib.hid (HB5.out.trans (below_of_only ho6 HB5.out.size (by omega)))
    have HBD := Lib.hid (l8Bad_any w6 R _ (R + 1) b c2 rs p2 g2 l2 hr6 (by omega) (by omega) hz6 HW6.out h1 h3 HRT.out hzq hzr1 hzr3 hzp)
    clear ho6 HW5 HS5 HM5 HB5 hr5 hr6 htz c0 c1 c4 c5
    obtain ⟨⟨c0, c1, c4, c5⟩, _⟩ := HM6.out.all4
    go_wp2_with fail
  case' neg =>
    have b0 : ((k : Int) == 0) = false := by rw [beq_eq_false_iff_ne]; omega
    have htz2 : X.size ≤ 300 := by omega
    have hz6 := hz5
    have HW6 := HW5; have HS6 := HS5; have HB6 := HB5
    have HBD := Lib.hid (l8Bad_any w5 R _ (R + 1) b c2 rs p2 g2 l2 hr5 (by omega) (by omega) hz6 HW6.out h1 h3 HRT.out hzq hzr1 hzr3 hzp)
    obtain ⟨⟨c0, c1, c4, c5⟩, _⟩ := HM5.out.all4
    clear HW5 HS5 HB5 hr5
    go_wp2_with fail
  all_goals
    refine HBD.out.mono ?_
    rintro _ W4 ⟨v4, rs4, p4, g4, l4, rfl, hoW4, hl4, hzp4, hzg4, hzl4, hr4, hk4⟩
    obtain ⟨A4, c4', e4⟩ := slot_slice hoW4
    subst e4
    have hs4 := hk4.sb HS6.out hpn (by intro e; injection e with e; simp only at e; omega)
    have hb4 : Below w.heap.size w W4 := HB6.out.trans (hk4.below HB6.out.size (by omega) (fun k e => by injection e with e; simp only at e; omega))
    have HS4 := Lib.hid hs4; have HB4 := Lib.hid hb4; have HW4 := Lib.hid hoW4
    clear hs4 hb4 hk4 HBD HS6 HB6 c0 c1 c4 c5
    go_wp2_with fail
    refine (l8Off_any W4 R _ o2 hr4 (by omega) hzw1 hzw3).mono ?_
    rintro _ W5 ⟨o5, rfl, hzo, hr5, ho5⟩
    have hoW5 := HW4.out.kept ho5 (.inr (by intro e; have := (hoW4.lt R e).1; omega))
    have hs5 := HS4.out.grow ho5 hpn
    have hb5 := HB4.out.trans (below_of_only ho5 HB4.out.size (by omega))
    obtain ⟨⟨d0, d1, d2, d3⟩, f0, f1, f2, f3⟩ := hs5.all4
    have hna := own_ne_type hoW5 hs5 (by decide)
    have HSF := Lib.hid (hs5.four (.slice A4 rs4.length c4') (.string p4) (.string g4) (.string l4))
    have HWF := Lib.hid (own_set (own_set (own_set (own_set hoW5 hna 0 (.slice A4 rs4.length c4')) hna 1 (.string p4)) hna 2 (.string g4)) hna 3 (.string l4))
    have HBF := Lib.hid ((((hb5.setCell hpw (p := ⟨P, 0, none⟩) (.slice A4 rs4.length c4')).setCell hpw (p := ⟨P, 1, none⟩) (.string p4)).setCell hpw (p := ⟨P, 2, none⟩) (.string g4)).setCell hpw (p := ⟨P, 3, none⟩) (.string l4))
    clear hoW5 hs5 hb5 hna hoW4 ho5 hr5 hr4 HS4 HB4 HW4
    go_wp2_with fail
    refine bodyPost_ret (results_st_tmp2 rfl _ _ P _ #[.slice A4 rs4.length c4', .string p4, .string g4, .string l4] _ _ rfl HSF.out Tryz.underlying27 ⟨_, rfl⟩ macSize) rfl ⟨A4, c4', rs4, p4, g4, l4, o5, _, rfl, own_rd3' HWF.out, own_le3 HWF.out, hl4, hzp4, hzg4, hzl4, hzo, htz2, fun x e => by subst e; have := (HWF.out.lt x.block rfl).1; omega, HBF.out⟩

end Go.Proofs.YtflaoicjgigcaaaGreatDoor
