/-
  impl.GroupWord; the draw of a machine, windows and a word. Conditions: what each theorem names.
-/
import Derived.Test.YtipcodebmemkpaaGreatDoorRunL
import Derived.Test.YtipcodebmemkpaaGreatDoorWords
import Derived.Test.YtipcodebmemkpaaGreatDoorDrawMa
namespace Go.Proofs.YtipcodebmemkpaaGreatDoor
open Go.RowKit Pl
set_option linter.unusedVariables false

/-- the first k groups -/
def grpF (l : List UInt8) : Nat → List UInt8
  | 0 => []
  | k + 1 => grpF l k ++ ((if k = 0 then [] else [32]) ++ (l.drop (5 * k)).take 5)
theorem grpF_len (l : List UInt8) : ∀ k, (grpF l k).length ≤ 6 * k
  | 0 => by simp [grpF]
  | k + 1 => by
    have := grpF_len l k
    unfold grpF
    rw [List.length_append, List.length_append, List.length_take]
    split <;> simp <;> omega
theorem take_min (l : List UInt8) (a n : Nat) (h : l.length = n) : (l.drop a).take 5 = (l.drop a).take (min (a + 5) n - a) := by
  by_cases e : a + 5 ≤ n
  · rw [Nat.min_eq_left e]; congr 1; omega
  · rw [Nat.min_eq_right (by omega), List.take_of_length_le (by rw [List.length_drop]; omega), List.take_of_length_le (by rw [List.length_drop]; omega)]
def grpT (s : ByteArray) : ByteArray := mk (grpF (tl s) ((s.size + 4) / 5))
theorem grpT_size (s : ByteArray) : (grpT s).size ≤ 2 * s.size + 10 := by
  have := grpF_len (tl s) ((s.size + 4) / 5)
  unfold grpT; rw [size_mk]; omega

theorem min_nat (n : Nat) : (min (5 : Int) (n : Int)).toNat = min 5 n := by omega
theorem min_nat5 (k n : Nat) : (min (5 * (k : Int) + 5) (n : Int)).toNat = min (5 * k + 5) n := by omega
/-- WriteByte's laying: its own functions beside strings.Join's types -/
def renWB : Go.Shelf.Ren := { Tryz.lays156_ren with f := fun | 167 => 253 | 240 => 93 | 276 => 127 | n => n }
theorem laysWB : Go.Proofs.Lays.n167 Tryz.prog renWB := { Tryz.lays156 with
  f167 := Tryz.func253.trans (congrArg some (by kernel_rfl))
  f240 := Tryz.func93.trans (congrArg some (by kernel_rfl))
  f276 := Tryz.func127.trans (congrArg some (by kernel_rfl))
  t5 := Tryz.underlying5
  a5 := Tryz.isAgg5
  z5 := Tryz.sizeOf5
  v5 := Tryz.zeroValue5 }
theorem extraWB : Builder.Extra Tryz.prog renWB := {
  sizeBuilder := by kernel_rfl
  liesBuilder := by kernel_rfl
  t5 := Tryz.underlying5
  a5 := Tryz.isAgg5
  z5 := Tryz.sizeOf5
  v5 := Tryz.zeroValue5
  infoByte := by kernel_rfl
  cellsByte := by kernel_rfl
  sizeByte := by kernel_rfl
  neB5 := by decide }
/-- a byte written into a builder -/
theorem byte_k (Y : Nat) (l : List UInt8) (c : UInt8) (w : World) (h : BF Y l w) (hl : l.length ≤ 100000) (hY : Y ≤ w.heap.size) :
    Calls Tryz.prog 253 #[.pointer (some ⟨Y, 0, none⟩), .int .u8 c.toNat] w fun e w' => e = .returned .nilIface ∧ BF Y (l ++ [c]) w' ∧ Below Y w w' ∧ Lib.OthersKept 5 (some Y) w w' := by
  refine (Any.Builder_WriteByte_k (ρ := renWB) laysWB extraWB Y Y _ c.toNat w h (by rw [Lib.byteCells_length]; omega) hY).mono ?_
  rintro e w' ⟨he, h1, h2, h3⟩
  refine ⟨he, .inr ?_, h2, h3⟩
  have : Lib.byteCells (l ++ [c]) = Lib.byteCells l ++ [.int .u8 c.toNat] := by rw [Lib.byteCells_append]; rfl
  rw [this]; exact h1

theorem stringB_k (Y : Nat) (l : List UInt8) (w : World) (h : BF Y l w) (hY : Y ≤ w.heap.size) :
    Calls Tryz.prog 54 #[.pointer (some ⟨Y, 0, none⟩)] w fun e w' => e = .returned (.string (mk l)) ∧ Below Y w w' := by
  refine (Any.Builder_String_any_f Tryz.lays169 Tryz.Builder_Extra_169 Y Y l w h hY).mono ?_
  rintro e w' ⟨he, h2⟩
  exact ⟨he, h2.2⟩

set_option maxHeartbeats 4000000 in
set_option maxRecDepth 100000 in
theorem groupWord_yes (w : World) (s : ByteArray) (hs : wv (tl s) = true) :
    Calls Tryz.prog 193 #[.string s] w fun e w' => e = .returned (.string (grpT s)) ∧ Below w.heap.size w w' := by
  have hz : s.size ≤ 200 := by rw [← length_tl]; exact wv_length hs
  have HS := Lib.hid hs; have HZ := Lib.hid hz
  have hbf0 := Lib.IsBuilderF.of (Lib.fresh_isBuilder 82 5 w)
  have hbf : BF w.heap.size [] (w.alloc (.cells #[.pointer none, .slice none 0 0] 82)) := hbf0
  have hbb : Below w.heap.size w (w.alloc (.cells #[.pointer none, .slice none 0 0] 82)) := (Below.refl _ _).alloc (Nat.le_refl _) _
  obtain ⟨wb, hwb⟩ : ∃ wb, wb = w.alloc (.cells #[.pointer none, .slice none 0 0] 82) := ⟨_, rfl⟩
  rw [← hwb] at hbf hbb
  obtain ⟨Y, hY⟩ : ∃ Y, Y = w.heap.size := ⟨_, rfl⟩
  rw [← hY] at hbf
  have HBF0 := Lib.hid hbf; have HBB := Lib.hid hbb; have HYE := Lib.hid hY
  obtain ⟨N, hN⟩ : ∃ N, s.size = N := ⟨_, rfl⟩
  have HN := Lib.hid hN
  obtain ⟨FT, hFT⟩ : ∃ FT, FT = grpF (tl s) := ⟨_, rfl⟩
  have hf0 : FT 0 = [] := by rw [hFT]; rfl
  have hfl : ∀ k, (FT k).length ≤ 6 * k := by rw [hFT]; exact grpF_len _
  have hfa : ∀ k, k ≠ 0 → FT (k + 1) = (FT k ++ [32]) ++ tl (s.extract (5 * k) (min (5 * k + 5) N)) := fun k hk => by
    rw [hFT, extract_mk', tl_mk]
    show grpF (tl s) k ++ ((if k = 0 then [] else [32]) ++ ((tl s).drop (5 * k)).take 5) = _
    rw [if_neg hk, List.append_assoc]
    congr 2
    exact take_min _ _ _ (by rw [length_tl]; exact hN)
  have hfz : FT 1 = FT 0 ++ tl (s.extract 0 (min 5 N)) := by
    rw [hFT, extract_mk', tl_mk]
    show grpF (tl s) 0 ++ ((if 0 = 0 then [] else [32]) ++ ((tl s).drop (5 * 0)).take 5) = _
    rw [if_pos rfl, List.nil_append]
    congr 1
    have := take_min (tl s) 0 N (by rw [length_tl]; exact hN)
    simpa using this
  have hft : grpT s = mk (FT ((N + 4) / 5)) := by rw [hFT, ← hN]; rfl
  rw [hft]
  have HF0 := Lib.hid hf0; have HFL := Lib.hid hfl; have HFA := Lib.hid hfa; have HFZ := Lib.hid hfz
  clear hs hz hbf0 hbf hbb hFT hf0 hfl hfa hfz hft
  go_enter Tryz.func193, Tryz.ntmps193
  go_wp2_with fail
  refine (wordValid_is _ true _ HS.out).mono ?_
  rintro _ _ ⟨rfl, rfl⟩
  go_wp2_with fail
  rw [← hwb, ← hY]
  clear hwb hY
  go_loopw [4] (fun i wr => ∃ k : Nat, k ≤ (N + 4) / 5 ∧ i = .int .i64 ((5 * k : Nat) : Int) ∧ Hid (BF Y (FT k) wr) ∧ Hid (Below w.heap.size w wr)) (fun i _ => 200 + 5 - (intOf i).toNat)
  case atStart => exact ⟨0, Nat.zero_le _, rfl, by rw [HF0.out]; exact HBF0, HBB⟩
  case round =>
    obtain ⟨k, hk, rfl, HBF, HBL⟩ := hrel
    clear HBF0 HBB
    have hys : Y ≤ wr.heap.size := by
      obtain ⟨cs, hb⟩ := bf_block HBF.out
      exact Nat.le_of_lt (Array.getElem?_eq_some_iff.1 hb).1
    have hYw : w.heap.size ≤ Y := by have := HYE.out; omega
    have hN200 : N ≤ 200 := by have := HN.out; have := HZ.out; omega
    have hfk := HFL.out k
    by_cases hlt : 5 * k < N
    · have v0 : ((5 * k : Nat) : Int) < (s.size : Int) := by have := HN.out; omega
      by_cases h0 : k = 0
      · subst h0
        have hwk := write_k Y (FT 0) (s.extract 0 (min 5 N)) wr HBF.out (by rw [ByteArray.size_extract]; omega) hys
        rw [← HFZ.out] at hwk
        have HWK := Lib.hid hwk
        clear hwk
        go_wp2_with fail
        rw [min_nat]
        refine HWK.out.mono ?_
        rintro _ w2 ⟨rfl, hbf2, hb2, hk2⟩
        have HBF2 := Lib.hid hbf2; have HBL2 := Lib.hid (HBL.out.trans (hb2.mono hYw))
        clear hbf2 hb2 hk2 HWK
        go_wp2_with fail
        go_roundw
        case rel => exact ⟨1, by omega, rfl, HBF2, HBL2⟩
        case measure => simp [intOf]
      · have v1 : (0 : Int) < ((5 * k : Nat) : Int) := by omega
        have hbk := byte_k Y (FT k) 32 wr HBF.out (by omega) hys
        rw [show (((32 : UInt8).toNat : Nat) : Int) = 32 from rfl] at hbk
        have HBK := Lib.hid hbk
        clear hbk
        go_wp2_with fail
        refine HBK.out.mono ?_
        rintro _ w2 ⟨rfl, hbf2, hb2, hk2⟩
        have hys2 : Y ≤ w2.heap.size := by have := hb2.size; omega
        have hwk := write_k Y (FT k ++ [32]) (s.extract (5 * k) (min (5 * k + 5) N)) w2 hbf2 (by rw [ByteArray.size_extract, List.length_append, List.length_singleton]; omega) hys2
        rw [← HFA.out k h0] at hwk
        have HWK := Lib.hid hwk; have HBL2 := Lib.hid (HBL.out.trans (hb2.mono hYw))
        clear hwk hbf2 hb2 hk2 HBK
        go_wp2_with fail
        rw [min_nat5]
        refine HWK.out.mono ?_
        rintro _ w3 ⟨rfl, hbf3, hb3, hk3⟩
        have HBF3 := Lib.hid hbf3; have HBL3 := Lib.hid (HBL2.out.trans (hb3.mono hYw))
        clear hbf3 hb3 hk3 HWK
        go_wp2_with fail
        go_roundw
        case rel => exact ⟨k + 1, by omega, by go_num, HBF3, HBL3⟩
        case measure => simp [intOf]; omega
    · have hke : k = (N + 4) / 5 := by omega
      have v0 : ¬ ((5 * k : Nat) : Int) < (s.size : Int) := by have := HN.out; omega
      have HKE := Lib.hid hke
      clear hke
      go_wp2_with fail
      refine (stringB_k Y (FT k) wr HBF.out hys).mono ?_
      rintro _ w3 ⟨rfl, hb3⟩
      have HBL3 := Lib.hid (HBL.out.trans (hb3.mono hYw))
      clear hb3
      go_wp2_with fail
      go_ret
      exact ⟨by rw [HKE.out]; rfl, HBL3.out⟩

theorem results_st_tmp2 {fn : Func} {p u v : Tmp} {ty : TypeId} (h : fn.results = #[.cell p ty, .tmp u, .tmp v]) (tmps : Array Value) (w : World) (g : Nat) (t : TypeId) (cs : Array Value) (fr : Nat × Nat) (d : TypeDesc)
    (hp : tmps.getD p undef = .pointer (some ⟨g, 0, none⟩)) (hg : w.heap[g]? = some (.cells cs t fr))
    (hu : Tryz.prog.underlying ty = some d) (hd : (∃ fs, d = .struct fs)) (hi : (Tryz.prog.info? ty).map (·.size) = some cs.size) :
    (results fn tmps).run Tryz.prog w = .ok (.tuple #[.agg cs, tmps.getD u undef, tmps.getD v undef]) w := by
  obtain ⟨fs, rfl⟩ := hd
  have hp' : tmps[p]?.getD undef = .pointer (some ⟨g, 0, none⟩) := by simpa using hp
  simp [results, h, hp', asAddr, run_loadVar_row w g t ty cs fr _ hg hu rfl hi]
/-- a machine, windows and a word were drawn, whatever they are -/
def EnD (w : World) (e : Ending) (w' : World) : Prop :=
  ∃ (A : Option Addr) (cap : Nat) (rs : List (ByteArray × ByteArray)) (p g l o x : ByteArray), e = .returned (.tuple #[.agg #[.slice A rs.length cap, .string p, .string g, .string l], .string o, .string x]) ∧ Rd w' w'.heap.size A (rotV rs) ∧ rs.length ≤ cap ∧ rs.length ≤ 6 ∧ p.size ≤ 20 ∧ g.size ≤ 10 ∧ l.size ≤ 20 ∧ o.size ≤ 10 ∧ x.size ≤ 300 ∧ (∀ x, A = some x → w.heap.size ≤ x.block) ∧ Below w.heap.size w w'








































































































































end Go.Proofs.YtipcodebmemkpaaGreatDoor
