/-
  Cycles and their lengths: contracts of both sides, the lengths' text, what does not change under renaming. Conditions: what each theorem names.
-/
import Derived.Test.YtipcodebmemkpaaGreatDoorMachB
import Derived.Test.YtipcodebmemkpaaGreatDoorRunL
import Derived.Test.YtipcodebmemkpaaGreatDoorMachP
import Derived.Test.YtipcodebmemkpaaGreatDoorShelfS
import Derived.Sort.OwnSortedInts
import Derived.BigQuiet
import Derived.Test.YtipcodebmemkpaaGreatDoorRcNum
import Derived.Test.YtipcodebmemkpaaGreatDoorNumb
import Derived.Test.YtipcodebmemkpaaGreatDoorRcJoin
namespace Go.Proofs.YtipcodebmemkpaaGreatDoor
set_option linter.unusedVariables false

section
open Go.RowKit Pl

/-- the text of the first k cycles -/
def fmtTo (l : List (List Nat)) (k : Nat) : List UInt8 := (l.take k).flatMap fun c => if 1 < c.length then 40 :: (tl (pT c) ++ [41]) else []
theorem fmtTo_yes {l : List (List Nat)} {k : Nat} (h : k < l.length) (hc : 1 < l[k].length) : fmtTo l k ++ tl (⟨#[40]⟩ ++ pT l[k] ++ ⟨#[41]⟩) = fmtTo l (k + 1) := by
  unfold fmtTo
  rw [List.take_succ_eq_append_getElem h, List.flatMap_append]
  simp only [List.flatMap_cons, List.flatMap_nil, List.append_nil, if_pos hc, append_tl, tl_mk]
  rfl
theorem fmtTo_no {l : List (List Nat)} {k : Nat} (h : k < l.length) (hc : ¬ 1 < l[k].length) : fmtTo l k = fmtTo l (k + 1) := by
  unfold fmtTo
  rw [List.take_succ_eq_append_getElem h, List.flatMap_append]
  simp only [List.flatMap_cons, List.flatMap_nil, List.append_nil, if_neg hc]
theorem fmtTo_len (l : List (List Nat)) (hl : ∀ c ∈ l, c.length ≤ 10) : ∀ k, k ≤ l.length → (fmtTo l k).length ≤ 12 * k
  | 0, _ => by simp [fmtTo]
  | k + 1, h => by
    have ih := fmtTo_len l hl k (by omega)
    have hk : k < l.length := by omega
    have hc := hl _ (List.getElem_mem hk)
    by_cases h1 : 1 < l[k].length
    · rw [← fmtTo_yes hk h1, List.length_append, length_tl, ByteArray.size_append, ByteArray.size_append, pT_size]
      have z1 : (⟨#[40]⟩ : ByteArray).size = 1 := rfl
      have z2 : (⟨#[41]⟩ : ByteArray).size = 1 := rfl
      omega
    · rw [← fmtTo_no hk h1]; omega
/-- the text of a permutation's cycles -/
def cycT (q : List Nat) : List UInt8 := if fmtTo (cycs q 10) (cycs q 10).length = [] then [40, 41] else fmtTo (cycs q 10) (cycs q 10).length

set_option maxHeartbeats 4000000 in
set_option maxRecDepth 100000 in
theorem formatCycles_any (w : World) (q : List Nat) (hq : Prm q) :
    Calls Tryz.prog 195 #[.string (pT q)] w fun e w' => e = .returned (.string (mk (cycT q))) ∧ Below w.heap.size w w' := by
  have hpo := fun w' => permOf_yes w' q hq
  have hcy := fun w' => cycles_any w' q hq
  have hct : cycT q = if fmtTo (cycs q 10) (cycs q 10).length = [] then [40, 41] else fmtTo (cycs q 10) (cycs q 10).length := rfl
  obtain ⟨CT, hCT⟩ : ∃ CT, CT = cycT q := ⟨_, rfl⟩
  rw [← hCT] at hct ⊢
  clear hCT
  unfold CycMade at hcy
  have hat := cycS_at q 10
  have hsl := cycS_len q 10
  have hcl := fun c (hc : c ∈ cycs q 10) => cyc_len hq hc
  have hl10 := cycs_len q 10
  generalize cycS q 10 = SS at hcy hat hsl
  generalize cycs q 10 = L at hct hat hsl hcl hl10
  have hfl := fmtTo_len L (fun c hc => (hcl c hc).2.1)
  have hfy := fun k (h : k < L.length) => fmtTo_yes h
  have hfn := fun k (h : k < L.length) => fmtTo_no h
  have hf0 : fmtTo L 0 = [] := by simp [fmtTo]
  generalize fmtTo L = FT at hct hfl hfy hfn hf0
  have HPO := Lib.hid hpo; have HCY := Lib.hid hcy; have HCT := Lib.hid hct; have HAT := Lib.hid hat; have HSL := Lib.hid hsl; have HCL := Lib.hid hcl; have HFL := Lib.hid hfl; have HFY := Lib.hid hfy; have HFN := Lib.hid hfn; have HF0 := Lib.hid hf0; have HQL := Lib.hid hq.len
  clear hpo hcy hct hat hsl hcl hfl hfy hfn hf0 hq
  generalize pT q = T at HPO ⊢
  go_enter Tryz.func195, Tryz.ntmps195
  go_wp2_with fail
  refine (HPO.out _).mono ?_
  rintro _ w1 ⟨rfl, hb1⟩
  have HB1 := Lib.hid hb1; clear hb1 HPO
  have hg1 := PB.made w1
  have HG1 := Lib.hid hg1; clear hg1
  have hs2 : PB ((w1.alloc (.cells #[.int .u8 0, .int .u8 0, .int .u8 0, .int .u8 0, .int .u8 0, .int .u8 0, .int .u8 0, .int .u8 0, .int .u8 0, .int .u8 0] 101)).setRow w1.heap.size (pC q)) w1.heap.size q := HG1.out.row q
  have hs3 := hs2.below ((Below.refl _ _).alloc (Nat.le_refl _) (.cells #[.pointer none, .slice none 0 0] 82))
  have HS3 := Lib.hid hs3; clear hs2 hs3
  go_wp2_with (first | (refine wpList_store_row rfl 101 _ _ rfl w1.heap.size (pC q) rfl rfl _ _ HG1.out (permSize HQL.out) (by rw [pC_size, pC_size, HQL.out]; rfl) (pC_one _) ?_) | (refine wpList_load_row rfl 101 _ rfl w1.heap.size rfl _ _ _ _ HS3.out Tryz.underlying101 rfl (permSize HQL.out) ?_))
  have hsz : ((w1.alloc (.cells #[.int .u8 0, .int .u8 0, .int .u8 0, .int .u8 0, .int .u8 0, .int .u8 0, .int .u8 0, .int .u8 0, .int .u8 0, .int .u8 0] 101)).setRow w1.heap.size (pC q)).heap.size = w1.heap.size + 1 := by simp [World.setRow]
  have hbf0 := Lib.IsBuilderF.of (Lib.fresh_isBuilder 82 5 ((w1.alloc (.cells #[.int .u8 0, .int .u8 0, .int .u8 0, .int .u8 0, .int .u8 0, .int .u8 0, .int .u8 0, .int .u8 0, .int .u8 0, .int .u8 0] 101)).setRow w1.heap.size (pC q)))
  rw [hsz] at hbf0
  have hbb := (below_setRow (HB1.out.alloc HB1.out.size (.cells #[.int .u8 0, .int .u8 0, .int .u8 0, .int .u8 0, .int .u8 0, .int .u8 0, .int .u8 0, .int .u8 0, .int .u8 0, .int .u8 0] 101)) HB1.out.size (pC q)).alloc (below_setRow (HB1.out.alloc HB1.out.size (.cells #[.int .u8 0, .int .u8 0, .int .u8 0, .int .u8 0, .int .u8 0, .int .u8 0, .int .u8 0, .int .u8 0, .int .u8 0, .int .u8 0] 101)) HB1.out.size (pC q)).size (.cells #[.pointer none, .slice none 0 0] 82)
  obtain ⟨wb, hwb⟩ : ∃ wb, wb = ((w1.alloc (.cells #[.int .u8 0, .int .u8 0, .int .u8 0, .int .u8 0, .int .u8 0, .int .u8 0, .int .u8 0, .int .u8 0, .int .u8 0, .int .u8 0] 101)).setRow w1.heap.size (pC q)).alloc (.cells #[.pointer none, .slice none 0 0] 82) := ⟨_, rfl⟩
  rw [← hwb] at hbf0 hbb ⊢
  obtain ⟨Y, hY⟩ : ∃ Y, Y = w1.heap.size + 1 := ⟨_, rfl⟩
  rw [← hY] at hbf0 ⊢
  have hwY : w.heap.size ≤ Y := by have := HB1.out.size; omega
  have hbf1 : BF Y [] wb := hbf0
  have HBF0 := Lib.hid hbf1; have HBB := Lib.hid hbb
  clear hwb hY hsz hbf0 hbf1 hbb HS3 HG1
  refine (HCY.out wb).mono ?_
  rintro _ w2 ⟨A, cap, rfl, hown, hb2⟩
  have HBF2 := Lib.hid (bf_below HBF0.out hb2); have HOW2 := Lib.hid hown; have HB2 := Lib.hid (HBB.out.trans (hb2.mono HBB.out.size))
  have hbf2 : BF Y (FT 0) w2 := by rw [HF0.out]; exact HBF2.out
  have HBF3 := Lib.hid hbf2
  clear hown hb2 HBF0 HBB HBF2 hbf2 HCY HB1
  have hsl := HSL.out
  rw [hsl] at HOW2 ⊢
  obtain ⟨N, hN⟩ : ∃ N, N = L.length := ⟨_, rfl⟩
  rw [← hN] at HOW2 hl10 ⊢
  have HNE := Lib.hid hN; clear hN hsl
  obtain ⟨B0, hB0⟩ : ∃ B0, B0 = wb.heap.size := ⟨_, rfl⟩
  rw [← hB0] at HOW2
  clear hB0
  go_wp2_with fail
  go_loopw [7, 18] (fun _ i wr => ∃ k : Nat, k ≤ N ∧ i = .int .i64 k ∧ Hid (BF Y (FT k) wr) ∧ Hid (wr.ownsRow B0 9 1 (.slice A N cap) N (strV SS)) ∧ Hid (Below w.heap.size w wr)) (fun _ i _ => N - (intOf i).toNat)
  case atStart => exact ⟨0, Nat.zero_le _, rfl, HBF3, HOW2, HB2⟩
  case round =>
    obtain ⟨k, hk, rfl, HBF, HOW, HBL⟩ := hrel
    clear HBF3 HOW2 HB2
    by_cases hlt : k < N
    · have hkL : k < L.length := by have := HNE.out; omega
      have hkS : k < SS.length := by have := HSL.out; omega
      have hrd : Rd wr wr.heap.size A (strV SS) := own_rd3' HOW.out
      obtain ⟨b0, off, rfl, _, c0⟩ := hrd.str hkS
      rw [HAT.out k hkL hkS] at c0
      have hcz := (HCL.out _ (List.getElem_mem hkL)).2.1
      have hy := HFY.out k hkL
      have hno := HFN.out k hkL
      have hfz := HFL.out k (by omega)
      obtain ⟨c, hc⟩ : ∃ c, c = L[k] := ⟨_, rfl⟩
      rw [← hc] at c0 hcz hy hno
      have hpz := pT_size c
      obtain ⟨s, hs⟩ : ∃ s, s = pT c := ⟨_, rfl⟩
      rw [← hs] at c0 hy hpz
      have hys : Y ≤ wr.heap.size := by
        obtain ⟨cs, hb⟩ := bf_block HBF.out
        exact Nat.le_of_lt (Array.getElem?_eq_some_iff.1 hb).1
      have v0 : (k : Int) < (N : Int) := by omega
      clear hc hs hrd
      by_cases hc1 : 1 < c.length
      · have hgt : (1 : Int) < (s.size : Int) := by omega
        have hy2 := hy hc1
        have HY2 := Lib.hid hy2
        have hwk := write_k Y (FT k) (⟨#[40]⟩ ++ s ++ ⟨#[41]⟩) wr HBF.out (by rw [ByteArray.size_append, ByteArray.size_append]; have z1 : (⟨#[40]⟩ : ByteArray).size = 1 := rfl; have z2 : (⟨#[41]⟩ : ByteArray).size = 1 := rfl; omega) hys
        rw [hy2] at hwk
        have HWK := Lib.hid hwk
        have y1 : ¬ 9223372036854775807 < 1 + s.size := by omega
        have y2 : ¬ 9223372036854775807 < 1 + s.size + 1 := by omega
        clear hy hno hy2 hwk hpz hcz hfz hc1
        go_wp2_with fail
        refine HWK.out.mono ?_
        rintro _ w6 ⟨rfl, hbf6, hb6, hk6⟩
        obtain ⟨cs, hyb⟩ := bf_block HBF.out
        have HBF6 := Lib.hid hbf6; have HOW6 := Lib.hid (own_others HOW.out hk6 (by decide) hyb (by decide)); have HBL6 := Lib.hid (HBL.out.trans (hb6.mono hwY))
        clear hbf6 hb6 hk6 hyb c0
        go_wp2_with fail
        go_roundw
        case rel => exact ⟨k + 1, by omega, by go_num, HBF6, HOW6, HBL6⟩
        case measure => simp [intOf]; omega
      · have hgt : ¬ (1 : Int) < (s.size : Int) := by omega
        have hnx := HBF.out
        rw [hno hc1] at hnx
        have HBN := Lib.hid hnx
        clear hy hno hnx hpz hcz hfz hc1
        go_wp2_with fail
        go_roundw
        case rel => exact ⟨k + 1, by omega, by go_num, HBN, HOW, HBL⟩
        case measure => simp [intOf]; omega
    · obtain rfl : N = k := by omega
      have hct := HCT.out
      rw [← HNE.out] at hct
      have hfz := HFL.out N (by have := HNE.out; omega)
      generalize FT N = F at HBF hct hfz
      have HFZ := Lib.hid hfz; clear hfz
      by_cases hF : F = []
      · rw [if_pos hF] at hct
        have HR := Lib.hid hct
        have hz : ((F.length : Nat) : Int) = 0 := by rw [hF]; rfl
        have hz2 : (((F.length : Nat) : Int) == 0) = true := by rw [hz]; rfl
        have HZ := Lib.hid hz
        clear hct hF hz
        go_wp2_with fail
        refine (len_k Y F wr HBF.out).mono ?_
        rintro _ _ ⟨rfl, rfl⟩
        rw [HZ.out]
        clear hz2
        go_wp2_with fail
        go_ret
        exact ⟨by rw [HR.out]; rfl, HBL.out⟩
      · rw [if_neg hF] at hct
        have HR := Lib.hid hct; have HFF := Lib.hid hF
        have hz2 : (((F.length : Nat) : Int) == 0) = false := by rw [beq_eq_false_iff_ne]; intro e; exact hF (List.length_eq_zero_iff.1 (by omega))
        clear hct hF
        go_wp2_with fail
        refine (len_k Y F wr HBF.out).mono ?_
        rintro _ _ ⟨rfl, rfl⟩
        go_wp2_with fail
        refine (string_k Y F _ HBF.out HFF.out).mono ?_
        rintro _ w7 ⟨rfl, hb7⟩
        have HB7 := Lib.hid (HBL.out.trans (hb7.mono hwY)); clear hb7
        go_wp2_with fail
        go_ret
        exact ⟨by rw [HR.out]; rfl, HB7.out⟩

/-- the identity, with q's numbers at some places -/
def over (q p : List Nat) (l : List Nat) : List Nat := l.foldl (fun p x => p.set x (nth q x)) p
theorem over_snoc (q p l : List Nat) (x : Nat) : over q p (l ++ [x]) = (over q p l).set x (nth q x) := by unfold over; rw [List.foldl_append]; rfl
theorem over_len (q : List Nat) : ∀ (l p : List Nat), (over q p l).length = p.length
  | [], p => rfl
  | x :: l, p => by
    have := over_len q l (p.set x (nth q x))
    rw [List.length_set] at this
    exact this
theorem nth_set (p : List Nat) (x v i : Nat) (hx : x < p.length) : nth (p.set x v) i = if i = x then v else nth p i := by
  unfold nth
  rw [List.getElem?_set]
  by_cases h : x = i
  · subst h; simp [hx]
  · rw [if_neg h, if_neg (fun e => h e.symm)]
theorem over_nth (q : List Nat) : ∀ (l p : List Nat) (i : Nat), (∀ x ∈ l, x < p.length) → nth (over q p l) i = if i ∈ l then nth q i else nth p i
  | [], p, i, _ => by simp [over]
  | x :: l, p, i, h => by
    have ih := over_nth q l (p.set x (nth q x)) i (fun y hy => by rw [List.length_set]; exact h y (List.mem_cons_of_mem _ hy))
    show nth (over q (p.set x (nth q x)) l) i = _
    rw [ih, nth_set p x _ i (h x List.mem_cons_self)]
    by_cases h1 : i ∈ l
    · simp [h1]
    · by_cases h2 : i = x
      · simp [h2]
      · simp [h1, h2]
/-- the cycles that are written -/
def bigs (q : List Nat) : List (List Nat) := (cycs q 10).filter fun c => decide (1 < c.length)
theorem bigs_mem {q c : List Nat} (h : c ∈ bigs q) : c ∈ cycs q 10 ∧ 1 < c.length := by
  unfold bigs at h
  rw [List.mem_filter] at h
  exact ⟨h.1, by simpa using h.2⟩
theorem over_end {q : List Nat} (hq : Prm q) : over q (List.range 10) (bigs q).flatten = q := by
  have hlt : ∀ x ∈ (bigs q).flatten, x < 10 := fun x hx => by
    obtain ⟨c, hc, hxc⟩ := List.mem_flatten.1 hx
    exact (cyc_len hq (bigs_mem hc).1).2.2 x hxc
  have hl : (over q (List.range 10) (bigs q).flatten).length = 10 := by rw [over_len]; rfl
  apply List.ext_getElem (by rw [hl, hq.len])
  intro i h1 h2
  have hi : i < 10 := by omega
  rw [← nth_eq h1, ← nth_eq h2, over_nth q _ _ i (fun x hx => by rw [List.length_range]; exact hlt x hx)]
  by_cases hm : i ∈ (bigs q).flatten
  · rw [if_pos hm]
  · rw [if_neg hm]
    obtain ⟨c, hc, hic⟩ := List.mem_flatten.1 (seen_all hq hi)
    obtain ⟨a, ha, rfl⟩ := cycs_mem q 10 c hc
    have hone : (orb q a).length = 1 := by
      have := (cyc_len hq hc).1
      apply Classical.byContradiction
      intro hn
      exact hm (List.mem_flatten.2 ⟨orb q a, by unfold bigs; rw [List.mem_filter]; exact ⟨hc, by simpa using (by omega : 1 < (orb q a).length)⟩, hic⟩)
    rw [orb_one hone] at hic
    have hia : i = a := by simpa using hic
    rw [hia, (orb_fix hq ha).1 hone]
    simp [nth, ha]
theorem orb_next {q : List Nat} {a : Nat} (hq : Prm q) (ha : a < 10) (j : Nat) (hj : j < (orb q a).length) : nth (orb q a) ((j + 1) % (orb q a).length) = nth q (nth (orb q a) j) := by
  obtain ⟨p1, p2, p3, p4⟩ := per_spec hq ha
  have hl : (orb q a).length = per q a := by unfold orb; rw [orbTo_len]
  have hat : ∀ k (h : k < (orb q a).length), (orb q a)[k] = it q a k := fun k h => by simp [orb, orbTo]
  rw [nth_eq (Nat.mod_lt _ (by omega)), nth_eq hj, hat, hat]
  rw [hl] at hj ⊢
  by_cases he : j + 1 = per q a
  · rw [he, Nat.mod_self]
    show a = nth q (it q a j)
    have : it q a (j + 1) = a := by rw [he, p3]
    exact this.symm
  · rw [Nat.mod_eq_of_lt (by omega)]; rfl
/-- the text of some cycles -/
def ctx (l : List (List Nat)) : List UInt8 := l.flatMap fun c => 40 :: (tl (pT c) ++ [41])
theorem ctx_big (l : List (List Nat)) : (l.flatMap fun c => if 1 < c.length then 40 :: (tl (pT c) ++ [41]) else []) = ctx (l.filter fun c => decide (1 < c.length)) := by
  unfold ctx
  induction l with
  | nil => rfl
  | cons x r ih =>
    rw [List.flatMap_cons, ih]
    by_cases h : 1 < x.length
    · rw [if_pos h, List.filter_cons_of_pos (by simpa using h), List.flatMap_cons]
    · rw [if_neg h, List.filter_cons_of_neg (by simpa using h), List.nil_append]
theorem cycT_is (q : List Nat) : cycT q = if bigs q = [] then [40, 41] else ctx (bigs q) := by
  have e : fmtTo (cycs q 10) (cycs q 10).length = ctx (bigs q) := by
    unfold fmtTo
    rw [List.take_length]
    exact ctx_big _
  unfold cycT
  rw [e]
  by_cases h : bigs q = []
  · rw [h]; rfl
  · rw [if_neg h, if_neg]
    cases hb : bigs q with
    | nil => exact absurd hb h
    | cons x r => simp [ctx]
theorem cycT_len {q : List Nat} (hq : Prm q) : (cycT q).length ≤ 120 := by
  have h := fmtTo_len (cycs q 10) (fun c hc => (cyc_len hq hc).2.1) (cycs q 10).length (Nat.le_refl _)
  have h2 := cycs_len q 10
  unfold cycT
  by_cases e : fmtTo (cycs q 10) (cycs q 10).length = []
  · rw [if_pos e]; decide
  · rw [if_neg e]; omega
/-- what is left of the text -/
def rst (L : List (List Nat)) (k : Nat) : ByteArray := if L = [] then mk [40, 41] else mk (ctx (L.drop k))
theorem rst_step {L : List (List Nat)} (hL : ∀ c ∈ L, 1 < c.length ∧ ∀ x ∈ c, x < 10) {k : Nat} (h : k < L.length) :
    tl (rst L k) = 40 :: (tl (pT L[k]) ++ 41 :: tl (rst L (k + 1))) ∧ mk (bef 41 ((tl (rst L k)).drop 1)) = pT L[k] ∧ mk (aft 41 ((tl (rst L k)).drop 1)) = rst L (k + 1) ∧ (41 : UInt8) ∈ (tl (rst L k)).drop 1 := by
  have hn : L ≠ [] := by intro e; rw [e] at h; simp at h
  have e1 : tl (rst L k) = 40 :: (tl (pT L[k]) ++ 41 :: tl (rst L (k + 1))) := by
    unfold rst
    rw [if_neg hn, if_neg hn, tl_mk, tl_mk, List.drop_eq_getElem_cons h]
    show (_ :: (_ ++ [41])) ++ _ = _
    rw [List.cons_append, List.append_assoc]; rfl
  have hno : (41 : UInt8) ∉ tl (pT L[k]) := letters_not (pT_letters (hL _ (List.getElem_mem h)).2) (by decide)
  refine ⟨e1, ?_, ?_, ?_⟩
  · rw [e1, List.drop_succ_cons, List.drop_zero, (bef_of hno).1, mk_tl]
  · rw [e1, List.drop_succ_cons, List.drop_zero, (bef_of hno).2, mk_tl]
  · rw [e1, List.drop_succ_cons, List.drop_zero]; simp
theorem rst_less {L : List (List Nat)} (hL : ∀ c ∈ L, 1 < c.length ∧ ∀ x ∈ c, x < 10) {k : Nat} (h : k < L.length) : 4 + (rst L (k + 1)).size ≤ (rst L k).size := by
  have h1 := congrArg List.length (rst_step hL h).1
  have h2 := (hL _ (List.getElem_mem h)).1
  simp only [List.length_cons, List.length_append, length_tl, pT_size] at h1
  omega

set_option maxHeartbeats 8000000 in
set_option maxRecDepth 100000 in
theorem parseCycles_yes (w : World) (hml : ML w) (q : List Nat) (hq : Prm q) :
    Calls Tryz.prog 205 #[.string (mk (cycT q))] w fun e w' => e = .returned (.tuple #[.string (pT q), .bool true]) ∧ Below w.heap.size w w' := by
  have hfp := fun w' => formatCycles_any w' q hq
  have hps := fun w' => permStr_any w' q hq.toTen
  have hpq : mk (q.map letter) = pT q := rfl
  rw [hpq] at hps
  have hTz : (mk (cycT q)).size ≤ 120 := by rw [size_mk]; exact cycT_len hq
  have hidn := fun w' => identity_any w'
  have hLm : ∀ c ∈ bigs q, 1 < c.length ∧ ∀ x ∈ c, x < 10 := fun c hc => ⟨(bigs_mem hc).2, (cyc_len hq (bigs_mem hc).1).2.2⟩
  have hLn : ∀ c ∈ bigs q, c.length ≤ 10 := fun c hc => (cyc_len hq (bigs_mem hc).1).2.1
  have hnx : ∀ c ∈ bigs q, ∀ j, j < c.length → nth c ((j + 1) % c.length) = nth q (nth c j) := fun c hc j hj => by
    obtain ⟨a, ha, rfl⟩ := cycs_mem q 10 c (bigs_mem hc).1
    exact orb_next hq ha j hj
  have fend := over_end hq
  have f0 : over q (List.range 10) [] = List.range 10 := rfl
  have fsn := over_snoc q (List.range 10)
  have flen : ∀ l, (over q (List.range 10) l).length = 10 := fun l => by rw [over_len]; rfl
  have hT0 : mk (cycT q) = rst (bigs q) 0 := by
    rw [cycT_is]; unfold rst
    by_cases e : bigs q = []
    · rw [if_pos e, if_pos e]
    · rw [if_neg e, if_neg e, List.drop_zero]
  have hTe : ((rst (bigs q) (bigs q).length).toList == []) = true ∨ (((rst (bigs q) (bigs q).length).toList == []) = false ∧ ((rst (bigs q) (bigs q).length).toList == [40, 41]) = true) := by
    unfold rst
    by_cases e : bigs q = []
    · rw [if_pos e, toList_tl, tl_mk]; exact .inr ⟨rfl, rfl⟩
    · rw [if_neg e, toList_tl, tl_mk, List.drop_length]; exact .inl rfl
  have hls := fun k (h : k < (bigs q).length) => rst_less hLm h
  have hst := fun k (h : k < (bigs q).length) => rst_step hLm h
  have hqt := hq.toTen
  generalize over q (List.range 10) = F at fend f0 fsn flen
  rw [hT0] at hfp hTz ⊢
  clear hT0
  generalize bigs q = L at hTe hls hst hLm hLn hnx fend hfp hTz ⊢
  obtain ⟨RS, hRS⟩ : ∃ RS, RS = rst L := ⟨_, rfl⟩
  rw [← hRS] at hTe hls hst hfp hTz ⊢
  clear hRS
  have hnz := fun k (h : k < L.length) => (show ((RS k).toList == []) = false ∧ ((RS k).toList == [40, 41]) = false from by
    have h1 := hst k h
    have h2 := hls k h
    have h3 : (RS k).toList.length = (RS k).size := by rw [toList_tl, length_tl]
    constructor
    · rw [beq_eq_false_iff_ne]; intro e; rw [e] at h3; simp at h3; omega
    · rw [beq_eq_false_iff_ne]; intro e; rw [e] at h3; simp at h3; omega)
  have hRz : ∀ k, k ≤ L.length → (RS k).size ≤ 120 := fun k => by
    induction k with
    | zero => intro _; exact hTz
    | succ k ih => intro h; have := ih (by omega); have := hls k (by omega); omega
  have hbq : ((RS 0).toList == (RS 0).toList) = true := beq_self_eq_true _
  have HFP := Lib.hid hfp; have HPS := Lib.hid hps; have HID := Lib.hid hidn; have HQL := Lib.hid hq.len; have HF0 := Lib.hid f0; have HFE := Lib.hid fend
  have HSN := Lib.hid fsn; have HFL := Lib.hid flen; have HTE := Lib.hid hTe; have HLS := Lib.hid hls; have HST := Lib.hid hst; have HNZ := Lib.hid hnz; have HRZ := Lib.hid hRz
  have HLM := Lib.hid hLm; have HLN := Lib.hid hLn; have HNX := Lib.hid hnx; have HML := Lib.hid hml
  clear hfp hps hidn hq hpq f0 fend fsn flen hTe hls hst hnz hRz hLm hLn hnx hml hqt hTz
  obtain ⟨S, hS⟩ : ∃ S, S = pT q := ⟨_, rfl⟩
  rw [← hS] at HFP HPS ⊢
  clear hS
  have HT0 := Lib.hid (show (List.range 10).length = 10 from rfl)
  obtain ⟨r0, hr0⟩ : ∃ r0, r0 = List.range 10 := ⟨_, rfl⟩
  rw [← hr0] at HID HF0 HT0
  clear hr0
  go_enter Tryz.func205, Tryz.ntmps205
  go_wp2_with fail
  refine (HID.out _).mono ?_
  rintro _ w1 ⟨rfl, hb1⟩
  have HG1 := Lib.hid (PB.made w1)
  have HS3 := Lib.hid (HG1.out.row r0)
  have HB3 := Lib.hid (below_setRow (hb1.alloc hb1.size (.cells #[.int .u8 0, .int .u8 0, .int .u8 0, .int .u8 0, .int .u8 0, .int .u8 0, .int .u8 0, .int .u8 0, .int .u8 0, .int .u8 0] 101)) hb1.size (pC r0))
  obtain ⟨Q, hQ⟩ : ∃ Q, Q = w1.heap.size := ⟨_, rfl⟩
  have hwQ : w.heap.size ≤ Q := by rw [hQ]; exact hb1.size
  clear hb1
  go_wp2_with (first | (refine wpList_store_row rfl 101 _ _ rfl w1.heap.size (pC r0) rfl rfl _ _ HG1.out (permSize HT0.out) (by rw [pC_size, pC_size, HT0.out]; rfl) (pC_one _) ?_))
  obtain ⟨w3, hw3⟩ : ∃ w3, w3 = (w1.alloc (.cells #[.int .u8 0, .int .u8 0, .int .u8 0, .int .u8 0, .int .u8 0, .int .u8 0, .int .u8 0, .int .u8 0, .int .u8 0, .int .u8 0] 101)).setRow w1.heap.size (pC r0) := ⟨_, rfl⟩
  rw [← hw3] at HS3 HB3 ⊢
  rw [← hQ] at HS3 ⊢
  clear hw3 HG1 hQ
  go_loopw [5] (fun R wr => ∃ k : Nat, k ≤ L.length ∧ R = .string (RS k) ∧ Hid (PB wr Q (F (L.take k).flatten)) ∧ Hid (Below w.heap.size w wr)) (fun R _ => szOf R)
  case atStart => exact ⟨0, Nat.zero_le _, rfl, Lib.hid (by rw [List.take_zero, List.flatten_nil, HF0.out]; exact HS3.out), HB3⟩
  case round =>
    obtain ⟨k, hk, rfl, HPB, HBL⟩ := hrel
    clear HS3 HB3
    by_cases hlt : k < L.length
    · obtain ⟨e1, e2, e3, e4⟩ := HST.out k hlt
      have n1 := (HNZ.out k hlt).1
      have n2 := (HNZ.out k hlt).2
      have hz := HRZ.out k hk
      have hz2 := HLS.out k hlt
      have v0 : (0 : Int) < ((RS k).size : Int) := by omega
      have b0 : ((((RS k)[0]'(by omega)).toNat : Int) != 40) = false := by
        have : (RS k)[0]'(by omega) = 40 := by rw [getElem_tl]; simp [e1]
        rw [this]; decide
      have he : tl ((RS k).extract 1 (RS k).size) = (tl (RS k)).drop 1 := by
        rw [extract_mk', tl_mk, List.take_of_length_le (by rw [List.length_drop, length_tl]; omega)]
      have hcut := cut_any wr ((RS k).extract 1 (RS k).size) 41 (HML.out.below HBL.out (Nat.le_refl _)) (by rw [← length_tl, he, List.length_drop, length_tl]; omega)
      rw [he, e2, e3, decide_eq_true e4] at hcut
      obtain ⟨hc1, hclt⟩ := HLM.out _ (List.getElem_mem hlt)
      have hc10 := HLN.out _ (List.getElem_mem hlt)
      have hnx := HNX.out _ (List.getElem_mem hlt)
      have htk : (L.take (k + 1)).flatten = (L.take k).flatten ++ L[k] := by rw [List.take_succ_eq_append_getElem hlt, List.flatten_append]; simp
      generalize L[k] = c at hcut hc1 hclt hc10 hnx htk
      have HCUT := Lib.hid hcut
      have hsz := pT_size c
      have hwv := pT_wv hclt (by omega)
      have hle : ∀ j (h : j < (pT c).size), isL (pT c)[j] = true ∧ dg (pT c)[j] = nth c j := fun j h => by
        have hj : j < c.length := by omega
        have hx := hclt _ (List.getElem_mem hj)
        rw [pT_at h hj, nth_eq hj]
        exact ⟨isL_letter hx, dg_letter hx⟩
      have hsn : ∀ j, j < c.length → (F ((L.take k).flatten ++ c.take j)).set (nth c j) (nth c ((j + 1) % c.length)) = F ((L.take k).flatten ++ c.take (j + 1)) := fun j hj => by
        rw [hnx j hj, ← HSN.out, List.append_assoc]
        congr 2
        rw [List.take_succ_eq_append_getElem hj, nth_eq hj]
      have hmf : (L.take k).flatten ++ c.take c.length = (L.take (k + 1)).flatten := by rw [List.take_length, htk]
      have HLE := Lib.hid hle; have HSN2 := Lib.hid hsn; have HMF := Lib.hid hmf; have HWV := Lib.hid hwv
      clear hle hsn hmf hwv hnx htk hclt he e1 e2 e3 e4 hcut
      obtain ⟨m, hm⟩ : ∃ m, m = c.length := ⟨_, rfl⟩
      rw [← hm] at hsz HSN2 HMF hc1 hc10
      have hpb : PB wr Q (F ((L.take k).flatten ++ c.take 0)) := by rw [List.take_zero, List.append_nil]; exact HPB.out
      have HPB0 := Lib.hid hpb
      clear hm hpb HPB
      have hgt : ¬ (10 : Int) < ((pT c).size : Int) := by omega
      generalize pT c = s at HCUT HLE HWV hsz hgt
      go_wp2_with fail
      refine HCUT.out.mono ?_
      rintro _ w4 ⟨rfl, n4, hw4⟩
      have HPB4 := Lib.hid (show PB w4 Q _ by rw [hw4]; exact HPB0.out)
      have HBL4 := Lib.hid (show Below w.heap.size w w4 by rw [hw4]; exact below_drewN' HBL.out n4)
      clear hw4 HPB0 HBL HCUT
      go_wp2_with fail
      refine (wordValid_is _ true _ HWV.out).mono ?_
      rintro _ _ ⟨rfl, rfl⟩
      go_wp2_with fail
      go_loopw [9, 43] (fun _ i wx => ∃ j : Nat, j ≤ m ∧ i = .int .i64 j ∧ Hid (PB wx Q (F ((L.take k).flatten ++ c.take j))) ∧ Hid (Below w.heap.size w wx)) (fun _ i _ => m - (intOf i).toNat)
      case atStart => exact ⟨0, Nat.zero_le _, rfl, HPB4, HBL4⟩
      case round =>
        obtain ⟨j, hj, rfl, HPX, HBX⟩ := hrel
        clear HPB4 HBL4
        by_cases hjm : j < m
        · obtain ⟨t, ht⟩ : ∃ t, t = (j + 1) % m := ⟨_, rfl⟩
          have hsn := HSN2.out j hjm
          rw [← ht] at hsn
          have hm1 : t < m := by rw [ht]; exact Nat.mod_lt _ (by omega)
          have w2 : ((j : Int) + 1).tmod (m : Int) = (t : Int) := by rw [ht, Int.tmod_eq_emod_of_nonneg (by omega)]; push_cast; rfl
          clear ht
          have y0 : j < s.size := by omega
          have y1 : t < s.size := by omega
          obtain ⟨x0, z0⟩ := HLE.out j y0
          obtain ⟨x1, z1⟩ := HLE.out t y1
          have g0 := dg_lt x0
          have g1 := dg_lt x1
          have v0 : (j : Int) < (m : Int) := by omega
          have v3 : ((dg s[j] : Nat) : Int) < 10 := by omega
          have v2 : (t : Int) < (m : Int) := by omega
          rw [← z0, ← z1] at hsn
          have hpp := HPX.out.put (dg s[j]) (dg s[t])
          rw [hsn] at hpp
          have hfl := HFL.out ((L.take k).flatten ++ c.take j)
          obtain ⟨xx, d0⟩ : ∃ x, wr.cell? ⟨Q, dg s[j], none⟩ = some x := ⟨_, HPX.out.cell (k := dg s[j]) (by omega)⟩
          have f0 := HPX.out.frozen (dg s[j])
          have hbp := HBX.out.setCell (p := ⟨Q, dg s[j], none⟩) hwQ (.int .u8 (dg s[t] : Int))
          have w1 : IntKind.u8.wrap ((dg s[t] : Nat) : Int) = ((dg s[t] : Nat) : Int) := by rw [IntKind.wrap_u8]; omega
          have q0 : ¬ m = 0 := by omega
          have w3 : IntKind.i64.wrap ((j : Int) + 1) = (j : Int) + 1 := by rw [IntKind.wrap_i64]; omega
          have HPP := Lib.hid hpp; have HBP := Lib.hid hbp
          clear hpp hbp hfl hsn z0 z1
          go_wp2_with fail
          go_region_law (first | (go_simp; go_at_call 91; refine (number_any _ _ (by first | exact x0 | exact x1)).mono ?_; rintro _ w6 ⟨rfl, rfl⟩) | fail)
          all_goals
            clear w1 w2 w3 d0 f0
            go_wp2_with fail
            go_roundw
            case rel => exact ⟨j + 1, by omega, by go_num, HPP, by first | exact HBP | exact Lib.hid HBP.out.drew⟩
            case measure => simp [intOf]; omega
        · obtain rfl : m = j := by omega
          have hpx := HPX.out
          rw [HMF.out] at hpx
          have HPF := Lib.hid hpx
          clear hpx HPX
          go_wp2_with fail
          go_roundw
          case rel => exact ⟨k + 1, by omega, rfl, HPF, HBX⟩
          case measure => simp [szOf]; omega
    · obtain rfl : k = L.length := by omega
      have hpf := HPB.out
      rw [List.take_length, HFE.out] at hpf
      have HPF := Lib.hid hpf; clear hpf HPB
      rcases HTE.out with hte | ⟨hte, hte2⟩
      · go_wp2_with (refine wpList_load_row rfl 101 _ rfl Q rfl _ _ _ _ HPF.out Tryz.underlying101 rfl (permSize HQL.out) ?_)
        refine (HPS.out _).mono ?_
        rintro _ w5 ⟨rfl, hb5⟩
        have HB5 := Lib.hid (HBL.out.trans (hb5.mono HBL.out.size)); clear hb5
        go_wp2_with fail
        refine (HFP.out _).mono ?_
        rintro _ w6 ⟨rfl, hb6⟩
        have HB6 := Lib.hid (HB5.out.trans (hb6.mono HB5.out.size)); clear hb6
        go_wp2_with fail
        go_ret2
        exact ⟨rfl, HB6.out⟩
      · go_wp2_with (refine wpList_load_row rfl 101 _ rfl Q rfl _ _ _ _ HPF.out Tryz.underlying101 rfl (permSize HQL.out) ?_)
        refine (HPS.out _).mono ?_
        rintro _ w5 ⟨rfl, hb5⟩
        have HB5 := Lib.hid (HBL.out.trans (hb5.mono HBL.out.size)); clear hb5
        go_wp2_with fail
        refine (HFP.out _).mono ?_
        rintro _ w6 ⟨rfl, hb6⟩
        have HB6 := Lib.hid (HB5.out.trans (hb6.mono HB5.out.size)); clear hb6
        go_wp2_with fail
        go_ret2
        exact ⟨rfl, HB6.out⟩

end

section
open Go.RowKit Pl Go.Sort

/-- the lengths of a permutation's cycles, in descending order -/
def lenI (q : List Nat) : List Int := (((cycs q 10).map fun c => (c.length : Int)).mergeSort fun x y => decide (x ≤ y)).reverse
def lenD (q : List Nat) : List Nat := (lenI q).map Int.toNat
theorem lenI_mem {q : List Nat} (hq : Prm q) {x : Int} (h : x ∈ lenI q) : 1 ≤ x ∧ x ≤ 10 := by
  unfold lenI at h
  rw [List.mem_reverse, List.mem_mergeSort, List.mem_map] at h
  obtain ⟨c, hc, rfl⟩ := h
  have := cyc_len hq hc
  omega
theorem lenI_length (q : List Nat) : (lenI q).length = (cycs q 10).length := by unfold lenI; rw [List.length_reverse, List.length_mergeSort, List.length_map]
theorem lenD_length (q : List Nat) : (lenD q).length = (cycs q 10).length := by unfold lenD; rw [List.length_map, lenI_length]
theorem lenD_mem {q : List Nat} (hq : Prm q) {x : Nat} (h : x ∈ lenD q) : 1 ≤ x ∧ x ≤ 10 := by
  unfold lenD at h
  obtain ⟨y, hy, rfl⟩ := List.mem_map.1 h
  have := lenI_mem hq hy
  omega
theorem natV_lenD {q : List Nat} (hq : Prm q) : natV (lenD q) = (lenI q).map (Value.int .i64) := by
  unfold natV lenD
  rw [List.map_map]
  apply List.map_congr_left
  intro x hx
  have := lenI_mem hq hx
  show Value.int .i64 ((x.toNat : Nat) : Int) = _
  congr 1
  omega
/-- the lengths of the first cycles -/
def lensTo (l : List (List Nat)) (k : Nat) : List Nat := (l.take k).map List.length
theorem lensTo_snoc {l : List (List Nat)} {k : Nat} (h : k < l.length) : lensTo l k ++ [l[k].length] = lensTo l (k + 1) := by
  unfold lensTo
  rw [List.take_succ_eq_append_getElem h, List.map_append]; rfl
theorem lensTo_length {l : List (List Nat)} {k : Nat} (h : k ≤ l.length) : (lensTo l k).length = k := by
  unfold lensTo
  rw [List.length_map, List.length_take]; omega
theorem cycs_some {q : List Nat} (hq : Prm q) : 0 < (cycs q 10).length := by
  obtain ⟨c, hc, _⟩ := List.mem_flatten.1 (seen_all hq (show 0 < 10 by omega))
  exact List.length_pos_of_mem hc
def LenMade (q : List Nat) (w : World) (e : Ending) (w' : World) : Prop := ∃ A cap, e = .returned (.slice A (lenD q).length cap) ∧ w'.ownsRow w.heap.size 3 1 (.slice A (lenD q).length cap) (lenD q).length (natV (lenD q)) ∧ Below w.heap.size w w'

/-- what sorting and turning make of a slice of numbers that a call has made -/
theorem turned_row {w5 : World} {base g cap : Nat} {zs : List Int} {cur : Array Value} {n : Nat} {os : Array Obj} (ts : List Int) (hl : ts.length = zs.length) (hbase : base ≤ g) (hb : w5.heap[g]? = some (.cells cur 3 (0, 0))) (h1 : zs.length ≤ cap) (h2 : cap ≤ maxLen) (h3 : cur.size = cap * 1) :
    (grow (putRow (Value.int .i64) (Sort.ahead w5 n) g 0 ts.toArray) os).ownsRow base 3 1 (.slice (some ⟨g, 0, none⟩) zs.length cap) zs.length (ts.map (Value.int .i64)) ∧ Below base w5 (grow (putRow (Value.int .i64) (Sort.ahead w5 n) g 0 ts.toArray) os) := by
  have hg : g < w5.heap.size := (Array.getElem?_eq_some_iff.1 hb).1
  refine ⟨ownsRow_sortedI hl hbase hb h1 h2 h3, (Below.refl _ _).grown (grownBy_sortedI ts.toArray) (by omega) fun k' e => ?_⟩
  have : g = k' := by simpa using e
  omega

set_option maxHeartbeats 4000000 in
set_option maxRecDepth 100000 in
theorem lengths_any (w : World) (q : List Nat) (hq : Prm q) :
    Calls Tryz.prog 165 #[.agg (pC q)] w (LenMade q w) := by
  obtain ⟨iI, hi, hz0, hz1, hz2⟩ := info_parts Tryz.infoI
  have HI := Lib.hid hi; have HZ0 := Lib.hid hz0; have HZ1 := Lib.hid hz1; have HZ2 := Lib.hid hz2
  clear hi hz0 hz1 hz2
  have hcy := fun w' => cycles_any w' q hq
  unfold CycMade at hcy
  have hat := cycS_at q 10
  have hsl := cycS_len q 10
  have hcl := fun c (hc : c ∈ cycs q 10) => cyc_len hq hc
  have hl10 := cycs_len q 10
  have hl0 := cycs_some hq
  have hnd := natV_lenD hq
  have hll := lenD_length q
  have hlI : lenI q = (((lensTo (cycs q 10) (cycs q 10).length).map fun n : Nat => (n : Int)).mergeSort fun x y => decide (x ≤ y)).reverse := by
    unfold lenI lensTo
    rw [List.take_length, List.map_map]; rfl
  rw [hlI] at hnd
  clear hlI
  unfold LenMade
  generalize lenD q = D at hnd hll ⊢
  generalize cycS q 10 = SS at hcy hat hsl
  generalize cycs q 10 = L at hnd hll hat hsl hcl hl10 hl0
  have hsn := fun k (h : k < L.length) => lensTo_snoc h
  have hlt := fun k (h : k ≤ L.length) => lensTo_length h
  have hl00 : lensTo L 0 = [] := by simp [lensTo]
  generalize lensTo L = LT at hnd hsn hlt hl00
  have HCY := Lib.hid hcy; have HAT := Lib.hid hat; have HSL := Lib.hid hsl; have HCL := Lib.hid hcl; have HND := Lib.hid hnd; have HLL := Lib.hid hll; have HSN := Lib.hid hsn; have HLT := Lib.hid hlt; have HL0 := Lib.hid hl00; have HQL := Lib.hid hq.len
  clear hcy hat hsl hcl hnd hll hsn hlt hl00 hq
  have hs0 := SB.made w (pC q) 101
  have hb0 : Below w.heap.size w (w.alloc (.cells (pC q) 101)) := (Below.refl _ _).alloc (Nat.le_refl _) _
  have HS0 := Lib.hid hs0; have HB0 := Lib.hid hb0
  clear hs0 hb0
  go_enter Tryz.func165, Tryz.ntmps165
  go_wp2_with (refine wpList_load_row rfl 101 _ rfl w.heap.size rfl _ _ _ _ HS0.out Tryz.underlying101 rfl (permSize HQL.out) ?_)
  refine (HCY.out _).mono ?_
  rintro _ w2 ⟨A, cap, rfl, hown, hb2⟩
  have HRD := Lib.hid (own_rd3' hown); have HB2 := Lib.hid (HB0.out.trans (hb2.mono HB0.out.size))
  clear hown hb2 HB0 HS0 HCY
  have hsl := HSL.out
  rw [hsl]
  obtain ⟨N, hN⟩ : ∃ N, N = L.length := ⟨_, rfl⟩
  rw [← hN] at hl10 hl0 ⊢
  have HNE := Lib.hid hN; clear hN hsl
  go_wp2_with fail
  go_loopw [3, 9] (fun o i wr => ∃ k : Nat, k ≤ N ∧ i = .int .i64 k ∧ Hid (wr.ownsRow w2.heap.size 3 1 o k (natV (LT k))) ∧ Hid (Below w2.heap.size w2 wr)) (fun _ i _ => N - (intOf i).toNat)
  case atStart => exact ⟨0, Nat.zero_le _, rfl, Lib.hid (by rw [HL0.out]; exact World.ownsRow_nil _ _ _ _), Lib.hid (Below.refl _ _)⟩
  case round =>
    obtain ⟨k, hk, rfl, HO, HBL⟩ := hrel
    obtain ⟨A3, c3, e3⟩ := slot_slice HO.out
    subst e3
    by_cases hlt : k < N
    · have hkL : k < L.length := by have := HNE.out; omega
      have hkS : k < SS.length := by have := HSL.out; omega
      have hrd := (HRD.out.below HBL.out)
      obtain ⟨b0, off, rfl, _, c0⟩ := hrd.str hkS
      rw [HAT.out k hkL hkS] at c0
      have hsn := HSN.out k hkL
      have hcz := (HCL.out _ (List.getElem_mem hkL)).2.1
      generalize L[k] = c at c0 hsn hcz
      have hpz := pT_size c
      obtain ⟨s, hs⟩ : ∃ s, s = pT c := ⟨_, rfl⟩
      rw [← hs] at c0 hpz
      have HSX := Lib.hid hsn
      have v0 : (k : Int) < (N : Int) := by omega
      have hbs := HBL.out.size
      clear hs hrd hsn
      go_wp2_with (at_builtin; refine wpList_append_own _ rfl _ _ 54 rfl w2.heap.size 3 iI (.int .i64 0) 1 8 Tryz.undI HI.out HZ0.out HZ1.out HZ2.out rfl (by decide) _ k _ rfl (HO.out.alloc _) ⟨wr.heap.size, 0, none⟩ 1 1 [.int .i64 (c.length : Int)] rfl rfl (one_new wr _ _) nat_cell (by unfold maxLen; omega) (by omega) (by simp; omega) ?_)
      intro v' w6 ho' hg' _
      rw [natV_snoc, HSX.out] at ho'
      have hb6 := (HBL.out.alloc HBL.out.size _).grown hg' (Nat.le_trans HBL.out.size (by simp)) fun k' e => (HO.out.lt k' e).1
      have HO6 := Lib.hid ho'; have HB6 := Lib.hid hb6; clear ho' hg' hb6
      go_wp2_with fail
      go_roundw
      case rel => exact ⟨k + 1, by omega, by go_num, HO6, HB6⟩
      case measure => simp [intOf]; omega
    · obtain rfl : N = k := by omega
      have hln := HLT.out N (by have := HNE.out; omega)
      have ho := HO.out
      obtain ⟨h0, ⟨hno, hz⟩ | ⟨g, cap', cur, hv, hg, hb, hnc, hcm, hcz, htk⟩⟩ := ho
      · omega
      · have hv' := hv
        simp only [Value.slice.injEq, true_and] at hv'
        obtain ⟨rfl, rfl⟩ := hv'
        obtain ⟨ZS, hZS⟩ : ∃ ZS : List Int, ZS = (LT N).map fun n : Nat => (n : Int) := ⟨_, rfl⟩
        have hZl : ZS.length = N := by rw [hZS, List.length_map, hln]
        have hZv : natV (LT N) = ZS.map (Value.int .i64) := by rw [hZS, List.map_map]; rfl
        have hnd := HND.out
        rw [← HNE.out, ← hZS] at hnd
        have hho := holds_of_blockI (ss := ZS) hb (by rw [hZl, ← hZv, ← htk, Nat.mul_one])
        have hgl : g < wr.heap.size := (Array.getElem?_eq_some_iff.1 hb).1
        have hsrt := Tryz.slices_Sort_int g 0 c3 ZS wr hho hgl (by omega)
        rw [hZl] at hsrt
        have HSRT := Lib.hid hsrt; have HBK := Lib.hid hb; have HNDX := Lib.hid hnd; have HZL := Lib.hid hZl
        clear hsrt hho hb hZv hnd hZl hZS htk hln
        go_wp2_with fail
        refine HSRT.out.mono ?_
        rintro _ w5 ⟨rfl, n5, os5, hw5⟩
        obtain ⟨TS, hTS⟩ : ∃ TS, TS = ZS.mergeSort fun x y => decide (x ≤ y) := ⟨_, rfl⟩
        have hTl : TS.length = ZS.length := by rw [hTS, List.length_mergeSort]
        have hndx := HNDX.out
        rw [← hTS] at hw5 hndx
        obtain ⟨ho5, hb5⟩ := turned_row (base := w2.heap.size) (n := n5) (os := os5) TS hTl hg HBK.out (by rw [HZL.out]; exact hnc) hcm hcz
        rw [← hw5] at ho5 hb5
        clear hTS hw5 HSRT HBK HNDX
        obtain ⟨h0', ⟨hno', hz'⟩ | ⟨g', cap', cur', hv', hg', hb', hnc', hcm', hcz', htk'⟩⟩ := ho5
        · rw [HZL.out] at hz'; omega
        · simp only [Value.slice.injEq, Option.some.injEq, Addr.mk.injEq, and_true, true_and] at hv'
          obtain ⟨rfl, rfl⟩ := hv'
          have hho := holds_of_blockI (ss := TS) hb' (by rw [hTl, ← htk', Nat.mul_one])
          have hgl : g < w5.heap.size := (Array.getElem?_eq_some_iff.1 hb').1
          have hrev := Tryz.slices_Reverse_int g 0 c3 TS w5 hho (by rw [hTl, HZL.out]; omega)
          rw [hTl, HZL.out] at hrev
          have HREV := Lib.hid hrev; have HBK := Lib.hid hb'; have HNDX := Lib.hid hndx; have HTL := Lib.hid (hTl.trans HZL.out); have HB5 := Lib.hid (HBL.out.trans hb5)
          clear hrev hho hb' hndx hTl htk' hb5
          go_wp2_with fail
          refine HREV.out.mono ?_
          rintro _ w7 ⟨rfl, n7, hw7⟩
          obtain ⟨US, hUS⟩ : ∃ US, US = TS.reverse := ⟨_, rfl⟩
          have hUl : US.length = TS.length := by rw [hUS, List.length_reverse]
          have hndx := HNDX.out
          rw [← hUS] at hw7 hndx
          have hw7' : w7 = grow (putRow (Value.int .i64) (Sort.ahead w5 n7) g 0 US.toArray) #[] := by rw [hw7, grow_empty]
          obtain ⟨ho7, hb7⟩ := turned_row (base := w2.heap.size) (n := n7) (os := #[]) US hUl hg HBK.out (by rw [HTL.out]; exact hnc) hcm hcz'
          rw [← hw7', HTL.out, ← hndx] at ho7
          rw [← hw7'] at hb7
          have HO7 := Lib.hid ho7; have HB7 := Lib.hid (HB2.out.trans ((HB5.out.trans hb7).mono HB2.out.size))
          have hdl : D.length = N := by rw [HLL.out, HNE.out]
          clear ho7 hb7 hw7' hw7 hUS hndx HREV HBK HNDX HB5
          go_wp2_with fail
          go_ret
          rw [hdl]
          exact ⟨_, _, rfl, own_mono3 HO7.out HB2.out.size, HB7.out⟩

/-- the number whose bits tell which lengths are odd in number -/
def oddF (D : List Nat) : Nat → Int
  | 0 => 0
  | k + 1 => bits BinOp.xor IntKind.i64 (oddF D k) (wrap64 (2 ^ nth D k))

set_option maxHeartbeats 4000000 in
set_option maxRecDepth 100000 in
theorem paired_any (q : List Nat) (hq : Prm q) : ∃ b : Bool, ∀ w : World,
    Calls Tryz.prog 257 #[.agg (pC q)] w fun e w' => e = .returned (.bool b) ∧ Below w.heap.size w w' := by
  refine ⟨oddF (lenD q) (lenD q).length == 0, fun w => ?_⟩
  have hle := fun w' => lengths_any w' q hq
  unfold LenMade at hle
  have hmm := fun x (hx : x ∈ lenD q) => lenD_mem hq hx
  have hl10 : (lenD q).length ≤ 10 := by rw [lenD_length]; exact cycs_len q 10
  generalize lenD q = D at hle hmm hl10 ⊢
  have ho0 : oddF D 0 = 0 := rfl
  have ho1 : ∀ k, oddF D (k + 1) = bits BinOp.xor IntKind.i64 (oddF D k) (wrap64 (2 ^ nth D k)) := fun k => rfl
  generalize oddF D = od at ho0 ho1 ⊢
  have HLE := Lib.hid hle; have HMM := Lib.hid hmm; have HQL := Lib.hid hq.len; have HO0 := Lib.hid ho0; have HO1 := Lib.hid ho1
  clear hle hmm hq ho0 ho1
  have hs0 := SB.made w (pC q) 101
  have hb0 : Below w.heap.size w (w.alloc (.cells (pC q) 101)) := (Below.refl _ _).alloc (Nat.le_refl _) _
  have HS0 := Lib.hid hs0; have HB0 := Lib.hid hb0
  clear hs0 hb0
  go_enter Tryz.func257, Tryz.ntmps257
  go_wp2_with (refine wpList_load_row rfl 101 _ rfl w.heap.size rfl _ _ _ _ HS0.out Tryz.underlying101 rfl (permSize HQL.out) ?_)
  refine (HLE.out _).mono ?_
  rintro _ w2 ⟨A, cap, rfl, hown, hb2⟩
  have HRD := Lib.hid (own_rd3' hown); have HB2 := Lib.hid (HB0.out.trans (hb2.mono HB0.out.size))
  clear hown hb2 HB0 HS0 HLE
  obtain ⟨N, hN⟩ : ∃ N, N = D.length := ⟨_, rfl⟩
  rw [← hN] at hl10 ⊢
  go_wp2_with fail
  go_loopw [3, 9] (fun o i wr => ∃ k : Nat, k ≤ N ∧ i = .int .i64 k ∧ o = .int .i64 (od k) ∧ wr = w2) (fun _ i _ => N - (intOf i).toNat)
  case atStart => exact ⟨0, Nat.zero_le _, rfl, by rw [HO0.out], rfl⟩
  case round =>
    obtain ⟨k, hk, rfl, rfl, rfl⟩ := hrel
    by_cases hlt : k < N
    · obtain ⟨b, off, rfl, hbb, r0⟩ := HRD.out.nat (k := k) (by omega)
      have hm := HMM.out _ (List.getElem_mem (show k < D.length by omega))
      have ho := HO1.out k
      rw [nth_eq (show k < D.length by omega)] at ho
      generalize D[k]'(by omega) = n at r0 hm ho
      have HO := Lib.hid ho; clear ho
      have v0 : (k : Int) < (N : Int) := by omega
      go_wp2_with fail
      go_roundw
      case rel => exact ⟨k + 1, by omega, by go_num, by rw [HO.out], trivial⟩
      case measure => simp [intOf]; omega
    · obtain rfl : N = k := by omega
      cases hz : (od N == 0) with
      | true =>
        go_wp2_with fail
        go_ret
        exact ⟨by rw [← hN, hz]; rfl, HB2.out⟩
      | false =>
        go_wp2_with fail
        go_ret
        exact ⟨by rw [← hN, hz]; rfl, HB2.out⟩

/-- the end of a run of equal numbers -/
def runG (D : List Nat) (v : Nat) : Nat → Nat → Nat
  | 0, t => t
  | n + 1, t => if nth D t = v then runG D v n (t + 1) else t
theorem runG_le (D : List Nat) (v : Nat) : ∀ n t, t ≤ runG D v n t ∧ runG D v n t ≤ t + n
  | 0, t => by simp [runG]
  | n + 1, t => by
    have := runG_le D v n (t + 1)
    unfold runG
    split <;> omega
def prodG (v : Nat) : Nat → Nat → Nat
  | 0, n => n
  | 1, _ => 0
  | l + 2, n => prodG v l (n * ((l + 1) * v))
def facG (D : List Nat) (z : Nat) : Nat → Nat → Nat → Nat
  | 0, _, n => n
  | u + 1, f, n => if f < z then facG D z u (runG D (nth D f) (z - f) f) (prodG (nth D f) (runG D (nth D f) (z - f) f - f) n) else n
theorem prodG_le (v t : Nat) (hv : v ≤ 10) : ∀ l n, l ≤ t → l ≤ 10 → n ≤ 10 ^ (t - l) → prodG v l n ≤ 10 ^ t
  | 0, n, _, _, h => by simpa [prodG] using h
  | 1, n, _, _, h => Nat.zero_le _
  | l + 2, n, h1, h2, h => by
    unfold prodG
    refine prodG_le v t hv l _ (by omega) (by omega) ?_
    have e : t - l = (t - (l + 2)) + 2 := by omega
    rw [e, Nat.pow_add]
    refine Nat.mul_le_mul h ?_
    have : (l + 1) * v ≤ 10 * 10 := Nat.mul_le_mul (by omega) hv
    simpa using this

theorem facG_le (D : List Nat) (z : Nat) (hz : z ≤ 10) (hD : ∀ k, nth D k ≤ 10) : ∀ u f n, f ≤ z → n ≤ 10 ^ f → facG D z u f n ≤ 10000000000
  | 0, f, n, h1, h2 => by
    have : (10 : Nat) ^ f ≤ 10 ^ 10 := Nat.pow_le_pow_right (by omega) (by omega)
    show n ≤ _
    omega
  | u + 1, f, n, h1, h2 => by
    unfold facG
    by_cases h : f < z
    · rw [if_pos h]
      have hr := runG_le D (nth D f) (z - f) f
      refine facG_le D z hz hD u _ _ (by omega) (prodG_le _ _ (hD f) _ _ (by omega) (by omega) ?_)
      rw [show runG D (nth D f) (z - f) f - (runG D (nth D f) (z - f) f - f) = f by omega]
      exact h2
    · rw [if_neg h]
      have : (10 : Nat) ^ f ≤ 10 ^ 10 := Nat.pow_le_pow_right (by omega) (by omega)
      omega

set_option maxHeartbeats 8000000 in
set_option maxRecDepth 100000 in
theorem factorCount_any (q : List Nat) (hq : Prm q) : ∃ n : Nat, n ≤ 10000000000 ∧ ∀ w : World,
    Calls Tryz.prog 206 #[.string (pT q)] w fun e w' => e = .returned (.int .i64 n) ∧ Below w.heap.size w w' := by
  obtain ⟨b, hpa⟩ := paired_any q hq
  have hle := fun w' => lengths_any w' q hq
  unfold LenMade at hle
  have hmm := fun x (hx : x ∈ lenD q) => lenD_mem hq hx
  have hl10 : (lenD q).length ≤ 10 := by rw [lenD_length]; exact cycs_len q 10
  have hpo := fun w' => permOf_yes w' q hq
  have hQL := hq.len
  clear hq
  generalize lenD q = D at hle hmm hl10
  generalize pT q = T at hpo ⊢
  have HPA := Lib.hid hpa; have HLE := Lib.hid hle; have HMM := Lib.hid hmm; have HPO := Lib.hid hpo; have HQL := Lib.hid hQL
  clear hpa hle hmm hpo hQL
  cases b with
  | false =>
    refine ⟨0, by omega, fun w => ?_⟩
    go_enter Tryz.func206, Tryz.ntmps206
    go_wp2_with fail
    refine (HPO.out _).mono ?_
    rintro _ w1 ⟨rfl, hb1⟩
    have HB1 := Lib.hid hb1; clear hb1 HPO
    have HG1 := Lib.hid (PB.made w1)
    have HS3 := Lib.hid (HG1.out.row q)
    have HB3 := Lib.hid (below_setRow (HB1.out.alloc HB1.out.size (.cells #[.int .u8 0, .int .u8 0, .int .u8 0, .int .u8 0, .int .u8 0, .int .u8 0, .int .u8 0, .int .u8 0, .int .u8 0, .int .u8 0] 101)) HB1.out.size (pC q))
    go_wp2_with (first | (refine wpList_store_row rfl 101 _ _ rfl w1.heap.size (pC q) rfl rfl _ _ HG1.out (permSize HQL.out) (by rw [pC_size, pC_size, HQL.out]; rfl) (pC_one _) ?_) | (refine wpList_load_row rfl 101 _ rfl w1.heap.size rfl _ _ _ _ HS3.out Tryz.underlying101 rfl (permSize HQL.out) ?_))
    refine (HPA.out _).mono ?_
    rintro _ w4 ⟨rfl, hb4⟩
    have HB4 := Lib.hid (HB3.out.trans (hb4.mono HB3.out.size)); clear hb4
    go_wp2_with fail
    go_ret
    exact ⟨rfl, HB4.out⟩
  | true =>
    have hD : ∀ k, nth D k ≤ 10 := fun k => by
      by_cases h : k < D.length
      · rw [nth_eq h]; exact (HMM.out _ (List.getElem_mem h)).2
      · unfold nth; rw [List.getElem?_eq_none (by omega)]; simp
    refine ⟨facG D D.length D.length 0 1, facG_le D D.length hl10 hD _ _ _ (by omega) (by simp), fun w => ?_⟩
    have HD := Lib.hid hD; clear hD
    obtain ⟨R, hR⟩ : ∃ R, R = facG D D.length D.length 0 1 := ⟨_, rfl⟩
    rw [← hR]
    have HRE := Lib.hid hR; clear hR
    go_enter Tryz.func206, Tryz.ntmps206
    go_wp2_with fail
    refine (HPO.out _).mono ?_
    rintro _ w1 ⟨rfl, hb1⟩
    have HB1 := Lib.hid hb1; clear hb1 HPO
    have HG1 := Lib.hid (PB.made w1)
    have HS3 := Lib.hid (HG1.out.row q)
    have HB3 := Lib.hid (below_setRow (HB1.out.alloc HB1.out.size (.cells #[.int .u8 0, .int .u8 0, .int .u8 0, .int .u8 0, .int .u8 0, .int .u8 0, .int .u8 0, .int .u8 0, .int .u8 0, .int .u8 0] 101)) HB1.out.size (pC q))
    go_wp2_with (first | (refine wpList_store_row rfl 101 _ _ rfl w1.heap.size (pC q) rfl rfl _ _ HG1.out (permSize HQL.out) (by rw [pC_size, pC_size, HQL.out]; rfl) (pC_one _) ?_) | (refine wpList_load_row rfl 101 _ rfl w1.heap.size rfl _ _ _ _ HS3.out Tryz.underlying101 rfl (permSize HQL.out) ?_))
    refine (HPA.out _).mono ?_
    rintro _ w4 ⟨rfl, hb4⟩
    have HB4 := Lib.hid (HB3.out.trans (hb4.mono HB3.out.size)); have HS4 := Lib.hid (HS3.out.below hb4); clear hb4
    obtain ⟨P, hP⟩ : ∃ P, P = w1.heap.size := ⟨_, rfl⟩
    rw [← hP] at HS4 ⊢
    clear hP HG1 HS3 HB3
    go_wp2_with (refine wpList_load_row rfl 101 _ rfl P rfl _ _ _ _ HS4.out Tryz.underlying101 rfl (permSize HQL.out) ?_)
    refine (HLE.out _).mono ?_
    rintro _ w5 ⟨A, cap, rfl, hown, hb5⟩
    have HRD := Lib.hid (own_rd3' hown); have HB5 := Lib.hid (HB4.out.trans (hb5.mono HB4.out.size))
    clear hown hb5 HB4 HS4 HLE
    obtain ⟨N, hN⟩ : ∃ N, D.length = N := ⟨_, rfl⟩
    rw [hN] at hl10 ⊢
    have HR2 := Lib.hid (show facG D N N 0 1 = R by rw [HRE.out, hN])
    go_wp2_with fail
    go_loopw [5, 7] (fun o i wr => ∃ u f n : Nat, f ≤ N ∧ i = .int .i64 f ∧ o = .int .i64 n ∧ N - f ≤ u ∧ n ≤ 10 ^ f ∧ Hid (facG D N u f n = R) ∧ Hid (Below w5.heap.size w5 wr)) (fun _ i _ => N - (intOf i).toNat)
    case atStart => exact ⟨N, 0, 1, Nat.zero_le _, rfl, rfl, by omega, by simp, HR2, Lib.hid (Below.refl _ _)⟩
    case round =>
      obtain ⟨u, f, n, hf, rfl, rfl, hu, hn, HF, HBL⟩ := hrel
      by_cases hlt : f < N
      · obtain ⟨b, off, rfl, hbb, r0⟩ := (HRD.out.below HBL.out).nat (k := f) (by omega)
        have hm := HMM.out _ (List.getElem_mem (show f < D.length by omega))
        have hvn : nth D f = D[f]'(by omega) := nth_eq (show f < D.length by omega)
        have hfn := HF.out
        obtain ⟨u', rfl⟩ : ∃ u', u = u' + 1 := ⟨u - 1, by omega⟩
        unfold facG at hfn
        rw [if_pos hlt] at hfn
        have hEl := runG_le D (nth D f) (N - f) f
        have hE1 : f + 1 ≤ runG D (nth D f) (N - f) f := by
          obtain ⟨y, hy⟩ : ∃ y, N - f = y + 1 := ⟨N - f - 1, by omega⟩
          rw [hy]
          unfold runG
          rw [if_pos rfl]
          exact (runG_le _ _ _ _).1
        rw [← hvn] at r0 hm
        obtain ⟨v, hv⟩ : ∃ v, v = nth D f := ⟨_, rfl⟩
        rw [← hv] at r0 hm hfn hEl hE1
        obtain ⟨E, hE⟩ : ∃ E, E = runG D v (N - f) f := ⟨_, rfl⟩
        rw [← hE] at hfn hEl hE1
        have HE := Lib.hid hE.symm; have HFN := Lib.hid hfn; have HVN := Lib.hid hv.symm
        have v0 : (f : Int) < (N : Int) := by omega
        clear hE hfn hv hvn HF
        have hbase := HBL.out.size
        go_wp2_with fail
        go_loopw [8] (fun i wx => ∃ t : Nat, i = .int .i64 t ∧ f ≤ t ∧ t ≤ N ∧ Hid (runG D v (N - t) t = E) ∧ Hid (Below w5.heap.size w5 wx)) (fun i _ => N - (intOf i).toNat)
        case atStart => exact ⟨f, rfl, Nat.le_refl _, hf, HE, HBL⟩
        case round =>
          obtain ⟨t, rfl, hft, htN, HT, HBX⟩ := hrel
          clear HBL r0
          obtain ⟨b', off', ee, _, r0⟩ := (HRD.out.below HBX.out).nat (k := f) (by omega)
          simp only [Option.some.injEq, Addr.mk.injEq, and_true] at ee
          obtain ⟨rfl, rfl⟩ := ee
          have hvn : D[f]'(by omega) = v := by rw [← nth_eq (show f < D.length by omega)]; exact HVN.out
          rw [hvn] at r0
          by_cases htl : t < N
          · obtain ⟨b', off', ee, _, r1⟩ := (HRD.out.below HBX.out).nat (k := t) (by omega)
            simp only [Option.some.injEq, Addr.mk.injEq, and_true] at ee
            obtain ⟨rfl, rfl⟩ := ee
            have hnt : nth D t = D[t]'(by omega) := nth_eq (show t < D.length by omega)
            rw [← hnt] at r1
            have htt := HT.out
            obtain ⟨y, hy⟩ : ∃ y, N - t = y + 1 := ⟨N - t - 1, by omega⟩
            rw [hy] at htt
            unfold runG at htt
            generalize nth D t = x at r1 htt
            have z0 : (t : Int) < (N : Int) := by omega
            have z1 : decide (t < N) = true := decide_eq_true htl
            by_cases hxv : x = v
            · subst hxv
              rw [if_pos rfl] at htt
              have HTT := Lib.hid (show runG D x (N - (t + 1)) (t + 1) = E by rw [show N - (t + 1) = y by omega]; exact htt)
              clear htt hy hnt hvn
              go_wp2_with fail
              go_quiet (fail)
              all_goals
                go_wp2_with fail
                go_roundw
                case rel => exact ⟨t + 1, by go_num, by omega, by omega, HTT, Lib.hid (below_drewN' HBX.out _)⟩
                case measure => simp [intOf]; omega
            · rw [if_neg hxv] at htt
              have hte : t = E := htt
              have hxv2 : ¬ (x : Int) = (v : Int) := by omega
              have hxv3 : ((x : Int) == (v : Int)) = false := by rw [beq_eq_false_iff_ne]; exact hxv2
              have hEf : f + 1 ≤ t := by omega
              have HTE := Lib.hid hte
              clear htt hy hnt hvn hxv hte
              go_wp2_with fail
              go_quiet (fail)
              all_goals
                clear hxv2 hxv3
                clear r0 r1
                have hl0 : IntKind.i64.wrap ((t : Int) - (f : Int)) = ((t - f : Nat) : Int) := by rw [IntKind.wrap_i64]; omega
                obtain ⟨l0, hl0e⟩ : ∃ l0, l0 = t - f := ⟨_, rfl⟩
                rw [← hl0e] at hl0
                have HFX := Lib.hid (show facG D N u' t (prodG v l0 n) = R by rw [hl0e, HTE.out]; exact HFN.out)
                obtain ⟨p, hp⟩ : ∃ p, p = prodG v l0 n := ⟨_, rfl⟩
                rw [← hp] at HFX
                have HP := Lib.hid hp; clear hp
                go_wp2_with fail
                go_loopw [5, 9] (fun o i wy => ∃ (l m : Nat) (z : Int), o = .int .i64 m ∧ i = .int .i64 z ∧ (z = l ∨ (z = -1 ∧ l = 0)) ∧ l ≤ t - f ∧ m ≤ 10 ^ (t - l) ∧ Hid (prodG v l m = p) ∧ Hid (Below w5.heap.size w5 wy)) (fun _ i _ => (intOf i).toNat)
                case atStart => exact ⟨l0, n, _, rfl, rfl, .inl (by omega), by omega, by rw [show t - l0 = f by omega]; exact hn, Lib.hid HP.out.symm, Lib.hid (below_drewN' HBX.out _)⟩
                case round =>
                  obtain ⟨l, m, z, rfl, rfl, hz, hlf, hmb, HPR, HBY⟩ := hrel
                  clear HBX
                  by_cases hzp : 0 < z
                  · obtain rfl : z = (l : Int) := by omega
                    obtain ⟨b', off', ee, _, r0⟩ := (HRD.out.below HBY.out).nat (k := f) (by omega)
                    simp only [Option.some.injEq, Addr.mk.injEq, and_true] at ee
                    obtain ⟨rfl, rfl⟩ := ee
                    have hvn : D[f]'(by omega) = v := by rw [← nth_eq (show f < D.length by omega)]; exact HVN.out
                    rw [hvn] at r0
                    obtain ⟨lf, hlf1⟩ : ∃ lf, lf = l - 1 := ⟨_, rfl⟩
                    obtain ⟨pv, hpv⟩ : ∃ pv, pv = lf * v := ⟨_, rfl⟩
                    have hpv2 : pv ≤ 100 := by rw [hpv]; exact Nat.mul_le_mul (show lf ≤ 10 by omega) hm.2
                    obtain ⟨m2, hm2⟩ : ∃ m2, m2 = m * pv := ⟨_, rfl⟩
                    have hmx : m ≤ 10 ^ 10 := Nat.le_trans hmb (Nat.pow_le_pow_right (by omega) (by omega))
                    have hm3 : m2 ≤ 10 ^ 10 * 100 := by rw [hm2]; exact Nat.mul_le_mul hmx hpv2
                    have x1 : IntKind.i64.wrap ((l : Int) - 1) = (lf : Int) := by rw [IntKind.wrap_i64]; omega
                    have x2 : IntKind.i64.wrap ((lf : Int) * (v : Int)) = (pv : Int) := by rw [show (lf : Int) * (v : Int) = (pv : Int) by rw [hpv]; push_cast; rfl, IntKind.wrap_i64]; omega
                    have x3 : IntKind.i64.wrap ((m : Int) * (pv : Int)) = (m2 : Int) := by rw [show (m : Int) * (pv : Int) = (m2 : Int) by rw [hm2]; push_cast; rfl, IntKind.wrap_i64]; omega
                    have x4 : IntKind.i64.wrap ((l : Int) - 2) = (l : Int) - 2 := by rw [IntKind.wrap_i64]; omega
                    have hstep : prodG v (l - 2) m2 = p ∧ m2 ≤ 10 ^ (t - (l - 2)) := by
                      have hpr := HPR.out
                      by_cases h1 : l = 1
                      · subst h1
                        have e1 : m2 = 0 := by rw [hm2, hpv, hlf1]; simp
                        rw [e1]
                        exact ⟨hpr, Nat.zero_le _⟩
                      · obtain ⟨k, rfl⟩ : ∃ k, l = k + 2 := ⟨l - 2, by omega⟩
                        have e1 : m2 = m * ((k + 1) * v) := by rw [hm2, hpv, hlf1]; rfl
                        refine ⟨by rw [e1]; exact hpr, ?_⟩
                        rw [show t - (k + 2 - 2) = (t - (k + 2)) + 2 by omega, Nat.pow_add, hm2]
                        exact Nat.mul_le_mul hmb hpv2
                    obtain ⟨hs1, hs2⟩ := hstep
                    have HS1 := Lib.hid hs1; have HS2 := Lib.hid hs2
                    clear hs1 hs2 hpv hm2 hvn hmx hm3 hpv2 hlf1
                    go_wp2_with fail
                    go_roundw
                    case rel => exact ⟨l - 2, m2, _, rfl, rfl, by omega, by omega, HS2.out, HS1, HBY⟩
                    case measure => simp [intOf]; omega
                  · obtain rfl : l = 0 := by omega
                    have hpr := HPR.out
                    simp only [prodG] at hpr
                    subst hpr
                    go_wp2_with fail
                    go_roundw
                    case rel => exact ⟨u', t, m, by omega, rfl, rfl, by omega, by simpa using hmb, HFX, HBY⟩
                    case measure => simp [intOf]; omega
          · have hte : t = E := by
              have htt := HT.out
              rw [show N - t = 0 by omega] at htt
              exact htt
            have hEf : f + 1 ≤ t := by omega
            have HTE := Lib.hid hte
            clear hte
            have z0 : ¬ (t : Int) < (N : Int) := by omega
            have z1 : decide (t < N) = false := decide_eq_false htl
            clear hvn
            go_wp2_with fail
            go_quiet (fail)
            all_goals
              clear r0
              have hl0 : IntKind.i64.wrap ((t : Int) - (f : Int)) = ((t - f : Nat) : Int) := by rw [IntKind.wrap_i64]; omega
              obtain ⟨l0, hl0e⟩ : ∃ l0, l0 = t - f := ⟨_, rfl⟩
              rw [← hl0e] at hl0
              have HFX := Lib.hid (show facG D N u' t (prodG v l0 n) = R by rw [hl0e, HTE.out]; exact HFN.out)
              obtain ⟨p, hp⟩ : ∃ p, p = prodG v l0 n := ⟨_, rfl⟩
              rw [← hp] at HFX
              have HP := Lib.hid hp; clear hp
              go_wp2_with fail
              go_loopw [5, 9] (fun o i wy => ∃ (l m : Nat) (z : Int), o = .int .i64 m ∧ i = .int .i64 z ∧ (z = l ∨ (z = -1 ∧ l = 0)) ∧ l ≤ t - f ∧ m ≤ 10 ^ (t - l) ∧ Hid (prodG v l m = p) ∧ Hid (Below w5.heap.size w5 wy)) (fun _ i _ => (intOf i).toNat)
              case atStart => exact ⟨l0, n, _, rfl, rfl, .inl (by omega), by omega, by rw [show t - l0 = f by omega]; exact hn, Lib.hid HP.out.symm, Lib.hid (below_drewN' HBX.out _)⟩
              case round =>
                obtain ⟨l, m, z, rfl, rfl, hz, hlf, hmb, HPR, HBY⟩ := hrel
                clear HBX
                by_cases hzp : 0 < z
                · obtain rfl : z = (l : Int) := by omega
                  obtain ⟨b', off', ee, _, r0⟩ := (HRD.out.below HBY.out).nat (k := f) (by omega)
                  simp only [Option.some.injEq, Addr.mk.injEq, and_true] at ee
                  obtain ⟨rfl, rfl⟩ := ee
                  have hvn : D[f]'(by omega) = v := by rw [← nth_eq (show f < D.length by omega)]; exact HVN.out
                  rw [hvn] at r0
                  obtain ⟨lf, hlf1⟩ : ∃ lf, lf = l - 1 := ⟨_, rfl⟩
                  obtain ⟨pv, hpv⟩ : ∃ pv, pv = lf * v := ⟨_, rfl⟩
                  have hpv2 : pv ≤ 100 := by rw [hpv]; exact Nat.mul_le_mul (show lf ≤ 10 by omega) hm.2
                  obtain ⟨m2, hm2⟩ : ∃ m2, m2 = m * pv := ⟨_, rfl⟩
                  have hmx : m ≤ 10 ^ 10 := Nat.le_trans hmb (Nat.pow_le_pow_right (by omega) (by omega))
                  have hm3 : m2 ≤ 10 ^ 10 * 100 := by rw [hm2]; exact Nat.mul_le_mul hmx hpv2
                  have x1 : IntKind.i64.wrap ((l : Int) - 1) = (lf : Int) := by rw [IntKind.wrap_i64]; omega
                  have x2 : IntKind.i64.wrap ((lf : Int) * (v : Int)) = (pv : Int) := by rw [show (lf : Int) * (v : Int) = (pv : Int) by rw [hpv]; push_cast; rfl, IntKind.wrap_i64]; omega
                  have x3 : IntKind.i64.wrap ((m : Int) * (pv : Int)) = (m2 : Int) := by rw [show (m : Int) * (pv : Int) = (m2 : Int) by rw [hm2]; push_cast; rfl, IntKind.wrap_i64]; omega
                  have x4 : IntKind.i64.wrap ((l : Int) - 2) = (l : Int) - 2 := by rw [IntKind.wrap_i64]; omega
                  have hstep : prodG v (l - 2) m2 = p ∧ m2 ≤ 10 ^ (t - (l - 2)) := by
                    have hpr := HPR.out
                    by_cases h1 : l = 1
                    · subst h1
                      have e1 : m2 = 0 := by rw [hm2, hpv, hlf1]; simp
                      rw [e1]
                      exact ⟨hpr, Nat.zero_le _⟩
                    · obtain ⟨k, rfl⟩ : ∃ k, l = k + 2 := ⟨l - 2, by omega⟩
                      have e1 : m2 = m * ((k + 1) * v) := by rw [hm2, hpv, hlf1]; rfl
                      refine ⟨by rw [e1]; exact hpr, ?_⟩
                      rw [show t - (k + 2 - 2) = (t - (k + 2)) + 2 by omega, Nat.pow_add, hm2]
                      exact Nat.mul_le_mul hmb hpv2
                  obtain ⟨hs1, hs2⟩ := hstep
                  have HS1 := Lib.hid hs1; have HS2 := Lib.hid hs2
                  clear hs1 hs2 hpv hm2 hvn hmx hm3 hpv2 hlf1
                  go_wp2_with fail
                  go_roundw
                  case rel => exact ⟨l - 2, m2, _, rfl, rfl, by omega, by omega, HS2.out, HS1, HBY⟩
                  case measure => simp [intOf]; omega
                · obtain rfl : l = 0 := by omega
                  have hpr := HPR.out
                  simp only [prodG] at hpr
                  subst hpr
                  go_wp2_with fail
                  go_roundw
                  case rel => exact ⟨u', t, m, by omega, rfl, rfl, by omega, by simpa using hmb, HFX, HBY⟩
                  case measure => simp [intOf]; omega
      · obtain rfl : f = N := by omega
        have hfn := HF.out
        have hnR : n = R := by
          rw [← hfn]
          cases u with
          | zero => rfl
          | succ u => unfold facG; rw [if_neg (by omega)]
        subst hnR
        have HBF := Lib.hid (HB5.out.trans (HBL.out.mono HB5.out.size))
        clear hfn HF HRE HR2
        go_wp2_with fail
        go_ret
        exact ⟨rfl, HBF.out⟩

end

section
open Go.RowKit Pl Go.Sort

theorem it_add (q : List Nat) (a i : Nat) : ∀ j, it q (it q a i) j = it q a (i + j)
  | 0 => rfl
  | j + 1 => by show nth q (it q (it q a i) j) = nth q (it q a (i + j)); rw [it_add q a i j]
theorem per_mem {q : List Nat} (hq : Prm q) {a x : Nat} (ha : a < 10) (hx : x ∈ orb q a) : per q x = per q a := by
  obtain ⟨i, hi, rfl⟩ := orbTo_mem.1 hx
  have key : ∀ p, (it q (it q a i) (p + 1) == it q a i) = (it q a (p + 1) == a) := fun p => by
    rw [Bool.eq_iff_iff, beq_iff_eq, beq_iff_eq, it_add]
    constructor
    · intro h; exact it_back hq ha i (p + 1) h.symm
    · intro h
      rw [Nat.add_comm, ← it_add, h]
  unfold per
  simp only [key]
theorem it_conj {q q' s : List Nat} (hq : Prm q) (hc : ∀ x, x < 10 → nth q' (nth s x) = nth s (nth q x)) {a : Nat} (ha : a < 10) : ∀ n, it q' (nth s a) n = nth s (it q a n)
  | 0 => rfl
  | n + 1 => by show nth q' (it q' (nth s a) n) = nth s (nth q (it q a n)); rw [it_conj hq hc ha n, hc _ (it_lt hq ha n)]
theorem per_conj {q q' s : List Nat} (hq : Prm q) (hs : Prm s) (hc : ∀ x, x < 10 → nth q' (nth s x) = nth s (nth q x)) {a : Nat} (ha : a < 10) : per q' (nth s a) = per q a := by
  have key : ∀ p, (it q' (nth s a) (p + 1) == nth s a) = (it q a (p + 1) == a) := fun p => by
    rw [Bool.eq_iff_iff, beq_iff_eq, beq_iff_eq, it_conj hq hc ha]
    constructor
    · intro h; exact nth_inj hs (it_lt hq ha _) ha h
    · intro h; rw [h]
  unfold per
  simp only [key]
theorem cycs_nodup {q : List Nat} (hq : Prm q) : ∀ k, k ≤ 10 → (cycs q k).flatten.Nodup
  | 0, _ => by simp [cycs]
  | k + 1, hk => by
    have ih := cycs_nodup hq k (by omega)
    by_cases hs : k ∈ (cycs q k).flatten
    · rw [cycs_in hs]; exact ih
    · rw [cycs_out hs, List.flatten_append, List.flatten_singleton]
      have h : ∀ j, j ≤ per q k → ((cycs q k).flatten ++ orbTo q k j).Nodup := by
        intro j
        induction j with
        | zero => intro _; simpa [orbTo] using ih
        | succ j ihj =>
          intro hj
          rw [← orbTo_snoc, ← List.append_assoc]
          refine List.nodup_append.2 ⟨ihj (by omega), List.nodup_cons.2 ⟨by simp, List.nodup_nil⟩, ?_⟩
          intro x hx y hy e
          have := next_new hq (by omega) hs (show j < per q k by omega)
          rw [List.mem_singleton] at hy
          subst hy; subst e
          exact this hx
      exact h _ (Nat.le_refl _)
theorem cycs_perm {q : List Nat} (hq : Prm q) : (cycs q 10).flatten.Perm (List.range 10) := by
  refine (List.perm_ext_iff_of_nodup (cycs_nodup hq 10 (by omega)) List.nodup_range).2 fun x => ?_
  rw [List.mem_range]
  constructor
  · intro h
    obtain ⟨c, hc, hxc⟩ := List.mem_flatten.1 h
    exact (cyc_len hq hc).2.2 x hxc
  · intro h; exact seen_all hq h
theorem cntF (f : Nat → Bool) (n : Nat) : ∀ l : List (List Nat), (∀ c ∈ l, ∀ x ∈ c, f x = decide (c.length = n)) → l.flatten.countP f = n * (l.map List.length).count n
  | [], _ => by simp
  | c :: l, h => by
    rw [List.flatten_cons, List.countP_append, cntF f n l fun d hd => h d (List.mem_cons_of_mem _ hd), List.map_cons, List.count_cons]
    have h1 := h c (by simp)
    by_cases e : c.length = n
    · have : c.countP f = c.length := List.countP_eq_length.2 fun x hx => by rw [h1 x hx]; simpa using e
      rw [this, e, if_pos (by simp), Nat.mul_add, Nat.mul_one, Nat.add_comm]
    · have : c.countP f = 0 := List.countP_eq_zero.2 fun x hx => by rw [h1 x hx]; simpa using e
      rw [this, if_neg (by simpa using e), Nat.zero_add, Nat.add_zero]
theorem cnt_per {q : List Nat} (hq : Prm q) (n : Nat) : (List.range 10).countP (fun x => decide (per q x = n)) = n * ((cycs q 10).map List.length).count n := by
  rw [← (cycs_perm hq).countP_eq]
  refine cntF _ n _ fun c hc x hx => ?_
  obtain ⟨a, ha, rfl⟩ := cycs_mem q 10 c hc
  rw [per_mem hq ha hx]
  unfold orb
  rw [orbTo_len]
theorem nth_range_map {s : List Nat} (hs : Prm s) : (List.range 10).map (nth s) = s := by
  have hl := hs.len
  apply List.ext_getElem (by simp [hl])
  intro i h1 h2
  rw [List.getElem_map, List.getElem_range, nth_eq h2]
theorem count_conj {q q' s : List Nat} (hq : Prm q) (hq' : Prm q') (hs : Prm s) (hc : ∀ x, x < 10 → nth q' (nth s x) = nth s (nth q x)) (n : Nat) (hn : 1 ≤ n) :
    ((cycs q' 10).map List.length).count n = ((cycs q 10).map List.length).count n := by
  have h1 := cnt_per hq n
  have h2 := cnt_per hq' n
  have h3 : (List.range 10).countP (fun x => decide (per q' x = n)) = (List.range 10).countP (fun x => decide (per q x = n)) := by
    rw [← hs.perm.countP_eq]
    conv => lhs; rw [← nth_range_map hs]
    rw [List.countP_map]
    apply List.countP_congr
    intro x hx
    simp only [Function.comp_apply, decide_eq_true_eq]
    rw [per_conj hq hs hc (List.mem_range.1 hx)]
  rw [h1, h2] at h3
  exact Nat.eq_of_mul_eq_mul_left (by omega) h3
theorem lens_conj {q q' s : List Nat} (hq : Prm q) (hq' : Prm q') (hs : Prm s) (hc : ∀ x, x < 10 → nth q' (nth s x) = nth s (nth q x)) :
    ((cycs q' 10).map List.length).Perm ((cycs q 10).map List.length) := by
  rw [List.perm_iff_count]
  intro n
  rcases Nat.eq_zero_or_pos n with e | e
  · subst e
    have z : ∀ p : List Nat, Prm p → ((cycs p 10).map List.length).count 0 = 0 := fun p hp => List.count_eq_zero.2 fun h => by
      obtain ⟨c, hc, he⟩ := List.mem_map.1 h
      have := (cyc_len hp hc).1
      omega
    rw [z q hq, z q' hq']
  · exact count_conj hq hq' hs hc n e
theorem lenI_conj {q q' s : List Nat} (hq : Prm q) (hq' : Prm q') (hs : Prm s) (hc : ∀ x, x < 10 → nth q' (nth s x) = nth s (nth q x)) : lenD q' = lenD q := by
  have hp := (lens_conj hq hq' hs hc).map fun n : Nat => (n : Int)
  rw [List.map_map, List.map_map] at hp
  have hp : ((cycs q' 10).map fun c => (c.length : Int)).Perm ((cycs q 10).map fun c => (c.length : Int)) := hp
  have tr : ∀ a b c : Int, decide (a ≤ b) = true → decide (b ≤ c) = true → decide (a ≤ c) = true := fun a b c h1 h2 => by simp at *; omega
  have hto : ∀ a b : Int, (decide (a ≤ b) || decide (b ≤ a)) = true := fun a b => by simp; omega
  have key : ∀ l1 l2 : List Int, l1.Perm l2 → l1.mergeSort (fun x y => decide (x ≤ y)) = l2.mergeSort (fun x y => decide (x ≤ y)) := fun l1 l2 h =>
    List.Perm.eq_of_pairwise (le := fun x y => decide (x ≤ y) = true) (fun a b _ _ h1 h2 => by simp at h1 h2; omega) (List.pairwise_mergeSort tr hto _) (List.pairwise_mergeSort tr hto _) ((List.mergeSort_perm _ _).trans (h.trans (List.mergeSort_perm _ _).symm))
  unfold lenD lenI
  rw [key _ _ hp]
/-- the lengths in descending order, as the reference lists them -/
theorem lenD_counts {q : List Nat} (hq : Prm q) : lenD q = ((List.range 10).reverse.flatMap fun i => List.replicate (((cycs q 10).map List.length).count (i + 1)) (i + 1)) := by
  refine List.Perm.eq_of_pairwise (le := fun x y => y ≤ x) (fun a b _ _ h1 h2 => by omega) ?_ ?_ ?_
  · unfold lenD lenI
    have tr : ∀ a b c : Int, decide (a ≤ b) = true → decide (b ≤ c) = true → decide (a ≤ c) = true := fun a b c h1 h2 => by simp at *; omega
    have hto : ∀ a b : Int, (decide (a ≤ b) || decide (b ≤ a)) = true := fun a b => by simp; omega
    rw [List.pairwise_map, List.pairwise_reverse]
    refine (List.pairwise_mergeSort tr hto _).imp fun {a b} h => ?_
    simp at h; omega
  · rw [List.pairwise_flatMap]
    refine ⟨fun i _ => List.pairwise_replicate.2 (.inr (Nat.le_refl _)), ?_⟩
    rw [List.pairwise_reverse]
    refine List.pairwise_lt_range.imp fun {a b} h => ?_
    intro x hx y hy
    rw [List.eq_of_mem_replicate hx, List.eq_of_mem_replicate hy]; omega
  · have h0 : (lenD q).Perm ((cycs q 10).map List.length) := by
      unfold lenD lenI
      refine ((List.reverse_perm _).map _).trans (((List.mergeSort_perm _ _).map _).trans ?_)
      rw [List.map_map]
      exact List.Perm.of_eq (List.map_congr_left fun c _ => rfl)
    refine h0.trans ?_
    rw [List.perm_iff_count]
    intro n
    rw [List.count_flatMap]
    by_cases hn : 1 ≤ n ∧ n ≤ 10
    · have : ∀ N : Nat, N ≤ 10 → ((List.range N).reverse.map (List.count n ∘ fun i => List.replicate (((cycs q 10).map List.length).count (i + 1)) (i + 1))).sum = if n ≤ N then ((cycs q 10).map List.length).count n else 0 := by
        intro N
        induction N with
        | zero => intro _; rw [if_neg (by omega)]; rfl
        | succ N ih =>
          intro hN
          rw [List.range_succ, List.reverse_append, List.reverse_singleton, List.singleton_append, List.map_cons, List.sum_cons, ih (by omega)]
          simp only [Function.comp_apply]
          rw [List.count_replicate]
          by_cases e : n = N + 1
          · subst e
            rw [if_pos (by simp), if_neg (by omega), if_pos (Nat.le_refl _), Nat.add_zero]
          · rw [if_neg (by simp; omega), Nat.zero_add]
            by_cases e2 : n ≤ N
            · rw [if_pos e2, if_pos (by omega)]
            · rw [if_neg e2, if_neg (by omega)]
      rw [this 10 (Nat.le_refl _), if_pos hn.2]
    · have z1 : ((cycs q 10).map List.length).count n = 0 := List.count_eq_zero.2 fun h => by
        obtain ⟨c, hc, he⟩ := List.mem_map.1 h
        have := cyc_len hq hc
        omega
      rw [z1]
      symm
      have hz : ∀ l : List Nat, (∀ x ∈ l, x = 0) → l.sum = 0 := fun l => by
        induction l with
        | nil => intro _; rfl
        | cons a l ih => intro h; rw [List.sum_cons, h a (by simp), ih fun x hx => h x (List.mem_cons_of_mem _ hx)]
      refine hz _ fun x hx => ?_
      obtain ⟨i, hi, rfl⟩ := List.mem_map.1 hx
      simp only [Function.comp_apply]
      rw [List.count_replicate, if_neg]
      have := List.mem_range.1 (List.mem_reverse.1 hi)
      simp; omega

end

section
open Go.RowKit Pl

set_option maxHeartbeats 4000000 in
set_option maxRecDepth 100000 in
theorem cycleLengths_is (w : World) (q : List Nat) (hq : Prm q) :
    Calls Tryz.prog 100 #[.string (pT q)] w (LenMade q w) := by
  have hpo := fun w' => permOf_yes w' q hq
  have hle := fun w' => lengths_any w' q hq
  unfold LenMade at hle ⊢
  have HPO := Lib.hid hpo; have HLE := Lib.hid hle; have HQL := Lib.hid hq.len
  clear hpo hle hq
  generalize pT q = T at HPO
  generalize lenD q = L at HLE ⊢
  generalize L.length = M at HLE ⊢
  generalize natV L = NV at HLE ⊢
  go_enter Tryz.func100, Tryz.ntmps100
  go_wp2_with fail
  refine (HPO.out _).mono ?_
  rintro _ w1 ⟨rfl, hb1⟩
  have HB1 := Lib.hid hb1; clear hb1 HPO
  have HG1 := Lib.hid (PB.made w1)
  have HB2 := Lib.hid (HB1.out.alloc HB1.out.size (.cells #[.int .u8 0, .int .u8 0, .int .u8 0, .int .u8 0, .int .u8 0, .int .u8 0, .int .u8 0, .int .u8 0, .int .u8 0, .int .u8 0] 101))
  have HS3 := Lib.hid (HG1.out.row q)
  have HB3 := Lib.hid (below_setRow HB2.out HB1.out.size (pC q))
  go_wp2_with (first | (refine wpList_store_row rfl 101 _ _ rfl w1.heap.size (pC q) rfl rfl _ _ HG1.out (permSize HQL.out) (by rw [pC_size, pC_size, HQL.out]; rfl) (pC_one _) ?_) | (refine wpList_load_row rfl 101 _ rfl w1.heap.size rfl _ _ _ _ HS3.out Tryz.underlying101 rfl (permSize HQL.out) ?_))
  obtain ⟨w3, hw3⟩ : ∃ w3, w3 = (w1.alloc (.cells #[.int .u8 0, .int .u8 0, .int .u8 0, .int .u8 0, .int .u8 0, .int .u8 0, .int .u8 0, .int .u8 0, .int .u8 0, .int .u8 0] 101)).setRow w1.heap.size (pC q) := ⟨_, rfl⟩
  rw [← hw3] at HS3 HB3 ⊢
  clear hw3 HG1 HB2
  refine (HLE.out _).mono ?_
  rintro _ w4 ⟨A, cap, rfl, ho, hb4⟩
  have HO := Lib.hid (own_mono3 ho HB3.out.size); have HB4 := Lib.hid (HB3.out.trans (hb4.mono HB3.out.size)); clear hb4 ho
  go_wp2_with fail
  go_ret
  exact ⟨A, cap, rfl, HO.out, HB4.out⟩

/-- the lengths in descending order, as the reference lists them: the first d of ten -/
def lnS (C : Nat → Nat) : Nat → List Nat
  | 0 => []
  | d + 1 => lnS C d ++ List.replicate (C (10 - d)) (10 - d)
theorem lnS_all (C : Nat → Nat) : lnS C 10 = (List.range 10).reverse.flatMap fun i => List.replicate (C (i + 1)) (i + 1) := by
  rw [show (List.range 10).reverse = [9, 8, 7, 6, 5, 4, 3, 2, 1, 0] by decide]
  simp [lnS, List.flatMap_cons]
theorem rep_in {ls : List Nat} {i n : Nat} (h : i < ls.length) (e : ls[i] = n) : List.replicate ((ls.take (i + 1)).count n) n = List.replicate ((ls.take i).count n) n ++ [n] := by
  rw [List.take_succ_eq_append_getElem h, List.count_append, e]
  simp [List.replicate_succ']
theorem rep_out {ls : List Nat} {i n : Nat} (h : i < ls.length) (e : ¬ ls[i] = n) : (ls.take (i + 1)).count n = (ls.take i).count n := by
  rw [List.take_succ_eq_append_getElem h, List.count_append, List.count_singleton]
  simp [e]

theorem own_kinds {w : World} {b1 b2 s1 s2 n1 n2 : Nat} {e1 e2 : TypeId} {v1 v2 : Value} {x1 x2 : List Value} (h1 : w.ownsRow b1 e1 s1 v1 n1 x1) (h2 : w.ownsRow b2 e2 s2 v2 n2 x2) (he : e1 ≠ e2) : v1.ownBlock = none ∨ v1.ownBlock ≠ v2.ownBlock := by
  obtain ⟨_, ⟨rfl, _⟩ | ⟨g, cap, cur, rfl, hb, hg, _⟩⟩ := h1
  · exact .inl rfl
  · refine .inr fun e => ?_
    obtain ⟨_, ⟨rfl, _⟩ | ⟨g2, cap2, cur2, rfl, hb2, hg2, _⟩⟩ := h2
    · simp [Value.ownBlock] at e
    · have e3 : g = g2 := by simpa [Value.ownBlock] using e
      subst e3
      rw [hg] at hg2; injection hg2 with hg2; injection hg2 with _ hg2; exact he hg2

set_option maxHeartbeats 8000000 in
set_option maxRecDepth 100000 in
theorem sCycleLengths_is (w : World) (q : List Nat) (hq : Prm q) :
    Calls Tryz.prog 104 #[.string (pT q)] w (LenMade q w) := by
  obtain ⟨iI, hi, hz0, hz1, hz2⟩ := info_parts Tryz.infoI
  have HI := Lib.hid hi; have HZ0 := Lib.hid hz0; have HZ1 := Lib.hid hz1; have HZ2 := Lib.hid hz2
  clear hi hz0 hz1 hz2
  have hcy := fun w' => sCyclesOf_any w' q hq
  unfold CycMade at hcy
  have hat := cycS_at q 10
  have hsl := cycS_len q 10
  have hl10 := cycs_len q 10
  have hcl := fun c (hc : c ∈ cycs q 10) => (cyc_len hq hc).2.1
  have hend := lenD_counts hq
  unfold LenMade
  generalize lenD q = D at hend ⊢
  generalize cycS q 10 = SS at hcy hat hsl
  generalize cycs q 10 = L at hat hsl hl10 hend hcl
  rw [← lnS_all (fun n => (L.map List.length).count n)] at hend
  obtain ⟨ls, hls⟩ : ∃ ls, ls = L.map List.length := ⟨_, rfl⟩
  rw [← hls] at hend
  have hll : ls.length = SS.length := by rw [hls, List.length_map, hsl]
  have hla : ∀ k (h : k < ls.length) (h' : k < SS.length), (SS[k]).size = ls[k] := fun k h h' => by
    have hk : k < L.length := by rw [hls, List.length_map] at h; exact h
    rw [hat k hk h', pT_size]; simp [hls]
  have hl10' : ls.length ≤ 10 := by rw [hls, List.length_map]; exact hl10
  have hn0 : ∀ d, (lnS (fun n => ls.count n) d).length ≤ d * 10 := by
    intro d
    induction d with
    | zero => simp [lnS]
    | succ d ih =>
      have := List.count_le_length (a := 10 - d) (l := ls)
      rw [lnS, List.length_append, List.length_replicate]; omega
  have HCY := Lib.hid hcy; have HLA := Lib.hid hla; have HEN := Lib.hid hend; have HLL := Lib.hid hll; have HN0 := Lib.hid hn0; have HL10 := Lib.hid hl10'
  clear hcy hat hsl hl10 hcl hend hls hll hla hn0 hq hl10'
  obtain ⟨M, hM⟩ : ∃ M, M = SS.length := ⟨_, rfl⟩
  have hM10 : M ≤ 10 := by have := HLL.out; have := HL10.out; omega
  have HM := Lib.hid hM
  rw [← hM] at HCY
  clear hM
  generalize pT q = T at HCY
  have HMK := Lib.hid (show (w.alloc (.cells #[] 3)).ownsRow w.heap.size 3 1 (.slice (some ⟨w.heap.size, 0, none⟩) 0 0) 0 [] from World.ownsRow_made w #[] 0 (Nat.le_refl _) (by decide) rfl)
  have HB0 := Lib.hid (show Below w.heap.size w (w.alloc (.cells #[] 3)) from (Below.refl _ _).alloc (Nat.le_refl _) _)
  go_enter Tryz.func104, Tryz.ntmps104
  go_wp2_with fail
  refine (HCY.out _).mono ?_
  rintro _ w2 ⟨A, cap, rfl, hown, hb2⟩
  have HRD := Lib.hid hown; have HB2 := Lib.hid (HB0.out.trans (hb2.mono HB0.out.size)); have HO2 := Lib.hid (ownsRow_below HMK.out hb2)
  clear hown hb2 HB0 HMK HCY
  obtain ⟨CN, hCN⟩ : ∃ CN : Nat → Nat, CN = fun n => ls.count n := ⟨_, rfl⟩
  have hen := HEN.out
  rw [← hCN] at hen
  have hn0 := HN0.out
  rw [← hCN] at hn0
  have HEN2 := Lib.hid hen; have HN2 := Lib.hid hn0
  have HCN := Lib.hid (fun n => show CN n = ls.count n by rw [hCN])
  clear hCN hen hn0 HEN HN0
  obtain ⟨R, hR⟩ : ∃ R, R = (w.alloc (.cells #[] 3)).heap.size := ⟨_, rfl⟩
  rw [← hR] at HRD
  clear hR
  go_wp2_with fail
  go_loopw [3, 5] (fun o nv wr => ∃ d : Nat, d ≤ 10 ∧ nv = .int .i64 ((10 - d : Nat) : Int) ∧ Hid (wr.ownsRow w.heap.size 3 1 o (lnS CN d).length (natV (lnS CN d))) ∧ Hid (wr.ownsRow R 9 1 (.slice A M cap) M (strV SS)) ∧ Hid (Below w.heap.size w wr)) (fun _ nv _ => (intOf nv).toNat)
  case atStart => exact ⟨0, Nat.zero_le _, rfl, HO2, HRD, HB2⟩
  case round =>
    obtain ⟨d, hd, rfl, HO, HL, HBL⟩ := hrel
    clear HO2 HRD HB2
    by_cases hlt : d < 10
    · obtain ⟨N, hN⟩ : ∃ N, N = 10 - d := ⟨_, rfl⟩
      have hN1 : 1 ≤ N := by omega
      have hN10 : N ≤ 10 := by omega
      have hnx : lnS CN (d + 1) = lnS CN d ++ List.replicate (ls.count N) N := by rw [hN, ← HCN.out]; rfl
      have hz := HN2.out d
      have HNX := Lib.hid hnx
      have HNN := Lib.hid hN
      rw [← hN]
      clear hN hnx
      generalize lnS CN d = L0 at HO HNX hz
      have v0 : (0 : Int) < (N : Int) := by omega
      go_wp2_with fail
      rw [show decide (0 < N) = true from decide_eq_true (by omega)]
      go_loopw [3, 6] (fun o iv wq => ∃ (i : Nat) (L1 : List Nat), i ≤ M ∧ iv = .int .i64 (i : Int) ∧ Hid (L1 = L0 ++ List.replicate ((ls.take i).count N) N) ∧ Hid (wq.ownsRow w.heap.size 3 1 o L1.length (natV L1)) ∧ Hid (wq.ownsRow R 9 1 (.slice A M cap) M (strV SS)) ∧ Hid (Below w.heap.size w wq)) (fun _ iv _ => M - (intOf iv).toNat)
      case atStart => exact ⟨0, L0, Nat.zero_le _, rfl, Lib.hid (by simp), HO, HL, HBL⟩
      case round =>
        obtain ⟨i, L1, hi, rfl, HE1, HO3, HL3, HBL3⟩ := hrel
        clear HO HL HBL
        obtain ⟨A3, c3, e3⟩ := slot_slice HO3.out
        subst e3
        by_cases him : i < M
        · have hiS : i < SS.length := by have := HM.out; omega
          have hil : i < ls.length := by have := HLL.out; omega
          obtain ⟨b0, off, rfl, _, c0⟩ := (own_rd3' HL3.out).str hiS
          have hla := HLA.out i hil hiS
          have v1 : (i : Int) < (M : Int) := by omega
          by_cases e : ls[i] = N
          · have hri := rep_in hil e
            rw [e] at hla
            have hcl := List.count_le_length (a := N) (l := ls.take i)
            rw [List.length_take] at hcl
            generalize SS[i] = T at c0 hla
            have v2 : ((T.size : Nat) : Int) = (N : Int) := by rw [hla]
            have v3 : T.size = N := hla
            have hL1z : L1.length ≤ 200 := by rw [HE1.out, List.length_append, List.length_replicate]; omega
            have HL2 := Lib.hid (show L1 ++ [N] = L0 ++ List.replicate ((ls.take (i + 1)).count N) N by rw [hri, HE1.out, List.append_assoc])
            have hap := own_kinds HL3.out HO3.out (by decide)
            have hbs := HBL3.out.size
            clear hri hcl hla e
            go_wp2_with (at_builtin; refine wpList_append_own _ rfl _ _ 54 rfl w.heap.size 3 iI (.int .i64 0) 1 8 Tryz.undI HI.out HZ0.out HZ1.out HZ2.out rfl (by decide) _ L1.length _ rfl (HO3.out.alloc _) ⟨wr.heap.size, 0, none⟩ 1 1 [.int .i64 (N : Int)] rfl rfl (one_new wr _ _) nat_cell (by unfold maxLen; omega) (by omega) (by simp; omega) ?_)
            intro v' w6 ho' hg' _
            rw [natV_snoc] at ho'
            have hl6 : (L1 ++ [N]).length = L1.length + 1 := by simp
            rw [← hl6] at ho'
            have hb6 := (HBL3.out.alloc HBL3.out.size _).grown hg' (Nat.le_trans HBL3.out.size (by simp)) fun k' e => (HO3.out.lt k' e).1
            have hl6' := World.ownsRow.kept (HL3.out.alloc (.cells #[.int .i64 (N : Int)] 3)) hg' hap
            have HO6 := Lib.hid ho'; have HB6 := Lib.hid hb6; have HL6 := Lib.hid hl6'; clear ho' hg' hb6 hl6' hap
            generalize hLN : L1 ++ [N] = LN at HO6 HL2 hl6
            go_wp2_with fail
            go_roundw
            case rel => exact ⟨i + 1, LN, by omega, by go_num, HL2, HO6, HL6, HB6⟩
            case measure => simp [intOf]; omega
          · have hri := rep_out hil e
            generalize SS[i] = T at c0 hla
            have hTN : ¬ T.size = N := by rw [hla]; exact e
            have v2 : ¬ ((T.size : Nat) : Int) = (N : Int) := by omega
            have HE2 := Lib.hid (show L1 = L0 ++ List.replicate ((ls.take (i + 1)).count N) N by rw [hri]; exact HE1.out)
            clear hri hla e
            go_wp2_with fail
            go_roundw
            case rel => exact ⟨i + 1, L1, by omega, by go_num, HE2, HO3, HL3, HBL3⟩
            case measure => simp [intOf]; omega
        · obtain rfl : i = M := by omega
          have HE2 := Lib.hid (show L1 = lnS CN (d + 1) by rw [HNX.out, HE1.out, List.take_of_length_le (by have := HLL.out; have := HM.out; omega)])
          have w1' : IntKind.i64.wrap ((N : Int) - 1) = ((10 - (d + 1) : Nat) : Int) := by rw [IntKind.wrap_i64]; have := HNN.out; omega
          have w2' : wrap64 ((N : Int) - 1) = ((10 - (d + 1) : Nat) : Int) := by unfold wrap64; have := HNN.out; omega
          go_wp2_with fail
          go_roundw
          case rel => exact ⟨d + 1, by omega, by rw [show 10 - (d + 1) = 9 - d by omega], by rw [← HE2.out]; exact HO3, HL3, HBL3⟩
          case measure => simp [intOf]; have := HNN.out; omega
    · obtain rfl : d = 10 := by omega
      rw [← HEN2.out] at HO
      obtain ⟨A3, c3, e3⟩ := slot_slice HO.out
      subst e3
      go_wp2_with fail
      go_ret
      exact ⟨_, _, rfl, HO.out, HBL.out⟩

set_option maxHeartbeats 2000000 in
theorem l21Dec_any (w : World) (n : Nat) (hn : n ≤ 1000000000000) :
    Calls Tryz.prog 105 #[.int .i64 n] w fun e w' => e = .returned (.string (mk (Go.Lib.decDigits n))) ∧ Below w.heap.size w w' := by
  have hdl := dec_len n hn
  have HDL := Lib.hid hdl; clear hdl
  have v0 : ¬ (n : Int) < -9223372036854775807 := by omega
  have v1 : ¬ (n : Int) < 0 := by omega
  go_enter Tryz.func105, Tryz.ntmps105
  go_wp2_with fail
  go_loopw [0, 3] (fun nv ov wr => ∃ (m : Nat) (o : List UInt8), nv = .int .i64 m ∧ ov = .string (mk o) ∧ m ≤ n ∧ Hid (Go.Lib.decDigits n = Go.Lib.decDigits m ++ o) ∧ Below w.heap.size w wr) (fun nv _ _ => (intOf nv).toNat)
  case atStart => exact ⟨n, [], rfl, rfl, Nat.le_refl _, Lib.hid (by simp), Below.refl _ _⟩
  case round =>
    obtain ⟨m, o, rfl, rfl, hm, HE, hbl⟩ := hrel
    have HBL := Lib.hid hbl; clear hbl
    have hol : (mk o).size ≤ 14 := by
      have h1 := HDL.out
      rw [HE.out, List.length_append] at h1
      rw [size_mk]; omega
    by_cases hlt : m < 10
    · have hcv := conv_one (P := Tryz.prog) 22 9 5 Tryz.underlying22 Tryz.underlying5 Tryz.underlying9 (48 + (m : Int)) (by omega) (by omega) wr
      rw [show (48 + (m : Int)).toNat = 48 + m by omega] at hcv
      have hz1 : (mk [UInt8.ofNat (48 + m)]).size ≤ 1 := by rw [size_mk]; simp
      have hap : mk [UInt8.ofNat (48 + m)] ++ mk o = mk ([UInt8.ofNat (48 + m)] ++ o) := mk_append _ _
      have hfin : mk (Go.Lib.decDigits n) = mk [UInt8.ofNat (48 + m)] ++ mk o := by rw [HE.out, dec_small hlt, Nat.mod_eq_of_lt hlt, hap]
      have HF := Lib.hid hfin; clear hfin hap
      have v2 : ¬ (9 : Int) < (m : Int) := by omega
      have v3 : (m : Int) ≤ 9 := by omega
      generalize mk [UInt8.ofNat (48 + m)] = c at hcv hz1 HF ⊢
      go_wp2_with fail
      go_ret
      exact ⟨by rw [HF.out]; rfl, HBL.out.alloc HBL.out.size _⟩
    · have hcv := conv_one (P := Tryz.prog) 22 9 5 Tryz.underlying22 Tryz.underlying5 Tryz.underlying9 (48 + (m : Int) % 10) (by omega) (by omega) wr
      rw [show (48 + (m : Int) % 10).toNat = 48 + m % 10 by omega] at hcv
      have hz1 : (mk [UInt8.ofNat (48 + m % 10)]).size ≤ 1 := by rw [size_mk]; simp
      have hap : mk [UInt8.ofNat (48 + m % 10)] ++ mk o = mk ([UInt8.ofNat (48 + m % 10)] ++ o) := mk_append _ _
      have HAP := Lib.hid hap; clear hap
      have hnx : Go.Lib.decDigits n = Go.Lib.decDigits (m / 10) ++ ([UInt8.ofNat (48 + m % 10)] ++ o) := by rw [HE.out, dec_big hlt, List.append_assoc]
      have HN := Lib.hid hnx; clear hnx
      have v2 : (9 : Int) < (m : Int) := by omega
      generalize mk [UInt8.ofNat (48 + m % 10)] = c at hcv hz1 HAP ⊢
      generalize [UInt8.ofNat (48 + m % 10)] ++ o = o2 at HAP HN
      go_wp2_with fail
      go_roundw
      case rel => exact ⟨m / 10, _, by go_num, by rw [HAP.out], by omega, HN, HBL.out.alloc HBL.out.size _⟩
      case measure => simp [intOf]; omega

end

section
open Go.RowKit Pl

/-- the numerals of the lengths -/
def lenL (q : List Nat) : List ByteArray := (lenD q).map fun n : Nat => mk (Lib.itoa (n : Int))
/-- the text of the lengths -/
def lenT (q : List Nat) : ByteArray := mk (Lib.join ((lenL q).map tl) [32])
theorem lenL_length (q : List Nat) : (lenL q).length = (lenD q).length := by unfold lenL; rw [List.length_map]
theorem lenD_le (q : List Nat) : (lenD q).length ≤ 10 := by rw [lenD_length]; exact cycs_len q 10
theorem lenL_size {q : List Nat} (hq : Prm q) {s : ByteArray} (h : s ∈ lenL q) : s.size ≤ 14 := by
  obtain ⟨n, hn, rfl⟩ := List.mem_map.1 h
  rw [size_mk]; exact (itoa_len n (by have := (lenD_mem hq hn).2; omega)).2
theorem lenT_size {q : List Nat} (hq : Prm q) : (lenT q).size ≤ 150 := by
  unfold lenT
  have h := joinW_le (lenL q) [32] 14 (fun s hs => lenL_size hq hs) (lenL q).length (Nat.le_refl _)
  rw [List.take_length] at h
  rw [size_mk]
  have h2 := lenD_le q
  rw [← lenL_length] at h2
  have h3 : (lenL q).length * (14 + [32].length) ≤ 10 * 15 := Nat.mul_le_mul h2 (Nat.le_refl _)
  omega

set_option maxHeartbeats 8000000 in
set_option maxRecDepth 100000 in
theorem lengthsText_is (w : World) (hg : GW w) (q : List Nat) (hq : Prm q) :
    Calls Tryz.prog 57 #[.string (pT q)] w fun e w' => e = .returned (.string (lenT q)) ∧ Below w.heap.size w w' := by
  obtain ⟨iS, hi, hz0, hz1, hz2⟩ := info_parts Tryz.infoS
  have HI := Lib.hid hi; have HZ0 := Lib.hid hz0; have HZ1 := Lib.hid hz1; have HZ2 := Lib.hid hz2
  clear hi hz0 hz1 hz2
  have hcl := fun w' => cycleLengths_is w' q hq
  unfold LenMade at hcl
  have hpm : ∀ n ∈ lenD q, n ≤ 10 := fun n hn => (lenD_mem hq hn).2
  have hl10 := lenD_le q
  have hpos : (lenD q).length ≠ 0 := by rw [lenD_length]; have := cycs_some hq; omega
  have hX : lenT q = mk (Lib.join ((lenL q).map tl) [32]) := rfl
  have hjz := lenT_size hq
  rw [hX, size_mk] at hjz
  obtain ⟨M, hM⟩ : ∃ M : Nat → List ByteArray, M = fun j => (lenL q).take j := ⟨_, rfl⟩
  have hMe : M (lenD q).length = lenL q := by rw [hM]; simp only; rw [← lenL_length, List.take_length]
  have hMl : ∀ j, j ≤ (lenD q).length → (M j).length = j := fun j hj => by rw [hM]; simp [lenL_length, hj]
  have hMs : ∀ j (hj : j < (lenD q).length), M j ++ [mk (Lib.itoa ((lenD q)[j] : Int))] = M (j + 1) := fun j hj => by
    have h2 : j < (lenL q).length := by rw [lenL_length]; exact hj
    rw [hM]; simp only
    rw [List.take_succ_eq_append_getElem h2]; simp [lenL]
  have hM0 : M 0 = [] := by rw [hM]; rfl
  rw [← hMe] at hX hjz
  obtain ⟨X, hXX⟩ : ∃ X, X = lenT q := ⟨_, rfl⟩
  rw [← hXX] at hX ⊢
  clear hXX hMe hM
  generalize lenD q = P at hcl hpm hl10 hpos hMl hMs hX hjz
  have HCL := Lib.hid hcl; have HPM := Lib.hid hpm; have HML := Lib.hid hMl; have HMS := Lib.hid hMs; have HM0 := Lib.hid hM0; have HX := Lib.hid hX; have HJZ := Lib.hid hjz; have HG := Lib.hid hg
  clear hcl hpm hMl hMs hM0 hX hjz hq hg
  obtain ⟨N, hN⟩ : ∃ N, N = P.length := ⟨_, rfl⟩
  rw [← hN] at hl10 hpos HCL
  have HN := Lib.hid hN
  clear hN
  generalize pT q = T at HCL
  go_enter Tryz.func57, Tryz.ntmps57
  go_wp2_with fail
  refine (HCL.out _).mono ?_
  rintro _ w1 ⟨A1, c1, rfl, ho1, hb1⟩
  have HRP := Lib.hid (own_rd3' ho1); have hcp1 := own_le3 ho1; have HB1 := Lib.hid hb1; have HG1 := Lib.hid (HG.out.below hb1 (Nat.le_refl _))
  clear ho1 hb1 HCL HG
  go_wp2_with fail
  go_loopw [3, 9] (fun o i wr => ∃ j : Nat, j ≤ N ∧ i = .int .i64 j ∧ Hid (wr.ownsRow w1.heap.size 9 1 o j (strV (M j))) ∧ Hid (Below w1.heap.size w1 wr)) (fun _ i _ => N - (intOf i).toNat)
  case atStart => exact ⟨0, Nat.zero_le _, rfl, Lib.hid (by rw [HM0.out]; exact World.ownsRow_nil _ _ _ _), Lib.hid (Below.refl _ _)⟩
  case round =>
    obtain ⟨j, hj, rfl, HW, HBL⟩ := hrel
    obtain ⟨A3, c3, e3⟩ := slot_slice HW.out
    subst e3
    by_cases hlt : j < N
    · have hjP : j < P.length := by have := HN.out; omega
      obtain ⟨b, off, rfl, hbb, r0⟩ := (HRP.out.below HBL.out).nat hjP
      have hn2 := HPM.out _ (List.getElem_mem hjP)
      have hms := HMS.out j hjP
      generalize P[j] = n at r0 hn2 hms
      have hit := itoa_any wr (HG1.out.below HBL.out (Nat.le_refl _)) n (by omega)
      have HIT := Lib.hid hit; have HMSX := Lib.hid hms; clear hit hms
      go_wp2_with fail
      refine HIT.out.mono ?_
      rintro _ w2 ⟨rfl, hb2⟩
      generalize mk (Lib.itoa (n : Int)) = I at HMSX ⊢
      have ho2 := ownsRow_below HW.out hb2
      have hb3 := HBL.out.trans (hb2.mono HBL.out.size)
      have HO2 := Lib.hid ho2; have HB2 := Lib.hid hb3
      have hbw := hb3.size
      clear ho2 hb2 hb3 HIT
      go_wp2_with (at_builtin; refine wpList_append_own _ rfl _ _ 42 rfl w1.heap.size 9 iS (.string ByteArray.empty) 1 16 Tryz.undS HI.out HZ0.out HZ1.out HZ2.out rfl (by decide) _ j _ rfl (HO2.out.alloc _) ⟨w2.heap.size, 0, none⟩ 1 1 [.string I] rfl rfl (one_new w2 _ _) one_cell (by unfold maxLen; omega) (by omega) (by simp; omega) ?_)
      intro v' w6 ho' hg' _
      rw [strV_snoc2, HMSX.out] at ho'
      have hb6 := (HB2.out.alloc HB2.out.size _).grown hg' (Nat.le_trans HB2.out.size (by simp)) fun k' e => (HO2.out.lt k' e).1
      have HO6 := Lib.hid ho'; have HB6 := Lib.hid hb6; clear ho' hg' hb6
      go_wp2_with fail
      go_roundw
      case rel => exact ⟨j + 1, by omega, by go_num, HO6, HB6⟩
      case measure => simp [intOf]; omega
    · obtain rfl : j = N := by omega
      have hPN := HN.out
      have hMl := HML.out P.length (Nat.le_refl _)
      have hXe := HX.out
      have hjz := HJZ.out
      rw [← hPN] at hMl hXe hjz
      obtain ⟨ws, hws⟩ : ∃ ws, ws = M j := ⟨_, rfl⟩
      have ho := HW.out
      rw [← hws] at hMl ho hXe hjz
      have hjn := join_own wr w1.heap.size A3 c3 ws (mk [32]) (by rw [hMl]; exact ho) (by intro e; rw [e] at hMl; exact hpos hMl.symm) (by omega) (by rw [tl_mk]; omega)
      rw [hMl, tl_mk, ← hXe] at hjn
      have HJN := Lib.hid hjn
      have HBW := Lib.hid (HB1.out.trans (HBL.out.mono HB1.out.size))
      clear hjn ho hws hMl hXe hjz hPN
      go_wp2_with fail
      refine HJN.out.mono ?_
      rintro _ w5 ⟨rfl, hb5⟩
      have HB5 := Lib.hid (HBW.out.trans (hb5.mono HBW.out.size))
      clear hb5
      go_wp2_with fail
      go_ret
      exact ⟨rfl, HB5.out⟩

set_option maxHeartbeats 8000000 in
set_option maxRecDepth 100000 in
theorem sLengthsText_is (w : World) (q : List Nat) (hq : Prm q) :
    Calls Tryz.prog 59 #[.string (pT q)] w fun e w' => e = .returned (.string (lenT q)) ∧ Below w.heap.size w w' := by
  have hcl := fun w' => sCycleLengths_is w' q hq
  unfold LenMade at hcl
  have hpm : ∀ n ∈ lenD q, n ≤ 10 := fun n hn => (lenD_mem hq hn).2
  have hl10 := lenD_le q
  obtain ⟨O, hO⟩ : ∃ O : Nat → ByteArray, O = fun k => mk (Lib.join (((lenL q).take k).map tl) [32]) := ⟨_, rfl⟩
  have hO0 : O 0 = ⟨#[]⟩ := by rw [hO]; rfl
  have hOe : O (lenD q).length = lenT q := by rw [hO]; simp only; rw [← lenL_length, List.take_length]; rfl
  have hOz : ∀ k, k ≤ (lenD q).length → (O k).size ≤ 150 := fun k hk => by
    have h := joinW_le (lenL q) [32] 14 (fun s hs => lenL_size hq hs) k (by rw [lenL_length]; exact hk)
    rw [hO]; simp only; rw [size_mk]
    have h3 : k * (14 + [32].length) ≤ 10 * 15 := Nat.mul_le_mul (by omega) (Nat.le_refl _)
    omega
  have hO1 : ∀ k (hk : k < (lenD q).length), O (k + 1) = (if k = 0 then O 0 else O k ++ ⟨#[32]⟩) ++ mk (Lib.decDigits (lenD q)[k]) := fun k hk => by
    have h2 : k < (lenL q).length := by rw [lenL_length]; exact hk
    have hs := joinW_snoc (lenL q) [32] k h2
    have e1 : tl (lenL q)[k] = Lib.decDigits (lenD q)[k] := by simp only [lenL, List.getElem_map, tl_mk, itoa_nat]
    rw [e1] at hs
    rw [hO]; simp only
    rw [hs]
    apply tl_inj
    simp only [append_tl, tl_mk]
    congr 1
    split
    · simp [Lib.join_nil, tl_mk]
    · simp only [tl_mk]; rfl
  rw [← hOe]
  clear hO hOe
  generalize lenD q = P at hcl hpm hl10 hOz hO1 ⊢
  have HCL := Lib.hid hcl; have HPM := Lib.hid hpm; have HO1 := Lib.hid hO1; have HOZ := Lib.hid hOz; have HO0 := Lib.hid hO0
  clear hcl hpm hO1 hOz hO0 hq
  obtain ⟨N, hN⟩ : ∃ N, N = P.length := ⟨_, rfl⟩
  rw [← hN] at hl10 HCL ⊢
  have HN := Lib.hid hN
  clear hN
  generalize pT q = T at HCL
  go_enter Tryz.func59, Tryz.ntmps59
  go_wp2_with fail
  refine (HCL.out _).mono ?_
  rintro _ w1 ⟨A1, c1, rfl, ho1, hb1⟩
  have HRP := Lib.hid (own_rd3' ho1); have hcp1 := own_le3 ho1; have HB1 := Lib.hid hb1
  clear ho1 hb1 HCL
  go_wp2_with fail
  go_loopw [3, 5] (fun o i wr => ∃ k : Nat, k ≤ N ∧ i = .int .i64 k ∧ o = .string (O k) ∧ Hid (Below w1.heap.size w1 wr)) (fun _ i _ => N - (intOf i).toNat)
  case atStart => exact ⟨0, Nat.zero_le _, rfl, by rw [HO0.out], Lib.hid (Below.refl _ _)⟩
  case round =>
    obtain ⟨k, hk, rfl, rfl, HBL⟩ := hrel
    by_cases hlt : k < N
    · have hkP : k < P.length := by have := HN.out; omega
      obtain ⟨b, off, rfl, hbb, r0⟩ := (HRP.out.below HBL.out).nat hkP
      have hn2 := HPM.out _ (List.getElem_mem hkP)
      have ho1 := HO1.out k hkP
      have hz := HOZ.out k (by omega)
      generalize P[k] = n at r0 hn2 ho1
      have hld := fun w' => l21Dec_any w' n (by omega)
      have hdz := dec_len n (by omega)
      have HLD := Lib.hid hld
      have v0 : (k : Int) < (N : Int) := by omega
      clear hld
      by_cases hk0 : k = 0
      · subst hk0
        rw [if_pos rfl] at ho1
        have hz1 : (mk (Lib.decDigits n)).size ≤ 14 := by rw [size_mk]; exact hdz
        have HOX := Lib.hid ho1
        clear ho1 hdz
        simp only [Nat.add_zero] at r0
        generalize mk (Lib.decDigits n) = D at HLD HOX hz1
        generalize O 0 = O0 at HOX hz ⊢
        have y1 : ¬ 9223372036854775807 < O0.size + D.size := by omega
        go_wp2_with fail
        refine (HLD.out _).mono ?_
        rintro _ w2 ⟨rfl, hb2⟩
        have HB2 := Lib.hid (HBL.out.trans (hb2.mono HBL.out.size))
        clear hb2
        go_wp2_with fail
        go_roundw
        case rel => exact ⟨0 + 1, by omega, by go_num, by rw [HOX.out], HB2⟩
        case measure => simp [intOf]; omega
      · rw [if_neg hk0] at ho1
        have hz1 : (mk (Lib.decDigits n)).size ≤ 14 := by rw [size_mk]; exact hdz
        have HOX := Lib.hid ho1
        clear ho1 hdz
        have v1 : (0 : Int) < (k : Int) := by omega
        generalize mk (Lib.decDigits n) = D at HLD HOX hz1
        generalize O k = O0 at HOX hz ⊢
        have y1 : ¬ 9223372036854775807 < O0.size + 1 := by omega
        have y2 : ¬ 9223372036854775807 < O0.size + 1 + D.size := by omega
        go_wp2_with fail
        refine (HLD.out _).mono ?_
        rintro _ w2 ⟨rfl, hb2⟩
        have HB2 := Lib.hid (HBL.out.trans (hb2.mono HBL.out.size))
        clear hb2
        go_wp2_with fail
        go_roundw
        case rel => exact ⟨k + 1, by omega, by go_num, by rw [HOX.out], HB2⟩
        case measure => simp [intOf]; omega
    · obtain rfl : k = N := by omega
      go_wp2_with fail
      go_ret
      exact ⟨rfl, HB1.out.trans (HBL.out.mono HB1.out.size)⟩

end

end Go.Proofs.YtipcodebmemkpaaGreatDoor
