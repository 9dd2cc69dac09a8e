/-
  The text of cycles, of the program: FormatCycles and ParseCycles. Conditions: what each theorem names.
-/
import Derived.Test.YtflaoicjgigcaaaGreatDoorMachB
import Derived.Test.YtflaoicjgigcaaaGreatDoorRunL
import Derived.Test.YtflaoicjgigcaaaGreatDoorMachP
namespace Go.Proofs.YtflaoicjgigcaaaGreatDoor
open Go.RowKit Pl
set_option linter.unusedVariables false

/-- the text of the first k cycles -/
def fmtTo (l : List (List Nat)) (k : Nat) : List UInt8 := (l.take k).flatMap fun c => if 1 < c.length then 40 :: (tl (pT c) ++ [41]) else []
theorem fmtTo_yes {l : List (List Nat)} {k : Nat} (h : k < l.length) (hc : 1 < l[k].length) : fmtTo l k ++ tl (⟨#[40]⟩ ++ pT l[k] ++ ⟨#[41]⟩) = fmtTo l (k + 1) := by
  unfold fmtTo
  rw [List.take_succ_eq_append_getElem h, List.flatMap_append]
  simp only [List.flatMap_cons, List.flatMap_nil, List.append_nil, if_pos hc, append_tl, tl_mk]
  rfl
theorem fmtTo_no {l : List (List Nat)} {k : Nat} (h : k < l.length) (hc : ¬ 1 < l[k].length) : fmtTo l k = fmtTo l (k + 1) := by
  unfold fmtTo
  rw [List.take_succ_eq_append_getElem h, List.flatMap_append]
  simp only [List.flatMap_cons, List.flatMap_nil, List.append_nil, if_neg hc]
theorem fmtTo_len (l : List (List Nat)) (hl : ∀ c ∈ l, c.length ≤ 10) : ∀ k, k ≤ l.length → (fmtTo l k).length ≤ 12 * k
  | 0, _ => by simp [fmtTo]
  | k + 1, h => by
    have ih := fmtTo_len l hl k (by omega)
    have hk : k < l.length := by omega
    have hc := hl _ (List.getElem_mem hk)
    by_cases h1 : 1 < l[k].length
    · rw [← fmtTo_yes hk h1, List.length_append, length_tl, ByteArray.size_append, ByteArray.size_append, pT_size]
      have z1 : (⟨#[40]⟩ : ByteArray).size = 1 := rfl
      have z2 : (⟨#[41]⟩ : ByteArray).size = 1 := rfl
      omega
    · rw [← fmtTo_no hk h1]; omega
/-- the text of a permutation's cycles -/
def cycT (q : List Nat) : List UInt8 := if fmtTo (cycs q 10) (cycs q 10).length = [] then [40, 41] else fmtTo (cycs q 10) (cycs q 10).length

set_option maxHeartbeats 4000000 in
set_option maxRecDepth 100000 in
theorem formatCycles_any (w : World) (q : List Nat) (hq : Prm q) :
    Calls Tryz.prog 9 #[.string (pT q)] w fun e w' => e = .returned (.string (mk (cycT q))) ∧ Below w.heap.size w w' := by
  have hpo := fun w' => permOf_yes w' q hq
  have hcy := fun w' => cycles_any w' q hq
  have hct : cycT q = if fmtTo (cycs q 10) (cycs q 10).length = [] then [40, 41] else fmtTo (cycs q 10) (cycs q 10).length := rfl
  obtain ⟨CT, hCT⟩ : ∃ CT, CT = cycT q := ⟨_, rfl⟩
  rw [← hCT] at hct ⊢
  clear hCT
  unfold CycMade at hcy
  have hat := cycS_at q 10
  have hsl := cycS_len q 10
  have hcl := fun c (hc : c ∈ cycs q 10) => cyc_len hq hc
  have hl10 := cycs_len q 10
  generalize cycS q 10 = SS at hcy hat hsl
  generalize cycs q 10 = L at hct hat hsl hcl hl10
  have hfl := fmtTo_len L (fun c hc => (hcl c hc).2.1)
  have hfy := fun k (h : k < L.length) => fmtTo_yes h
  have hfn := fun k (h : k < L.length) => fmtTo_no h
  have hf0 : fmtTo L 0 = [] := by simp [fmtTo]
  generalize fmtTo L = FT at hct hfl hfy hfn hf0
  have HPO := Lib.hid hpo; have HCY := Lib.hid hcy; have HCT := Lib.hid hct; have HAT := Lib.hid hat; have HSL := Lib.hid hsl; have HCL := Lib.hid hcl; have HFL := Lib.hid hfl; have HFY := Lib.hid hfy; have HFN := Lib.hid hfn; have HF0 := Lib.hid hf0; have HQL := Lib.hid hq.len
  clear hpo hcy hct hat hsl hcl hfl hfy hfn hf0 hq
  generalize pT q = T at HPO ⊢
  go_enter Tryz.func9, Tryz.ntmps9
  go_wp2_with fail
  refine (HPO.out _).mono ?_
  rintro _ w1 ⟨rfl, hb1⟩
  have HB1 := Lib.hid hb1; clear hb1 HPO
  have hg1 := PB.made w1
  have HG1 := Lib.hid hg1; clear hg1
  have hs2 : PB ((w1.alloc (.cells #[.int .u8 0, .int .u8 0, .int .u8 0, .int .u8 0, .int .u8 0, .int .u8 0, .int .u8 0, .int .u8 0, .int .u8 0, .int .u8 0] 44)).setRow w1.heap.size (pC q)) w1.heap.size q := HG1.out.row q
  have hs3 := hs2.below ((Below.refl _ _).alloc (Nat.le_refl _) (.cells #[.pointer none, .slice none 0 0] 53))
  have HS3 := Lib.hid hs3; clear hs2 hs3
  go_wp2_with (first | (refine wpList_store_row rfl 44 _ _ rfl w1.heap.size (pC q) rfl rfl _ _ HG1.out (permSize HQL.out) (by rw [pC_size, pC_size, HQL.out]; rfl) (pC_one _) ?_) | (refine wpList_load_row rfl 44 _ rfl w1.heap.size rfl _ _ _ _ HS3.out Tryz.underlying44 rfl (permSize HQL.out) ?_))
  have hsz : ((w1.alloc (.cells #[.int .u8 0, .int .u8 0, .int .u8 0, .int .u8 0, .int .u8 0, .int .u8 0, .int .u8 0, .int .u8 0, .int .u8 0, .int .u8 0] 44)).setRow w1.heap.size (pC q)).heap.size = w1.heap.size + 1 := by simp [World.setRow]
  have hbf0 := Lib.IsBuilderF.of (Lib.fresh_isBuilder 53 5 ((w1.alloc (.cells #[.int .u8 0, .int .u8 0, .int .u8 0, .int .u8 0, .int .u8 0, .int .u8 0, .int .u8 0, .int .u8 0, .int .u8 0, .int .u8 0] 44)).setRow w1.heap.size (pC q)))
  rw [hsz] at hbf0
  have hbb := (below_setRow (HB1.out.alloc HB1.out.size (.cells #[.int .u8 0, .int .u8 0, .int .u8 0, .int .u8 0, .int .u8 0, .int .u8 0, .int .u8 0, .int .u8 0, .int .u8 0, .int .u8 0] 44)) HB1.out.size (pC q)).alloc (below_setRow (HB1.out.alloc HB1.out.size (.cells #[.int .u8 0, .int .u8 0, .int .u8 0, .int .u8 0, .int .u8 0, .int .u8 0, .int .u8 0, .int .u8 0, .int .u8 0, .int .u8 0] 44)) HB1.out.size (pC q)).size (.cells #[.pointer none, .slice none 0 0] 53)
  obtain ⟨wb, hwb⟩ : ∃ wb, wb = ((w1.alloc (.cells #[.int .u8 0, .int .u8 0, .int .u8 0, .int .u8 0, .int .u8 0, .int .u8 0, .int .u8 0, .int .u8 0, .int .u8 0, .int .u8 0] 44)).setRow w1.heap.size (pC q)).alloc (.cells #[.pointer none, .slice none 0 0] 53) := ⟨_, rfl⟩
  rw [← hwb] at hbf0 hbb ⊢
  obtain ⟨Y, hY⟩ : ∃ Y, Y = w1.heap.size + 1 := ⟨_, rfl⟩
  rw [← hY] at hbf0 ⊢
  have hwY : w.heap.size ≤ Y := by have := HB1.out.size; omega
  have hbf1 : BF Y [] wb := hbf0
  have HBF0 := Lib.hid hbf1; have HBB := Lib.hid hbb
  clear hwb hY hsz hbf0 hbf1 hbb HS3 HG1
  refine (HCY.out wb).mono ?_
  rintro _ w2 ⟨A, cap, rfl, hown, hb2⟩
  have HBF2 := Lib.hid (bf_below HBF0.out hb2); have HOW2 := Lib.hid hown; have HB2 := Lib.hid (HBB.out.trans (hb2.mono HBB.out.size))
  have hbf2 : BF Y (FT 0) w2 := by rw [HF0.out]; exact HBF2.out
  have HBF3 := Lib.hid hbf2
  clear hown hb2 HBF0 HBB HBF2 hbf2 HCY HB1
  have hsl := HSL.out
  rw [hsl] at HOW2 ⊢
  obtain ⟨N, hN⟩ : ∃ N, N = L.length := ⟨_, rfl⟩
  rw [← hN] at HOW2 hl10 ⊢
  have HNE := Lib.hid hN; clear hN hsl
  obtain ⟨B0, hB0⟩ : ∃ B0, B0 = wb.heap.size := ⟨_, rfl⟩
  rw [← hB0] at HOW2
  clear hB0
  go_wp2_with fail
  go_loopw [7, 18] (fun _ i wr => ∃ k : Nat, k ≤ N ∧ i = .int .i64 k ∧ Hid (BF Y (FT k) wr) ∧ Hid (wr.ownsRow B0 9 1 (.slice A N cap) N (strV SS)) ∧ Hid (Below w.heap.size w wr)) (fun _ i _ => N - (intOf i).toNat)
  case atStart => exact ⟨0, Nat.zero_le _, rfl, HBF3, HOW2, HB2⟩
  case round =>
    obtain ⟨k, hk, rfl, HBF, HOW, HBL⟩ := hrel
    clear HBF3 HOW2 HB2
    by_cases hlt : k < N
    · have hkL : k < L.length := by have := HNE.out; omega
      have hkS : k < SS.length := by have := HSL.out; omega
      have hrd : Rd wr wr.heap.size A (strV SS) := own_rd3' HOW.out
      obtain ⟨b0, off, rfl, _, c0⟩ := hrd.str hkS
      rw [HAT.out k hkL hkS] at c0
      have hcz := (HCL.out _ (List.getElem_mem hkL)).2.1
      have hy := HFY.out k hkL
      have hno := HFN.out k hkL
      have hfz := HFL.out k (by omega)
      obtain ⟨c, hc⟩ : ∃ c, c = L[k] := ⟨_, rfl⟩
      rw [← hc] at c0 hcz hy hno
      have hpz := pT_size c
      obtain ⟨s, hs⟩ : ∃ s, s = pT c := ⟨_, rfl⟩
      rw [← hs] at c0 hy hpz
      have hys : Y ≤ wr.heap.size := by
        obtain ⟨cs, hb⟩ := bf_block HBF.out
        exact Nat.le_of_lt (Array.getElem?_eq_some_iff.1 hb).1
      have v0 : (k : Int) < (N : Int) := by omega
      clear hc hs hrd
      by_cases hc1 : 1 < c.length
      · have hgt : (1 : Int) < (s.size : Int) := by omega
        have hy2 := hy hc1
        have HY2 := Lib.hid hy2
        have hwk := write_k Y (FT k) (⟨#[40]⟩ ++ s ++ ⟨#[41]⟩) wr HBF.out (by rw [ByteArray.size_append, ByteArray.size_append]; have z1 : (⟨#[40]⟩ : ByteArray).size = 1 := rfl; have z2 : (⟨#[41]⟩ : ByteArray).size = 1 := rfl; omega) hys
        rw [hy2] at hwk
        have HWK := Lib.hid hwk
        have y1 : ¬ 9223372036854775807 < 1 + s.size := by omega
        have y2 : ¬ 9223372036854775807 < 1 + s.size + 1 := by omega
        clear hy hno hy2 hwk hpz hcz hfz hc1
        go_wp2_with fail
        refine HWK.out.mono ?_
        rintro _ w6 ⟨rfl, hbf6, hb6, hk6⟩
        obtain ⟨cs, hyb⟩ := bf_block HBF.out
        have HBF6 := Lib.hid hbf6; have HOW6 := Lib.hid (own_others HOW.out hk6 (by decide) hyb (by decide)); have HBL6 := Lib.hid (HBL.out.trans (hb6.mono hwY))
        clear hbf6 hb6 hk6 hyb c0
        go_wp2_with fail
        go_roundw
        case rel => exact ⟨k + 1, by omega, by go_num, HBF6, HOW6, HBL6⟩
        case measure => simp [intOf]; omega
      · have hgt : ¬ (1 : Int) < (s.size : Int) := by omega
        have hnx := HBF.out
        rw [hno hc1] at hnx
        have HBN := Lib.hid hnx
        clear hy hno hnx hpz hcz hfz hc1
        go_wp2_with fail
        go_roundw
        case rel => exact ⟨k + 1, by omega, by go_num, HBN, HOW, HBL⟩
        case measure => simp [intOf]; omega
    · obtain rfl : N = k := by omega
      have hct := HCT.out
      rw [← HNE.out] at hct
      have hfz := HFL.out N (by have := HNE.out; omega)
      generalize FT N = F at HBF hct hfz
      have HFZ := Lib.hid hfz; clear hfz
      by_cases hF : F = []
      · rw [if_pos hF] at hct
        have HR := Lib.hid hct
        have hz : ((F.length : Nat) : Int) = 0 := by rw [hF]; rfl
        have hz2 : (((F.length : Nat) : Int) == 0) = true := by rw [hz]; rfl
        have HZ := Lib.hid hz
        clear hct hF hz
        go_wp2_with fail
        refine (len_k Y F wr HBF.out).mono ?_
        rintro _ _ ⟨rfl, rfl⟩
        rw [HZ.out]
        clear hz2
        go_wp2_with fail
        go_ret
        exact ⟨by rw [HR.out]; rfl, HBL.out⟩
      · rw [if_neg hF] at hct
        have HR := Lib.hid hct; have HFF := Lib.hid hF
        have hz2 : (((F.length : Nat) : Int) == 0) = false := by rw [beq_eq_false_iff_ne]; intro e; exact hF (List.length_eq_zero_iff.1 (by omega))
        clear hct hF
        go_wp2_with fail
        refine (len_k Y F wr HBF.out).mono ?_
        rintro _ _ ⟨rfl, rfl⟩
        go_wp2_with fail
        refine (string_k Y F _ HBF.out HFF.out).mono ?_
        rintro _ w7 ⟨rfl, hb7⟩
        have HB7 := Lib.hid (HBL.out.trans (hb7.mono hwY)); clear hb7
        go_wp2_with fail
        go_ret
        exact ⟨by rw [HR.out]; rfl, HB7.out⟩

/-- the identity, with q's numbers at some places -/
def over (q p : List Nat) (l : List Nat) : List Nat := l.foldl (fun p x => p.set x (nth q x)) p
theorem over_snoc (q p l : List Nat) (x : Nat) : over q p (l ++ [x]) = (over q p l).set x (nth q x) := by unfold over; rw [List.foldl_append]; rfl
theorem over_len (q : List Nat) : ∀ (l p : List Nat), (over q p l).length = p.length
  | [], p => rfl
  | x :: l, p => by
    have := over_len q l (p.set x (nth q x))
    rw [List.length_set] at this
    exact this
theorem nth_set (p : List Nat) (x v i : Nat) (hx : x < p.length) : nth (p.set x v) i = if i = x then v else nth p i := by
  unfold nth
  rw [List.getElem?_set]
  by_cases h : x = i
  · subst h; simp [hx]
  · rw [if_neg h, if_neg (fun e => h e.symm)]
theorem over_nth (q : List Nat) : ∀ (l p : List Nat) (i : Nat), (∀ x ∈ l, x < p.length) → nth (over q p l) i = if i ∈ l then nth q i else nth p i
  | [], p, i, _ => by simp [over]
  | x :: l, p, i, h => by
    have ih := over_nth q l (p.set x (nth q x)) i (fun y hy => by rw [List.length_set]; exact h y (List.mem_cons_of_mem _ hy))
    show nth (over q (p.set x (nth q x)) l) i = _
    rw [ih, nth_set p x _ i (h x List.mem_cons_self)]
    by_cases h1 : i ∈ l
    · simp [h1]
    · by_cases h2 : i = x
      · simp [h2]
      · simp [h1, h2]
/-- the cycles that are written -/
def bigs (q : List Nat) : List (List Nat) := (cycs q 10).filter fun c => decide (1 < c.length)
theorem bigs_mem {q c : List Nat} (h : c ∈ bigs q) : c ∈ cycs q 10 ∧ 1 < c.length := by
  unfold bigs at h
  rw [List.mem_filter] at h
  exact ⟨h.1, by simpa using h.2⟩
theorem over_end {q : List Nat} (hq : Prm q) : over q (List.range 10) (bigs q).flatten = q := by
  have hlt : ∀ x ∈ (bigs q).flatten, x < 10 := fun x hx => by
    obtain ⟨c, hc, hxc⟩ := List.mem_flatten.1 hx
    exact (cyc_len hq (bigs_mem hc).1).2.2 x hxc
  have hl : (over q (List.range 10) (bigs q).flatten).length = 10 := by rw [over_len]; rfl
  apply List.ext_getElem (by rw [hl, hq.len])
  intro i h1 h2
  have hi : i < 10 := by omega
  rw [← nth_eq h1, ← nth_eq h2, over_nth q _ _ i (fun x hx => by rw [List.length_range]; exact hlt x hx)]
  by_cases hm : i ∈ (bigs q).flatten
  · rw [if_pos hm]
  · rw [if_neg hm]
    obtain ⟨c, hc, hic⟩ := List.mem_flatten.1 (seen_all hq hi)
    obtain ⟨a, ha, rfl⟩ := cycs_mem q 10 c hc
    have hone : (orb q a).length = 1 := by
      have := (cyc_len hq hc).1
      apply Classical.byContradiction
      intro hn
      exact hm (List.mem_flatten.2 ⟨orb q a, by unfold bigs; rw [List.mem_filter]; exact ⟨hc, by simpa using (by omega : 1 < (orb q a).length)⟩, hic⟩)
    rw [orb_one hone] at hic
    have hia : i = a := by simpa using hic
    rw [hia, (orb_fix hq ha).1 hone]
    simp [nth, ha]
theorem orb_next {q : List Nat} {a : Nat} (hq : Prm q) (ha : a < 10) (j : Nat) (hj : j < (orb q a).length) : nth (orb q a) ((j + 1) % (orb q a).length) = nth q (nth (orb q a) j) := by
  obtain ⟨p1, p2, p3, p4⟩ := per_spec hq ha
  have hl : (orb q a).length = per q a := by unfold orb; rw [orbTo_len]
  have hat : ∀ k (h : k < (orb q a).length), (orb q a)[k] = it q a k := fun k h => by simp [orb, orbTo]
  rw [nth_eq (Nat.mod_lt _ (by omega)), nth_eq hj, hat, hat]
  rw [hl] at hj ⊢
  by_cases he : j + 1 = per q a
  · rw [he, Nat.mod_self]
    show a = nth q (it q a j)
    have : it q a (j + 1) = a := by rw [he, p3]
    exact this.symm
  · rw [Nat.mod_eq_of_lt (by omega)]; rfl
/-- the text of some cycles -/
def ctx (l : List (List Nat)) : List UInt8 := l.flatMap fun c => 40 :: (tl (pT c) ++ [41])
theorem ctx_big (l : List (List Nat)) : (l.flatMap fun c => if 1 < c.length then 40 :: (tl (pT c) ++ [41]) else []) = ctx (l.filter fun c => decide (1 < c.length)) := by
  unfold ctx
  induction l with
  | nil => rfl
  | cons x r ih =>
    rw [List.flatMap_cons, ih]
    by_cases h : 1 < x.length
    · rw [if_pos h, List.filter_cons_of_pos (by simpa using h), List.flatMap_cons]
    · rw [if_neg h, List.filter_cons_of_neg (by simpa using h), List.nil_append]
theorem cycT_is (q : List Nat) : cycT q = if bigs q = [] then [40, 41] else ctx (bigs q) := by
  have e : fmtTo (cycs q 10) (cycs q 10).length = ctx (bigs q) := by
    unfold fmtTo
    rw [List.take_length]
    exact ctx_big _
  unfold cycT
  rw [e]
  by_cases h : bigs q = []
  · rw [h]; rfl
  · rw [if_neg h, if_neg]
    cases hb : bigs q with
    | nil => exact absurd hb h
    | cons x r => simp [ctx]
theorem cycT_len {q : List Nat} (hq : Prm q) : (cycT q).length ≤ 120 := by
  have h := fmtTo_len (cycs q 10) (fun c hc => (cyc_len hq hc).2.1) (cycs q 10).length (Nat.le_refl _)
  have h2 := cycs_len q 10
  unfold cycT
  by_cases e : fmtTo (cycs q 10) (cycs q 10).length = []
  · rw [if_pos e]; decide
  · rw [if_neg e]; omega
/-- what is left of the text -/
def rst (L : List (List Nat)) (k : Nat) : ByteArray := if L = [] then mk [40, 41] else mk (ctx (L.drop k))
theorem rst_step {L : List (List Nat)} (hL : ∀ c ∈ L, 1 < c.length ∧ ∀ x ∈ c, x < 10) {k : Nat} (h : k < L.length) :
    tl (rst L k) = 40 :: (tl (pT L[k]) ++ 41 :: tl (rst L (k + 1))) ∧ mk (bef 41 ((tl (rst L k)).drop 1)) = pT L[k] ∧ mk (aft 41 ((tl (rst L k)).drop 1)) = rst L (k + 1) ∧ (41 : UInt8) ∈ (tl (rst L k)).drop 1 := by
  have hn : L ≠ [] := by intro e; rw [e] at h; simp at h
  have e1 : tl (rst L k) = 40 :: (tl (pT L[k]) ++ 41 :: tl (rst L (k + 1))) := by
    unfold rst
    rw [if_neg hn, if_neg hn, tl_mk, tl_mk, List.drop_eq_getElem_cons h]
    show (_ :: (_ ++ [41])) ++ _ = _
    rw [List.cons_append, List.append_assoc]; rfl
  have hno : (41 : UInt8) ∉ tl (pT L[k]) := letters_not (pT_letters (hL _ (List.getElem_mem h)).2) (by decide)
  refine ⟨e1, ?_, ?_, ?_⟩
  · rw [e1, List.drop_succ_cons, List.drop_zero, (bef_of hno).1, mk_tl]
  · rw [e1, List.drop_succ_cons, List.drop_zero, (bef_of hno).2, mk_tl]
  · rw [e1, List.drop_succ_cons, List.drop_zero]; simp
theorem rst_less {L : List (List Nat)} (hL : ∀ c ∈ L, 1 < c.length ∧ ∀ x ∈ c, x < 10) {k : Nat} (h : k < L.length) : 4 + (rst L (k + 1)).size ≤ (rst L k).size := by
  have h1 := congrArg List.length (rst_step hL h).1
  have h2 := (hL _ (List.getElem_mem h)).1
  simp only [List.length_cons, List.length_append, length_tl, pT_size] at h1
  omega

set_option maxHeartbeats 8000000 in
set_option maxRecDepth 100000 in
theorem parseCycles_yes (w : World) (hml : ML w) (q : List Nat) (hq : Prm q) :
    Calls Tryz.prog 176 #[.string (mk (cycT q))] w fun e w' => e = .returned (.tuple #[.string (pT q), .bool true]) ∧ Below w.heap.size w w' := by
  have hfp := fun w' => formatCycles_any w' q hq
  have hps := fun w' => permStr_any w' q hq.toTen
  have hpq : mk (q.map letter) = pT q := rfl
  rw [hpq] at hps
  have hTz : (mk (cycT q)).size ≤ 120 := by rw [size_mk]; exact cycT_len hq
  have hidn := fun w' => identity_any w'
  have hLm : ∀ c ∈ bigs q, 1 < c.length ∧ ∀ x ∈ c, x < 10 := fun c hc => ⟨(bigs_mem hc).2, (cyc_len hq (bigs_mem hc).1).2.2⟩
  have hLn : ∀ c ∈ bigs q, c.length ≤ 10 := fun c hc => (cyc_len hq (bigs_mem hc).1).2.1
  have hnx : ∀ c ∈ bigs q, ∀ j, j < c.length → nth c ((j + 1) % c.length) = nth q (nth c j) := fun c hc j hj => by
    obtain ⟨a, ha, rfl⟩ := cycs_mem q 10 c (bigs_mem hc).1
    exact orb_next hq ha j hj
  have fend := over_end hq
  have f0 : over q (List.range 10) [] = List.range 10 := rfl
  have fsn := over_snoc q (List.range 10)
  have flen : ∀ l, (over q (List.range 10) l).length = 10 := fun l => by rw [over_len]; rfl
  have hT0 : mk (cycT q) = rst (bigs q) 0 := by
    rw [cycT_is]; unfold rst
    by_cases e : bigs q = []
    · rw [if_pos e, if_pos e]
    · rw [if_neg e, if_neg e, List.drop_zero]
  have hTe : ((rst (bigs q) (bigs q).length).toList == []) = true ∨ (((rst (bigs q) (bigs q).length).toList == []) = false ∧ ((rst (bigs q) (bigs q).length).toList == [40, 41]) = true) := by
    unfold rst
    by_cases e : bigs q = []
    · rw [if_pos e, toList_tl, tl_mk]; exact .inr ⟨rfl, rfl⟩
    · rw [if_neg e, toList_tl, tl_mk, List.drop_length]; exact .inl rfl
  have hls := fun k (h : k < (bigs q).length) => rst_less hLm h
  have hst := fun k (h : k < (bigs q).length) => rst_step hLm h
  have hqt := hq.toTen
  generalize over q (List.range 10) = F at fend f0 fsn flen
  rw [hT0] at hfp hTz ⊢
  clear hT0
  generalize bigs q = L at hTe hls hst hLm hLn hnx fend hfp hTz ⊢
  obtain ⟨RS, hRS⟩ : ∃ RS, RS = rst L := ⟨_, rfl⟩
  rw [← hRS] at hTe hls hst hfp hTz ⊢
  clear hRS
  have hnz := fun k (h : k < L.length) => (show ((RS k).toList == []) = false ∧ ((RS k).toList == [40, 41]) = false from by
    have h1 := hst k h
    have h2 := hls k h
    have h3 : (RS k).toList.length = (RS k).size := by rw [toList_tl, length_tl]
    constructor
    · rw [beq_eq_false_iff_ne]; intro e; rw [e] at h3; simp at h3; omega
    · rw [beq_eq_false_iff_ne]; intro e; rw [e] at h3; simp at h3; omega)
  have hRz : ∀ k, k ≤ L.length → (RS k).size ≤ 120 := fun k => by
    induction k with
    | zero => intro _; exact hTz
    | succ k ih => intro h; have := ih (by omega); have := hls k (by omega); omega
  have hbq : ((RS 0).toList == (RS 0).toList) = true := beq_self_eq_true _
  have HFP := Lib.hid hfp; have HPS := Lib.hid hps; have HID := Lib.hid hidn; have HQL := Lib.hid hq.len; have HF0 := Lib.hid f0; have HFE := Lib.hid fend
  have HSN := Lib.hid fsn; have HFL := Lib.hid flen; have HTE := Lib.hid hTe; have HLS := Lib.hid hls; have HST := Lib.hid hst; have HNZ := Lib.hid hnz; have HRZ := Lib.hid hRz
  have HLM := Lib.hid hLm; have HLN := Lib.hid hLn; have HNX := Lib.hid hnx; have HML := Lib.hid hml
  clear hfp hps hidn hq hpq f0 fend fsn flen hTe hls hst hnz hRz hLm hLn hnx hml hqt hTz
  obtain ⟨S, hS⟩ : ∃ S, S = pT q := ⟨_, rfl⟩
  rw [← hS] at HFP HPS ⊢
  clear hS
  have HT0 := Lib.hid (show (List.range 10).length = 10 from rfl)
  obtain ⟨r0, hr0⟩ : ∃ r0, r0 = List.range 10 := ⟨_, rfl⟩
  rw [← hr0] at HID HF0 HT0
  clear hr0
  go_enter Tryz.func176, Tryz.ntmps176
  go_wp2_with fail
  refine (HID.out _).mono ?_
  rintro _ w1 ⟨rfl, hb1⟩
  have HG1 := Lib.hid (PB.made w1)
  have HS3 := Lib.hid (HG1.out.row r0)
  have HB3 := Lib.hid (below_setRow (hb1.alloc hb1.size (.cells #[.int .u8 0, .int .u8 0, .int .u8 0, .int .u8 0, .int .u8 0, .int .u8 0, .int .u8 0, .int .u8 0, .int .u8 0, .int .u8 0] 44)) hb1.size (pC r0))
  obtain ⟨Q, hQ⟩ : ∃ Q, Q = w1.heap.size := ⟨_, rfl⟩
  have hwQ : w.heap.size ≤ Q := by rw [hQ]; exact hb1.size
  clear hb1
  go_wp2_with (first | (refine wpList_store_row rfl 44 _ _ rfl w1.heap.size (pC r0) rfl rfl _ _ HG1.out (permSize HT0.out) (by rw [pC_size, pC_size, HT0.out]; rfl) (pC_one _) ?_))
  obtain ⟨w3, hw3⟩ : ∃ w3, w3 = (w1.alloc (.cells #[.int .u8 0, .int .u8 0, .int .u8 0, .int .u8 0, .int .u8 0, .int .u8 0, .int .u8 0, .int .u8 0, .int .u8 0, .int .u8 0] 44)).setRow w1.heap.size (pC r0) := ⟨_, rfl⟩
  rw [← hw3] at HS3 HB3 ⊢
  rw [← hQ] at HS3 ⊢
  clear hw3 HG1 hQ
  go_loopw [5] (fun R wr => ∃ k : Nat, k ≤ L.length ∧ R = .string (RS k) ∧ Hid (PB wr Q (F (L.take k).flatten)) ∧ Hid (Below w.heap.size w wr)) (fun R _ => szOf R)
  case atStart => exact ⟨0, Nat.zero_le _, rfl, Lib.hid (by rw [List.take_zero, List.flatten_nil, HF0.out]; exact HS3.out), HB3⟩
  case round =>
    obtain ⟨k, hk, rfl, HPB, HBL⟩ := hrel
    clear HS3 HB3
    by_cases hlt : k < L.length
    · obtain ⟨e1, e2, e3, e4⟩ := HST.out k hlt
      have n1 := (HNZ.out k hlt).1
      have n2 := (HNZ.out k hlt).2
      have hz := HRZ.out k hk
      have hz2 := HLS.out k hlt
      have v0 : (0 : Int) < ((RS k).size : Int) := by omega
      have b0 : ((((RS k)[0]'(by omega)).toNat : Int) != 40) = false := by
        have : (RS k)[0]'(by omega) = 40 := by rw [getElem_tl]; simp [e1]
        rw [this]; decide
      have he : tl ((RS k).extract 1 (RS k).size) = (tl (RS k)).drop 1 := by
        rw [extract_mk', tl_mk, List.take_of_length_le (by rw [List.length_drop, length_tl]; omega)]
      have hcut := cut_any wr ((RS k).extract 1 (RS k).size) 41 (HML.out.below HBL.out (Nat.le_refl _)) (by rw [← length_tl, he, List.length_drop, length_tl]; omega)
      rw [he, e2, e3, decide_eq_true e4] at hcut
      obtain ⟨hc1, hclt⟩ := HLM.out _ (List.getElem_mem hlt)
      have hc10 := HLN.out _ (List.getElem_mem hlt)
      have hnx := HNX.out _ (List.getElem_mem hlt)
      have htk : (L.take (k + 1)).flatten = (L.take k).flatten ++ L[k] := by rw [List.take_succ_eq_append_getElem hlt, List.flatten_append]; simp
      generalize L[k] = c at hcut hc1 hclt hc10 hnx htk
      have HCUT := Lib.hid hcut
      have hsz := pT_size c
      have hwv := pT_wv hclt (by omega)
      have hle : ∀ j (h : j < (pT c).size), isL (pT c)[j] = true ∧ dg (pT c)[j] = nth c j := fun j h => by
        have hj : j < c.length := by omega
        have hx := hclt _ (List.getElem_mem hj)
        rw [pT_at h hj, nth_eq hj]
        exact ⟨isL_letter hx, dg_letter hx⟩
      have hsn : ∀ j, j < c.length → (F ((L.take k).flatten ++ c.take j)).set (nth c j) (nth c ((j + 1) % c.length)) = F ((L.take k).flatten ++ c.take (j + 1)) := fun j hj => by
        rw [hnx j hj, ← HSN.out, List.append_assoc]
        congr 2
        rw [List.take_succ_eq_append_getElem hj, nth_eq hj]
      have hmf : (L.take k).flatten ++ c.take c.length = (L.take (k + 1)).flatten := by rw [List.take_length, htk]
      have HLE := Lib.hid hle; have HSN2 := Lib.hid hsn; have HMF := Lib.hid hmf; have HWV := Lib.hid hwv
      clear hle hsn hmf hwv hnx htk hclt he e1 e2 e3 e4 hcut
      obtain ⟨m, hm⟩ : ∃ m, m = c.length := ⟨_, rfl⟩
      rw [← hm] at hsz HSN2 HMF hc1 hc10
      have hpb : PB wr Q (F ((L.take k).flatten ++ c.take 0)) := by rw [List.take_zero, List.append_nil]; exact HPB.out
      have HPB0 := Lib.hid hpb
      clear hm hpb HPB
      have hgt : ¬ (10 : Int) < ((pT c).size : Int) := by omega
      generalize pT c = s at HCUT HLE HWV hsz hgt
      go_wp2_with fail
      refine HCUT.out.mono ?_
      rintro _ w4 ⟨rfl, n4, hw4⟩
      have HPB4 := Lib.hid (show PB w4 Q _ by rw [hw4]; exact HPB0.out)
      have HBL4 := Lib.hid (show Below w.heap.size w w4 by rw [hw4]; exact below_drewN' HBL.out n4)
      clear hw4 HPB0 HBL HCUT
      go_wp2_with fail
      refine (wordValid_is _ true _ HWV.out).mono ?_
      rintro _ _ ⟨rfl, rfl⟩
      go_wp2_with fail
      go_loopw [9, 43] (fun _ i wx => ∃ j : Nat, j ≤ m ∧ i = .int .i64 j ∧ Hid (PB wx Q (F ((L.take k).flatten ++ c.take j))) ∧ Hid (Below w.heap.size w wx)) (fun _ i _ => m - (intOf i).toNat)
      case atStart => exact ⟨0, Nat.zero_le _, rfl, HPB4, HBL4⟩
      case round =>
        obtain ⟨j, hj, rfl, HPX, HBX⟩ := hrel
        clear HPB4 HBL4
        by_cases hjm : j < m
        · obtain ⟨t, ht⟩ : ∃ t, t = (j + 1) % m := ⟨_, rfl⟩
          have hsn := HSN2.out j hjm
          rw [← ht] at hsn
          have hm1 : t < m := by rw [ht]; exact Nat.mod_lt _ (by omega)
          have w2 : ((j : Int) + 1).tmod (m : Int) = (t : Int) := by rw [ht, Int.tmod_eq_emod_of_nonneg (by omega)]; push_cast; rfl
          clear ht
          have y0 : j < s.size := by omega
          have y1 : t < s.size := by omega
          obtain ⟨x0, z0⟩ := HLE.out j y0
          obtain ⟨x1, z1⟩ := HLE.out t y1
          have g0 := dg_lt x0
          have g1 := dg_lt x1
          have v0 : (j : Int) < (m : Int) := by omega
          have v3 : ((dg s[j] : Nat) : Int) < 10 := by omega
          have v2 : (t : Int) < (m : Int) := by omega
          rw [← z0, ← z1] at hsn
          have hpp := HPX.out.put (dg s[j]) (dg s[t])
          rw [hsn] at hpp
          have hfl := HFL.out ((L.take k).flatten ++ c.take j)
          obtain ⟨xx, d0⟩ : ∃ x, wr.cell? ⟨Q, dg s[j], none⟩ = some x := ⟨_, HPX.out.cell (k := dg s[j]) (by omega)⟩
          have f0 := HPX.out.frozen (dg s[j])
          have hbp := HBX.out.setCell (p := ⟨Q, dg s[j], none⟩) hwQ (.int .u8 (dg s[t] : Int))
          have w1 : IntKind.u8.wrap ((dg s[t] : Nat) : Int) = ((dg s[t] : Nat) : Int) := by rw [IntKind.wrap_u8]; omega
          have q0 : ¬ m = 0 := by omega
          have w3 : IntKind.i64.wrap ((j : Int) + 1) = (j : Int) + 1 := by rw [IntKind.wrap_i64]; omega
          have HPP := Lib.hid hpp; have HBP := Lib.hid hbp
          clear hpp hbp hfl hsn z0 z1
          go_wp2_with fail
          go_region_law (first | (go_simp; go_at_call 51; refine (number_any _ _ (by first | exact x0 | exact x1)).mono ?_; rintro _ w6 ⟨rfl, rfl⟩) | fail)
          all_goals
            clear w1 w2 w3 d0 f0
            go_wp2_with fail
            go_roundw
            case rel => exact ⟨j + 1, by omega, by go_num, HPP, by first | exact HBP | exact Lib.hid HBP.out.drew⟩
            case measure => simp [intOf]; omega
        · obtain rfl : m = j := by omega
          have hpx := HPX.out
          rw [HMF.out] at hpx
          have HPF := Lib.hid hpx
          clear hpx HPX
          go_wp2_with fail
          go_roundw
          case rel => exact ⟨k + 1, by omega, rfl, HPF, HBX⟩
          case measure => simp [szOf]; omega
    · obtain rfl : k = L.length := by omega
      have hpf := HPB.out
      rw [List.take_length, HFE.out] at hpf
      have HPF := Lib.hid hpf; clear hpf HPB
      rcases HTE.out with hte | ⟨hte, hte2⟩
      · go_wp2_with (refine wpList_load_row rfl 44 _ rfl Q rfl _ _ _ _ HPF.out Tryz.underlying44 rfl (permSize HQL.out) ?_)
        refine (HPS.out _).mono ?_
        rintro _ w5 ⟨rfl, hb5⟩
        have HB5 := Lib.hid (HBL.out.trans (hb5.mono HBL.out.size)); clear hb5
        go_wp2_with fail
        refine (HFP.out _).mono ?_
        rintro _ w6 ⟨rfl, hb6⟩
        have HB6 := Lib.hid (HB5.out.trans (hb6.mono HB5.out.size)); clear hb6
        go_wp2_with fail
        go_ret2
        exact ⟨rfl, HB6.out⟩
      · go_wp2_with (refine wpList_load_row rfl 44 _ rfl Q rfl _ _ _ _ HPF.out Tryz.underlying44 rfl (permSize HQL.out) ?_)
        refine (HPS.out _).mono ?_
        rintro _ w5 ⟨rfl, hb5⟩
        have HB5 := Lib.hid (HBL.out.trans (hb5.mono HBL.out.size)); clear hb5
        go_wp2_with fail
        refine (HFP.out _).mono ?_
        rintro _ w6 ⟨rfl, hb6⟩
        have HB6 := Lib.hid (HB5.out.trans (hb6.mono HB5.out.size)); clear hb6
        go_wp2_with fail
        go_ret2
        exact ⟨rfl, HB6.out⟩

end Go.Proofs.YtflaoicjgigcaaaGreatDoor
