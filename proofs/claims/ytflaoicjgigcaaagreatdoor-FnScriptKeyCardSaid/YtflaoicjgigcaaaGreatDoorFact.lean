/-
  Contract of FactorCount, of the program: the number is a function of the permutation. Conditions: what each theorem names.
-/
import Derived.Test.YtflaoicjgigcaaaGreatDoorCycA
import Derived.Test.YtflaoicjgigcaaaGreatDoorShelfS
import Derived.Sort.OwnSortedInts
import Derived.BigQuiet
namespace Go.Proofs.YtflaoicjgigcaaaGreatDoor
open Go.RowKit Pl Go.Sort
set_option linter.unusedVariables false

/-- the lengths of a permutation's cycles, in descending order -/
def lenI (q : List Nat) : List Int := (((cycs q 10).map fun c => (c.length : Int)).mergeSort fun x y => decide (x ≤ y)).reverse
def lenD (q : List Nat) : List Nat := (lenI q).map Int.toNat
theorem lenI_mem {q : List Nat} (hq : Prm q) {x : Int} (h : x ∈ lenI q) : 1 ≤ x ∧ x ≤ 10 := by
  unfold lenI at h
  rw [List.mem_reverse, List.mem_mergeSort, List.mem_map] at h
  obtain ⟨c, hc, rfl⟩ := h
  have := cyc_len hq hc
  omega
theorem lenI_length (q : List Nat) : (lenI q).length = (cycs q 10).length := by unfold lenI; rw [List.length_reverse, List.length_mergeSort, List.length_map]
theorem lenD_length (q : List Nat) : (lenD q).length = (cycs q 10).length := by unfold lenD; rw [List.length_map, lenI_length]
theorem lenD_mem {q : List Nat} (hq : Prm q) {x : Nat} (h : x ∈ lenD q) : 1 ≤ x ∧ x ≤ 10 := by
  unfold lenD at h
  obtain ⟨y, hy, rfl⟩ := List.mem_map.1 h
  have := lenI_mem hq hy
  omega
theorem natV_lenD {q : List Nat} (hq : Prm q) : natV (lenD q) = (lenI q).map (Value.int .i64) := by
  unfold natV lenD
  rw [List.map_map]
  apply List.map_congr_left
  intro x hx
  have := lenI_mem hq hx
  show Value.int .i64 ((x.toNat : Nat) : Int) = _
  congr 1
  omega
/-- the lengths of the first cycles -/
def lensTo (l : List (List Nat)) (k : Nat) : List Nat := (l.take k).map List.length
theorem lensTo_snoc {l : List (List Nat)} {k : Nat} (h : k < l.length) : lensTo l k ++ [l[k].length] = lensTo l (k + 1) := by
  unfold lensTo
  rw [List.take_succ_eq_append_getElem h, List.map_append]; rfl
theorem lensTo_length {l : List (List Nat)} {k : Nat} (h : k ≤ l.length) : (lensTo l k).length = k := by
  unfold lensTo
  rw [List.length_map, List.length_take]; omega
theorem cycs_some {q : List Nat} (hq : Prm q) : 0 < (cycs q 10).length := by
  obtain ⟨c, hc, _⟩ := List.mem_flatten.1 (seen_all hq (show 0 < 10 by omega))
  exact List.length_pos_of_mem hc
def LenMade (q : List Nat) (w : World) (e : Ending) (w' : World) : Prop := ∃ A cap, e = .returned (.slice A (lenD q).length cap) ∧ w'.ownsRow w.heap.size 3 1 (.slice A (lenD q).length cap) (lenD q).length (natV (lenD q)) ∧ Below w.heap.size w w'

/-- what sorting and turning make of a slice of numbers that a call has made -/
theorem turned_row {w5 : World} {base g cap : Nat} {zs : List Int} {cur : Array Value} {n : Nat} {os : Array Obj} (ts : List Int) (hl : ts.length = zs.length) (hbase : base ≤ g) (hb : w5.heap[g]? = some (.cells cur 3 (0, 0))) (h1 : zs.length ≤ cap) (h2 : cap ≤ maxLen) (h3 : cur.size = cap * 1) :
    (grow (putRow (Value.int .i64) (Sort.ahead w5 n) g 0 ts.toArray) os).ownsRow base 3 1 (.slice (some ⟨g, 0, none⟩) zs.length cap) zs.length (ts.map (Value.int .i64)) ∧ Below base w5 (grow (putRow (Value.int .i64) (Sort.ahead w5 n) g 0 ts.toArray) os) := by
  have hg : g < w5.heap.size := (Array.getElem?_eq_some_iff.1 hb).1
  refine ⟨ownsRow_sortedI hl hbase hb h1 h2 h3, (Below.refl _ _).grown (grownBy_sortedI ts.toArray) (by omega) fun k' e => ?_⟩
  have : g = k' := by simpa using e
  omega

set_option maxHeartbeats 4000000 in
set_option maxRecDepth 100000 in
theorem lengths_any (w : World) (q : List Nat) (hq : Prm q) :
    Calls Tryz.prog 38 #[.agg (pC q)] w (LenMade q w) := by
  obtain ⟨iI, hi, hz0, hz1, hz2⟩ := info_parts Tryz.infoI
  have HI := Lib.hid hi; have HZ0 := Lib.hid hz0; have HZ1 := Lib.hid hz1; have HZ2 := Lib.hid hz2
  clear hi hz0 hz1 hz2
  have hcy := fun w' => cycles_any w' q hq
  unfold CycMade at hcy
  have hat := cycS_at q 10
  have hsl := cycS_len q 10
  have hcl := fun c (hc : c ∈ cycs q 10) => cyc_len hq hc
  have hl10 := cycs_len q 10
  have hl0 := cycs_some hq
  have hnd := natV_lenD hq
  have hll := lenD_length q
  have hlI : lenI q = (((lensTo (cycs q 10) (cycs q 10).length).map fun n : Nat => (n : Int)).mergeSort fun x y => decide (x ≤ y)).reverse := by
    unfold lenI lensTo
    rw [List.take_length, List.map_map]; rfl
  rw [hlI] at hnd
  clear hlI
  unfold LenMade
  generalize lenD q = D at hnd hll ⊢
  generalize cycS q 10 = SS at hcy hat hsl
  generalize cycs q 10 = L at hnd hll hat hsl hcl hl10 hl0
  have hsn := fun k (h : k < L.length) => lensTo_snoc h
  have hlt := fun k (h : k ≤ L.length) => lensTo_length h
  have hl00 : lensTo L 0 = [] := by simp [lensTo]
  generalize lensTo L = LT at hnd hsn hlt hl00
  have HCY := Lib.hid hcy; have HAT := Lib.hid hat; have HSL := Lib.hid hsl; have HCL := Lib.hid hcl; have HND := Lib.hid hnd; have HLL := Lib.hid hll; have HSN := Lib.hid hsn; have HLT := Lib.hid hlt; have HL0 := Lib.hid hl00; have HQL := Lib.hid hq.len
  clear hcy hat hsl hcl hnd hll hsn hlt hl00 hq
  have hs0 := SB.made w (pC q) 44
  have hb0 : Below w.heap.size w (w.alloc (.cells (pC q) 44)) := (Below.refl _ _).alloc (Nat.le_refl _) _
  have HS0 := Lib.hid hs0; have HB0 := Lib.hid hb0
  clear hs0 hb0
  go_enter Tryz.func38, Tryz.ntmps38
  go_wp2_with (refine wpList_load_row rfl 44 _ rfl w.heap.size rfl _ _ _ _ HS0.out Tryz.underlying44 rfl (permSize HQL.out) ?_)
  refine (HCY.out _).mono ?_
  rintro _ w2 ⟨A, cap, rfl, hown, hb2⟩
  have HRD := Lib.hid (own_rd3' hown); have HB2 := Lib.hid (HB0.out.trans (hb2.mono HB0.out.size))
  clear hown hb2 HB0 HS0 HCY
  have hsl := HSL.out
  rw [hsl]
  obtain ⟨N, hN⟩ : ∃ N, N = L.length := ⟨_, rfl⟩
  rw [← hN] at hl10 hl0 ⊢
  have HNE := Lib.hid hN; clear hN hsl
  go_wp2_with fail
  go_loopw [3, 9] (fun o i wr => ∃ k : Nat, k ≤ N ∧ i = .int .i64 k ∧ Hid (wr.ownsRow w2.heap.size 3 1 o k (natV (LT k))) ∧ Hid (Below w2.heap.size w2 wr)) (fun _ i _ => N - (intOf i).toNat)
  case atStart => exact ⟨0, Nat.zero_le _, rfl, Lib.hid (by rw [HL0.out]; exact World.ownsRow_nil _ _ _ _), Lib.hid (Below.refl _ _)⟩
  case round =>
    obtain ⟨k, hk, rfl, HO, HBL⟩ := hrel
    obtain ⟨A3, c3, e3⟩ := slot_slice HO.out
    subst e3
    by_cases hlt : k < N
    · have hkL : k < L.length := by have := HNE.out; omega
      have hkS : k < SS.length := by have := HSL.out; omega
      have hrd := (HRD.out.below HBL.out)
      obtain ⟨b0, off, rfl, _, c0⟩ := hrd.str hkS
      rw [HAT.out k hkL hkS] at c0
      have hsn := HSN.out k hkL
      have hcz := (HCL.out _ (List.getElem_mem hkL)).2.1
      generalize L[k] = c at c0 hsn hcz
      have hpz := pT_size c
      obtain ⟨s, hs⟩ : ∃ s, s = pT c := ⟨_, rfl⟩
      rw [← hs] at c0 hpz
      have HSX := Lib.hid hsn
      have v0 : (k : Int) < (N : Int) := by omega
      have hbs := HBL.out.size
      clear hs hrd hsn
      go_wp2_with (at_builtin; refine wpList_append_own _ rfl _ _ 69 rfl w2.heap.size 3 iI (.int .i64 0) 1 8 Tryz.undI HI.out HZ0.out HZ1.out HZ2.out rfl (by decide) _ k _ rfl (HO.out.alloc _) ⟨wr.heap.size, 0, none⟩ 1 1 [.int .i64 (c.length : Int)] rfl rfl (one_new wr _ _) nat_cell (by unfold maxLen; omega) (by omega) (by simp; omega) ?_)
      intro v' w6 ho' hg' _
      rw [natV_snoc, HSX.out] at ho'
      have hb6 := (HBL.out.alloc HBL.out.size _).grown hg' (Nat.le_trans HBL.out.size (by simp)) fun k' e => (HO.out.lt k' e).1
      have HO6 := Lib.hid ho'; have HB6 := Lib.hid hb6; clear ho' hg' hb6
      go_wp2_with fail
      go_roundw
      case rel => exact ⟨k + 1, by omega, by go_num, HO6, HB6⟩
      case measure => simp [intOf]; omega
    · obtain rfl : N = k := by omega
      have hln := HLT.out N (by have := HNE.out; omega)
      have ho := HO.out
      obtain ⟨h0, ⟨hno, hz⟩ | ⟨g, cap', cur, hv, hg, hb, hnc, hcm, hcz, htk⟩⟩ := ho
      · omega
      · have hv' := hv
        simp only [Value.slice.injEq, true_and] at hv'
        obtain ⟨rfl, rfl⟩ := hv'
        obtain ⟨ZS, hZS⟩ : ∃ ZS : List Int, ZS = (LT N).map fun n : Nat => (n : Int) := ⟨_, rfl⟩
        have hZl : ZS.length = N := by rw [hZS, List.length_map, hln]
        have hZv : natV (LT N) = ZS.map (Value.int .i64) := by rw [hZS, List.map_map]; rfl
        have hnd := HND.out
        rw [← HNE.out, ← hZS] at hnd
        have hho := holds_of_blockI (ss := ZS) hb (by rw [hZl, ← hZv, ← htk, Nat.mul_one])
        have hgl : g < wr.heap.size := (Array.getElem?_eq_some_iff.1 hb).1
        have hsrt := Tryz.slices_Sort_int g 0 c3 ZS wr hho hgl (by omega)
        rw [hZl] at hsrt
        have HSRT := Lib.hid hsrt; have HBK := Lib.hid hb; have HNDX := Lib.hid hnd; have HZL := Lib.hid hZl
        clear hsrt hho hb hZv hnd hZl hZS htk hln
        go_wp2_with fail
        refine HSRT.out.mono ?_
        rintro _ w5 ⟨rfl, n5, os5, hw5⟩
        obtain ⟨TS, hTS⟩ : ∃ TS, TS = ZS.mergeSort fun x y => decide (x ≤ y) := ⟨_, rfl⟩
        have hTl : TS.length = ZS.length := by rw [hTS, List.length_mergeSort]
        have hndx := HNDX.out
        rw [← hTS] at hw5 hndx
        obtain ⟨ho5, hb5⟩ := turned_row (base := w2.heap.size) (n := n5) (os := os5) TS hTl hg HBK.out (by rw [HZL.out]; exact hnc) hcm hcz
        rw [← hw5] at ho5 hb5
        clear hTS hw5 HSRT HBK HNDX
        obtain ⟨h0', ⟨hno', hz'⟩ | ⟨g', cap', cur', hv', hg', hb', hnc', hcm', hcz', htk'⟩⟩ := ho5
        · rw [HZL.out] at hz'; omega
        · simp only [Value.slice.injEq, Option.some.injEq, Addr.mk.injEq, and_true, true_and] at hv'
          obtain ⟨rfl, rfl⟩ := hv'
          have hho := holds_of_blockI (ss := TS) hb' (by rw [hTl, ← htk', Nat.mul_one])
          have hgl : g < w5.heap.size := (Array.getElem?_eq_some_iff.1 hb').1
          have hrev := Tryz.slices_Reverse_int g 0 c3 TS w5 hho (by rw [hTl, HZL.out]; omega)
          rw [hTl, HZL.out] at hrev
          have HREV := Lib.hid hrev; have HBK := Lib.hid hb'; have HNDX := Lib.hid hndx; have HTL := Lib.hid (hTl.trans HZL.out); have HB5 := Lib.hid (HBL.out.trans hb5)
          clear hrev hho hb' hndx hTl htk' hb5
          go_wp2_with fail
          refine HREV.out.mono ?_
          rintro _ w7 ⟨rfl, n7, hw7⟩
          obtain ⟨US, hUS⟩ : ∃ US, US = TS.reverse := ⟨_, rfl⟩
          have hUl : US.length = TS.length := by rw [hUS, List.length_reverse]
          have hndx := HNDX.out
          rw [← hUS] at hw7 hndx
          have hw7' : w7 = grow (putRow (Value.int .i64) (Sort.ahead w5 n7) g 0 US.toArray) #[] := by rw [hw7, grow_empty]
          obtain ⟨ho7, hb7⟩ := turned_row (base := w2.heap.size) (n := n7) (os := #[]) US hUl hg HBK.out (by rw [HTL.out]; exact hnc) hcm hcz'
          rw [← hw7', HTL.out, ← hndx] at ho7
          rw [← hw7'] at hb7
          have HO7 := Lib.hid ho7; have HB7 := Lib.hid (HB2.out.trans ((HB5.out.trans hb7).mono HB2.out.size))
          have hdl : D.length = N := by rw [HLL.out, HNE.out]
          clear ho7 hb7 hw7' hw7 hUS hndx HREV HBK HNDX HB5
          go_wp2_with fail
          go_ret
          rw [hdl]
          exact ⟨_, _, rfl, own_mono3 HO7.out HB2.out.size, HB7.out⟩

/-- the number whose bits tell which lengths are odd in number -/
def oddF (D : List Nat) : Nat → Int
  | 0 => 0
  | k + 1 => bits BinOp.xor IntKind.i64 (oddF D k) (wrap64 (2 ^ nth D k))

set_option maxHeartbeats 4000000 in
set_option maxRecDepth 100000 in
theorem paired_any (q : List Nat) (hq : Prm q) : ∃ b : Bool, ∀ w : World,
    Calls Tryz.prog 37 #[.agg (pC q)] w fun e w' => e = .returned (.bool b) ∧ Below w.heap.size w w' := by
  refine ⟨oddF (lenD q) (lenD q).length == 0, fun w => ?_⟩
  have hle := fun w' => lengths_any w' q hq
  unfold LenMade at hle
  have hmm := fun x (hx : x ∈ lenD q) => lenD_mem hq hx
  have hl10 : (lenD q).length ≤ 10 := by rw [lenD_length]; exact cycs_len q 10
  generalize lenD q = D at hle hmm hl10 ⊢
  have ho0 : oddF D 0 = 0 := rfl
  have ho1 : ∀ k, oddF D (k + 1) = bits BinOp.xor IntKind.i64 (oddF D k) (wrap64 (2 ^ nth D k)) := fun k => rfl
  generalize oddF D = od at ho0 ho1 ⊢
  have HLE := Lib.hid hle; have HMM := Lib.hid hmm; have HQL := Lib.hid hq.len; have HO0 := Lib.hid ho0; have HO1 := Lib.hid ho1
  clear hle hmm hq ho0 ho1
  have hs0 := SB.made w (pC q) 44
  have hb0 : Below w.heap.size w (w.alloc (.cells (pC q) 44)) := (Below.refl _ _).alloc (Nat.le_refl _) _
  have HS0 := Lib.hid hs0; have HB0 := Lib.hid hb0
  clear hs0 hb0
  go_enter Tryz.func37, Tryz.ntmps37
  go_wp2_with (refine wpList_load_row rfl 44 _ rfl w.heap.size rfl _ _ _ _ HS0.out Tryz.underlying44 rfl (permSize HQL.out) ?_)
  refine (HLE.out _).mono ?_
  rintro _ w2 ⟨A, cap, rfl, hown, hb2⟩
  have HRD := Lib.hid (own_rd3' hown); have HB2 := Lib.hid (HB0.out.trans (hb2.mono HB0.out.size))
  clear hown hb2 HB0 HS0 HLE
  obtain ⟨N, hN⟩ : ∃ N, N = D.length := ⟨_, rfl⟩
  rw [← hN] at hl10 ⊢
  go_wp2_with fail
  go_loopw [3, 9] (fun o i wr => ∃ k : Nat, k ≤ N ∧ i = .int .i64 k ∧ o = .int .i64 (od k) ∧ wr = w2) (fun _ i _ => N - (intOf i).toNat)
  case atStart => exact ⟨0, Nat.zero_le _, rfl, by rw [HO0.out], rfl⟩
  case round =>
    obtain ⟨k, hk, rfl, rfl, rfl⟩ := hrel
    by_cases hlt : k < N
    · obtain ⟨b, off, rfl, hbb, r0⟩ := HRD.out.nat (k := k) (by omega)
      have hm := HMM.out _ (List.getElem_mem (show k < D.length by omega))
      have ho := HO1.out k
      rw [nth_eq (show k < D.length by omega)] at ho
      generalize D[k]'(by omega) = n at r0 hm ho
      have HO := Lib.hid ho; clear ho
      have v0 : (k : Int) < (N : Int) := by omega
      go_wp2_with fail
      go_roundw
      case rel => exact ⟨k + 1, by omega, by go_num, by rw [HO.out], trivial⟩
      case measure => simp [intOf]; omega
    · obtain rfl : N = k := by omega
      cases hz : (od N == 0) with
      | true =>
        go_wp2_with fail
        go_ret
        exact ⟨by rw [← hN, hz]; rfl, HB2.out⟩
      | false =>
        go_wp2_with fail
        go_ret
        exact ⟨by rw [← hN, hz]; rfl, HB2.out⟩

/-- the end of a run of equal numbers -/
def runG (D : List Nat) (v : Nat) : Nat → Nat → Nat
  | 0, t => t
  | n + 1, t => if nth D t = v then runG D v n (t + 1) else t
theorem runG_le (D : List Nat) (v : Nat) : ∀ n t, t ≤ runG D v n t ∧ runG D v n t ≤ t + n
  | 0, t => by simp [runG]
  | n + 1, t => by
    have := runG_le D v n (t + 1)
    unfold runG
    split <;> omega
def prodG (v : Nat) : Nat → Nat → Nat
  | 0, n => n
  | 1, _ => 0
  | l + 2, n => prodG v l (n * ((l + 1) * v))
def facG (D : List Nat) (z : Nat) : Nat → Nat → Nat → Nat
  | 0, _, n => n
  | u + 1, f, n => if f < z then facG D z u (runG D (nth D f) (z - f) f) (prodG (nth D f) (runG D (nth D f) (z - f) f - f) n) else n
theorem prodG_le (v t : Nat) (hv : v ≤ 10) : ∀ l n, l ≤ t → l ≤ 10 → n ≤ 10 ^ (t - l) → prodG v l n ≤ 10 ^ t
  | 0, n, _, _, h => by simpa [prodG] using h
  | 1, n, _, _, h => Nat.zero_le _
  | l + 2, n, h1, h2, h => by
    unfold prodG
    refine prodG_le v t hv l _ (by omega) (by omega) ?_
    have e : t - l = (t - (l + 2)) + 2 := by omega
    rw [e, Nat.pow_add]
    refine Nat.mul_le_mul h ?_
    have : (l + 1) * v ≤ 10 * 10 := Nat.mul_le_mul (by omega) hv
    simpa using this

theorem facG_le (D : List Nat) (z : Nat) (hz : z ≤ 10) (hD : ∀ k, nth D k ≤ 10) : ∀ u f n, f ≤ z → n ≤ 10 ^ f → facG D z u f n ≤ 10000000000
  | 0, f, n, h1, h2 => by
    have : (10 : Nat) ^ f ≤ 10 ^ 10 := Nat.pow_le_pow_right (by omega) (by omega)
    show n ≤ _
    omega
  | u + 1, f, n, h1, h2 => by
    unfold facG
    by_cases h : f < z
    · rw [if_pos h]
      have hr := runG_le D (nth D f) (z - f) f
      refine facG_le D z hz hD u _ _ (by omega) (prodG_le _ _ (hD f) _ _ (by omega) (by omega) ?_)
      rw [show runG D (nth D f) (z - f) f - (runG D (nth D f) (z - f) f - f) = f by omega]
      exact h2
    · rw [if_neg h]
      have : (10 : Nat) ^ f ≤ 10 ^ 10 := Nat.pow_le_pow_right (by omega) (by omega)
      omega

set_option maxHeartbeats 8000000 in
set_option maxRecDepth 100000 in
theorem factorCount_any (q : List Nat) (hq : Prm q) : ∃ n : Nat, n ≤ 10000000000 ∧ ∀ w : World,
    Calls Tryz.prog 13 #[.string (pT q)] w fun e w' => e = .returned (.int .i64 n) ∧ Below w.heap.size w w' := by
  obtain ⟨b, hpa⟩ := paired_any q hq
  have hle := fun w' => lengths_any w' q hq
  unfold LenMade at hle
  have hmm := fun x (hx : x ∈ lenD q) => lenD_mem hq hx
  have hl10 : (lenD q).length ≤ 10 := by rw [lenD_length]; exact cycs_len q 10
  have hpo := fun w' => permOf_yes w' q hq
  have hQL := hq.len
  clear hq
  generalize lenD q = D at hle hmm hl10
  generalize pT q = T at hpo ⊢
  have HPA := Lib.hid hpa; have HLE := Lib.hid hle; have HMM := Lib.hid hmm; have HPO := Lib.hid hpo; have HQL := Lib.hid hQL
  clear hpa hle hmm hpo hQL
  cases b with
  | false =>
    refine ⟨0, by omega, fun w => ?_⟩
    go_enter Tryz.func13, Tryz.ntmps13
    go_wp2_with fail
    refine (HPO.out _).mono ?_
    rintro _ w1 ⟨rfl, hb1⟩
    have HB1 := Lib.hid hb1; clear hb1 HPO
    have HG1 := Lib.hid (PB.made w1)
    have HS3 := Lib.hid (HG1.out.row q)
    have HB3 := Lib.hid (below_setRow (HB1.out.alloc HB1.out.size (.cells #[.int .u8 0, .int .u8 0, .int .u8 0, .int .u8 0, .int .u8 0, .int .u8 0, .int .u8 0, .int .u8 0, .int .u8 0, .int .u8 0] 44)) HB1.out.size (pC q))
    go_wp2_with (first | (refine wpList_store_row rfl 44 _ _ rfl w1.heap.size (pC q) rfl rfl _ _ HG1.out (permSize HQL.out) (by rw [pC_size, pC_size, HQL.out]; rfl) (pC_one _) ?_) | (refine wpList_load_row rfl 44 _ rfl w1.heap.size rfl _ _ _ _ HS3.out Tryz.underlying44 rfl (permSize HQL.out) ?_))
    refine (HPA.out _).mono ?_
    rintro _ w4 ⟨rfl, hb4⟩
    have HB4 := Lib.hid (HB3.out.trans (hb4.mono HB3.out.size)); clear hb4
    go_wp2_with fail
    go_ret
    exact ⟨rfl, HB4.out⟩
  | true =>
    have hD : ∀ k, nth D k ≤ 10 := fun k => by
      by_cases h : k < D.length
      · rw [nth_eq h]; exact (HMM.out _ (List.getElem_mem h)).2
      · unfold nth; rw [List.getElem?_eq_none (by omega)]; simp
    refine ⟨facG D D.length D.length 0 1, facG_le D D.length hl10 hD _ _ _ (by omega) (by simp), fun w => ?_⟩
    have HD := Lib.hid hD; clear hD
    obtain ⟨R, hR⟩ : ∃ R, R = facG D D.length D.length 0 1 := ⟨_, rfl⟩
    rw [← hR]
    have HRE := Lib.hid hR; clear hR
    go_enter Tryz.func13, Tryz.ntmps13
    go_wp2_with fail
    refine (HPO.out _).mono ?_
    rintro _ w1 ⟨rfl, hb1⟩
    have HB1 := Lib.hid hb1; clear hb1 HPO
    have HG1 := Lib.hid (PB.made w1)
    have HS3 := Lib.hid (HG1.out.row q)
    have HB3 := Lib.hid (below_setRow (HB1.out.alloc HB1.out.size (.cells #[.int .u8 0, .int .u8 0, .int .u8 0, .int .u8 0, .int .u8 0, .int .u8 0, .int .u8 0, .int .u8 0, .int .u8 0, .int .u8 0] 44)) HB1.out.size (pC q))
    go_wp2_with (first | (refine wpList_store_row rfl 44 _ _ rfl w1.heap.size (pC q) rfl rfl _ _ HG1.out (permSize HQL.out) (by rw [pC_size, pC_size, HQL.out]; rfl) (pC_one _) ?_) | (refine wpList_load_row rfl 44 _ rfl w1.heap.size rfl _ _ _ _ HS3.out Tryz.underlying44 rfl (permSize HQL.out) ?_))
    refine (HPA.out _).mono ?_
    rintro _ w4 ⟨rfl, hb4⟩
    have HB4 := Lib.hid (HB3.out.trans (hb4.mono HB3.out.size)); have HS4 := Lib.hid (HS3.out.below hb4); clear hb4
    obtain ⟨P, hP⟩ : ∃ P, P = w1.heap.size := ⟨_, rfl⟩
    rw [← hP] at HS4 ⊢
    clear hP HG1 HS3 HB3
    go_wp2_with (refine wpList_load_row rfl 44 _ rfl P rfl _ _ _ _ HS4.out Tryz.underlying44 rfl (permSize HQL.out) ?_)
    refine (HLE.out _).mono ?_
    rintro _ w5 ⟨A, cap, rfl, hown, hb5⟩
    have HRD := Lib.hid (own_rd3' hown); have HB5 := Lib.hid (HB4.out.trans (hb5.mono HB4.out.size))
    clear hown hb5 HB4 HS4 HLE
    obtain ⟨N, hN⟩ : ∃ N, D.length = N := ⟨_, rfl⟩
    rw [hN] at hl10 ⊢
    have HR2 := Lib.hid (show facG D N N 0 1 = R by rw [HRE.out, hN])
    go_wp2_with fail
    go_loopw [5, 7] (fun o i wr => ∃ u f n : Nat, f ≤ N ∧ i = .int .i64 f ∧ o = .int .i64 n ∧ N - f ≤ u ∧ n ≤ 10 ^ f ∧ Hid (facG D N u f n = R) ∧ Hid (Below w5.heap.size w5 wr)) (fun _ i _ => N - (intOf i).toNat)
    case atStart => exact ⟨N, 0, 1, Nat.zero_le _, rfl, rfl, by omega, by simp, HR2, Lib.hid (Below.refl _ _)⟩
    case round =>
      obtain ⟨u, f, n, hf, rfl, rfl, hu, hn, HF, HBL⟩ := hrel
      by_cases hlt : f < N
      · obtain ⟨b, off, rfl, hbb, r0⟩ := (HRD.out.below HBL.out).nat (k := f) (by omega)
        have hm := HMM.out _ (List.getElem_mem (show f < D.length by omega))
        have hvn : nth D f = D[f]'(by omega) := nth_eq (show f < D.length by omega)
        have hfn := HF.out
        obtain ⟨u', rfl⟩ : ∃ u', u = u' + 1 := ⟨u - 1, by omega⟩
        unfold facG at hfn
        rw [if_pos hlt] at hfn
        have hEl := runG_le D (nth D f) (N - f) f
        have hE1 : f + 1 ≤ runG D (nth D f) (N - f) f := by
          obtain ⟨y, hy⟩ : ∃ y, N - f = y + 1 := ⟨N - f - 1, by omega⟩
          rw [hy]
          unfold runG
          rw [if_pos rfl]
          exact (runG_le _ _ _ _).1
        rw [← hvn] at r0 hm
        obtain ⟨v, hv⟩ : ∃ v, v = nth D f := ⟨_, rfl⟩
        rw [← hv] at r0 hm hfn hEl hE1
        obtain ⟨E, hE⟩ : ∃ E, E = runG D v (N - f) f := ⟨_, rfl⟩
        rw [← hE] at hfn hEl hE1
        have HE := Lib.hid hE.symm; have HFN := Lib.hid hfn; have HVN := Lib.hid hv.symm
        have v0 : (f : Int) < (N : Int) := by omega
        clear hE hfn hv hvn HF
        have hbase := HBL.out.size
        go_wp2_with fail
        go_loopw [8] (fun i wx => ∃ t : Nat, i = .int .i64 t ∧ f ≤ t ∧ t ≤ N ∧ Hid (runG D v (N - t) t = E) ∧ Hid (Below w5.heap.size w5 wx)) (fun i _ => N - (intOf i).toNat)
        case atStart => exact ⟨f, rfl, Nat.le_refl _, hf, HE, HBL⟩
        case round =>
          obtain ⟨t, rfl, hft, htN, HT, HBX⟩ := hrel
          clear HBL r0
          obtain ⟨b', off', ee, _, r0⟩ := (HRD.out.below HBX.out).nat (k := f) (by omega)
          simp only [Option.some.injEq, Addr.mk.injEq, and_true] at ee
          obtain ⟨rfl, rfl⟩ := ee
          have hvn : D[f]'(by omega) = v := by rw [← nth_eq (show f < D.length by omega)]; exact HVN.out
          rw [hvn] at r0
          by_cases htl : t < N
          · obtain ⟨b', off', ee, _, r1⟩ := (HRD.out.below HBX.out).nat (k := t) (by omega)
            simp only [Option.some.injEq, Addr.mk.injEq, and_true] at ee
            obtain ⟨rfl, rfl⟩ := ee
            have hnt : nth D t = D[t]'(by omega) := nth_eq (show t < D.length by omega)
            rw [← hnt] at r1
            have htt := HT.out
            obtain ⟨y, hy⟩ : ∃ y, N - t = y + 1 := ⟨N - t - 1, by omega⟩
            rw [hy] at htt
            unfold runG at htt
            generalize nth D t = x at r1 htt
            have z0 : (t : Int) < (N : Int) := by omega
            have z1 : decide (t < N) = true := decide_eq_true htl
            by_cases hxv : x = v
            · subst hxv
              rw [if_pos rfl] at htt
              have HTT := Lib.hid (show runG D x (N - (t + 1)) (t + 1) = E by rw [show N - (t + 1) = y by omega]; exact htt)
              clear htt hy hnt hvn
              go_wp2_with fail
              go_quiet (fail)
              all_goals
                go_wp2_with fail
                go_roundw
                case rel => exact ⟨t + 1, by go_num, by omega, by omega, HTT, Lib.hid (below_drewN' HBX.out _)⟩
                case measure => simp [intOf]; omega
            · rw [if_neg hxv] at htt
              have hte : t = E := htt
              have hxv2 : ¬ (x : Int) = (v : Int) := by omega
              have hxv3 : ((x : Int) == (v : Int)) = false := by rw [beq_eq_false_iff_ne]; exact hxv2
              have hEf : f + 1 ≤ t := by omega
              have HTE := Lib.hid hte
              clear htt hy hnt hvn hxv hte
              go_wp2_with fail
              go_quiet (fail)
              all_goals
                clear hxv2 hxv3
                clear r0 r1
                have hl0 : IntKind.i64.wrap ((t : Int) - (f : Int)) = ((t - f : Nat) : Int) := by rw [IntKind.wrap_i64]; omega
                obtain ⟨l0, hl0e⟩ : ∃ l0, l0 = t - f := ⟨_, rfl⟩
                rw [← hl0e] at hl0
                have HFX := Lib.hid (show facG D N u' t (prodG v l0 n) = R by rw [hl0e, HTE.out]; exact HFN.out)
                obtain ⟨p, hp⟩ : ∃ p, p = prodG v l0 n := ⟨_, rfl⟩
                rw [← hp] at HFX
                have HP := Lib.hid hp; clear hp
                go_wp2_with fail
                go_loopw [5, 9] (fun o i wy => ∃ (l m : Nat) (z : Int), o = .int .i64 m ∧ i = .int .i64 z ∧ (z = l ∨ (z = -1 ∧ l = 0)) ∧ l ≤ t - f ∧ m ≤ 10 ^ (t - l) ∧ Hid (prodG v l m = p) ∧ Hid (Below w5.heap.size w5 wy)) (fun _ i _ => (intOf i).toNat)
                case atStart => exact ⟨l0, n, _, rfl, rfl, .inl (by omega), by omega, by rw [show t - l0 = f by omega]; exact hn, Lib.hid HP.out.symm, Lib.hid (below_drewN' HBX.out _)⟩
                case round =>
                  obtain ⟨l, m, z, rfl, rfl, hz, hlf, hmb, HPR, HBY⟩ := hrel
                  clear HBX
                  by_cases hzp : 0 < z
                  · obtain rfl : z = (l : Int) := by omega
                    obtain ⟨b', off', ee, _, r0⟩ := (HRD.out.below HBY.out).nat (k := f) (by omega)
                    simp only [Option.some.injEq, Addr.mk.injEq, and_true] at ee
                    obtain ⟨rfl, rfl⟩ := ee
                    have hvn : D[f]'(by omega) = v := by rw [← nth_eq (show f < D.length by omega)]; exact HVN.out
                    rw [hvn] at r0
                    obtain ⟨lf, hlf1⟩ : ∃ lf, lf = l - 1 := ⟨_, rfl⟩
                    obtain ⟨pv, hpv⟩ : ∃ pv, pv = lf * v := ⟨_, rfl⟩
                    have hpv2 : pv ≤ 100 := by rw [hpv]; exact Nat.mul_le_mul (show lf ≤ 10 by omega) hm.2
                    obtain ⟨m2, hm2⟩ : ∃ m2, m2 = m * pv := ⟨_, rfl⟩
                    have hmx : m ≤ 10 ^ 10 := Nat.le_trans hmb (Nat.pow_le_pow_right (by omega) (by omega))
                    have hm3 : m2 ≤ 10 ^ 10 * 100 := by rw [hm2]; exact Nat.mul_le_mul hmx hpv2
                    have x1 : IntKind.i64.wrap ((l : Int) - 1) = (lf : Int) := by rw [IntKind.wrap_i64]; omega
                    have x2 : IntKind.i64.wrap ((lf : Int) * (v : Int)) = (pv : Int) := by rw [show (lf : Int) * (v : Int) = (pv : Int) by rw [hpv]; push_cast; rfl, IntKind.wrap_i64]; omega
                    have x3 : IntKind.i64.wrap ((m : Int) * (pv : Int)) = (m2 : Int) := by rw [show (m : Int) * (pv : Int) = (m2 : Int) by rw [hm2]; push_cast; rfl, IntKind.wrap_i64]; omega
                    have x4 : IntKind.i64.wrap ((l : Int) - 2) = (l : Int) - 2 := by rw [IntKind.wrap_i64]; omega
                    have hstep : prodG v (l - 2) m2 = p ∧ m2 ≤ 10 ^ (t - (l - 2)) := by
                      have hpr := HPR.out
                      by_cases h1 : l = 1
                      · subst h1
                        have e1 : m2 = 0 := by rw [hm2, hpv, hlf1]; simp
                        rw [e1]
                        exact ⟨hpr, Nat.zero_le _⟩
                      · obtain ⟨k, rfl⟩ : ∃ k, l = k + 2 := ⟨l - 2, by omega⟩
                        have e1 : m2 = m * ((k + 1) * v) := by rw [hm2, hpv, hlf1]; rfl
                        refine ⟨by rw [e1]; exact hpr, ?_⟩
                        rw [show t - (k + 2 - 2) = (t - (k + 2)) + 2 by omega, Nat.pow_add, hm2]
                        exact Nat.mul_le_mul hmb hpv2
                    obtain ⟨hs1, hs2⟩ := hstep
                    have HS1 := Lib.hid hs1; have HS2 := Lib.hid hs2
                    clear hs1 hs2 hpv hm2 hvn hmx hm3 hpv2 hlf1
                    go_wp2_with fail
                    go_roundw
                    case rel => exact ⟨l - 2, m2, _, rfl, rfl, by omega, by omega, HS2.out, HS1, HBY⟩
                    case measure => simp [intOf]; omega
                  · obtain rfl : l = 0 := by omega
                    have hpr := HPR.out
                    simp only [prodG] at hpr
                    subst hpr
                    go_wp2_with fail
                    go_roundw
                    case rel => exact ⟨u', t, m, by omega, rfl, rfl, by omega, by simpa using hmb, HFX, HBY⟩
                    case measure => simp [intOf]; omega
          · have hte : t = E := by
              have htt := HT.out
              rw [show N - t = 0 by omega] at htt
              exact htt
            have hEf : f + 1 ≤ t := by omega
            have HTE := Lib.hid hte
            clear hte
            have z0 : ¬ (t : Int) < (N : Int) := by omega
            have z1 : decide (t < N) = false := decide_eq_false htl
            clear hvn
            go_wp2_with fail
            go_quiet (fail)
            all_goals
              clear r0
              have hl0 : IntKind.i64.wrap ((t : Int) - (f : Int)) = ((t - f : Nat) : Int) := by rw [IntKind.wrap_i64]; omega
              obtain ⟨l0, hl0e⟩ : ∃ l0, l0 = t - f := ⟨_, rfl⟩
              rw [← hl0e] at hl0
              have HFX := Lib.hid (show facG D N u' t (prodG v l0 n) = R by rw [hl0e, HTE.out]; exact HFN.out)
              obtain ⟨p, hp⟩ : ∃ p, p = prodG v l0 n := ⟨_, rfl⟩
              rw [← hp] at HFX
              have HP := Lib.hid hp; clear hp
              go_wp2_with fail
              go_loopw [5, 9] (fun o i wy => ∃ (l m : Nat) (z : Int), o = .int .i64 m ∧ i = .int .i64 z ∧ (z = l ∨ (z = -1 ∧ l = 0)) ∧ l ≤ t - f ∧ m ≤ 10 ^ (t - l) ∧ Hid (prodG v l m = p) ∧ Hid (Below w5.heap.size w5 wy)) (fun _ i _ => (intOf i).toNat)
              case atStart => exact ⟨l0, n, _, rfl, rfl, .inl (by omega), by omega, by rw [show t - l0 = f by omega]; exact hn, Lib.hid HP.out.symm, Lib.hid (below_drewN' HBX.out _)⟩
              case round =>
                obtain ⟨l, m, z, rfl, rfl, hz, hlf, hmb, HPR, HBY⟩ := hrel
                clear HBX
                by_cases hzp : 0 < z
                · obtain rfl : z = (l : Int) := by omega
                  obtain ⟨b', off', ee, _, r0⟩ := (HRD.out.below HBY.out).nat (k := f) (by omega)
                  simp only [Option.some.injEq, Addr.mk.injEq, and_true] at ee
                  obtain ⟨rfl, rfl⟩ := ee
                  have hvn : D[f]'(by omega) = v := by rw [← nth_eq (show f < D.length by omega)]; exact HVN.out
                  rw [hvn] at r0
                  obtain ⟨lf, hlf1⟩ : ∃ lf, lf = l - 1 := ⟨_, rfl⟩
                  obtain ⟨pv, hpv⟩ : ∃ pv, pv = lf * v := ⟨_, rfl⟩
                  have hpv2 : pv ≤ 100 := by rw [hpv]; exact Nat.mul_le_mul (show lf ≤ 10 by omega) hm.2
                  obtain ⟨m2, hm2⟩ : ∃ m2, m2 = m * pv := ⟨_, rfl⟩
                  have hmx : m ≤ 10 ^ 10 := Nat.le_trans hmb (Nat.pow_le_pow_right (by omega) (by omega))
                  have hm3 : m2 ≤ 10 ^ 10 * 100 := by rw [hm2]; exact Nat.mul_le_mul hmx hpv2
                  have x1 : IntKind.i64.wrap ((l : Int) - 1) = (lf : Int) := by rw [IntKind.wrap_i64]; omega
                  have x2 : IntKind.i64.wrap ((lf : Int) * (v : Int)) = (pv : Int) := by rw [show (lf : Int) * (v : Int) = (pv : Int) by rw [hpv]; push_cast; rfl, IntKind.wrap_i64]; omega
                  have x3 : IntKind.i64.wrap ((m : Int) * (pv : Int)) = (m2 : Int) := by rw [show (m : Int) * (pv : Int) = (m2 : Int) by rw [hm2]; push_cast; rfl, IntKind.wrap_i64]; omega
                  have x4 : IntKind.i64.wrap ((l : Int) - 2) = (l : Int) - 2 := by rw [IntKind.wrap_i64]; omega
                  have hstep : prodG v (l - 2) m2 = p ∧ m2 ≤ 10 ^ (t - (l - 2)) := by
                    have hpr := HPR.out
                    by_cases h1 : l = 1
                    · subst h1
                      have e1 : m2 = 0 := by rw [hm2, hpv, hlf1]; simp
                      rw [e1]
                      exact ⟨hpr, Nat.zero_le _⟩
                    · obtain ⟨k, rfl⟩ : ∃ k, l = k + 2 := ⟨l - 2, by omega⟩
                      have e1 : m2 = m * ((k + 1) * v) := by rw [hm2, hpv, hlf1]; rfl
                      refine ⟨by rw [e1]; exact hpr, ?_⟩
                      rw [show t - (k + 2 - 2) = (t - (k + 2)) + 2 by omega, Nat.pow_add, hm2]
                      exact Nat.mul_le_mul hmb hpv2
                  obtain ⟨hs1, hs2⟩ := hstep
                  have HS1 := Lib.hid hs1; have HS2 := Lib.hid hs2
                  clear hs1 hs2 hpv hm2 hvn hmx hm3 hpv2 hlf1
                  go_wp2_with fail
                  go_roundw
                  case rel => exact ⟨l - 2, m2, _, rfl, rfl, by omega, by omega, HS2.out, HS1, HBY⟩
                  case measure => simp [intOf]; omega
                · obtain rfl : l = 0 := by omega
                  have hpr := HPR.out
                  simp only [prodG] at hpr
                  subst hpr
                  go_wp2_with fail
                  go_roundw
                  case rel => exact ⟨u', t, m, by omega, rfl, rfl, by omega, by simpa using hmb, HFX, HBY⟩
                  case measure => simp [intOf]; omega
      · obtain rfl : f = N := by omega
        have hfn := HF.out
        have hnR : n = R := by
          rw [← hfn]
          cases u with
          | zero => rfl
          | succ u => unfold facG; rw [if_neg (by omega)]
        subst hnR
        have HBF := Lib.hid (HB5.out.trans (HBL.out.mono HB5.out.size))
        clear hfn HF HRE HR2
        go_wp2_with fail
        go_ret
        exact ⟨rfl, HBF.out⟩

end Go.Proofs.YtflaoicjgigcaaaGreatDoor
