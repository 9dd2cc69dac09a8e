/-
  Contracts of cribs and of the menus that they make, of the program. Conditions: what each theorem names.
-/
import Derived.Test.YtipcodebmemkpaaGreatDoorPlainU
import Derived.Test.YtipcodebmemkpaaGreatDoorApart
import Derived.Deep.QuietTactic
import Derived.BigQuiet
import Derived.Deep.AppendLies
import Derived.BigRegion
import Derived.Deep.RegionHeld3
namespace Go.Proofs.YtipcodebmemkpaaGreatDoor
open Go.RowKit Pl
set_option linter.unusedVariables false

set_option maxHeartbeats 4000000 in
theorem cribFits_any (c k : ByteArray) (t : Int) (w : World) (h0 : -9223372036854775808 ≤ t ∧ t ≤ 9223372036854775807) :
    Calls Tryz.prog 258 #[.string c, .string k, .int .i64 t] w fun e w' => e = .returned (.bool (cribF (tl c) (tl k) t)) ∧ Below w.heap.size w w' := by
  by_cases hc : wv (tl c) = true
  · have hcz := wv_length hc
    rw [length_tl] at hcz
    by_cases hk : wv (tl k) = true
    · have hkz := wv_length hk
      rw [length_tl] at hkz
      by_cases hn : tl k = []
      · have e : cribF (tl c) (tl k) t = false := by unfold cribF; rw [hn]; simp
        rw [e]
        have hq : k.toList.isEmpty = true := by rw [toList_tl, hn]; rfl
        have HC := Lib.hid hc; have HK := Lib.hid hk; clear hc hk hn e
        go_enter Tryz.func258, Tryz.ntmps258
        go_wp2_with fail
        refine (wordValid_is _ true _ HC.out).mono ?_
        rintro _ _ ⟨rfl, rfl⟩
        go_wp2_with fail
        refine (wordValid_is _ true _ HK.out).mono ?_
        rintro _ _ ⟨rfl, rfl⟩
        go_wp2_with fail
        go_ret
        exact ⟨rfl, Below.refl _ _⟩
      · have hq : k.toList.isEmpty = false := by rw [List.isEmpty_eq_false_iff, toList_tl]; exact hn
        by_cases ht : 0 ≤ t ∧ t + k.size ≤ c.size
        · obtain ⟨ht0, htl⟩ := ht
          obtain ⟨T, rfl⟩ := Int.eq_ofNat_of_zero_le ht0
          have e : cribF (tl c) (tl k) (T : Int) = crAll (tl c) (tl k) T k.size := by
            unfold cribF
            rw [hc, hk, List.isEmpty_eq_false_iff.2 hn, length_tl, length_tl]
            simp [htl]
          rw [e]
          have htn : ¬ (c.size : Int) - (k.size : Int) < (T : Int) := by omega
          have HC := Lib.hid hc; have HK := Lib.hid hk; clear hc hk hn e
          go_enter Tryz.func258, Tryz.ntmps258
          go_wp2_with fail
          refine (wordValid_is _ true _ HC.out).mono ?_
          rintro _ _ ⟨rfl, rfl⟩
          go_wp2_with fail
          refine (wordValid_is _ true _ HK.out).mono ?_
          rintro _ _ ⟨rfl, rfl⟩
          go_wp2_with fail
          go_loopw [35] (fun i wr => ∃ n : Nat, n ≤ k.size ∧ i = .int .i64 n ∧ Hid (crAll (tl c) (tl k) T n = true) ∧ Below w.heap.size w wr) (fun i _ => k.size - (intOf i).toNat)
          case atStart => exact ⟨0, Nat.zero_le _, rfl, Lib.hid rfl, Below.refl _ _⟩
          case round =>
            obtain ⟨n, hnk, rfl, HA, hbl⟩ := hrel
            have HBL := Lib.hid hbl; clear hbl
            by_cases hlt : n < k.size
            · have hct : T + n < c.size := by omega
              have e1 : (tl k)[n]? = some k[n] := by rw [getElem_tl]; exact List.getElem?_eq_getElem _
              have e2 : (tl c)[T + n]? = some c[T + n] := by rw [getElem_tl]; exact List.getElem?_eq_getElem _
              have hb1 := k[n].toNat_lt
              have hb2 := c[T + n].toNat_lt
              have ha1 : ((T : Int) + (n : Int)).toNat = T + n := by omega
              have ha2 : IntKind.i64.wrap ((T : Int) + (n : Int)) = (T : Int) + (n : Int) := by rw [IntKind.wrap_i64]; omega
              have ha3 : (0 : Int) ≤ (T : Int) + (n : Int) := by omega
              have ha4 : (T : Int) + (n : Int) < (c.size : Int) := by omega
              by_cases heq : k[n] = c[T + n]
              · have hbad := crAll_bad (c := tl c) (k := tl k) (t := T) (i := n) k.size (by rw [e1, e2, heq]; simp) hlt
                have hbq : ((k[n].toNat : Int) == (c[T + n].toNat : Int)) = true := by rw [heq]; simp
                have HBAD := Lib.hid hbad; clear hbad e1 e2 heq
                go_wp2_with fail
                go_quiet (fail)
                clear hbq
                go_wp2_with fail
                go_ret
                exact ⟨by rw [HBAD.out]; rfl, below_drewN' HBL.out _⟩
              · have hgo := crAll_succ (tl c) (tl k) T n
                rw [HA.out, e1, e2] at hgo
                have hbq : ((k[n].toNat : Int) == (c[T + n].toNat : Int)) = false := by
                  rw [beq_eq_false_iff_ne]; intro e; exact heq (UInt8.toNat_inj.1 (by omega))
                have hg2 : crAll (tl c) (tl k) T (n + 1) = true := by rw [hgo]; simp [heq]
                have HG := Lib.hid hg2; clear hg2 hgo e1 e2 heq
                go_wp2_with fail
                go_quiet (fail)
                clear hbq
                go_wp2_with fail
                go_roundw
                case rel => exact ⟨n + 1, by omega, by go_num, HG, below_drewN' HBL.out _⟩
                case measure => simp [intOf]; omega
            · have hall : crAll (tl c) (tl k) T k.size = true := by
                have := HA.out
                rw [show n = k.size by omega] at this; exact this
              have HALL := Lib.hid hall; clear hall
              go_wp2_with fail
              go_ret
              exact ⟨by rw [HALL.out]; rfl, HBL.out⟩
        · have e : cribF (tl c) (tl k) t = false := by
            rw [Bool.eq_false_iff]; intro h
            obtain ⟨_, _, _, h3, h4, _⟩ := cribF_iff.1 h
            rw [length_tl, length_tl] at h4
            exact ht ⟨h3, h4⟩
          rw [e]
          have HC := Lib.hid hc; have HK := Lib.hid hk; clear hc hk hn e
          by_cases ht0 : t < 0
          · clear ht
            go_enter Tryz.func258, Tryz.ntmps258
            go_wp2_with fail
            refine (wordValid_is _ true _ HC.out).mono ?_
            rintro _ _ ⟨rfl, rfl⟩
            go_wp2_with fail
            refine (wordValid_is _ true _ HK.out).mono ?_
            rintro _ _ ⟨rfl, rfl⟩
            go_wp2_with fail
            go_ret
            exact ⟨rfl, Below.refl _ _⟩
          · have htn : (c.size : Int) - (k.size : Int) < t := by omega
            clear ht
            go_enter Tryz.func258, Tryz.ntmps258
            go_wp2_with fail
            refine (wordValid_is _ true _ HC.out).mono ?_
            rintro _ _ ⟨rfl, rfl⟩
            go_wp2_with fail
            refine (wordValid_is _ true _ HK.out).mono ?_
            rintro _ _ ⟨rfl, rfl⟩
            go_wp2_with fail
            go_ret
            exact ⟨rfl, Below.refl _ _⟩
    · have hk' := Bool.eq_false_iff.2 hk
      have e : cribF (tl c) (tl k) t = false := by unfold cribF; rw [hk']; simp
      rw [e]
      have HC := Lib.hid hc; have HK := Lib.hid hk'; clear hc hk hk' e
      go_enter Tryz.func258, Tryz.ntmps258
      go_wp2_with fail
      refine (wordValid_is _ true _ HC.out).mono ?_
      rintro _ _ ⟨rfl, rfl⟩
      go_wp2_with fail
      refine (wordValid_is _ false _ HK.out).mono ?_
      rintro _ _ ⟨rfl, rfl⟩
      go_wp2_with fail
      go_ret
      exact ⟨rfl, Below.refl _ _⟩
  · have hc' := Bool.eq_false_iff.2 hc
    have e : cribF (tl c) (tl k) t = false := by unfold cribF; rw [hc']; simp
    rw [e]
    have HC := Lib.hid hc'; clear hc hc' e
    go_enter Tryz.func258, Tryz.ntmps258
    go_wp2_with fail
    refine (wordValid_is _ false _ HC.out).mono ?_
    rintro _ _ ⟨rfl, rfl⟩
    go_wp2_with fail
    go_ret
    exact ⟨rfl, Below.refl _ _⟩

/-- the places below n in which a crib fits -/
def cribTo (c k : List UInt8) (n : Nat) : List Nat := (List.range n).filter fun t => cribF c k t
theorem cribTo_len (c k : List UInt8) (n : Nat) : (cribTo c k n).length ≤ n := by
  have := List.length_filter_le (fun t : Nat => cribF c k t) (List.range n)
  rw [List.length_range] at this; exact this
theorem cribTo_yes {c k : List UInt8} {n : Nat} (h : cribF c k n = true) : cribTo c k n ++ [n] = cribTo c k (n + 1) := by
  unfold cribTo; rw [List.range_succ, List.filter_append, List.filter_cons, if_pos h]; rfl
theorem cribTo_no {c k : List UInt8} {n : Nat} (h : cribF c k n = false) : cribTo c k n = cribTo c k (n + 1) := by
  unfold cribTo; rw [List.range_succ, List.filter_append, List.filter_cons, if_neg (by rw [h]; simp)]; simp

set_option maxHeartbeats 4000000 in
set_option maxRecDepth 100000 in
theorem cribPlaces_any (c k : ByteArray) (w : World) (hz : c.size ≤ 100000) :
    Calls Tryz.prog 207 #[.string c, .string k] w (Nums (cribP (tl c) (tl k)) w) := by
  obtain ⟨iI, hi, hz0, hz1, hz2⟩ := info_parts Tryz.infoI
  have HI := Lib.hid hi; have HZ0 := Lib.hid hz0; have HZ1 := Lib.hid hz1; have HZ2 := Lib.hid hz2
  clear hi hz0 hz1 hz2
  have he : cribP (tl c) (tl k) = cribTo (tl c) (tl k) c.size := by unfold cribP cribTo; rw [length_tl]
  rw [he]
  have HL := Lib.hid (cribTo_len (tl c) (tl k))
  clear he
  go_enter Tryz.func207, Tryz.ntmps207
  go_wp2_with fail
  go_loopw [5, 9] (fun o i wr => ∃ n : Nat, n ≤ c.size ∧ i = .int .i64 n ∧ wr.ownsRow w.heap.size 3 1 o (cribTo (tl c) (tl k) n).length (natV (cribTo (tl c) (tl k) n)) ∧ Below w.heap.size w wr) (fun _ i _ => c.size - (intOf i).toNat)
  case atStart => exact ⟨0, Nat.zero_le _, rfl, World.ownsRow_nil _ _ _ _, Below.refl _ _⟩
  case round =>
    obtain ⟨n, hn, rfl, hown, hbl⟩ := hrel
    have HO := Lib.hid hown; have HBL := Lib.hid hbl; clear hown hbl
    have hln := HL.out n
    obtain ⟨L, hL⟩ : ∃ L, L = cribTo (tl c) (tl k) n := ⟨_, rfl⟩
    rw [← hL] at HO hln
    obtain ⟨A3, c3, e3⟩ := slot_slice HO.out
    subst e3
    have HLL := Lib.hid hL; clear hL
    by_cases hlt : n < c.size
    · have hcf := fun w' => cribFits_any c k (n : Int) w' (by omega)
      cases hv : cribF (tl c) (tl k) (n : Int) with
      | true =>
        rw [hv] at hcf
        have hnx : L ++ [n] = cribTo (tl c) (tl k) (n + 1) := by rw [HLL.out]; exact cribTo_yes hv
        have HCF := Lib.hid hcf; have HNX := Lib.hid hnx; clear hcf hnx hv
        go_wp2_with fail
        refine (HCF.out _).mono ?_
        rintro _ w2 ⟨rfl, hb2⟩
        have ho2 := ownsRow_below HO.out hb2
        have hb3 := HBL.out.trans (hb2.mono HBL.out.size)
        have HO2 := Lib.hid ho2; have HB2 := Lib.hid hb3; clear ho2 hb2
        have hbw := hb3.size
        clear hb3
        go_wp2_with (at_builtin; refine wpList_append_own _ rfl _ _ 54 rfl w.heap.size 3 iI (.int .i64 0) 1 8 Tryz.undI HI.out HZ0.out HZ1.out HZ2.out rfl (by decide) _ L.length _ rfl (HO2.out.alloc _) ⟨w2.heap.size, 0, none⟩ 1 1 [.int .i64 (n : Int)] rfl rfl (one_new w2 _ _) nat_cell (by unfold maxLen; omega) (by omega) (by simp; omega) ?_)
        intro v' w6 ho' hg' _
        rw [natV_snoc, show L.length + 1 = (L ++ [n]).length by simp, HNX.out] at ho'
        have hb6 := (HB2.out.alloc HB2.out.size _).grown hg' (Nat.le_trans HB2.out.size (by simp)) fun k' e => (HO2.out.lt k' e).1
        have HO6 := Lib.hid ho'; have HB6 := Lib.hid hb6; clear ho' hg' hb6
        go_wp2_with fail
        go_roundw
        case rel => exact ⟨n + 1, by omega, by go_num, HO6.out, HB6.out⟩
        case measure => simp [intOf]; omega
      | false =>
        rw [hv] at hcf
        have hnx : L = cribTo (tl c) (tl k) (n + 1) := by rw [HLL.out]; exact cribTo_no hv
        have HCF := Lib.hid hcf; have HNX := Lib.hid hnx; clear hcf hnx hv
        go_wp2_with fail
        refine (HCF.out _).mono ?_
        rintro _ w2 ⟨rfl, hb2⟩
        have ho2 := ownsRow_below HO.out hb2
        have hb3 := HBL.out.trans (hb2.mono HBL.out.size)
        have HO2 := Lib.hid ho2; have HB2 := Lib.hid hb3; clear ho2 hb2 hb3
        go_wp2_with fail
        go_roundw
        case rel => exact ⟨n + 1, by omega, by go_num, by rw [← HNX.out]; exact HO2.out, HB2.out⟩
        case measure => simp [intOf]; omega
    · have hfin : L = cribTo (tl c) (tl k) c.size := by rw [HLL.out, show n = c.size by omega]
      have HF := Lib.hid hfin; clear hfin
      go_wp2_with fail
      go_ret
      refine ⟨_, rfl, ?_, HBL.out⟩
      rw [← HF.out]; exact HO.out

/-- the cells of links -/
def linkV (l : List Lnk) : List Value := l.flatMap fun x => [.string x.1, .string x.2.1, .int .i64 (x.2.2 : Int)]
theorem length_linkV (l : List Lnk) : (linkV l).length = l.length * 3 := by
  induction l with
  | nil => rfl
  | cons x r ih =>
    have : linkV (x :: r) = [.string x.1, .string x.2.1, .int .i64 (x.2.2 : Int)] ++ linkV r := rfl
    rw [this, List.length_append, ih, List.length_cons]
    simp only [List.length_cons, List.length_nil]; omega
theorem linkV_snoc (l : List Lnk) (x : Lnk) : linkV l ++ [.string x.1, .string x.2.1, .int .i64 (x.2.2 : Int)] = linkV (l ++ [x]) := by simp [linkV]
theorem Tryz.infoL : (Tryz.prog.info? 230).map (fun i => (i.zero, i.size, i.bytes)) = some (some (.agg #[.string ByteArray.empty, .string ByteArray.empty, .int .i64 0]), 3, 40) := by kernel_rfl
theorem Tryz.undL : Tryz.prog.underlying 194 = some (.slice 230) := by kernel_rfl
theorem three_new (w : World) (a b : ByteArray) (n : Int) (t : TypeId) : ∀ (j : Nat) u, [Value.string a, Value.string b, Value.int .i64 n][j]? = some u → (w.alloc (.cells #[.string a, .string b, .int .i64 n] t)).cell? ((⟨w.heap.size, 0, none⟩ : Addr).add j) = some u :=
  World.news_of_block (cs := #[.string a, .string b, .int .i64 n]) (t := t) (fr := (0, 0)) (heap_alloc_new w _)
theorem three_one (a b : ByteArray) (n : Int) : ∀ u ∈ [Value.string a, Value.string b, Value.int .i64 n], u.oneCell' = true := by
  intro u hu
  simp at hu
  rcases hu with rfl | rfl | rfl <;> rfl
/-- the callee has made the menu m -/
def Menus (m : List Lnk) (w : World) (e : Ending) (w' : World) : Prop := ∃ v, e = .returned (.tuple #[v, .bool true]) ∧ w'.ownsRow w.heap.size 230 3 v m.length (linkV m) ∧ Below w.heap.size w w'

set_option maxHeartbeats 8000000 in
set_option maxRecDepth 100000 in
theorem menuOf_some (c k : ByteArray) (t : Nat) (w : World) (h : cribF (tl c) (tl k) t = true) (h1 : k.size ≤ 12) (h2 : t + k.size ≤ 60) :
    Calls Tryz.prog 208 #[.string c, .string k, .int .i64 t] w (Menus (menuL (tl c) (tl k) t) w) := by
  obtain ⟨iL, hi, hz0, hz1, hz2⟩ := info_parts Tryz.infoL
  have HI := Lib.hid hi; have HZ0 := Lib.hid hz0; have HZ1 := Lib.hid hz1; have HZ2 := Lib.hid hz2
  clear hi hz0 hz1 hz2
  obtain ⟨_, _, _, _, hle, _⟩ := cribF_iff.1 h
  rw [length_tl, length_tl] at hle
  have hle' : t + k.size ≤ c.size := by omega
  have hcf := fun w' => cribFits_any c k (t : Int) w' (by omega)
  rw [h] at hcf
  have HCF := Lib.hid hcf; clear hcf h hle
  have hml : menuL (tl c) (tl k) t = (List.range k.size).map fun i => (mk (((tl k).drop i).take 1), mk (((tl c).drop (t + i)).take 1), t + i + 1) := by unfold menuL; rw [length_tl]
  obtain ⟨M, hM⟩ : ∃ M : Nat → List Lnk, M = fun n => (List.range n).map fun i => (mk (((tl k).drop i).take 1), mk (((tl c).drop (t + i)).take 1), t + i + 1) := ⟨_, rfl⟩
  have hM0 : M 0 = [] := by rw [hM]; rfl
  have hMl : ∀ n, (M n).length = n := fun n => by rw [hM]; simp
  have hMs : ∀ n, M n ++ [(k.extract n (n + 1), c.extract (t + n) (t + n + 1), t + n + 1)] = M (n + 1) := fun n => by
    rw [hM, extract_mk', extract_mk', Nat.add_sub_cancel_left, Nat.add_sub_cancel_left]
    simp [List.range_succ]
  rw [hml, show ((List.range k.size).map fun i => (mk (((tl k).drop i).take 1), mk (((tl c).drop (t + i)).take 1), t + i + 1)) = M k.size from by rw [hM]]
  have HM0 := Lib.hid hM0; have HML := Lib.hid hMl; have HMS := Lib.hid hMs
  clear hml hM hM0 hMl hMs
  go_enter Tryz.func208, Tryz.ntmps208
  go_wp2_with fail
  refine (HCF.out _).mono ?_
  rintro _ w1 ⟨rfl, hb1⟩
  have HB1 := Lib.hid hb1; clear hb1 HCF
  go_wp2_with (at_make; refine wpList_make_own _ rfl _ _ 194 rfl w.heap.size 230 iL _ 3 Tryz.undL HI.out HZ0.out HZ1.out .i64 .i64 _ k.size rfl rfl rfl (by rw [HZ2.out]; omega) (by unfold maxLen; omega) HB1.out.size ?_; intro w2 ho2 hg2)
  have hb2 : Below w.heap.size w w2 := HB1.out.trans (Below.grown (Below.refl _ _) hg2 HB1.out.size (by simp))
  obtain ⟨G, hG⟩ : ∃ G, G = w1.heap.size := ⟨_, rfl⟩
  rw [← hG] at ho2 ⊢
  have HO2 := Lib.hid ho2; have HB2 := Lib.hid hb2; clear ho2 hb2 hg2 hG
  go_wp2_with fail
  go_loopw [8, 32] (fun o i wr => ∃ n : Nat, n ≤ k.size ∧ i = .int .i64 n ∧ wr.ownsRow w.heap.size 230 3 o n (linkV (M n)) ∧ Below w.heap.size w wr) (fun _ i _ => k.size - (intOf i).toNat)
  case atStart => exact ⟨0, Nat.zero_le _, rfl, by rw [HM0.out]; exact HO2.out, HB2.out⟩
  case round =>
    obtain ⟨n, hn, rfl, hown, hbl⟩ := hrel
    have HO := Lib.hid hown; have HBL := Lib.hid hbl; clear hown hbl HO2 HB2
    obtain ⟨A3, c3, e3⟩ := slot_slice HO.out
    subst e3
    by_cases hlt : n < k.size
    · have hbw := HBL.out.size
      have a1 : ((n : Int) + 1).toNat = n + 1 := by omega
      have a2 : ((t : Int) + (n : Int)).toNat = t + n := by omega
      have a3 : ((t : Int) + (n : Int) + 1).toNat = t + n + 1 := by omega
      have w1 : IntKind.i64.wrap ((n : Int) + 1) = (n : Int) + 1 := by rw [IntKind.wrap_i64]; omega
      have w2 : IntKind.i64.wrap ((t : Int) + (n : Int)) = (t : Int) + (n : Int) := by rw [IntKind.wrap_i64]; omega
      have w3 : IntKind.i64.wrap ((t : Int) + (n : Int) + 1) = (t : Int) + (n : Int) + 1 := by rw [IntKind.wrap_i64]; omega
      have b1 : (0 : Int) ≤ (n : Int) := by omega
      have b2 : (n : Int) ≤ (n : Int) + 1 := by omega
      have b3 : (n : Int) + 1 ≤ (k.size : Int) := by omega
      have b4 : (0 : Int) ≤ (t : Int) + (n : Int) := by omega
      have b5 : (t : Int) + (n : Int) ≤ (t : Int) + (n : Int) + 1 := by omega
      have b6 : (t : Int) + (n : Int) + 1 ≤ (c.size : Int) := by omega
      have z1 : (k.extract n (n + 1)).size ≤ 100 := by simp [ByteArray.size_extract]; omega
      have z2 : (c.extract (t + n) (t + n + 1)).size ≤ 100 := by simp [ByteArray.size_extract]; omega
      go_wp2_with fail
      go_region_held3 (fun W => True) (exact True.intro) (first | (rw [if_pos (by rfl)]; refine wp_append_lies _ (.tmp 35) (.tmp 55) 194 (by rfl) w.heap.size 230 iL _ 3 40 Tryz.undL HI.out HZ0.out HZ1.out HZ2.out rfl (by decide) _ n _ (by rfl) (HO.out.alloc _) ⟨wr.heap.size, 0, none⟩ 1 1 [.string (k.extract n (n + 1)), .string (c.extract (t + n) (t + n + 1)), .int .i64 ((t : Int) + (n : Int) + 1)] (by rfl) rfl (three_new wr _ _ _ _) (three_one _ _ _) (by decide) (by unfold maxLen; omega) (by omega) (by simp; omega) _ rfl ?_; intro g5 c5 w5 ho5 hg5 hat5 hlt5) | fail)
      have hls := linkV_snoc (M n) (k.extract n (n + 1), c.extract (t + n) (t + n + 1), t + n + 1)
      rw [HMS.out] at hls
      simp only [Int.natCast_add, Int.natCast_one] at hls
      rw [hls] at ho5
      have hb5 : Below w.heap.size w w5 := ((HBL.out.alloc hbw _).drew).grown hg5 (by simp; omega) fun k' e' => (HO.out.lt k' e').1
      have HO5 := Lib.hid ho5; have HB5 := Lib.hid hb5; clear ho5 hg5 hat5 hlt5 hb5 hls
      go_wp2_with fail
      go_roundw
      case rel => exact ⟨n + 1, by omega, by go_num, HO5.out, HB5.out⟩
      case measure => simp [intOf]; omega
    · go_wp2_with fail
      have hke : n = k.size := by omega
      go_ret2
      refine ⟨_, rfl, ?_, HBL.out⟩
      rw [HML.out, ← hke]; exact HO.out

end Go.Proofs.YtipcodebmemkpaaGreatDoor
