/-
  Contracts of functions and plain laws that the law's proof uses (parts: KeyA). Conditions: what each theorem names.
-/
import Derived.Deep.MidRow
import Derived.Deep.RegionHeld3
import Derived.Test.YtnbdimbhklbadaaGreatDoorQMachB
namespace Go.Proofs.YtnbdimbhklbadaaGreatDoor
open Go.RowKit Pl
set_option linter.unusedVariables false
abbrev pV (q : List Nat) : List Value := q.map fun n : Nat => Value.int .u8 (n : Int)
theorem pV_len (q : List Nat) : (pV q).length = q.length := by simp [pV]
theorem pV_one (q : List Nat) : ∀ v ∈ pV q, v.oneCell' = true := fun v hv => by
  obtain ⟨n, _, rfl⟩ := List.mem_map.1 hv; rfl
theorem permLen {q : List Nat} (h : q.length = 10) : (Tryz.prog.info? 52).map (·.size) = some (pV q).length := by rw [pV_len, h]; kernel_rfl
theorem rangeAt_below {W W' : World} {b o : Nat} {cs : List Value} (h : W.rangeAt b o cs) (hb : Below W.heap.size W W') : W'.rangeAt b o cs := fun j v hv => by
  have h1 := h j v hv
  exact (hb.cell (World.block_lt_of_cell? _ _ h1)).trans h1
theorem there_below {W W' : World} {b o n : Nat} (h : W.there b o n) (hb : Below W.heap.size W W') : W'.there b o n := fun j hj => by
  obtain ⟨h1, h2⟩ := h j hj
  obtain ⟨v, hv⟩ := Option.isSome_iff_exists.1 h1
  have hl := World.block_lt_of_cell? _ _ hv
  exact ⟨by rw [hb.cell hl]; exact h1, by rw [hb.frozen hl]; exact h2⟩
theorem PB.range {w : World} {p : Nat} {q : List Nat} (h : PB w p q) : w.rangeAt p 0 (pV q) := fun j v hv => by
  rw [Nat.zero_add, cell_of_row w p j _ _ _ h]
  simpa [pC] using hv
theorem PB.there {w : World} {p : Nat} {q : List Nat} (h : PB w p q) (hl : q.length = 10) : w.there p 0 10 := fun j hj => by
  rw [Nat.zero_add]
  exact ⟨by rw [h.cell (by rw [hl]; exact hj)]; rfl, h.frozen j⟩
theorem results_cell_mid {fn : Func} {p : Tmp} {ty : TypeId} (h : fn.results = #[.cell p ty]) (tmps : Array Value) (w : World) (g o : Nat) (cs : List Value) (d : TypeDesc)
    (hp : tmps.getD p undef = .pointer (some ⟨g, o, none⟩)) (hc : w.rangeAt g o cs) (hu : Tryz.prog.underlying ty = some d) (hd : d.isRow = true) (hi : (Tryz.prog.info? ty).map (·.size) = some cs.length) :
    (results fn tmps).run Tryz.prog w = .ok (.agg cs.toArray) w := by
  have hp' : tmps[p]?.getD undef = .pointer (some ⟨g, o, none⟩) := by simpa using hp
  simp [results, h, hp', asAddr, run_loadVar_mid w g o ty cs d hc hu hd hi]
theorem below_setCells {B b : Nat} {a : World} (hb : B ≤ b) : ∀ (vs : List Value) (o : Nat) (w : World), Below B a w → Below B a (w.setCells b o vs)
  | [], _, _, h => h
  | v :: vs, o, w, h => below_setCells hb vs (o + 1) _ (h.setCell hb (p := ⟨b, o, none⟩) v)
theorem bel_on {a W W' : World} (h : Below a.heap.size a W) (hb : Below W.heap.size W W') : Below a.heap.size a W' := h.trans (hb.mono h.size)
theorem keep_put {W : World} {Q R n o : Nat} {cs vs : List Value} (hQR : Q ≠ R) (h : W.rangeAt Q 0 cs ∧ W.there R 0 n) : (W.setCells R o vs).rangeAt Q 0 cs ∧ (W.setCells R o vs).there R 0 n := ⟨World.rangeAt_setCells_apart h.1 R o vs (Or.inl hQR), World.there_setCells h.2 R o vs⟩
theorem rot_mod {o : Nat} (ho : o < 10) : rotP ((10 - o) % 10) = rotP (10 - o) := by
  rcases Nat.eq_zero_or_pos o with rfl | h
  · decide
  · rw [Nat.mod_eq_of_lt (by omega)]
theorem rot_ten (n : Nat) : Ten (rotP n) := ⟨by simp [rotP], fun x hx => by
  obtain ⟨i, _, rfl⟩ := List.mem_map.1 hx
  exact Nat.mod_lt _ (by decide)⟩
set_option maxHeartbeats 4000000 in
set_option maxRecDepth 100000 in
theorem turned_is (w : World) (nt : ByteArray) (wq : List Nat) (hq : Prm wq) (o : Nat) (ho : o < 10) :
    Calls Tryz.prog 83 #[.agg #[.string (pT wq), .string nt], .int .i64 o] w fun e w' => e = .returned (.agg (pC (atP wq o))) ∧ Below w.heap.size w w' := by
  have hb0 := ((Below.refl w.heap.size w).alloc (Nat.le_refl _) (.cells #[.string (pT wq), .string nt] 142)).alloc (by simp) (.cells #[.int .u8 0, .int .u8 0, .int .u8 0, .int .u8 0, .int .u8 0, .int .u8 0, .int .u8 0, .int .u8 0, .int .u8 0, .int .u8 0] 52)
  have hr0 := PB.made (w.alloc (.cells #[.string (pT wq), .string nt] 142))
  rw [szalloc3] at hr0
  have hp0 := (SB.made w #[.string (pT wq), .string nt] 142).below ((Below.refl _ _).alloc (Nat.le_refl _) (.cells #[.int .u8 0, .int .u8 0, .int .u8 0, .int .u8 0, .int .u8 0, .int .u8 0, .int .u8 0, .int .u8 0, .int .u8 0, .int .u8 0] 52))
  obtain ⟨w0, hw0⟩ : ∃ w0, w0 = (w.alloc (.cells #[.string (pT wq), .string nt] 142)).alloc (.cells #[.int .u8 0, .int .u8 0, .int .u8 0, .int .u8 0, .int .u8 0, .int .u8 0, .int .u8 0, .int .u8 0, .int .u8 0, .int .u8 0] 52) := ⟨_, rfl⟩
  rw [← hw0] at hb0 hr0 hp0
  have hpo := fun w' => permOf_yes w' wq hq
  have hT2 := thenP_ten (rot_ten o) hq.toTen
  have hT3 := (thenP_ten hT2 (rot_ten ((10 - o) % 10))).len
  have hfin : thenP (thenP (rotP o) wq) (rotP ((10 - o) % 10)) = atP wq o := by rw [rot_mod ho]; rfl
  have x1 : IntKind.i64.wrap (10 - (o : Int)) = 10 - (o : Int) := by rw [IntKind.wrap_i64]; omega
  have x3 : (10 - (o : Int)).tmod 10 = (((10 - o) % 10 : Nat) : Int) := by rw [Int.tmod_eq_emod_of_nonneg (by omega)]; omega
  have hm10 : (10 - o) % 10 ≤ 10 := by omega
  generalize pT wq = T at hw0 hp0 hpo ⊢
  have c0 := SB.cell hp0 0 _ rfl
  have HB0 := Lib.hid hb0; have HR0 := Lib.hid hr0; have HPO := Lib.hid hpo; have HQT := Lib.hid hq.toTen; have HT1 := Lib.hid (rot_ten o); have HT2 := Lib.hid hT2; have HT4 := Lib.hid (rot_ten ((10 - o) % 10)); have HT3 := Lib.hid hT3; have HFIN := Lib.hid hfin; have HQL := Lib.hid hq.len
  have HO10 := Lib.hid (show o ≤ 10 by omega); have HM10 := Lib.hid hm10
  clear hb0 hr0 hp0 hpo hT2 hT3 hfin hq hm10
  go_enter Tryz.func83, Tryz.ntmps83
  go_wp2_with fail
  rw [← hw0]
  clear hw0
  go_wp2_with fail
  refine (HPO.out _).mono ?_
  rintro _ w1 ⟨rfl, hb1⟩
  have HB1 := Lib.hid (HB0.out.trans (hb1.mono HB0.out.size)); have HR1 := Lib.hid (HR0.out.below hb1)
  clear hb1 c0 HB0 HR0 HPO
  have HG1 := Lib.hid (PB.made w1)
  go_wp2_with (first | (refine wpList_store_row rfl 52 _ _ rfl w1.heap.size (pC wq) rfl rfl _ _ HG1.out (permSize HQL.out) (by rw [pC_size, pC_size, HQL.out]; rfl) (pC_one _) ?_))
  have hQR : w1.heap.size ≠ w.heap.size + 1 := by have := (Array.getElem?_eq_some_iff.1 HR1.out).1; omega
  have hs0 : PB ((w1.alloc (.cells #[.int .u8 0, .int .u8 0, .int .u8 0, .int .u8 0, .int .u8 0, .int .u8 0, .int .u8 0, .int .u8 0, .int .u8 0, .int .u8 0] 52)).setRow w1.heap.size (pC wq)) w1.heap.size wq := HG1.out.row wq
  have hr2 := PB.rowFar (block_kept3 HR1.out (.cells #[.int .u8 0, .int .u8 0, .int .u8 0, .int .u8 0, .int .u8 0, .int .u8 0, .int .u8 0, .int .u8 0, .int .u8 0, .int .u8 0] 52)) (Ne.symm hQR) wq
  have hb2 := below_setRow (HB1.out.alloc HB1.out.size (.cells #[.int .u8 0, .int .u8 0, .int .u8 0, .int .u8 0, .int .u8 0, .int .u8 0, .int .u8 0, .int .u8 0, .int .u8 0, .int .u8 0] 52)) HB1.out.size (pC wq)
  obtain ⟨wb, hwb⟩ : ∃ wb, wb = (w1.alloc (.cells #[.int .u8 0, .int .u8 0, .int .u8 0, .int .u8 0, .int .u8 0, .int .u8 0, .int .u8 0, .int .u8 0, .int .u8 0, .int .u8 0] 52)).setRow w1.heap.size (pC wq) := ⟨_, rfl⟩
  rw [← hwb] at hs0 hr2 hb2 ⊢
  obtain ⟨Q, hQ⟩ : ∃ Q, Q = w1.heap.size := ⟨_, rfl⟩
  rw [← hQ] at hs0 hQR ⊢
  clear hwb hQ
  have hs : ∀ W : World, Below wb.heap.size wb W → W.rangeAt Q 0 (pV wq) ∧ W.there (w.heap.size + 1) 0 10 := fun W hb => ⟨rangeAt_below (PB.range hs0) hb, there_below (PB.there hr2 rfl) hb⟩
  have HS := Lib.hid hs; have HB2 := Lib.hid hb2
  clear hs hb2 hs0 hr2 HG1 HR1 HB1
  have hbd : Below wb.heap.size wb wb.drew := (Below.refl _ _).drew
  have hu := Tryz.underlying52
  have hi := permLen HQL.out
  have hlen : (pV wq).length = 10 := by rw [pV_len]; exact HQL.out
  have hone := pV_one wq
  have hi2 := permLen HT3.out
  have hlen2 : (pV (thenP (thenP (rotP o) wq) (rotP ((10 - o) % 10)))).length = 10 := by rw [pV_len]; exact HT3.out
  have hone2 := pV_one (thenP (thenP (rotP o) wq) (rotP ((10 - o) % 10)))
  go_region_held3 (fun W => W.rangeAt Q 0 (pV wq) ∧ W.there (w.heap.size + 1) 0 10) (first | with_reducible assumption | with_reducible exact HS.out _ (by with_reducible assumption) | with_reducible exact keep_put hQR (HS.out _ (by with_reducible assumption))) (first | (go_at_call 96; refine (rotation_any _ _ (by first | exact HO10.out | exact HM10.out)).mono ?_; rintro _ w4 ⟨rfl, hb4⟩; have b4 := bel_on (a := wb) (by with_reducible assumption) hb4; clear hb4) | (go_at_call 63; refine (then_any _ _ _ (by first | exact HT1.out | exact HT2.out) (by first | exact HQT.out | exact HT4.out)).mono ?_; rintro _ w4 ⟨rfl, hb4⟩; have b4 := bel_on (a := wb) (by with_reducible assumption) hb4; clear hb4) | fail)
  all_goals
    have hx := World.rangeAt_setCells_same w4 (w.heap.size + 1) 0 (pV (thenP (thenP (rotP o) wq) (rotP ((10 - o) % 10)))) (by rw [hlen2]; exact (HS.out w4 b4).2)
    have hbf := below_setCells (show w.heap.size ≤ w.heap.size + 1 by omega) (pV (thenP (thenP (rotP o) wq) (rotP ((10 - o) % 10)))) 0 w4 (HB2.out.trans (b4.mono HB2.out.size))
    have HX := Lib.hid hx; have HBF := Lib.hid hbf; have HI2 := Lib.hid hi2
    clear hx hbf hi hlen hone hi2 hlen2 hone2 hu
    go_wp2_with fail
    refine bodyPost_ret (results_cell_mid rfl _ _ (w.heap.size + 1) 0 _ _ rfl HX.out Tryz.underlying52 rfl HI2.out) rfl ⟨by rw [← HFIN.out]; rfl, HBF.out⟩
def offL (ws rg : List Nat) (n : Nat) : List Nat := (List.range n).map fun i => (nth ws i + 10 - nth rg i) % 10
theorem offL_len (ws rg : List Nat) (n : Nat) : (offL ws rg n).length = n := by simp [offL]
theorem offL_next (ws rg : List Nat) (n k : Nat) (h : k < n) : (offL ws rg k ++ List.replicate (n - k) 0).set k ((nth ws k + 10 - nth rg k) % 10) = offL ws rg (k + 1) ++ List.replicate (n - (k + 1)) 0 := by
  have e1 : n - k = (n - (k + 1)) + 1 := by omega
  rw [List.set_append_right _ _ (by rw [offL_len]; exact Nat.le_refl _), offL_len, Nat.sub_self, e1, List.replicate_succ, List.set_cons_zero]
  unfold offL
  rw [List.range_succ, List.map_append, List.append_assoc]
  rfl
set_option maxHeartbeats 4000000 in
set_option maxRecDepth 100000 in
theorem offsets_is (w : World) (A : Option Addr) (n cap : Nat) (p l : ByteArray) (rg ws : List Nat) (hn : n ≤ 3) (hw : ws.length = n) (hlo : Lo ws) (hr : rg.length = n) (hro : Lo rg) :
    Calls Tryz.prog 140 #[.agg #[.slice A n cap, .string p, .string (pT rg), .string l], .string (pT ws)] w fun e w' => ∃ G, e = .returned (.slice (some ⟨G, 0, none⟩) n n) ∧ w'.ownsRow w.heap.size 3 1 (.slice (some ⟨G, 0, none⟩) n n) n (natV (offL ws rg n)) ∧ Below w.heap.size w w' := by
  obtain ⟨iI, hi, hz0, hz1, hz2⟩ := info_parts Tryz.infoI
  have HI := Lib.hid hi; have HZ0 := Lib.hid hz0; have HZ1 := Lib.hid hz1; have HZ2 := Lib.hid hz2
  clear hi hz0 hz1 hz2
  have hb0 : Below w.heap.size w (w.alloc (.cells #[.slice A n cap, .string p, .string (pT rg), .string l] 27)) := (Below.refl _ _).alloc (Nat.le_refl _) _
  have hs0 := SB.made w #[.slice A n cap, .string p, .string (pT rg), .string l] 27
  have hTz : (pT ws).size = n := by rw [pT_size]; exact hw
  have hUz : (pT rg).size = n := by rw [pT_size]; exact hr
  have hTl : ∀ k (h : k < (pT ws).size), isL (pT ws)[k] = true ∧ dg (pT ws)[k] = nth ws k := fun k h => by
    have hk : k < ws.length := by rw [hw, ← hTz]; exact h
    have hx := hlo _ (List.getElem_mem hk)
    rw [pT_at h hk, nth_eq hk]
    exact ⟨isL_letter hx, dg_letter hx⟩
  have hUl : ∀ k (h : k < (pT rg).size), isL (pT rg)[k] = true ∧ dg (pT rg)[k] = nth rg k := fun k h => by
    have hk : k < rg.length := by rw [hr, ← hUz]; exact h
    have hx := hro _ (List.getElem_mem hk)
    rw [pT_at h hk, nth_eq hk]
    exact ⟨isL_letter hx, dg_letter hx⟩
  generalize pT ws = T at hTz hTl ⊢
  generalize pT rg = U at hb0 hs0 hUz hUl ⊢
  have HB0 := Lib.hid hb0; have HS0 := Lib.hid hs0; have HTL := Lib.hid hTl; have HUL := Lib.hid hUl
  clear hb0 hs0 hTl hUl hw hr hlo hro
  go_enter Tryz.func140, Tryz.ntmps140
  go_wp2_with (at_make; refine wpList_make_full _ rfl _ _ 132 rfl (w.heap.size + 1) 3 iI (.int .i64 0) 1 Tryz.underlying132 HI.out HZ0.out HZ1.out .i64 .i64 _ _ n rfl rfl rfl rfl (by rw [HZ2.out]; omega) (by unfold maxLen; omega) (by simp) ?_; intro w2 ho2 hg2)
  rw [made_ints] at ho2
  rw [szalloc3] at ho2
  try rw [szalloc3]
  have hb2 : Below w.heap.size w w2 := Below.grown HB0.out hg2 (by simp) (by simp)
  have hs2 : SB w2 w.heap.size #[.slice A n cap, .string p, .string U, .string l] 27 := (hg2.block w.heap.size (by simp) (by simp)).trans HS0.out
  obtain ⟨P, hP⟩ : ∃ P, P = w.heap.size := ⟨_, rfl⟩
  rw [← hP] at ho2 hs2 ⊢
  have HO2 := Lib.hid ho2; have HB2 := Lib.hid hb2; have HS2 := Lib.hid hs2; have HPE := Lib.hid hP; clear ho2 hb2 hs2 hg2 HB0 HS0 hP
  go_loopw [6, 12] (fun _ i wr => ∃ k : Nat, k ≤ n ∧ i = .int .i64 k ∧ Hid (wr.ownsRow (P + 1) 3 1 (.slice (some ⟨P + 1, 0, none⟩) n n) n (natV (offL ws rg k ++ List.replicate (n - k) 0))) ∧ Hid (SB wr P #[.slice A n cap, .string p, .string U, .string l] 27) ∧ Hid (Below w.heap.size w wr)) (fun _ i _ => n - (intOf i).toNat)
  case atStart => exact ⟨0, Nat.zero_le _, rfl, HO2, HS2, HB2⟩
  case round =>
    obtain ⟨k, hk, rfl, HO, HS, HBL⟩ := hrel
    clear HO2 HS2 HB2
    by_cases hlt : k < n
    · have f0 := HO.out.frozenAt k
      have d1 := SB.cell HS.out 2 (.string U) rfl
      have y0 : k < T.size := by omega
      have y1 : k < U.size := by omega
      have v0 : (k : Int) < (n : Int) := by omega
      obtain ⟨x0, z0⟩ := HTL.out k y0
      obtain ⟨x1, z1⟩ := HUL.out k y1
      have g0 := dg_lt x0
      have g1 := dg_lt x1
      have hst := (HO.out.stored k (.int .i64 (((dg T[k] + 10 - dg U[k]) % 10 : Nat) : Int))).1
      rw [natV_set, z0, z1, offL_next ws rg n k hlt, ← z0, ← z1] at hst
      obtain ⟨xx, c1⟩ : ∃ x, wr.cell? ⟨P + 1, k, none⟩ = some x := ⟨_, by rw [HO.out.cellAt k (by omega), List.getElem?_eq_getElem (by rw [length_natV]; simp [offL_len]; omega)]⟩
      have hsf := SB.far HS.out (show P ≠ P + 1 by omega) k (.int .i64 (((dg T[k] + 10 - dg U[k]) % 10 : Nat) : Int))
      have hbf := HBL.out.setCell (p := ⟨P + 1, k, none⟩) (show w.heap.size ≤ P + 1 by have := HPE.out; omega) (.int .i64 (((dg T[k] + 10 - dg U[k]) % 10 : Nat) : Int))
      have w1 : IntKind.i64.wrap ((dg T[k] : Int) - (dg U[k] : Int)) = (dg T[k] : Int) - (dg U[k] : Int) := by rw [IntKind.wrap_i64]; omega
      have w2 : IntKind.i64.wrap ((dg T[k] : Int) - (dg U[k] : Int) + 10) = (dg T[k] : Int) - (dg U[k] : Int) + 10 := by rw [IntKind.wrap_i64]; omega
      have w3 : ((dg T[k] : Int) - (dg U[k] : Int) + 10).tmod 10 = (((dg T[k] + 10 - dg U[k]) % 10 : Nat) : Int) := by rw [Int.tmod_eq_emod_of_nonneg (by omega)]; omega
      have HST := Lib.hid hst; have HSF := Lib.hid hsf; have HBF := Lib.hid hbf
      clear hst hsf hbf z0 z1 g0 g1
      go_wp2_with fail
      go_region_law (first | (go_simp; go_at_call 21; refine (number_any _ _ (by first | exact x0 | exact x1)).mono ?_; rintro _ w6 ⟨rfl, rfl⟩) | fail)
      all_goals
        clear w1 w2 w3 c1 d1 f0
        go_wp2_with fail
        go_roundw
        case rel => exact ⟨k + 1, by omega, by go_num, HST, HSF, by first | exact HBF | exact Lib.hid HBF.out.drew⟩
        case measure => simp [intOf]; omega
    · obtain rfl : n = k := by omega
      have ho := HO.out
      rw [Nat.sub_self, List.replicate_zero, List.append_nil] at ho
      have HOF := Lib.hid (own_mono3 ho (show w.heap.size ≤ P + 1 by have := HPE.out; omega))
      clear ho
      go_wp2_with fail
      go_ret
      exact ⟨P + 1, rfl, HOF.out, HBL.out⟩
def wirP (rs : List (ByteArray × ByteArray)) (i : Nat) : List Nat := (tl ((rs.map (·.1)).getD i ⟨#[]⟩)).map dg
theorem wir_ok {rs : List (ByteArray × ByteArray)} {i : Nat} (h : ∀ r ∈ rs, RotorV r) (hi : i < rs.length) : Prm (wirP rs i) ∧ rs[i].1 = pT (wirP rs i) := by
  obtain ⟨q, hq, e⟩ := (h _ (List.getElem_mem hi)).1
  have e2 : wirP rs i = q := by
    unfold wirP
    rw [List.getD_eq_getElem?_getD, List.getElem?_map, List.getElem?_eq_getElem hi]
    show (tl rs[i].1).map dg = q
    rw [e, pT_dgs hq.lt]
  rw [e2]
  exact ⟨hq, e⟩
structure AsmTo (w : World) (X : Nat) (m : List Value) (q r : List Nat) (rs : List (ByteArray × ByteArray)) (k j : Nat) : Prop where
  m : w.rangeAt X 0 m
  pl : w.rangeAt X 4 (pV q)
  re : w.rangeAt X 14 (pV r)
  tu : ∀ i c, (i < k ∨ i = k ∧ c < j) → c < 10 → w.rangeAt X (24 + i * 100 + c * 10) (pV (atP (wirP rs i) c))
  th : w.there X 0 324
theorem there_mid {w : World} {X o n N : Nat} (h : w.there X 0 N) (hn : o + n ≤ N) : w.there X o n := fun j hj => by
  have := h (o + j) (by omega)
  rw [Nat.zero_add] at this
  exact this
theorem AsmTo.below {w w' : World} {X : Nat} {m : List Value} {q r : List Nat} {rs : List (ByteArray × ByteArray)} {k j : Nat} (h : AsmTo w X m q r rs k j) (hb : Below w.heap.size w w') : AsmTo w' X m q r rs k j :=
  ⟨rangeAt_below h.m hb, rangeAt_below h.pl hb, rangeAt_below h.re hb, fun i c h1 h2 => rangeAt_below (h.tu i c h1 h2) hb, there_below h.th hb⟩
theorem AsmTo.next {w : World} {X : Nat} {m : List Value} {q r : List Nat} {rs : List (ByteArray × ByteArray)} {k j : Nat} (h : AsmTo w X m q r rs k j) (hm : m.length = 4) (hq : q.length = 10) (hr : r.length = 10) (hk : k < 3) (hj : j < 10) (hl : ∀ i, i ≤ k → ∀ c, c < 10 → (atP (wirP rs i) c).length = 10) :
    AsmTo (w.setCells X (24 + k * 100 + j * 10) (pV (atP (wirP rs k) j))) X m q r rs k (j + 1) := by
  have hlen : (pV (atP (wirP rs k) j)).length = 10 := by rw [pV_len]; exact hl k (Nat.le_refl _) j hj
  refine ⟨World.rangeAt_setCells_apart h.m _ _ _ (by rw [hm, hlen]; omega), World.rangeAt_setCells_apart h.pl _ _ _ (by rw [pV_len, hq, hlen]; omega), World.rangeAt_setCells_apart h.re _ _ _ (by rw [pV_len, hr, hlen]; omega), fun i c h1 h2 => ?_, World.there_setCells h.th _ _ _⟩
  by_cases e : i = k ∧ c = j
  · obtain ⟨rfl, rfl⟩ := e
    exact World.rangeAt_setCells_same _ _ _ _ (by rw [hlen]; exact there_mid h.th (by omega))
  · have h3 : i < k ∨ i = k ∧ c < j := by omega
    refine World.rangeAt_setCells_apart (h.tu i c h3 h2) _ _ _ (Or.inr ?_)
    rw [hlen, pV_len, hl i (by omega) c h2]
    omega
theorem AsmTo.row {w : World} {X : Nat} {m : List Value} {q r : List Nat} {rs : List (ByteArray × ByteArray)} {k : Nat} (h : AsmTo w X m q r rs k 10) : AsmTo w X m q r rs (k + 1) 0 :=
  ⟨h.m, h.pl, h.re, fun i c h1 h2 => h.tu i c (by omega) h2, h.th⟩
theorem cell_apart {w : World} {p i X o : Nat} {v : Value} {vs : List Value} (h : w.cell? ⟨p, i, none⟩ = some v) (hne : p ≠ X) : (w.setCells X o vs).cell? ⟨p, i, none⟩ = some v := by
  have h1 : w.rangeAt p i [v] := fun j u hu => by
    have hj : j = 0 := by have := (List.getElem?_eq_some_iff.1 hu).1; simpa using this
    subst hj
    simp at hu
    subst hu
    exact h
  have h2 := World.rangeAt_setCells_apart h1 X o vs (Or.inl hne)
  exact h2 0 v rfl
theorem keep_put2 {W : World} {Y X o o' n : Nat} {a b : Value} {vs : List Value} (hYX : Y ≠ X) (h : W.cell? ⟨Y, 0, none⟩ = some a ∧ W.cell? ⟨Y, 1, none⟩ = some b ∧ W.there X o n) : (W.setCells X o' vs).cell? ⟨Y, 0, none⟩ = some a ∧ (W.setCells X o' vs).cell? ⟨Y, 1, none⟩ = some b ∧ (W.setCells X o' vs).there X o n := ⟨cell_apart h.1 hYX, cell_apart h.2.1 hYX, World.there_setCells h.2.2 _ _ _⟩
theorem setCells_block {p X : Nat} {o' : Obj} (hne : p ≠ X) : ∀ (vs : List Value) (o : Nat) (w : World), w.heap[p]? = some o' → (w.setCells X o vs).heap[p]? = some o'
  | [], _, _, h => h
  | v :: vs, o, w, h => setCells_block hne vs (o + 1) _ ((Below.heap_setCell w ⟨X, o, none⟩ v p (by intro e; exact hne e)).trans h)
theorem pC_list (q : List Nat) : (pC q).toList = pV q := by simp [pC, pV]
theorem set4 (z : Array Value) (hz : 4 ≤ z.size) (a b c d : Value) : ∀ (j : Nat) (v : Value), [a, b, c, d][j]? = some v → ((((z.setIfInBounds 0 a).setIfInBounds 1 b).setIfInBounds 2 c).setIfInBounds 3 d)[j]? = some v := by
  intro j v hv
  have hj : j < 4 := (List.getElem?_eq_some_iff.1 hv).1
  rw [Array.getElem?_setIfInBounds, Array.getElem?_setIfInBounds, Array.getElem?_setIfInBounds, Array.getElem?_setIfInBounds]
  simp only [Array.size_setIfInBounds]
  rcases (show j = 0 ∨ j = 1 ∨ j = 2 ∨ j = 3 by omega) with rfl | rfl | rfl | rfl
  · simpa [show 0 < z.size by omega] using hv
  · simpa [show 1 < z.size by omega] using hv
  · simpa [show 2 < z.size by omega] using hv
  · simpa [show 3 < z.size by omega] using hv
theorem asm_size : Tryz.zeroCells140.size = 324 := by kernel_rfl
set_option maxHeartbeats 8000000 in
set_option maxRecDepth 100000 in
theorem newAssembly_is (w : World) (A : Option Addr) (cap : Nat) (rs : List (ByteArray × ByteArray)) (g : ByteArray) (q r : List Nat) (h : Rd w w.heap.size A (rotV rs)) (hc : rs.length ≤ cap) (hl3 : rs.length ≤ 3) (hrv : ∀ x ∈ rs, RotorV x) (hq : Prm q) (hi : invP q = q) (hr : Prm r) (hri : invP r = r) :
    Calls Tryz.prog 48 #[.agg #[.slice A rs.length cap, .string (pT r), .string g, .string (pT q)]] w fun e w' => ∃ X, e = .returned (.pointer (some ⟨X, 0, none⟩)) ∧ w.heap.size ≤ X ∧ AsmTo w' X [.slice A rs.length cap, .string (pT r), .string g, .string (pT q)] q r rs rs.length 0 ∧ Below w.heap.size w w' := by
  obtain ⟨m, hm⟩ : ∃ m : List Value, m = [.slice A rs.length cap, .string (pT r), .string g, .string (pT q)] := ⟨_, rfl⟩
  have hml : m.length = 4 := by rw [hm]; rfl
  obtain ⟨C0, hC0⟩ : ∃ C0 : Array Value, C0 = (((Tryz.zeroCells140.setIfInBounds 0 (.slice A rs.length cap)).setIfInBounds 1 (.string (pT r))).setIfInBounds 2 (.string g)).setIfInBounds 3 (.string (pT q)) := ⟨_, rfl⟩
  have hCz : C0.size = 324 := by rw [hC0]; simp only [Array.size_setIfInBounds]; exact asm_size
  have hCm : ∀ (j : Nat) (v : Value), m[j]? = some v → C0[j]? = some v := fun j v hv => by
    rw [hC0]; rw [hm] at hv
    exact set4 _ (by rw [asm_size]; decide) _ _ _ _ j v hv
  have hb0 := ((Below.refl w.heap.size w).alloc (Nat.le_refl _) (.cells #[.slice A rs.length cap, .string (pT r), .string g, .string (pT q)] 27)).alloc (by simp) (.cells C0 140)
  have hx0 := SB.made (w.alloc (.cells #[.slice A rs.length cap, .string (pT r), .string g, .string (pT q)] 27)) C0 140
  rw [szalloc3] at hx0
  have hp0 := (SB.made w #[.slice A rs.length cap, .string (pT r), .string g, .string (pT q)] 27).below ((Below.refl _ _).alloc (Nat.le_refl _) (.cells C0 140))
  obtain ⟨w0, hw0⟩ : ∃ w0, w0 = (w.alloc (.cells #[.slice A rs.length cap, .string (pT r), .string g, .string (pT q)] 27)).alloc (.cells C0 140) := ⟨_, rfl⟩
  rw [← hw0] at hb0 hx0 hp0
  rw [hC0] at hw0
  have hth : w0.there (w.heap.size + 1) 0 324 := fun j hj => by
    rw [Nat.zero_add]
    have hg : C0[j]? = some C0[j] := Array.getElem?_eq_getElem (by rw [hCz]; exact hj)
    exact ⟨by rw [SB.cell hx0 j _ hg]; rfl, SB.frozen hx0 j⟩
  have hrm : w0.rangeAt (w.heap.size + 1) 0 m := fun j v hv => by rw [Nat.zero_add]; exact SB.cell hx0 j v (hCm j v hv)
  have hpo := fun w' => plugsOf_yes w' q hq hi
  have hro := fun w' => reflectorOf_yes w' r hr hri _ rfl
  have hrd0 := h
  generalize pT q = l at hm hw0 hp0 hpo ⊢
  generalize pT r = pp at hm hw0 hp0 hro ⊢
  have HMM := Lib.hid hm
  have HB0 := Lib.hid hb0; have HP0 := Lib.hid hp0; have HTH := Lib.hid hth; have HRM := Lib.hid hrm; have HPO := Lib.hid hpo; have HRO := Lib.hid hro; have HRD := Lib.hid hrd0
  have HQL := Lib.hid hq.len; have HRL := Lib.hid hr.len; have HML := Lib.hid hml
  clear hb0 hx0 hp0 hth hrm hpo hro hrd0 hm hml hC0 hCz hCm h hq hi hr hri
  go_enter Tryz.func48, Tryz.ntmps48
  go_wp2_with fail
  rw [← hw0]
  clear hw0
  have hpx : w.heap.size ≠ w.heap.size + 1 := by omega
  obtain ⟨X, hX⟩ : ∃ X, X = w.heap.size + 1 := ⟨_, rfl⟩
  rw [← hX] at HTH HRM hpx ⊢
  have HXE := Lib.hid hX; clear hX
  refine (HPO.out _).mono ?_
  rintro _ w1 ⟨rfl, hb1⟩
  have hp1 := SB.below HP0.out hb1
  have HTH1 := Lib.hid (there_below HTH.out hb1); have HRM1 := Lib.hid (rangeAt_below HRM.out hb1); have HB1 := Lib.hid (HB0.out.trans (hb1.mono HB0.out.size)); have HP1 := Lib.hid hp1
  clear hb1 HTH HRM HB0 HP0 HPO
  have ht4 := there_mid (o := 4) (n := 10) HTH1.out (by decide)
  rw [show 10 = (pC q).size by rw [pC_size, HQL.out]] at ht4
  have HT4 := Lib.hid ht4
  have c1 := cell_apart (o := 4) (vs := (pC q).toList) (SB.cell hp1 1 (.string pp) rfl) hpx
  clear hp1 ht4
  go_wp2_with (first | (refine wpList_store_mid rfl 52 _ _ rfl X 4 (pC q) rfl rfl HT4.out (permSize HQL.out) (pC_one _) ?_))
  have hpl := World.rangeAt_setCells_same w1 X 4 (pC q).toList (by rw [pC_list, pV_len]; exact there_mid HTH1.out (by rw [HQL.out]; decide))
  have hrm2 := World.rangeAt_setCells_apart HRM1.out X 4 (pC q).toList (Or.inr (by rw [HML.out]; omega))
  have hth2 := World.there_setCells HTH1.out X 4 (pC q).toList
  have hc0 := cell_apart (o := 4) (vs := (pC q).toList) (SB.cell HP1.out 0 (.slice A rs.length cap) rfl) hpx
  have hb2 := below_setCells (show w.heap.size ≤ X by have := HXE.out; omega) (pC q).toList 4 w1 HB1.out
  obtain ⟨w2, hw2⟩ : ∃ w2, w2 = w1.setCells X 4 (pC q).toList := ⟨_, rfl⟩
  rw [← hw2] at hpl hrm2 hth2 hc0 hb2 ⊢
  rw [pC_list] at hpl
  have HB2 := Lib.hid hb2
  clear hw2 c1 hb2 HTH1 HRM1 HB1 HP1 HT4
  refine (HRO.out _).mono ?_
  rintro _ w3 ⟨rfl, hb3⟩
  have hth3 := there_below hth2 hb3
  have hc3 := (hb3.cell (World.block_lt_of_cell? _ _ hc0)).trans hc0
  have HPL3 := Lib.hid (rangeAt_below hpl hb3); have HRM3 := Lib.hid (rangeAt_below hrm2 hb3); have HTH3 := Lib.hid hth3; have HB3 := Lib.hid (HB2.out.trans (hb3.mono HB2.out.size))
  have ht14 := there_mid (o := 14) (n := 10) hth3 (by decide)
  rw [show 10 = (pC r).size by rw [pC_size, HRL.out]] at ht14
  have HT14 := Lib.hid ht14
  have c0 := cell_apart (o := 14) (vs := (pC r).toList) hc3 hpx
  clear hb3 hpl hrm2 hth2 hc0 hth3 hc3 ht14 HB2 HRO
  go_wp2_with (first | (refine wpList_store_mid rfl 52 _ _ rfl X 14 (pC r) rfl rfl HT14.out (permSize HRL.out) (pC_one _) ?_))
  have hre := World.rangeAt_setCells_same w3 X 14 (pC r).toList (by rw [pC_list, pV_len]; exact there_mid HTH3.out (by rw [HRL.out]; decide))
  have hpl := World.rangeAt_setCells_apart HPL3.out X 14 (pC r).toList (Or.inr (by rw [pV_len, HQL.out]; omega))
  have hrm := World.rangeAt_setCells_apart HRM3.out X 14 (pC r).toList (Or.inr (by rw [HML.out]; omega))
  have hth := World.there_setCells HTH3.out X 14 (pC r).toList
  have hb4 := below_setCells (show w.heap.size ≤ X by have := HXE.out; omega) (pC r).toList 14 w3 HB3.out
  obtain ⟨w4, hw4⟩ : ∃ w4, w4 = w3.setCells X 14 (pC r).toList := ⟨_, rfl⟩
  rw [← hw4] at hre hpl hrm hth hb4 ⊢
  rw [pC_list] at hre
  have HA4 := Lib.hid (AsmTo.mk (rs := rs) (k := 0) (j := 0) hrm hpl hre (fun i c h1 h2 => by omega) hth)
  have HB4 := Lib.hid hb4
  clear hw4 c0 hre hpl hrm hth hb4 HPL3 HRM3 HTH3 HB3 HT14
  have HRV := Lib.hid hrv; clear hrv
  go_loopw [4, 5, 33] (fun _ _ i wr => ∃ k : Nat, k ≤ rs.length ∧ i = .int .i64 k ∧ Hid (AsmTo wr X m q r rs k 0) ∧ Hid (Below w.heap.size w wr)) (fun _ _ i _ => rs.length - (intOf i).toNat)
  case atStart => exact ⟨0, Nat.zero_le _, rfl, HA4, HB4⟩
  case round =>
    obtain ⟨k, hk, rfl, HAS, HBL⟩ := hrel
    clear HA4 HB4
    by_cases hlt : k < rs.length
    · obtain ⟨b0, off, hA, hb0, e1, e2⟩ := (HRD.out.below HBL.out).rot hlt
      obtain ⟨hwq, hwt⟩ := wir_ok HRV.out hlt
      rw [hwt] at e1
      have hlens : ∀ i, i ≤ k → ∀ c, c < 10 → (atP (wirP rs i) c).length = 10 := fun i hik c hc => (prm_at (wir_ok HRV.out (show i < rs.length by omega)).1 (by omega)).len
      have htu : ∀ (W : World) (nt : ByteArray) (j : Nat), j < 10 → Calls Tryz.prog 83 #[.agg #[.string (pT (wirP rs k)), .string nt], .int .i64 j] W fun e w'' => e = .returned (.agg (pC (atP (wirP rs k) j))) ∧ Below W.heap.size W w'' := fun W nt j hj => turned_is W nt (wirP rs k) hwq j hj
      have hnx := fun (W : World) (j : Nat) (hj : j < 10) (h' : AsmTo W X m q r rs k j) => h'.next HML.out HQL.out HRL.out (by omega) hj hlens
      have hln := hlens k (Nat.le_refl _)
      generalize wirP rs k = wq at e1 htu hnx hln
      generalize rs[k].2 = nt at e2
      generalize pT wq = T at e1 htu
      have HTU := Lib.hid (fun W j hj => htu W nt j hj); have HNX := Lib.hid hnx; have HLN := Lib.hid hln
      subst hA
      clear hwq hwt hlens htu hnx hln hb0
      have v0 : (k : Int) < 3 := by omega
      have v1 : (k : Int) < (rs.length : Int) := by omega
      obtain ⟨w5, hw5⟩ : ∃ w5, w5 = wr.alloc (.cells #[.string T, .string nt] 142) := ⟨_, rfl⟩
      have hal : Below wr.heap.size wr w5 := by rw [hw5]; exact (Below.refl _ _).alloc (Nat.le_refl _) _
      have hy5 : SB w5 wr.heap.size #[.string T, .string nt] 142 := by rw [hw5]; exact SB.made wr _ _
      have hyx : wr.heap.size ≠ X := by
        have hx := (HAS.out.th 0 (by decide)).1
        obtain ⟨v, hv⟩ := Option.isSome_iff_exists.1 hx
        have := World.block_lt_of_cell? _ _ hv
        intro e; rw [e] at this; exact Nat.lt_irrefl _ this
      have HA5 := Lib.hid (HAS.out.below hal); have HB5 := Lib.hid (HBL.out.trans (hal.mono HBL.out.size)); have HY5 := Lib.hid hy5
      clear hal hy5
      go_wp2_with fail
      rw [← hw5]
      obtain ⟨Y, hY⟩ : ∃ Y, Y = wr.heap.size := ⟨_, rfl⟩
      rw [← hY] at HY5 hyx ⊢
      clear hw5 hY e1 e2
      go_wp2_with fail
      go_loopw [6, 38] (fun _ i wr2 => ∃ j : Nat, j ≤ 10 ∧ i = .int .i64 j ∧ Hid (AsmTo wr2 X m q r rs k j) ∧ Hid (SB wr2 Y #[.string T, .string nt] 142) ∧ Hid (Below w.heap.size w wr2)) (fun _ i _ => 10 - (intOf i).toNat)
      case atStart => exact ⟨0, by omega, rfl, HA5, HY5, HB5⟩
      case round =>
        obtain ⟨j, hj, rfl, HAJ, HYJ, HBJ⟩ := hrel
        clear HA5 HY5 HB5 HAS HBL
        by_cases hlt2 : j < 10
        · have v2 : (j : Int) < 10 := by omega
          have hs : ∀ W : World, Below wr.heap.size wr W → W.cell? ⟨Y, 0, none⟩ = some (.string T) ∧ W.cell? ⟨Y, 1, none⟩ = some (.string nt) ∧ W.there X (24 + k * 100 + j * 10) 10 := fun W hb => ⟨SB.cell (SB.below HYJ.out hb) 0 _ rfl, SB.cell (SB.below HYJ.out hb) 1 _ rfl, there_mid (there_below HAJ.out.th hb) (by omega)⟩
          have HS := Lib.hid hs
          have hbd : Below wr.heap.size wr wr.drew := (Below.refl _ _).drew
          have hu := Tryz.underlying52
          have hi2 := permLen (HLN.out j hlt2)
          have hlen2 : (pV (atP wq j)).length = 10 := by rw [pV_len]; exact HLN.out j hlt2
          have hone2 := pV_one (atP wq j)
          clear hs
          go_wp2_with fail
          go_region_held3 (fun W => W.cell? ⟨Y, 0, none⟩ = some (.string T) ∧ W.cell? ⟨Y, 1, none⟩ = some (.string nt) ∧ W.there X (24 + k * 100 + j * 10) 10) (first | with_reducible assumption | with_reducible exact HS.out _ (by with_reducible assumption) | with_reducible exact keep_put2 hyx (HS.out _ (by with_reducible assumption))) (first | (go_at_call 83; refine (HTU.out _ j hlt2).mono ?_; rintro _ w7 ⟨rfl, hb7⟩; have b7 := bel_on (a := wr) (by with_reducible assumption) hb7; clear hb7) | fail)
          all_goals
            have HAN := Lib.hid (HNX.out w7 j hlt2 (HAJ.out.below b7))
            have HYN := Lib.hid (show SB (w7.setCells X (24 + k * 100 + j * 10) (pV (atP wq j))) Y #[.string T, .string nt] 142 from setCells_block hyx _ _ _ (SB.below HYJ.out b7))
            have HBN := Lib.hid (below_setCells (show w.heap.size ≤ X by have := HXE.out; omega) (pV (atP wq j)) (24 + k * 100 + j * 10) w7 (HBJ.out.trans (b7.mono HBJ.out.size)))
            clear hu hi2 hlen2 hone2 hbd b7
            go_wp2_with fail
            go_roundw
            case rel => exact ⟨j + 1, by omega, by go_num, HAN, HYN, HBN⟩
            case measure => simp [intOf]; omega
        · obtain rfl : j = 10 := by omega
          have HAR := Lib.hid HAJ.out.row
          go_wp2_with fail
          go_roundw
          case rel => exact ⟨k + 1, by omega, by go_num, HAR, HBJ⟩
          case measure => simp [intOf]; omega
    · obtain rfl : k = rs.length := by omega
      go_wp2_with fail
      go_ret
      exact ⟨X, rfl, by have := HXE.out; omega, by rw [← HMM.out]; exact HAS.out, HBL.out⟩
theorem AsmTo.apart {w : World} {X Y o : Nat} {vs : List Value} {m : List Value} {q r : List Nat} {rs : List (ByteArray × ByteArray)} {k j : Nat} (h : AsmTo w X m q r rs k j) (hne : X ≠ Y) : AsmTo (w.setCells Y o vs) X m q r rs k j :=
  ⟨World.rangeAt_setCells_apart h.m _ _ _ (Or.inl hne), World.rangeAt_setCells_apart h.pl _ _ _ (Or.inl hne), World.rangeAt_setCells_apart h.re _ _ _ (Or.inl hne), fun i c h1 h2 => World.rangeAt_setCells_apart (h.tu i c h1 h2) _ _ _ (Or.inl hne), World.there_setCells h.th _ _ _⟩
theorem AsmTo.drew {w : World} {X : Nat} {m : List Value} {q r : List Nat} {rs : List (ByteArray × ByteArray)} {k j : Nat} (h : AsmTo w X m q r rs k j) : AsmTo w.drew X m q r rs k j := h.below (Below.refl _ _).drew
theorem ten_cells (w : World) (p : Nat) (q : List Nat) : ((((((((((w.setCell ⟨p, 0, none⟩ (.int .u8 (nth q 0 : Int))).setCell ⟨p, 1, none⟩ (.int .u8 (nth q 1 : Int))).setCell ⟨p, 2, none⟩ (.int .u8 (nth q 2 : Int))).setCell ⟨p, 3, none⟩ (.int .u8 (nth q 3 : Int))).setCell ⟨p, 4, none⟩ (.int .u8 (nth q 4 : Int))).setCell ⟨p, 5, none⟩ (.int .u8 (nth q 5 : Int))).setCell ⟨p, 6, none⟩ (.int .u8 (nth q 6 : Int))).setCell ⟨p, 7, none⟩ (.int .u8 (nth q 7 : Int))).setCell ⟨p, 8, none⟩ (.int .u8 (nth q 8 : Int))).setCell ⟨p, 9, none⟩ (.int .u8 (nth q 9 : Int))) = w.setCells p 0 [.int .u8 (nth q 0 : Int), .int .u8 (nth q 1 : Int), .int .u8 (nth q 2 : Int), .int .u8 (nth q 3 : Int), .int .u8 (nth q 4 : Int), .int .u8 (nth q 5 : Int), .int .u8 (nth q 6 : Int), .int .u8 (nth q 7 : Int), .int .u8 (nth q 8 : Int), .int .u8 (nth q 9 : Int)] := rfl
def wayC (q : List Nat) (rs : List (ByteArray × ByteArray)) (ws rg : List Nat) (n : Nat) : Nat → List Nat
  | 0 => q
  | c + 1 => thenP (wayC q rs ws rg n c) (atP (wirP rs (n - 1 - c)) ((nth ws (n - 1 - c) + 10 - nth rg (n - 1 - c)) % 10))
theorem wayC_prm {q : List Nat} {rs : List (ByteArray × ByteArray)} {ws rg : List Nat} {n : Nat} (hq : Prm q) (hw : ∀ i, i < n → Prm (wirP rs i)) : ∀ c, c ≤ n → Prm (wayC q rs ws rg n c)
  | 0, _ => hq
  | c + 1, h => prm_then (wayC_prm hq hw c (by omega)) (prm_at (hw _ (by omega)) (by omega))
def permW (way r : List Nat) : List Nat := thenP (thenP way r) (invP way)
set_option maxHeartbeats 8000000 in
set_option maxRecDepth 100000 in
theorem permAt_is (w : World) (X : Nat) (A : Option Addr) (n cap : Nat) (p l : ByteArray) (q r rg ws : List Nat) (rs : List (ByteArray × ByteArray)) (hn : n ≤ 3) (hw : ws.length = n) (hlo : Lo ws) (hr : rg.length = n) (hro : Lo rg)
    (hq : Prm q) (hrp : Prm r) (hwi : ∀ i, i < n → Prm (wirP rs i)) (h : AsmTo w X [.slice A n cap, .string p, .string (pT rg), .string l] q r rs n 0) :
    Calls Tryz.prog 86 #[.pointer (some ⟨X, 0, none⟩), .string (pT ws)] w fun e w' => e = .returned (.agg (pC (permW (wayC q rs ws rg n n) r))) ∧ Below w.heap.size w w' := by
  have hof := fun w' => offsets_is w' A n cap p l rg ws hn hw hlo hr hro
  have hxl : X < w.heap.size := by
    have hx := (h.th 0 (by decide)).1
    obtain ⟨v, hv⟩ := Option.isSome_iff_exists.1 hx
    exact World.block_lt_of_cell? _ _ hv
  have hwp := fun c hc => wayC_prm (ws := ws) (rg := rg) hq hwi c hc
  have hb0 : Below w.heap.size w (w.alloc (.cells #[.int .u8 0, .int .u8 0, .int .u8 0, .int .u8 0, .int .u8 0, .int .u8 0, .int .u8 0, .int .u8 0, .int .u8 0, .int .u8 0] 52)) := (Below.refl _ _).alloc (Nat.le_refl _) _
  have hb1 : Below w.heap.size w ((w.alloc (.cells #[.int .u8 0, .int .u8 0, .int .u8 0, .int .u8 0, .int .u8 0, .int .u8 0, .int .u8 0, .int .u8 0, .int .u8 0, .int .u8 0] 52)).alloc (.cells #[.int .u8 0, .int .u8 0, .int .u8 0, .int .u8 0, .int .u8 0, .int .u8 0, .int .u8 0, .int .u8 0, .int .u8 0, .int .u8 0] 52)) := hb0.alloc hb0.size _
  have hr1 : PB ((w.alloc (.cells #[.int .u8 0, .int .u8 0, .int .u8 0, .int .u8 0, .int .u8 0, .int .u8 0, .int .u8 0, .int .u8 0, .int .u8 0, .int .u8 0] 52)).alloc (.cells #[.int .u8 0, .int .u8 0, .int .u8 0, .int .u8 0, .int .u8 0, .int .u8 0, .int .u8 0, .int .u8 0, .int .u8 0, .int .u8 0] 52)) w.heap.size zP := (PB.made w).below ((Below.refl _ _).alloc (Nat.le_refl _) _)
  have hy1 := PB.made (w.alloc (.cells #[.int .u8 0, .int .u8 0, .int .u8 0, .int .u8 0, .int .u8 0, .int .u8 0, .int .u8 0, .int .u8 0, .int .u8 0, .int .u8 0] 52))
  rw [szalloc3] at hy1
  have hb2 := below_setRow hb1 (show w.heap.size ≤ w.heap.size + 1 by omega) (pC q)
  have hy2 := hy1.row q
  have hr2 := PB.rowFar hr1 (show w.heap.size ≠ w.heap.size + 1 by omega) q
  have ha2 := h.below hb2
  have hpl := rangeAt_below h.pl hb0
  have hc : ∀ (W : World), AsmTo W X [.slice A n cap, .string p, .string (pT rg), .string l] q r rs n 0 → W.cell? ⟨X, 0, none⟩ = some (.slice A n cap) ∧ W.cell? ⟨X, 1, none⟩ = some (.string p) ∧ W.cell? ⟨X, 2, none⟩ = some (.string (pT rg)) ∧ W.cell? ⟨X, 3, none⟩ = some (.string l) := fun W h' => by
    have h0 := h'.m 0 _ rfl; have h1 := h'.m 1 _ rfl; have h2 := h'.m 2 _ rfl; have h3 := h'.m 3 _ rfl
    rw [Nat.zero_add] at h0 h1 h2 h3
    exact ⟨h0, h1, h2, h3⟩
  obtain ⟨c0, c1, c2, c3⟩ := hc _ ha2
  have hi0 := permLen hq.len
  generalize pT rg = U at h hof ha2 hc c2
  generalize pT ws = T at hof ⊢
  obtain ⟨w2, hw2⟩ : ∃ w2, w2 = ((w.alloc (.cells #[.int .u8 0, .int .u8 0, .int .u8 0, .int .u8 0, .int .u8 0, .int .u8 0, .int .u8 0, .int .u8 0, .int .u8 0, .int .u8 0] 52)).alloc (.cells #[.int .u8 0, .int .u8 0, .int .u8 0, .int .u8 0, .int .u8 0, .int .u8 0, .int .u8 0, .int .u8 0, .int .u8 0, .int .u8 0] 52)).setRow (w.heap.size + 1) (pC q) := ⟨_, rfl⟩
  rw [← hw2] at hb2 hy2 hr2 ha2
  have HOF := Lib.hid hof; have HA2 := Lib.hid ha2; have HR2 := Lib.hid hr2; have HY2 := Lib.hid hy2; have HB2 := Lib.hid hb2; have HQ := Lib.hid hq; have HRP := Lib.hid hrp; have HWI := Lib.hid hwi; have HWP := Lib.hid hwp; have HXL := Lib.hid hxl
  have HQL := Lib.hid hq.len; have HPL := Lib.hid hpl; have HI0 := Lib.hid hi0; have HY1 := Lib.hid hy1
  clear hof ha2 hr2 hy2 hb2 hq hrp hwi hwp h hxl hw hlo hr hro hb0 hb1 hr1 hy1 hpl hi0 hc
  go_enter Tryz.func86, Tryz.ntmps86
  go_wp2_with (first | (refine wpList_load_mid rfl 52 _ rfl X 4 rfl (pV q) _ HPL.out Tryz.underlying52 rfl HI0.out ?_) | (refine wpList_store_row rfl 52 _ _ rfl (w.heap.size + 1) (pC q) rfl rfl _ _ HY1.out (permSize HQL.out) (by rw [pC_size, pC_size, HQL.out]; rfl) (pC_one _) ?_))
  rw [← hw2]
  obtain ⟨Y, hY⟩ : ∃ Y, Y = w.heap.size + 1 := ⟨_, rfl⟩
  obtain ⟨R, hR⟩ : ∃ R, R = w.heap.size := ⟨_, rfl⟩
  rw [← hY, ← hR] 
  rw [← hY] at HY2
  rw [← hR] at HR2
  have hYR : Y ≠ R := by omega
  have hXY : X ≠ Y := by have := HXL.out; omega
  have hXR : X ≠ R := by have := HXL.out; omega
  have HYE := Lib.hid hY; have HRE := Lib.hid hR
  clear hw2 c0 c1 c2 c3 HPL HY1 hY hR
  refine (HOF.out _).mono ?_
  rintro _ w3 ⟨G, rfl, hown, hb3⟩
  have hGl := (hown.lt G rfl).1
  have hYl := (Array.getElem?_eq_some_iff.1 HY2.out).1
  have hRl := (Array.getElem?_eq_some_iff.1 HR2.out).1
  have hGY : G ≠ Y := by omega
  have hGR : G ≠ R := by omega
  have hrd : Rd w3 w3.heap.size (some ⟨G, 0, none⟩) (natV (offL ws rg n)) := own_rd3' hown
  have hints : ∀ j, j < n → w3.cell? ⟨G, j, none⟩ = some (.int .i64 (((nth ws j + 10 - nth rg j) % 10 : Nat) : Int)) := fun j hj => by
    obtain ⟨b, off, e, _, c⟩ := hrd.nat (show j < (offL ws rg n).length by rw [offL_len]; exact hj)
    simp only [Option.some.injEq, Addr.mk.injEq, and_true] at e
    obtain ⟨rfl, rfl⟩ := e
    rw [Nat.zero_add] at c
    rw [c]
    simp [offL]
  have HIN := Lib.hid (fun (W : World) (hb : Below w3.heap.size w3 W) (j : Nat) (hj : j < n) => (hb.cell (World.block_lt_of_cell? _ _ (hints j hj))).trans (hints j hj))
  have HA3 := Lib.hid (HA2.out.below hb3); have HR3 := Lib.hid (HR2.out.below hb3); have HY3 := Lib.hid (HY2.out.below hb3); have HB3 := Lib.hid (HB2.out.trans (hb3.mono HB2.out.size))
  have hn10 : ∀ j, j < n → w3.cell? ⟨G, j, none⟩ = some (.int .i64 (((nth ws j + 10 - nth rg j) % 10 : Nat) : Int)) := hints
  have HI3 := Lib.hid hints
  clear hb3 hown hrd hints hn10 hGl hYl hRl HA2 HR2 HY2 HB2 HOF HIN
  go_wp2_with fail
  go_loopw [7] (fun i wr => ∃ c k : Nat, c + k = n ∧ i = .int .i64 ((k : Int) - 1) ∧ Hid (PB wr Y (wayC q rs ws rg n c)) ∧ Hid (PB wr R zP) ∧ Hid (AsmTo wr X [.slice A n cap, .string p, .string U, .string l] q r rs n 0) ∧ Hid (∀ j, j < n → wr.cell? ⟨G, j, none⟩ = some (.int .i64 (((nth ws j + 10 - nth rg j) % 10 : Nat) : Int))) ∧ Hid (Below w.heap.size w wr)) (fun i _ => (intOf i + 1).toNat)
  case atStart => exact ⟨0, n, by omega, rfl, HY3, HR3, HA3, HI3, HB3⟩
  case round =>
    obtain ⟨c, k, hck, rfl, HYW, HRZ, HAS, HIN, HBL⟩ := hrel
    clear HY3 HR3 HA3 HI3 HB3
    by_cases hpos : 0 < k
    · obtain ⟨j, rfl⟩ : ∃ j, k = j + 1 := ⟨k - 1, by omega⟩
      rw [show ((j + 1 : Nat) : Int) - 1 = (j : Int) by omega]
      have hjn : j < n := by omega
      have hcj : n - 1 - c = j := by omega
      have hnext : wayC q rs ws rg n (c + 1) = thenP (wayC q rs ws rg n c) (atP (wirP rs j) ((nth ws j + 10 - nth rg j) % 10)) := by
        show thenP _ (atP (wirP rs (n - 1 - c)) ((nth ws (n - 1 - c) + 10 - nth rg (n - 1 - c)) % 10)) = _
        rw [hcj]
      have hx10 : (nth ws j + 10 - nth rg j) % 10 < 10 := Nat.mod_lt _ (by decide)
      have hg0 := HIN.out j hjn
      have htu := HAS.out.tu j ((nth ws j + 10 - nth rg j) % 10) (Or.inl hjn) hx10
      have hat := prm_at (HWI.out j hjn) (show (nth ws j + 10 - nth rg j) % 10 ≤ 10 by omega)
      have hway := HWP.out c (by omega)
      generalize (nth ws j + 10 - nth rg j) % 10 = x at hnext hx10 hg0 htu hat
      generalize atP (wirP rs j) x = at' at hnext htu hat
      have hnl := (HWP.out (c + 1) (by omega)).len
      rw [hnext] at hnl
      have HNX := Lib.hid hnext; have HTU := Lib.hid htu; have HAT := Lib.hid hat; have HWY := Lib.hid hway
      have hatl := HAT.out.len
      have hwyl := HWY.out.len
      generalize wayC q rs ws rg n c = way at HNX HWY HYW hnl hwyl
      have hth := fun w' => then_any w' way at' HWY.out.toTen HAT.out.toTen
      rw [pC_ten hwyl, pC_ten hatl, pC_ten hnl] at hth
      have HTH := Lib.hid hth; have HNL := Lib.hid hnl; have HWL := Lib.hid hwyl
      obtain ⟨⟨d0, d1, d2, d3, d4, d5, d6, d7, d8, d9⟩, _⟩ := HYW.out.all hwyl
      have hx := fun i (hi : i < 10) => HTU.out i (.int .u8 (nth at' i : Int)) (by rw [List.getElem?_map, List.getElem?_eq_getElem (show i < at'.length by rw [hatl]; exact hi), nth_eq (show i < at'.length by rw [hatl]; exact hi)]; rfl)
      have x0 := hx 0 (by decide); have x1 := hx 1 (by decide); have x2 := hx 2 (by decide); have x3 := hx 3 (by decide); have x4 := hx 4 (by decide)
      have x5 := hx 5 (by decide); have x6 := hx 6 (by decide); have x7 := hx 7 (by decide); have x8 := hx 8 (by decide); have x9 := hx 9 (by decide)
      rw [Nat.add_zero] at x0
      clear hnext htu hat hway hth hnl hwyl hatl hx
      have v0 : (j : Int) < (n : Int) := by omega
      have v1 : (j : Int) < 3 := by omega
      have v2 : (x : Int) < 10 := by omega
      go_wp2_with fail
      go_region_law (first | (go_simp; go_at_call 63; refine (HTH.out _).mono ?_; rintro _ w7 ⟨rfl, hb7⟩; obtain ⟨⟨k0, k1, k2, k3, k4, k5, k6, k7, k8, k9⟩, f0, f1, f2, f3, f4, f5, f6, f7, f8, f9⟩ := (HYW.out.below (below_of_drew2 hb7)).all HWL.out) | fail)
      all_goals
        have hb8 := below_of_drew2 hb7
        have hp8 := (HYW.out.below hb8).ten HWL.out HNL.out
        have hb9 := below_ten (p := Y) (HBL.out.trans (hb8.mono HBL.out.size)) (show w.heap.size ≤ Y by have := HYE.out; omega) (thenP way at')
        have ha8 := AsmTo.apart (Y := Y) (o := 0) (vs := [.int .u8 (nth (thenP way at') 0 : Int), .int .u8 (nth (thenP way at') 1 : Int), .int .u8 (nth (thenP way at') 2 : Int), .int .u8 (nth (thenP way at') 3 : Int), .int .u8 (nth (thenP way at') 4 : Int), .int .u8 (nth (thenP way at') 5 : Int), .int .u8 (nth (thenP way at') 6 : Int), .int .u8 (nth (thenP way at') 7 : Int), .int .u8 (nth (thenP way at') 8 : Int), .int .u8 (nth (thenP way at') 9 : Int)]) (HAS.out.below hb8) hXY
        have hr8 := setCells_block (Ne.symm hYR) [.int .u8 (nth (thenP way at') 0 : Int), .int .u8 (nth (thenP way at') 1 : Int), .int .u8 (nth (thenP way at') 2 : Int), .int .u8 (nth (thenP way at') 3 : Int), .int .u8 (nth (thenP way at') 4 : Int), .int .u8 (nth (thenP way at') 5 : Int), .int .u8 (nth (thenP way at') 6 : Int), .int .u8 (nth (thenP way at') 7 : Int), .int .u8 (nth (thenP way at') 8 : Int), .int .u8 (nth (thenP way at') 9 : Int)] 0 w7 (HRZ.out.below hb8)
        have hi8 := fun (i : Nat) (hi : i < n) => cell_apart (o := 0) (vs := [.int .u8 (nth (thenP way at') 0 : Int), .int .u8 (nth (thenP way at') 1 : Int), .int .u8 (nth (thenP way at') 2 : Int), .int .u8 (nth (thenP way at') 3 : Int), .int .u8 (nth (thenP way at') 4 : Int), .int .u8 (nth (thenP way at') 5 : Int), .int .u8 (nth (thenP way at') 6 : Int), .int .u8 (nth (thenP way at') 7 : Int), .int .u8 (nth (thenP way at') 8 : Int), .int .u8 (nth (thenP way at') 9 : Int)]) ((hb8.cell (World.block_lt_of_cell? _ _ (HIN.out i hi))).trans (HIN.out i hi)) hGY
        rw [← ten_cells] at ha8 hr8
        simp only [← ten_cells] at hi8
        have HA8 := Lib.hid ha8; have HR8 := Lib.hid hr8; have HI8 := Lib.hid hi8; have HP8 := Lib.hid hp8; have HB9 := Lib.hid hb9
        clear ha8 hr8 hi8 hp8 hb9 hb8 hb7 k0 k1 k2 k3 k4 k5 k6 k7 k8 k9 f0 f1 f2 f3 f4 f5 f6 f7 f8 f9 d0 d1 d2 d3 d4 d5 d6 d7 d8 d9 x0 x1 x2 x3 x4 x5 x6 x7 x8 x9 hg0
        go_wp2_with fail
        go_roundw
        case rel => exact ⟨c + 1, j, by omega, by go_num, Lib.hid (by rw [HNX.out]; exact HP8.out), Lib.hid HR8.out, Lib.hid (by first | exact HA8.out | exact HA8.out.drew), Lib.hid HI8.out, Lib.hid (by first | exact HB9.out | exact HB9.out.drew)⟩
        case measure => simp [intOf]
    · obtain rfl : k = 0 := by omega
      obtain rfl : c = n := by omega
      have hway := HWP.out c (Nat.le_refl _)
      have hfp : permW (wayC q rs ws rg c c) r = thenP (thenP (wayC q rs ws rg c c) r) (invP (wayC q rs ws rg c c)) := rfl
      obtain ⟨way, hw0⟩ : ∃ way, way = wayC q rs ws rg c c := ⟨_, rfl⟩
      rw [← hw0] at HYW hway
      have hfp2 : permW (wayC q rs ws rg c c) r = thenP (thenP way r) (invP way) := by rw [hfp, ← hw0]
      have hres := prm_then (prm_then hway HRP.out) (prm_inv hway)
      have HFP := Lib.hid hfp2
      clear hfp hfp2 hw0
      have hbd : Below wr.heap.size wr wr.drew := (Below.refl _ _).drew
      have hT1 := hway.toTen
      have hT2 := thenP_ten hT1 HRP.out.toTen
      have hT3 := (prm_inv hway).toTen
      have HTH := Lib.hid (fun (w' : World) (x y : List Nat) (hx : Ten x) (hy : Ten y) => (show Calls Tryz.prog 63 #[.agg #[.int .u8 (nth x 0 : Int), .int .u8 (nth x 1 : Int), .int .u8 (nth x 2 : Int), .int .u8 (nth x 3 : Int), .int .u8 (nth x 4 : Int), .int .u8 (nth x 5 : Int), .int .u8 (nth x 6 : Int), .int .u8 (nth x 7 : Int), .int .u8 (nth x 8 : Int), .int .u8 (nth x 9 : Int)], .agg #[.int .u8 (nth y 0 : Int), .int .u8 (nth y 1 : Int), .int .u8 (nth y 2 : Int), .int .u8 (nth y 3 : Int), .int .u8 (nth y 4 : Int), .int .u8 (nth y 5 : Int), .int .u8 (nth y 6 : Int), .int .u8 (nth y 7 : Int), .int .u8 (nth y 8 : Int), .int .u8 (nth y 9 : Int)]] w' _ from by
        have h1 := then_any w' x y hx hy
        rw [pC_ten hx.len, pC_ten hy.len, pC_ten (thenP_ten hx hy).len] at h1
        exact h1))
      have HIV := Lib.hid (fun (w' : World) => (show Calls Tryz.prog 141 #[.agg #[.int .u8 (nth way 0 : Int), .int .u8 (nth way 1 : Int), .int .u8 (nth way 2 : Int), .int .u8 (nth way 3 : Int), .int .u8 (nth way 4 : Int), .int .u8 (nth way 5 : Int), .int .u8 (nth way 6 : Int), .int .u8 (nth way 7 : Int), .int .u8 (nth way 8 : Int), .int .u8 (nth way 9 : Int)]] w' _ from by
        have h1 := inverse_any w' way hway
        rw [pC_ten hT1.len, pC_ten hT3.len] at h1
        exact h1))
      have HT1 := Lib.hid hT1; have HT2 := Lib.hid hT2; have HT3 := Lib.hid hT3; have HRES := Lib.hid hres.len; have HWL := Lib.hid hT1.len
      obtain ⟨⟨d0, d1, d2, d3, d4, d5, d6, d7, d8, d9⟩, _⟩ := HYW.out.all hT1.len
      have hx := fun i (hi : i < 10) => HAS.out.re i (.int .u8 (nth r i : Int)) (by rw [List.getElem?_map, List.getElem?_eq_getElem (show i < r.length by rw [HRP.out.len]; exact hi), nth_eq (show i < r.length by rw [HRP.out.len]; exact hi)]; rfl)
      have x0 := hx 0 (by decide); have x1 := hx 1 (by decide); have x2 := hx 2 (by decide); have x3 := hx 3 (by decide); have x4 := hx 4 (by decide)
      have x5 := hx 5 (by decide); have x6 := hx 6 (by decide); have x7 := hx 7 (by decide); have x8 := hx 8 (by decide); have x9 := hx 9 (by decide)
      simp only [Nat.reduceAdd] at x0 x1 x2 x3 x4 x5 x6 x7 x8 x9
      clear hx hT1 hT2 hT3 hway hres
      go_wp2_with fail
      go_region_law (first | (go_simp; go_at_call 63; refine (HTH.out _ _ _ (by first | exact HT1.out | exact HT2.out) (by first | exact HRP.out.toTen | exact HT3.out)).mono ?_; rintro _ w7 ⟨rfl, hb7⟩; have b7 := bel_on (a := wr) (by with_reducible assumption) hb7; clear hb7; obtain ⟨⟨k0, k1, k2, k3, k4, k5, k6, k7, k8, k9⟩, _⟩ := (HYW.out.below b7).all HWL.out; obtain ⟨⟨z0, z1, z2, z3, z4, z5, z6, z7, z8, z9⟩, f0, f1, f2, f3, f4, f5, f6, f7, f8, f9⟩ := (HRZ.out.below b7).all zP_len) | (go_simp; go_at_call 141; refine (HIV.out _).mono ?_; rintro _ w7 ⟨rfl, hb7⟩; have b7 := bel_on (a := wr) (by with_reducible assumption) hb7; clear hb7; obtain ⟨⟨k0, k1, k2, k3, k4, k5, k6, k7, k8, k9⟩, _⟩ := (HYW.out.below b7).all HWL.out; obtain ⟨⟨z0, z1, z2, z3, z4, z5, z6, z7, z8, z9⟩, f0, f1, f2, f3, f4, f5, f6, f7, f8, f9⟩ := (HRZ.out.below b7).all zP_len) | fail)
      all_goals
        have hp8 := (HRZ.out.below b7).ten zP_len HRES.out
        have hb8 := below_ten (p := R) (HBL.out.trans (b7.mono HBL.out.size)) (show w.heap.size ≤ R by have := HRE.out; omega) (thenP (thenP way r) (invP way))
        have HP8 := Lib.hid hp8; have HB8 := Lib.hid hb8
        clear hp8 hb8 b7 hbd k0 k1 k2 k3 k4 k5 k6 k7 k8 k9 z0 z1 z2 z3 z4 z5 z6 z7 z8 z9 f0 f1 f2 f3 f4 f5 f6 f7 f8 f9 d0 d1 d2 d3 d4 d5 d6 d7 d8 d9 x0 x1 x2 x3 x4 x5 x6 x7 x8 x9
        clear HYW HRZ HAS HIN HBL HTH HIV HT1 HT2 HT3 HWL HWP HWI
        rw [ten_cells] at HP8 HB8 ⊢
        generalize World.setCells w7 R 0 _ = wf at HP8 HB8 ⊢
        go_wp2_with fail
        exact bodyPost_ret (results_cell_row rfl _ _ R _ (pC (thenP (thenP way r) (invP way))) _ _ rfl HP8.out Tryz.underlying52 rfl (permSize HRES.out)) rfl ⟨by rw [HFP.out], HB8.out⟩
theorem ext_nth {p q : List Nat} (hp : p.length = 10) (hq : q.length = 10) (h : ∀ x, x < 10 → nth p x = nth q x) : p = q := by
  apply List.ext_getElem (by omega)
  intro i h1 h2
  have := h i (by omega)
  rw [nth_eq h1, nth_eq h2] at this
  exact this
theorem nth_ten {p : List Nat} (h : Ten p) {x : Nat} : nth p x < 10 := nth_lt h.lt x
theorem then_assoc {p q r : List Nat} (hp : Ten p) (hq : Ten q) (hr : Ten r) : thenP (thenP p q) r = thenP p (thenP q r) := by
  refine ext_nth (thenP_ten (thenP_ten hp hq) hr).len (thenP_ten hp (thenP_ten hq hr)).len fun x hx => ?_
  rw [nth_then (by rw [(thenP_ten hp hq).len]; exact hx), nth_then (by rw [hp.len]; exact hx), nth_then (by rw [hp.len]; exact hx), nth_then (by rw [hq.len]; exact nth_ten hp)]
theorem then_range {p : List Nat} (hp : Ten p) : thenP p (List.range 10) = p := by
  refine ext_nth (thenP_ten hp prm_range.toTen).len hp.len fun x hx => ?_
  rw [nth_then (by rw [hp.len]; exact hx)]
  have := nth_ten hp (x := x)
  simp [nth] at this ⊢
  simp [this]
theorem inv_left {p : List Nat} (hp : Prm p) {x : Nat} (hx : x < 10) : nth (invP p) (nth p x) = x := by
  have hl : x < p.length := by rw [hp.len]; exact hx
  have hy := nth_ten hp.toTen (x := x)
  unfold invP
  rw [nth, List.getElem?_map, List.getElem?_range hy]
  simp only [Option.map_some, Option.getD_some]
  rw [nth_eq hl]
  exact nodup_inj hp.nodup (List.idxOf_lt_length_of_mem (List.getElem_mem hl)) hl (List.getElem_idxOf (List.idxOf_lt_length_of_mem (List.getElem_mem hl)))
theorem inv_right {p : List Nat} (hp : Prm p) {y : Nat} (hy : y < 10) : nth p (nth (invP p) y) = y := by
  obtain ⟨i, hi, e⟩ := List.mem_iff_getElem.1 (hp.mem hy)
  have h1 : nth p i = y := by rw [nth_eq hi]; exact e
  have h2 := inv_left hp (show i < 10 by rw [← hp.len]; exact hi)
  rw [h1] at h2
  rw [h2]; exact h1
theorem inv_inv {p : List Nat} (hp : Prm p) : invP (invP p) = p := by
  refine ext_nth (prm_inv (prm_inv hp)).len hp.len fun x hx => ?_
  have h1 := inv_left (prm_inv hp) (nth_ten hp.toTen (x := x))
  rw [inv_left hp hx] at h1
  exact h1
theorem inv_then {p q : List Nat} (hp : Prm p) (hq : Prm q) : invP (thenP p q) = thenP (invP q) (invP p) := by
  have hpq := prm_then hp hq
  refine ext_nth (prm_inv hpq).len (prm_then (prm_inv hq) (prm_inv hp)).len fun y hy => ?_
  rw [nth_then (by rw [(prm_inv hq).len]; exact hy)]
  have h1 := inv_right hq hy
  have h2 := inv_right hp (nth_ten (prm_inv hq).toTen (x := y))
  have hz := nth_ten (prm_inv hp).toTen (x := nth (invP q) y)
  have h3 := inv_left hpq hz
  rw [nth_then (by rw [hp.len]; exact hz), h2, h1] at h3
  exact h3
def thrC (rs : List (ByteArray × ByteArray)) (l : List Nat) (n : Nat) : Nat → List Nat
  | 0 => List.range 10
  | c + 1 => thenP (thrC rs l n c) (atP (wirP rs (n - 1 - c)) (nth l (n - 1 - c)))
theorem thrC_prm {rs : List (ByteArray × ByteArray)} {l : List Nat} {n : Nat} (hl : ∀ x ∈ l, x < 10) (hw : ∀ i, i < n → Prm (wirP rs i)) : ∀ c, c ≤ n → Prm (thrC rs l n c)
  | 0, _ => prm_range
  | c + 1, h => prm_then (thrC_prm hl hw c (by omega)) (prm_at (hw _ (by omega)) (Nat.le_of_lt (nth_lt hl _)))
theorem nth_off (ws rg : List Nat) (n j : Nat) (hj : j < n) : nth (offL ws rg n) j = (nth ws j + 10 - nth rg j) % 10 := by
  rw [nth_eq (by rw [offL_len]; exact hj)]; simp [offL]
theorem offL_lt (ws rg : List Nat) (n : Nat) : ∀ x ∈ offL ws rg n, x < 10 := fun x hx => by
  obtain ⟨i, _, rfl⟩ := List.mem_map.1 hx
  exact Nat.mod_lt _ (by decide)
theorem way_thr {q : List Nat} {rs : List (ByteArray × ByteArray)} {ws rg : List Nat} {n : Nat} (hq : Prm q) (hw : ∀ i, i < n → Prm (wirP rs i)) : ∀ c, c ≤ n → wayC q rs ws rg n c = thenP q (thrC rs (offL ws rg n) n c)
  | 0, _ => (then_range hq.toTen).symm
  | c + 1, h => by
    have ih := way_thr (ws := ws) (rg := rg) hq hw c (by omega)
    have hj : n - 1 - c < n := by omega
    show thenP (wayC q rs ws rg n c) _ = thenP q (thenP (thrC rs (offL ws rg n) n c) _)
    rw [ih, nth_off ws rg n _ hj, then_assoc hq.toTen (thrC_prm (offL_lt ws rg n) hw c (by omega)).toTen (prm_at (hw _ hj) (by omega)).toTen]
theorem perm_same {q r : List Nat} {rs : List (ByteArray × ByteArray)} {ws rg : List Nat} {n : Nat} (hq : Prm q) (hi : invP q = q) (hr : Prm r) (hw : ∀ i, i < n → Prm (wirP rs i)) :
    thenP (thenP (invP q) (thenP (thenP (invP (invP (thrC rs (offL ws rg n) n n))) r) (invP (thrC rs (offL ws rg n) n n)))) q = permW (wayC q rs ws rg n n) r := by
  have ht := thrC_prm (l := offL ws rg n) (offL_lt ws rg n) hw n (Nat.le_refl _)
  unfold permW
  rw [way_thr hq hw n (Nat.le_refl _)]
  generalize thrC rs (offL ws rg n) n n = t at ht ⊢
  rw [inv_inv ht, inv_then hq ht, hi]
  have hti := prm_inv ht
  rw [then_assoc hq.toTen ht.toTen hr.toTen, then_assoc hq.toTen (prm_then ht hr).toTen (prm_then hti hq).toTen, then_assoc hq.toTen (prm_then (prm_then ht hr) hti).toTen hq.toTen, then_assoc (prm_then ht hr).toTen hti.toTen hq.toTen]
def SetV (rs : List (ByteArray × ByteArray)) (p g l o : ByteArray) : Prop := MachV rs p g l ∧ o.size = g.size ∧ wv (tl o) = true
set_option maxHeartbeats 4000000 in
set_option maxRecDepth 100000 in
theorem settingValid_any (w : World) (A : Option Addr) (cap : Nat) (rs : List (ByteArray × ByteArray)) (p g l o : ByteArray) (b : Bool) (h : Rd w w.heap.size A (rotV rs)) (hc : rs.length ≤ cap) (hl : rs.length ≤ 100) (hb : b = true ↔ SetV rs p g l o) :
    Calls Tryz.prog 18 #[.agg #[.slice A rs.length cap, .string p, .string g, .string l], .string o] w fun e w' => e = .returned (.bool b) ∧ Below w.heap.size w w' := by
  obtain ⟨w0, hw0⟩ : ∃ w0, w0 = w.alloc (.cells #[.slice A rs.length cap, .string p, .string g, .string l] 27) := ⟨_, rfl⟩
  have hb0 : Below w.heap.size w w0 := by rw [hw0]; exact (Below.refl _ _).alloc (Nat.le_refl _) _
  have hs0 := SB.made w #[.slice A rs.length cap, .string p, .string g, .string l] 27
  rw [← hw0] at hs0
  have h0 := (h.below hb0).mono hb0.size
  obtain ⟨bm, hbm⟩ : ∃ bm : Bool, bm = true ↔ MachV rs p g l := by
    by_cases hm : MachV rs p g l
    · exact ⟨true, by simp [hm]⟩
    · exact ⟨false, by simp [hm]⟩
  have hcon := machineValid_any w0 A cap rs p g l bm h0 hc hl hbm
  obtain ⟨M, hM⟩ : ∃ M, M = rs.length := ⟨_, rfl⟩
  have HB0 := Lib.hid hb0; have HCON := Lib.hid hcon
  rw [← hM] at hw0 HCON hs0 ⊢
  obtain ⟨P, hP⟩ : ∃ P, P = w.heap.size := ⟨_, rfl⟩
  rw [← hP] at hs0
  have HS0 := Lib.hid hs0
  obtain ⟨⟨c0, c1, c2, c3⟩, _⟩ := hs0.all4
  clear h h0 hb0 hcon hM hc hl hs0
  cases bm with
  | false =>
    have hbf : b = false := by rw [Bool.eq_false_iff]; exact fun e => by have := hbm.2 (hb.1 e).1; cases this
    subst hbf
    clear hb hbm
    go_enter Tryz.func18, Tryz.ntmps18
    go_wp2_with fail
    rw [← hw0]
    rw [← hP]
    clear hw0 hP
    go_wp2_with fail
    refine HCON.out.mono ?_
    rintro _ w1 ⟨rfl, hb1⟩
    have HB1 := Lib.hid (HB0.out.trans (hb1.mono HB0.out.size))
    clear hb1 c0 c1 c2 c3
    go_wp2_with fail
    go_ret
    exact ⟨rfl, HB1.out⟩
  | true =>
    have hm := hbm.1 rfl
    clear hbm
    by_cases hz : o.size = g.size
    · have hwo : wv (tl o) = b := by
        cases b with
        | true => exact (hb.1 rfl).2.2
        | false => rw [Bool.eq_false_iff]; intro e; have := hb.2 ⟨hm, hz, e⟩; cases this
      have hze : (((o.size : Nat) : Int) == ((g.size : Nat) : Int)) = true := by simp; omega
      have HWO := Lib.hid hwo
      clear hb hm hwo hz
      go_enter Tryz.func18, Tryz.ntmps18
      go_wp2_with fail
      rw [← hw0]
      rw [← hP]
      clear hw0 hP
      go_wp2_with fail
      refine HCON.out.mono ?_
      rintro _ w1 ⟨rfl, hb1⟩
      have HB1 := Lib.hid (HB0.out.trans (hb1.mono HB0.out.size))
      obtain ⟨⟨d0, d1, d2, d3⟩, _⟩ := (HS0.out.below hb1).all4
      clear hb1 c0 c1 c2 c3
      go_wp2_with fail
      refine (wordValid_is _ b _ HWO.out).mono ?_
      rintro _ _ ⟨rfl, rfl⟩
      go_wp2_with fail
      go_ret
      exact ⟨rfl, HB1.out⟩
    · have hbf : b = false := by rw [Bool.eq_false_iff]; exact fun e => hz (hb.1 e).2.1
      subst hbf
      have hze : (((o.size : Nat) : Int) == ((g.size : Nat) : Int)) = false := by rw [beq_eq_false_iff_ne]; omega
      clear hb hm hz
      go_enter Tryz.func18, Tryz.ntmps18
      go_wp2_with fail
      rw [← hw0]
      rw [← hP]
      clear hw0 hP
      go_wp2_with fail
      refine HCON.out.mono ?_
      rintro _ w1 ⟨rfl, hb1⟩
      have HB1 := Lib.hid (HB0.out.trans (hb1.mono HB0.out.size))
      obtain ⟨⟨d0, d1, d2, d3⟩, _⟩ := (HS0.out.below hb1).all4
      clear hb1 c0 c1 c2 c3
      go_wp2_with fail
      go_ret
      exact ⟨rfl, HB1.out⟩
theorem setV_parts {rs : List (ByteArray × ByteArray)} {p g l o : ByteArray} (h : SetV rs p g l o) : ∃ r q rg ws : List Nat, Prm r ∧ invP r = r ∧ p = pT r ∧ Prm q ∧ invP q = q ∧ l = pT q ∧ g = pT rg ∧ rg.length = rs.length ∧ (∀ x ∈ rg, x < 10) ∧ o = pT ws ∧ ws.length = rs.length ∧ (∀ x ∈ ws, x < 10) := by
  obtain ⟨⟨⟨⟨h1, h3, ⟨r, hr, hri, _, rfl⟩, hrv⟩, hgz, hgw⟩, q, hq, hi, rfl⟩, hoz, how⟩ := h
  have of : ∀ {s : ByteArray}, wv (tl s) = true → ∃ u : List Nat, s = pT u ∧ (∀ n ∈ u, n < 10) := fun hs => pT_of_wv (List.all_eq_true.2 fun c hc => wv_mem hs hc)
  obtain ⟨rg, rfl, hrg⟩ := of hgw
  obtain ⟨ws, rfl, hws⟩ := of how
  rw [pT_size] at hgz hoz
  rw [pT_size] at hoz
  exact ⟨r, q, rg, ws, hr, hri, rfl, hq, hi, rfl, rfl, hgz, hrg, rfl, by omega, hws⟩
theorem thr_at {rs : List (ByteArray × ByteArray)} {l m : List Nat} {n : Nat} (h1 : l.length = n) (h2 : l = m) (h : Prm (thrC rs m n n)) : Prm (thrC rs l l.length l.length) := by rw [h1, h2]; exact h
theorem offL_snoc (ws rg : List Nat) (k : Nat) : offL ws rg (k + 1) = offL ws rg k ++ [(nth ws k + 10 - nth rg k) % 10] := by unfold offL; rw [List.range_succ, List.map_append]; rfl
set_option maxHeartbeats 8000000 in
set_option maxRecDepth 100000 in
theorem l8Offsets_is (w : World) (A : Option Addr) (n cap : Nat) (q rg pl ws : List Nat) (hn : n ≤ 3) (hw : ws.length = n) (hlo : Lo ws) (hr : rg.length = n) (hro : Lo rg) :
    Calls Tryz.prog 147 #[.agg (macC (.slice A n cap) q rg pl), .string (pT ws)] w fun e w' => ∃ (v : Value) (l : List Nat), e = .returned v ∧ w'.ownsRow w.heap.size 3 1 v l.length (natV l) ∧ l = offL ws rg n ∧ l.length = n ∧ Lo l ∧ Below w.heap.size w w' := by
  obtain ⟨iI, hi, hz0, hz1, hz2⟩ := info_parts Tryz.infoI
  have HI := Lib.hid hi; have HZ0 := Lib.hid hz0; have HZ1 := Lib.hid hz1; have HZ2 := Lib.hid hz2
  clear hi hz0 hz1 hz2
  obtain ⟨w0, hw0⟩ : ∃ w0, w0 = w.alloc (.cells (macC (.slice A n cap) q rg pl) 27) := ⟨_, rfl⟩
  have hb0 : Below w.heap.size w w0 := by rw [hw0]; exact (Below.refl _ _).alloc (Nat.le_refl _) _
  have hsb0 : SB w0 w.heap.size (macC (.slice A n cap) q rg pl) 27 := by rw [hw0]; exact SB.made w _ _
  have hz0 : w0.heap.size = w.heap.size + 1 := by rw [hw0]; simp
  have how : (w0.alloc (.cells #[] 3)).ownsRow (w.heap.size + 1) 3 1 (.slice (some ⟨w0.heap.size, 0, none⟩) 0 0) 0 (natV []) := World.ownsRow_made w0 #[] 0 (by omega) (by decide) rfl
  have hb1 : Below w.heap.size w (w0.alloc (.cells #[] 3)) := hb0.alloc hb0.size _
  have hsb1 : SB (w0.alloc (.cells #[] 3)) w.heap.size (macC (.slice A n cap) q rg pl) 27 := hsb0.below ((Below.refl _ _).alloc (Nat.le_refl _) _)
  have hd1 := fun w' (k : Nat) (hk : k < n) => l1Digit_nth w' ws hlo k k rfl (by omega) (by omega)
  have hd2 := fun w' (k : Nat) (hk : k < n) => l1Digit_nth w' rg hro k k rfl (by omega) (by omega)
  have hl1 := nth_lt hlo
  have hl2 := nth_lt hro
  have hzw : (pT ws).size ≤ n := by rw [pT_size]; omega
  have hzw2 : n ≤ (pT ws).size := by rw [pT_size]; omega
  rw [hw0] at how hb1 hsb1
  have hsz : (w.alloc (.cells (macC (.slice A n cap) q rg pl) 27)).heap.size = w.heap.size + 1 := by simp
  rw [hsz] at how
  have HOW := Lib.hid how; have HB1 := Lib.hid hb1; have HSB := Lib.hid hsb1; have HD1 := Lib.hid hd1; have HD2 := Lib.hid hd2; have HL1 := Lib.hid hl1; have HL2 := Lib.hid hl2
  clear hb0 hsb0 hz0 how hb1 hsb1 hd1 hd2 hl1 hl2 hw0 hw hlo hr hro hsz
  obtain ⟨T, hT⟩ : ∃ T, T = pT ws := ⟨_, rfl⟩
  rw [← hT] at HD1 hzw hzw2 ⊢
  clear hT
  obtain ⟨U, hU⟩ : ∃ U, U = pT rg := ⟨_, rfl⟩
  have HUE := Lib.hid hU
  rw [← hU] at HD2
  clear hU
  obtain ⟨P, hP⟩ : ∃ P, P = w.heap.size := ⟨_, rfl⟩
  have HPE := Lib.hid hP
  go_enter Tryz.func147, Tryz.ntmps147
  go_wp2_with fail
  rw [← hP] at HOW HSB ⊢
  clear hP
  go_loopw [5, 6] (fun o i wr => ∃ (k : Nat) (l : List Nat), i = .int .i64 k ∧ k ≤ n ∧ wr.ownsRow (P + 1) 3 1 o l.length (natV l) ∧ Hid (l = offL ws rg k) ∧ Hid (l.length = k) ∧ Hid (Lo l) ∧ Hid (SB wr P (macC (.slice A n cap) q rg pl) 27) ∧ Below w.heap.size w wr) (fun _ i _ => n - (intOf i).toNat)
  case atStart => exact ⟨0, [], rfl, by omega, HOW.out, Lib.hid rfl, Lib.hid rfl, Lib.hid (fun x hx => by simp at hx), HSB, HB1.out⟩
  case round =>
    obtain ⟨k, l, rfl, hk, hown, HLX, HL, HLO, HS, hbl⟩ := hrel
    have HO := Lib.hid hown; have HBL := Lib.hid hbl; clear hown hbl HOW HSB HB1
    obtain ⟨A3, c3, e3⟩ := slot_slice HO.out
    subst e3
    by_cases hlt : k < n
    · have d2 : wr.cell? ⟨P, 2, none⟩ = some (.string U) := by rw [HUE.out]; exact HS.out.cell 2 _ rfl
      have HU2 := Lib.hid (show (macC (.slice A n cap) q rg pl)[2]? = some (.string U) by rw [HUE.out]; rfl)
      have hPs := HS.out.lt
      have hlt2 : k < T.size := by omega
      have hla := HL1.out k
      have hlb := HL2.out k
      have HA := Lib.hid (fun w' => HD1.out w' k hlt)
      have HB := Lib.hid (fun w' => HD2.out w' k hlt)
      have hnx := offL_snoc ws rg k
      generalize nth ws k = a at hla HA hnx
      generalize nth rg k = b at hlb HB hnx
      have HNX := Lib.hid hnx; clear hnx
      have hll : l.length ≤ 3 := by rw [HL.out]; omega
      have hnb := ownBlock_ne HO.out (Nat.lt_succ_self P)
      have HNB := Lib.hid hnb; clear hnb
      have x1 : IntKind.i64.wrap ((a : Int) - (b : Int)) = (a : Int) - (b : Int) := by rw [IntKind.wrap_i64]; omega
      have x2 : IntKind.i64.wrap ((a : Int) - (b : Int) + 10) = (a : Int) - (b : Int) + 10 := by rw [IntKind.wrap_i64]; omega
      have x3 : ((a : Int) - (b : Int) + 10).tmod 10 = (((a + 10 - b) % 10 : Nat) : Int) := by rw [Int.tmod_eq_emod_of_nonneg (by omega)]; omega
      go_wp2_with fail
      go_region_held3 (fun W => W.cell? ⟨P, 2, none⟩ = some (.string U)) (first | assumption | exact d2 | exact cell_bel ((Below.refl _ _).alloc (Nat.le_refl _) _) hPs d2 | exact cell_bel (((Below.refl _ _).alloc (Nat.le_refl _) _).drew) hPs d2 | exact (SB.own (SB.below HS.out (((Below.refl _ _).alloc (Nat.le_refl _) _).drew)) hg5 HNB.out).cell 2 (.string U) HU2.out | exact (SB.own (SB.below HS.out ((Below.refl _ _).alloc (Nat.le_refl _) _)) hg5 HNB.out).cell 2 (.string U) HU2.out) (first | (go_at_call 25; refine (HA.out _).mono ?_; rintro _ _ ⟨rfl, rfl⟩) | (go_at_call 25; refine (HB.out _).mono ?_; rintro _ _ ⟨rfl, rfl⟩) | (rw [if_pos (by rfl)]; refine wp_append_lies _ (.tmp 14) (.tmp 25) 132 (by rfl) (P + 1) 3 iI _ 1 8 Tryz.undI HI.out HZ0.out HZ1.out HZ2.out rfl (by decide) _ l.length _ (by rfl) (HO.out.alloc _) ⟨wr.heap.size, 0, none⟩ 1 1 [.int .i64 (((a + 10 - b) % 10 : Nat) : Int)] (by rfl) rfl (one_new wr _ _) nat_cell (by decide) (by unfold maxLen; omega) (by omega) (Nat.le_trans hPs (by simp)) _ rfl ?_; intro g5 c5 w5 ho5 hg5 hat5 hlt5) | fail)
      all_goals
        have hs5 : SB w5 P (macC (.slice A n cap) q rg pl) 27 := SB.own (SB.below HS.out (((Below.refl _ _).alloc (Nat.le_refl _) _).drew)) hg5 HNB.out
        have hbw := HBL.out.size
        have hb5 : Below w.heap.size w w5 := ((HBL.out.alloc hbw _).drew).grown hg5 (by simp; omega) fun k' e' => by have := (HO.out.lt k' e').1; have := HPE.out; omega
        have hx10 : (a + 10 - b) % 10 < 10 := Nat.mod_lt _ (by decide)
        have hnx := HNX.out
        generalize (a + 10 - b) % 10 = x at ho5 hx10 hnx
        have HNY := Lib.hid (show l ++ [x] = offL ws rg (k + 1) by rw [hnx, HLX.out]); clear hnx
        rw [natV_snoc, show l.length + 1 = (l ++ [x]).length by simp] at ho5
        have HO5 := Lib.hid ho5; have HS5 := Lib.hid hs5; have HB5 := Lib.hid hb5
        clear ho5 hs5 hb5 hg5 hat5 hlt5 d2 x1 x2 x3
        go_wp2_with fail
        go_roundw
        case rel => exact ⟨k + 1, l ++ [x], by go_num, by omega, by have := HO5.out; simpa using this, HNY, Lib.hid (by simp [HL.out]), Lib.hid (lo_snoc HLO.out hx10), HS5, HB5.out⟩
        case measure => simp [intOf]; omega
    · go_wp2_with fail
      go_ret
      exact ⟨_, l, rfl, own_mono3 HO.out (by rw [HPE.out]; exact Nat.le_succ _), by rw [HLX.out]; congr 1; omega, by rw [HL.out]; omega, HLO.out, HBL.out⟩
set_option maxHeartbeats 8000000 in
set_option maxRecDepth 100000 in
theorem l6Through_is (w : World) (A : Option Addr) (cap : Nat) (rs : List (ByteArray × ByteArray)) (q : List Nat) (Ao : Option Addr) (co : Nat) (l : List Nat) (h : WhA w A cap rs)
    (hr : Rd w w.heap.size Ao (natV l)) (hll : l.length = rs.length) (hlc : l.length ≤ co) (hlo : Lo l) :
    Calls Tryz.prog 210 #[.agg (whC (.slice A rs.length cap) (.string (pT q))), .slice Ao l.length co] w fun e w' => e = .returned (.string (pT (thrC rs l l.length l.length))) ∧ Below w.heap.size w w' := by
  have hb0 : Below w.heap.size w (w.alloc (.cells (whC (.slice A rs.length cap) (.string (pT q))) 25)) := (Below.refl _ _).alloc (Nat.le_refl _) _
  have HH := Lib.hid h; have HR := Lib.hid hr; have HLL := Lib.hid hll; have HLO := Lib.hid hlo; have HB0 := Lib.hid hb0
  have HS0 := Lib.hid (SB.made w (whC (.slice A rs.length cap) (.string (pT q))) 25)
  have hle := h.le
  have hcap := h.cap
  have hl3 : l.length ≤ 3 := by omega
  clear h hr hll hlo hb0
  obtain ⟨P, hP⟩ : ∃ P, P = w.heap.size := ⟨_, rfl⟩
  go_enter Tryz.func210, Tryz.ntmps210
  go_wp2_with fail
  refine (identityPerm_any _).mono ?_
  rintro _ w1 ⟨rfl, hb1⟩
  have HS1 := Lib.hid (HS0.out.below hb1)
  have HB1 := Lib.hid (HB0.out.trans (hb1.mono HB0.out.size)); clear hb1 HS0 HB0
  rw [← hP] at HS1 ⊢
  have HPE := Lib.hid hP; clear hP
  go_wp2_with fail
  go_loopw [5, 6] (fun o i wr => ∃ (k : Nat) (p : List Nat), i = .int .i64 ((k : Int) - 1) ∧ o = .string (pT p) ∧ k ≤ l.length ∧ Hid (p = thrC rs l l.length (l.length - k)) ∧ Hid (Prm p) ∧ Hid (SB wr P (whC (.slice A rs.length cap) (.string (pT q))) 25) ∧ Below w.heap.size w wr) (fun _ i _ => (intOf i + 1).toNat)
  case atStart => exact ⟨l.length, List.range 10, rfl, rfl, Nat.le_refl _, Lib.hid (by rw [Nat.sub_self]; rfl), Lib.hid prm_range, HS1, HB1.out⟩
  case round =>
    obtain ⟨k, p, rfl, rfl, hk, HPX, HP, HS, hbl⟩ := hrel
    have HBL := Lib.hid hbl; clear hbl HS1 HB1
    by_cases hpos : 0 < k
    · obtain ⟨j, rfl⟩ : ∃ j, k = j + 1 := ⟨k - 1, by omega⟩
      rw [show ((j + 1 : Nat) : Int) - 1 = (j : Int) by omega]
      have hjl : j < l.length := by omega
      have hjr : j < rs.length := by have := HLL.out; omega
      obtain ⟨b0, off, rfl, hb0, c1, _⟩ := (HH.out.rd.below HBL.out).rot hjr
      obtain ⟨b1, off1, rfl, hb1, c2⟩ := (HR.out.below HBL.out).num hjl
      have c0 := HS.out.cell 0 (.slice (some ⟨b0, off, none⟩) rs.length cap) rfl
      obtain ⟨pq, nt, hrt, hpq, _, _⟩ := HH.out.rot _ (List.getElem_mem hjr)
      have hwp : wirP rs j = pq := by
        unfold wirP
        rw [List.getD_eq_getElem?_getD, List.getElem?_map, List.getElem?_eq_getElem hjr]
        show (tl rs[j].1).map dg = pq
        rw [hrt]
        exact pT_dgs hpq.lt
      have hnx : thenP p (atP pq l[j]) = thrC rs l l.length (l.length - j) := by
        rw [show l.length - j = (l.length - (j + 1)) + 1 by omega]
        show _ = thenP (thrC rs l l.length (l.length - (j + 1))) (atP (wirP rs (l.length - 1 - (l.length - (j + 1)))) (nth l (l.length - 1 - (l.length - (j + 1)))))
        rw [show l.length - 1 - (l.length - (j + 1)) = j by omega, hwp, nth_eq hjl, ← HPX.out]
      rw [hrt] at c1
      simp only at c1
      have hlx := HLO.out _ (List.getElem_mem hjl)
      generalize l[j] = x at c2 hlx hnx
      have HNX := Lib.hid hnx; clear hnx hwp
      have hcon := fun w' => l5At_any w' pq x x rfl hpq hlx
      have hcon2 := fun w' => l2Then_any w' p (atP pq x) HP.out.toTen (prm_at hpq (by omega)).toTen
      have HPN := Lib.hid (prm_then HP.out (prm_at hpq (show x ≤ 10 by omega)))
      have HC1 := Lib.hid hcon; have HC2 := Lib.hid hcon2
      clear hcon hcon2 hrt hpq
      generalize pT pq = R1 at c1 HC1
      generalize pT (atP pq x) = R2 at HC1 HC2
      obtain ⟨O, hO⟩ : ∃ O, O = pT p := ⟨_, rfl⟩
      rw [← hO] at HC2 ⊢
      clear hO
      go_wp2_with fail
      go_region_held3 (fun W => W.cell? ⟨P, 0, none⟩ = some (.slice (some ⟨b0, off, none⟩) rs.length cap) ∧ W.cell? ⟨b0, off + j * 2, none⟩ = some (.string R1) ∧ W.cell? ⟨b1, off1 + j, none⟩ = some (.int .i64 (x : Int)) ∧ Below wr.heap.size wr W) (first | assumption | exact ⟨c0, c1, c2, (Below.refl _ _).drew⟩ | exact three_keep2 (by assumption) (by assumption)) (first | (go_at_call 259; refine (HC1.out _).mono ?_; rintro _ w7 ⟨rfl, hb7⟩) | (go_at_call 209; refine (HC2.out _).mono ?_; rintro _ w8 ⟨rfl, hb8⟩) | fail)
      all_goals
        have hb9 := (below_of_drew2 hb7).trans (hb8.mono (below_of_drew2 hb7).size)
        have HS9 := Lib.hid (HS.out.below hb9)
        have HB9 := Lib.hid (HBL.out.trans (hb9.mono HBL.out.size))
        clear hb7 hb8 hb9 c0 c1 c2
        go_wp2_with fail
        go_roundw
        case rel => exact ⟨j, _, by go_num, rfl, by omega, HNX, HPN, HS9, HB9.out⟩
        case measure => simp [intOf]
    · obtain rfl : k = 0 := by omega
      go_wp2_with fail
      go_ret
      exact ⟨by rw [HPX.out]; rfl, HBL.out⟩
set_option maxHeartbeats 8000000 in
set_option maxRecDepth 100000 in
theorem l6Scramble_is (w : World) (A : Option Addr) (cap : Nat) (rs : List (ByteArray × ByteArray)) (q : List Nat) (Ao : Option Addr) (co : Nat) (l : List Nat) (h : WhA w A cap rs) (hq : Prm q)
    (hr : Rd w w.heap.size Ao (natV l)) (hll : l.length = rs.length) (hlc : l.length ≤ co) (hlo : Lo l) (hpt : Prm (thrC rs l l.length l.length)) :
    Calls Tryz.prog 146 #[.agg (whC (.slice A rs.length cap) (.string (pT q))), .slice Ao l.length co] w fun e w' => e = .returned (.string (pT (thenP (thenP (invP (invP (thrC rs l l.length l.length))) q) (invP (thrC rs l l.length l.length))))) ∧ Below w.heap.size w w' := by
  obtain ⟨w0, hw0⟩ : ∃ w0, w0 = w.alloc (.cells (whC (.slice A rs.length cap) (.string (pT q))) 25) := ⟨_, rfl⟩
  have hb0 : Below w.heap.size w w0 := by rw [hw0]; exact (Below.refl _ _).alloc (Nat.le_refl _) _
  have hs0 : SB w0 w.heap.size (whC (.slice A rs.length cap) (.string (pT q))) 25 := by rw [hw0]; exact SB.made w _ _
  have hcon := l6Through_is w0.drew A cap rs q Ao co l (h.below hb0).drew ((hr.below hb0).mono hb0.size) hll hlc hlo
  generalize thrC rs l l.length l.length = p7 at hcon hpt ⊢
  have HP7 := Lib.hid hpt; clear hpt
  have HCON := Lib.hid hcon; have HB0 := Lib.hid hb0; have HQ := Lib.hid hq
  have c0 := hs0.cell 0 (.slice A rs.length cap) rfl
  have c1 := hs0.cell 1 (.string (pT q)) rfl
  clear hcon hs0 h hr hll hlc hlo hq hb0
  obtain ⟨P, hP⟩ : ∃ P, P = w.heap.size := ⟨_, rfl⟩
  obtain ⟨L, hL⟩ : ∃ L, L = l.length := ⟨_, rfl⟩
  rw [← hL] at HCON ⊢
  clear hL
  go_enter Tryz.func146, Tryz.ntmps146
  go_wp2_with fail
  rw [← hP] at c0 c1
  rw [← hP, ← hw0]
  have HPE := Lib.hid hP
  clear hw0 hP
  go_region_held3 (fun W => W.cell? ⟨P, 0, none⟩ = some (.slice A rs.length cap) ∧ W.cell? ⟨P, 1, none⟩ = some (.string (pT q)) ∧ Below w0.heap.size w0 W) (first | assumption | exact ⟨c0, c1, (Below.refl _ _).drew⟩ | exact two_keep2 (by assumption) (by assumption)) (first | (go_at_call 210; refine HCON.out.mono ?_; rintro _ w7 ⟨rfl, hb7⟩) | (go_at_call 207; refine (l2Back_any _ p7 HP7.out).mono ?_; rintro _ w8 ⟨rfl, hb8⟩) | (go_at_call 145; refine (l2Renamed_any _ q (invP p7) HQ.out (prm_inv HP7.out)).mono ?_; rintro _ w9 ⟨rfl, hb9⟩) | fail)
  all_goals
    have hbA := below_of_drew2 hb7
    have hbB := hbA.trans (hb8.mono hbA.size)
    have hbC := hbB.trans (hb9.mono hbB.size)
    have HBC := Lib.hid (HB0.out.trans (hbC.mono HB0.out.size))
    clear hb7 hb8 hb9 hbA hbB hbC c0 c1
    go_wp2_with fail
    go_ret
    exact ⟨rfl, HBC.out⟩
set_option maxHeartbeats 8000000 in
set_option maxRecDepth 100000 in
theorem l8Perm_is (w : World) (A : Option Addr) (cap : Nat) (rs : List (ByteArray × ByteArray)) (q rg pl ws : List Nat) (h : WhA w A cap rs) (hq : Prm q) (hpl : Prm pl) (hw : ws.length = rs.length) (hlo : Lo ws) (hr : rg.length = rs.length) (hro : Lo rg) (hwi : ∀ i, i < rs.length → Prm (wirP rs i)) :
    Calls Tryz.prog 92 #[.agg (macC (.slice A rs.length cap) q rg pl), .string (pT ws)] w fun e w' => e = .returned (.string (pT (thenP (thenP (invP pl) (thenP (thenP (invP (invP (thrC rs (offL ws rg rs.length) rs.length rs.length))) q) (invP (thrC rs (offL ws rg rs.length) rs.length rs.length)))) pl))) ∧ Below w.heap.size w w' := by
  have hpt := thrC_prm (l := offL ws rg rs.length) (offL_lt ws rg rs.length) hwi rs.length (Nat.le_refl _)
  have HPT := Lib.hid hpt; clear hpt
  obtain ⟨w0, hw0⟩ : ∃ w0, w0 = w.alloc (.cells (macC (.slice A rs.length cap) q rg pl) 27) := ⟨_, rfl⟩
  have hb0 : Below w.heap.size w w0 := by rw [hw0]; exact (Below.refl _ _).alloc (Nat.le_refl _) _
  have hs0 : SB w0 w.heap.size (macC (.slice A rs.length cap) q rg pl) 27 := by rw [hw0]; exact SB.made w _ _
  have hcon := l8Offsets_is w0.drew A rs.length cap q rg pl ws h.le hw hlo hr hro
  have HCON := Lib.hid hcon; have HB0 := Lib.hid hb0; have HQ := Lib.hid hq; have HPL := Lib.hid hpl; have HW0 := Lib.hid (h.below hb0).drew
  obtain ⟨⟨c0, c1, c2, c3⟩, _⟩ := hs0.all4
  clear hcon hs0 h hw hlo hr hro hb0 hq hpl
  obtain ⟨P, hP⟩ : ∃ P, P = w.heap.size := ⟨_, rfl⟩
  obtain ⟨T, hT⟩ : ∃ T, T = pT ws := ⟨_, rfl⟩
  rw [← hT] at HCON ⊢
  clear hT
  go_enter Tryz.func92, Tryz.ntmps92
  go_wp2_with fail
  rw [← hP] at c0 c1 c2 c3
  rw [← hP, ← hw0]
  have HPE := Lib.hid hP
  clear hw0 hP
  go_region_held3 (fun W => W.cell? ⟨P, 0, none⟩ = some (.slice A rs.length cap) ∧ W.cell? ⟨P, 1, none⟩ = some (.string (pT q)) ∧ W.cell? ⟨P, 2, none⟩ = some (.string (pT rg)) ∧ W.cell? ⟨P, 3, none⟩ = some (.string (pT pl)) ∧ Below w0.heap.size w0 W) (first | assumption | exact ⟨c0, c1, c2, c3, (Below.refl _ _).drew⟩ | exact quad_keep2 (by assumption) (by assumption)) (first | (go_at_call 147; refine HCON.out.mono ?_; rintro _ w7 ⟨v7, l7, rfl, ho7, hlx7, hl7, hlo7, hb7⟩; have hpt7 : Prm (thrC rs l7 l7.length l7.length) := thr_at hl7 hlx7 HPT.out; have HLX7 := Lib.hid hlx7; have HPT7 := Lib.hid hpt7; clear hlx7 hpt7; obtain ⟨A7, c7, rfl⟩ := slot_slice ho7; have HL7 := Lib.hid hl7; clear hl7) | (go_at_call 146; refine (l6Scramble_is w7 A cap rs q A7 c7 l7 (HW0.out.below hb7) HQ.out (own_rd3 ho7) HL7.out (own_le3 ho7) hlo7 HPT7.out).mono ?_; rintro _ w8 ⟨rfl, hb8⟩) | (go_at_call 145; refine (l2Renamed_any _ _ pl (prm_then (prm_then (prm_inv (prm_inv HPT7.out)) HQ.out) (prm_inv HPT7.out)) HPL.out).mono ?_; rintro _ w9 ⟨rfl, hb9⟩) | fail)
  all_goals
    have hbA := below_of_drew2 hb7
    have hbB := hbA.trans (hb8.mono hbA.size)
    have hbC := hbB.trans (hb9.mono hbB.size)
    have HBC := Lib.hid (HB0.out.trans (hbC.mono HB0.out.size))
    have HEQ := Lib.hid (show thenP (thenP (invP pl) (thenP (thenP (invP (invP (thrC rs l7 l7.length l7.length))) q) (invP (thrC rs l7 l7.length l7.length)))) pl = _ from by rw [HL7.out, HLX7.out])
    clear hb7 hb8 hb9 hbA hbB hbC c0 c1 c2 c3 ho7
    go_wp2_with fail
    go_ret
    exact ⟨by rw [HEQ.out]; rfl, HBC.out⟩
set_option maxHeartbeats 4000000 in
set_option maxRecDepth 100000 in
theorem sFits_any (w : World) (A : Option Addr) (cap : Nat) (rs : List (ByteArray × ByteArray)) (p g l o : ByteArray) (b : Bool) (h : Rd w w.heap.size A (rotV rs)) (hc : rs.length ≤ cap) (hl : rs.length ≤ 100) (hb : b = true ↔ SetV rs p g l o) :
    Calls Tryz.prog 50 #[.agg #[.slice A rs.length cap, .string p, .string g, .string l], .string o] w fun e w' => e = .returned (.bool b) ∧ Below w.heap.size w w' := by
  obtain ⟨w0, hw0⟩ : ∃ w0, w0 = w.alloc (.cells #[.slice A rs.length cap, .string p, .string g, .string l] 27) := ⟨_, rfl⟩
  have hb0 : Below w.heap.size w w0 := by rw [hw0]; exact (Below.refl _ _).alloc (Nat.le_refl _) _
  have hs0 := SB.made w #[.slice A rs.length cap, .string p, .string g, .string l] 27
  rw [← hw0] at hs0
  have h0 := (h.below hb0).mono hb0.size
  obtain ⟨bm, hbm⟩ : ∃ bm : Bool, bm = true ↔ MachV rs p g l := by
    by_cases hm : MachV rs p g l
    · exact ⟨true, by simp [hm]⟩
    · exact ⟨false, by simp [hm]⟩
  have hcon := sMachineValid_any w0 A cap rs p g l bm h0 hc hl hbm
  obtain ⟨M, hM⟩ : ∃ M, M = rs.length := ⟨_, rfl⟩
  have HB0 := Lib.hid hb0; have HCON := Lib.hid hcon
  rw [← hM] at hw0 HCON hs0 ⊢
  obtain ⟨P, hP⟩ : ∃ P, P = w.heap.size := ⟨_, rfl⟩
  rw [← hP] at hs0
  have HS0 := Lib.hid hs0
  obtain ⟨⟨c0, c1, c2, c3⟩, _⟩ := hs0.all4
  clear h h0 hb0 hcon hM hc hl hs0
  have HBM := Lib.hid hbm; have HBE := Lib.hid hb; have HWV := Lib.hid (rfl : wv (tl o) = wv (tl o))
  clear hb hbm
  obtain ⟨bw, hbw⟩ : ∃ bw, bw = wv (tl o) := ⟨_, rfl⟩
  have HBW := Lib.hid hbw
  cases bm with
  | false =>
    have hbf : b = false := by rw [Bool.eq_false_iff]; exact fun e => by have := HBM.out.2 (HBE.out.1 e).1; cases this
    subst hbf
    clear hbw
    go_enter Tryz.func50, Tryz.ntmps50
    go_wp2_with fail
    rw [← hw0]
    rw [← hP]
    clear hw0 hP
    go_wp2_with fail
    refine HCON.out.mono ?_
    rintro _ w1 ⟨rfl, hb1⟩
    have HB1 := Lib.hid (HB0.out.trans (hb1.mono HB0.out.size))
    clear hb1 c0 c1 c2 c3
    go_wp2_with fail
    go_ret
    exact ⟨rfl, HB1.out⟩
  | true =>
    clear hbw
    cases bw with
    | false =>
      have hbf : b = false := by rw [Bool.eq_false_iff]; exact fun e => by have h1 := (HBE.out.1 e).2.2; rw [← HBW.out] at h1; cases h1
      subst hbf
      go_enter Tryz.func50, Tryz.ntmps50
      go_wp2_with fail
      rw [← hw0]
      rw [← hP]
      clear hw0 hP
      go_wp2_with fail
      refine HCON.out.mono ?_
      rintro _ w1 ⟨rfl, hb1⟩
      have HB1 := Lib.hid (HB0.out.trans (hb1.mono HB0.out.size))
      obtain ⟨⟨d0, d1, d2, d3⟩, _⟩ := (HS0.out.below hb1).all4
      clear hb1 c0 c1 c2 c3
      go_wp2_with fail
      refine (sWordValid_is _ false _ HBW.out.symm).mono ?_
      rintro _ _ ⟨rfl, rfl⟩
      go_wp2_with fail
      go_ret
      exact ⟨rfl, HB1.out⟩
    | true =>
      obtain ⟨bz, hbz⟩ : ∃ bz, bz = (((o.size : Nat) : Int) == ((g.size : Nat) : Int)) := ⟨_, rfl⟩
      have hbe : b = bz := by
        have hiff : b = true ↔ o.size = g.size := by
          rw [HBE.out]
          exact ⟨fun h => h.2.1, fun h => ⟨HBM.out.1 rfl, h, HBW.out.symm⟩⟩
        rw [hbz]
        cases b with
        | true => have := hiff.1 rfl; simp [this]
        | false =>
          symm
          rw [beq_eq_false_iff_ne]
          intro e
          have := hiff.2 (by omega)
          cases this
      have HEQ := Lib.hid hbe; have HBZ := Lib.hid hbz
      clear hbe hbz
      go_enter Tryz.func50, Tryz.ntmps50
      go_wp2_with fail
      rw [← hw0]
      rw [← hP]
      clear hw0 hP
      go_wp2_with fail
      refine HCON.out.mono ?_
      rintro _ w1 ⟨rfl, hb1⟩
      have HB1 := Lib.hid (HB0.out.trans (hb1.mono HB0.out.size))
      obtain ⟨⟨d0, d1, d2, d3⟩, _⟩ := (HS0.out.below hb1).all4
      clear hb1 c0 c1 c2 c3
      go_wp2_with fail
      refine (sWordValid_is _ true _ HBW.out.symm).mono ?_
      rintro _ _ ⟨rfl, rfl⟩
      go_wp2_with fail
      go_ret
      exact ⟨by rw [HEQ.out, HBZ.out]; rfl, HB1.out⟩
theorem rotT_of {x : ByteArray × ByteArray} (h : RotorV x) : RotT x := by
  obtain ⟨⟨q, hq, e⟩, h3, hw, _⟩ := h
  obtain ⟨u, hu, hul⟩ := pT_of_wv (List.all_eq_true.2 fun c hc => wv_mem hw hc)
  refine ⟨q, u, Prod.ext e hu, hq, hul, ?_⟩
  have := pT_size u
  rw [← hu] at this
  omega
end Go.Proofs.YtnbdimbhklbadaaGreatDoor
