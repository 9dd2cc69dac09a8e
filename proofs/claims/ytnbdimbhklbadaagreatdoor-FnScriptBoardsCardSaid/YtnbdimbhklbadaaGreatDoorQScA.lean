/-
  Contracts of functions and plain laws that the law's proof uses (parts: ParMn, MenRun, ScriptC). Conditions: what each theorem names.
-/
import Derived.Deep.AppendLies
import Derived.Deep.RegionHeld3
import Derived.Test.YtnbdimbhklbadaaGreatDoorQMnA
import Derived.Test.YtnbdimbhklbadaaGreatDoorQDoA
import Derived.Deep.RegionLaw
import Derived.Test.YtnbdimbhklbadaaGreatDoorQExecM
import Derived.Test.YtnbdimbhklbadaaGreatDoorQScriptS
namespace Go.Proofs.YtnbdimbhklbadaaGreatDoor
open Go.RowKit Pl
set_option linter.unusedVariables false
theorem lnkT_chars {x : Lnk} (h1 : wv (tl x.1 ++ tl x.2.1) = true) (h2 : x.2.2 ≤ 60) {c : UInt8} (hc : c ∈ lnkT x) : isL c = true ∨ (48 ≤ c.toNat ∧ c.toNat ≤ 57) := by
  unfold lnkT at hc
  rcases List.mem_append.1 hc with h | h
  · exact .inl (wv_mem h1 h)
  · rw [itoa_nat] at h
    exact .inr (dec_bounds 13 x.2.2 (by omega) c h)
theorem lnkT_not {x : Lnk} (h1 : wv (tl x.1 ++ tl x.2.1) = true) (h2 : x.2.2 ≤ 60) {c : UInt8} (hc : c.toNat < 48) : c ∉ lnkT x := fun hm => by
  rcases lnkT_chars h1 h2 hm with h | h
  · have := isL_bounds h; omega
  · omega
theorem menuT_split {ms : List Lnk} (h : menuV ms) : spl 32 (menuT ms) = ms.map lnkT := by
  unfold menuT
  refine spl_join _ (fun e => ?_) fun p hp => ?_
  · have := congrArg List.length e; have := h.1; rw [List.length_map, List.length_nil] at *; omega
  · obtain ⟨x, hx, rfl⟩ := List.mem_map.1 hp
    obtain ⟨_, _, h3, _, _, h6⟩ := h.2.2.1 x hx
    exact lnkT_not h3 h6 (by decide)
theorem menuT_count {ms : List Lnk} (h : menuV ms) : (menuT ms).count 32 + 1 = ms.length := by
  have h1 := length_spl 32 (menuT ms)
  rw [menuT_split h, List.length_map] at h1
  exact h1.symm
theorem len_menuT {ms : List Lnk} (h : menuV ms) : (menuT ms).length ≤ 1000 := by
  unfold menuT
  refine Nat.le_trans (join_le _ _ 40 ?_) ?_
  · intro s hs
    obtain ⟨x, hx, rfl⟩ := List.mem_map.1 hs
    obtain ⟨y1, y2, _, _, y5, y6⟩ := h.2.2.1 x hx
    have := itoa_size x.2.2 (by omega)
    rw [size_mk] at this
    unfold lnkT
    simp only [List.length_append, length_tl]; omega
  · have := h.2.1; simp only [List.length_map, List.length_singleton]; omega
theorem lnk_parts {p c : ByteArray} {I : List UInt8} (hp : p.size = 1) (hc : c.size = 1) (S : ByteArray) (hS : S = mk (tl p ++ tl c ++ I)) : S.size = 2 + I.length ∧ S.extract 0 1 = p ∧ S.extract 1 2 = c ∧ S.extract 2 S.size = mk I := by
  have l1 : (tl p).length = 1 := by rw [length_tl]; exact hp
  have l2 : (tl c).length = 1 := by rw [length_tl]; exact hc
  obtain ⟨a, ha⟩ := List.length_eq_one_iff.1 l1
  obtain ⟨b, hb⟩ := List.length_eq_one_iff.1 l2
  have hz : S.size = 2 + I.length := by rw [hS, size_mk, ha, hb]; simp; omega
  refine ⟨hz, ?_, ?_, ?_⟩
  · rw [extract_mk', hS, tl_mk, ha, hb, ← mk_tl p, ha]; rfl
  · rw [extract_mk', hS, tl_mk, ha, hb, ← mk_tl c, hb]; rfl
  · rw [extract_mk', hz, hS, tl_mk, ha, hb]
    show mk (I.take (2 + I.length - 2)) = mk I
    rw [show 2 + I.length - 2 = I.length by omega, List.take_length]
set_option maxHeartbeats 8000000 in
set_option maxRecDepth 100000 in
theorem parseMenu_yes (w : World) (hg : GW w) (ms : List Lnk) (hv : menuV ms) :
    Calls Tryz.prog 188 #[.string (mk (menuT ms))] w fun e w' => ∃ A c, e = .returned (.tuple #[.slice A ms.length c, .bool true]) ∧ w'.ownsRow w.heap.size 50 3 (.slice A ms.length c) ms.length (linkV ms) ∧ Below w.heap.size w w' := by
  obtain ⟨iL, hi, hz0, hz1, hz2⟩ := info_parts Tryz.infoL
  have HI := Lib.hid hi; have HZ0 := Lib.hid hz0; have HZ1 := Lib.hid hz1; have HZ2 := Lib.hid hz2
  clear hi hz0 hz1 hz2
  have hct := menuT_count hv
  have hml := len_menuT hv
  have hsp := menuT_split hv
  obtain ⟨T, hT⟩ : ∃ T, T = mk (menuT ms) := ⟨_, rfl⟩
  have hTl : tl T = menuT ms := by rw [hT, tl_mk]
  have hTz : T.size ≤ 1000 := by rw [hT, size_mk]; exact hml
  have hcn := fun w' => count_any w' T 32
  rw [hTl] at hcn
  obtain ⟨C, hC⟩ : ∃ C, C = (menuT ms).count 32 := ⟨_, rfl⟩
  rw [← hC] at hcn hct
  have hspl := fun (w' : World) (h' : ML w') => split_any w' T 32 h' (by omega)
  rw [hTl, hsp] at hspl
  have hlm : (ms.map lnkT).length = ms.length := List.length_map _
  rw [hlm] at hspl
  have hC12 : C < 12 := by have := hv.2.1; omega
  have hfm := fun (w' : World) (hg' : GW w') (A : Option Addr) (cap : Nat) (h' : Rd w' w'.heap.size A (linkV ms)) (hc' : ms.length ≤ cap) => formatMenu_any w' hg' A cap ms h' hc' hv
  rw [← hT] at hfm ⊢
  have hrd := split_rd w (mkl (ms.map lnkT))
  have hl12 := hv.2.1
  have hall := hv.2.2.1
  obtain ⟨n, hn⟩ : ∃ n, n = ms.length := ⟨_, rfl⟩
  rw [← hn] at hspl hfm hl12 ⊢
  have HSP := Lib.hid hspl; have HCN := Lib.hid hcn; have HFM := Lib.hid hfm; have HRD := Lib.hid hrd; have HG := Lib.hid hg; have HN := Lib.hid hn; have HALL := Lib.hid hall
  have hbq : (T.toList == T.toList) = true := beq_self_eq_true _
  have hz : (w.alloc (.cells (strV (mkl (ms.map lnkT))).toArray 9)).heap.size = w.heap.size + 1 := by simp
  have hb1 : Below w.heap.size w (w.alloc (.cells (strV (mkl (ms.map lnkT))).toArray 9)) := (Below.refl _ _).alloc (Nat.le_refl _) _
  obtain ⟨w1, hw1⟩ : ∃ w1, w1 = w.alloc (.cells (strV (mkl (ms.map lnkT))).toArray 9) := ⟨_, rfl⟩
  rw [← hw1] at hb1 hz
  rw [← hw1, ← hz] at HRD
  obtain ⟨P, hP⟩ : ∃ P, P = w.heap.size := ⟨_, rfl⟩
  rw [← hP] at HRD hz
  have HB1 := Lib.hid hb1; have HW1 := Lib.hid hw1; have HPE := Lib.hid hP; have HZ := Lib.hid hz
  clear hct hml hsp hT hTl hcn hC hspl hlm hfm hrd hall hn hg hb1 hw1 hP hz hv
  go_enter Tryz.func188, Tryz.ntmps188
  go_wp2_with fail
  refine (HCN.out _).mono ?_
  rintro _ _ ⟨rfl, rfl⟩
  clear HCN
  go_wp2_with fail
  refine (HSP.out _ HG.out.ml).mono ?_
  rintro _ _ ⟨rfl, rfl⟩
  rw [← HW1.out, ← HPE.out]
  go_wp2_with fail
  go_loopw [4, 15] (fun o i wr => ∃ k : Nat, k ≤ n ∧ i = .int .i64 k ∧ Hid (wr.ownsRow (P + 1) 50 3 o k (linkV (ms.take k))) ∧ Hid (Below w.heap.size w wr) ∧ Hid (Below w1.heap.size w1 wr)) (fun _ i _ => n - (intOf i).toNat)
  case atStart => exact ⟨0, Nat.zero_le _, rfl, Lib.hid (World.ownsRow_nil _ _ _ _), HB1, Lib.hid (Below.refl _ _)⟩
  case round =>
    obtain ⟨k, hk, rfl, HO, HBL, HBW⟩ := hrel
    obtain ⟨A3, c3, e3⟩ := slot_slice HO.out
    subst e3
    by_cases hlt : k < n
    · have hkm : k < ms.length := by rw [← HN.out]; exact hlt
      have hks : k < (mkl (ms.map lnkT)).length := by rw [length_mkl, List.length_map]; exact hkm
      obtain ⟨b0, o0, e0, _, c0⟩ := (HRD.out.below HBW.out).str hks
      simp only [Option.some.injEq, Addr.mk.injEq, and_true] at e0
      obtain ⟨rfl, rfl⟩ := e0
      rw [Nat.zero_add] at c0
      have hke : (mkl (ms.map lnkT))[k] = mk (lnkT ms[k]) := by simp [mkl]
      rw [hke] at c0
      obtain ⟨y1, y2, _, _, y5, y6⟩ := HALL.out _ (List.getElem_mem hkm)
      have hls : linkV (ms.take k) ++ [Value.string ms[k].1, .string ms[k].2.1, .int .i64 (ms[k].2.2 : Int)] = linkV (ms.take (k + 1)) := by
        rw [List.take_succ_eq_append_getElem hkm]; exact linkV_snoc _ _
      have hat := atoi_dec ms[k].2.2 (by omega)
      have hil := itoa_len ms[k].2.2 (by omega)
      unfold lnkT at c0
      generalize ms[k] = x at c0 y1 y2 y5 y6 hls hat hil
      obtain ⟨p, c, key⟩ := x
      simp only at c0 y1 y2 y5 y6 hls hat hil
      obtain ⟨S, hS⟩ : ∃ S, S = mk (tl p ++ tl c ++ Lib.itoa (key : Int)) := ⟨_, rfl⟩
      rw [← hS] at c0
      obtain ⟨z0, z1, z2, z3⟩ := lnk_parts y1 y2 S hS
      have hato := fun w' => Tryz.strconv_Atoi (S.extract 2 S.size) (key : Int) (by rw [z3, size_mk]; omega) (by rw [z3]; exact hat) w'
      have HAT := Lib.hid hato; have HLS := Lib.hid hls; have HZ1' := Lib.hid (And.intro z1 z2)
      have hs3 : 3 ≤ S.size := by omega
      have hs18 : S.size ≤ 30 := by omega
      clear hat hil z0 z1 z2 z3 hS hato hls hke hks y1 y2
      have x1 : (2 : Int) ≤ (S.size : Int) := by omega
      have x2 : (1 : Int) ≤ (S.size : Int) := by omega
      have x3 : ¬ S.size < 3 := by omega
      go_wp2_with fail
      refine (HAT.out _).mono ?_
      rintro _ w3 ⟨rfl, t, hw3⟩
      have hb3 : Below wr.heap.size wr w3 := by rw [hw3]; exact below_made wr t
      have HB3 := Lib.hid (HBL.out.trans (hb3.mono HBL.out.size)); have HBW3 := Lib.hid (HBW.out.trans (hb3.mono HBW.out.size)); have HO3 := Lib.hid (ownsRow_below HO.out hb3)
      have hbw : P + 1 ≤ w3.heap.size := by have := HBW3.out.size; have := HZ.out; omega
      clear hw3 hb3 HBL HBW HO c0
      go_upto_region 12 with fail
      go_region_held3 (fun W => True) (exact True.intro) (first | (rw [if_pos (by rfl)]; refine wp_append_lies _ (.tmp 30) (.tmp 37) 28 (by rfl) (P + 1) 50 iL _ 3 40 Tryz.undL HI.out HZ0.out HZ1.out HZ2.out rfl (by decide) _ k _ (by rfl) (HO3.out.alloc _) ⟨w3.heap.size, 0, none⟩ 1 1 [.string (S.extract 0 1), .string (S.extract 1 2), .int .i64 (key : Int)] (by rfl) rfl (three_new w3 _ _ _ _) (three_one _ _ _) (by decide) (by unfold maxLen; omega) (by omega) (by simp; omega) _ rfl ?_; intro g5 c5 w5 ho5 hg5 hat5 hlt5) | fail)
      all_goals
        rw [HZ1'.out.1, HZ1'.out.2, HLS.out] at ho5
        have hb5 : Below w.heap.size w w5 := ((HB3.out.alloc HB3.out.size _).drew).grown hg5 (by have := HB3.out.size; simp; omega) fun k' e' => by have := (HO3.out.lt k' e').1; have := HPE.out; omega
        have hbw5 : Below w1.heap.size w1 w5 := ((HBW3.out.alloc HBW3.out.size _).drew).grown hg5 (by have := HBW3.out.size; simp; omega) fun k' e' => by have := (HO3.out.lt k' e').1; have := HZ.out; omega
        have HO5 := Lib.hid ho5; have HB5 := Lib.hid hb5; have HBW5 := Lib.hid hbw5
        clear ho5 hg5 hat5 hlt5 hb5 hbw5
        go_wp2_with fail
        go_roundw
        case rel => exact ⟨k + 1, by omega, by go_num, HO5, HB5, HBW5⟩
        case measure => simp [intOf]; omega
    · have hke : k = n := by omega
      subst hke
      have ho := HO.out
      rw [HN.out, List.take_length, ← HN.out] at ho
      have HOF := Lib.hid ho
      have hfm := HFM.out wr (HG.out.below HBL.out (Nat.le_refl _)) A3 c3 (own_rd2 ho) (own_le2 ho)
      have HFC := Lib.hid hfm
      clear ho hfm HO
      go_wp2_with fail
      refine HFC.out.mono ?_
      rintro _ w4 ⟨rfl, hb4⟩
      have HB4 := Lib.hid (HBL.out.trans (hb4.mono HBL.out.size)); have HO4 := Lib.hid (ownsRow_below HOF.out hb4)
      clear hb4
      go_wp2_with fail
      go_ret2
      exact ⟨A3, c3, rfl, own_mono3 HO4.out (by rw [HPE.out]; exact Nat.le_succ _), HB4.out⟩
end Go.Proofs.YtnbdimbhklbadaaGreatDoor
namespace Go.Proofs.YtnbdimbhklbadaaGreatDoor
open Go.RowKit Pl
set_option linter.unusedVariables false
theorem bel_onM {a W W' : World} (h : Below a.heap.size a W) (hb : Below W.heap.size W W') : Below a.heap.size a W' := h.trans (hb.mono h.size)
theorem cell_set_neM {w : World} {p k : Nat} (hne : p ≠ k) (i j : Nat) (v : Value) : (w.setCell ⟨k, j, none⟩ v).cell? ⟨p, i, none⟩ = w.cell? ⟨p, i, none⟩ := World.cell?_of_block (w := w) (a := ⟨p, i, none⟩) (Below.heap_setCell w ⟨k, j, none⟩ v p hne)
theorem cell_sixM {w : World} {p k : Nat} (hne : p ≠ k) (i : Nat) (u0 u1 u2 u3 u4 u5 : Value) : (six w k u0 u1 u2 u3 u4 u5).cell? ⟨p, i, none⟩ = w.cell? ⟨p, i, none⟩ := by
  simp only [six, cell_set_neM hne]
theorem keep7M {W : World} {P Q R : Nat} (hP : P ≠ R) (hQ : Q ≠ R) {x0 x1 x2 x3 x4 x5 y u0 u1 u2 u3 u4 u5 : Value}
    (h : W.cell? ⟨P, 0, none⟩ = some x0 ∧ W.cell? ⟨P, 1, none⟩ = some x1 ∧ W.cell? ⟨P, 2, none⟩ = some x2 ∧ W.cell? ⟨P, 3, none⟩ = some x3 ∧ W.cell? ⟨P, 4, none⟩ = some x4 ∧ W.cell? ⟨P, 5, none⟩ = some x5 ∧ W.cell? ⟨Q, 0, none⟩ = some y) :
    (six W R u0 u1 u2 u3 u4 u5).cell? ⟨P, 0, none⟩ = some x0 ∧ (six W R u0 u1 u2 u3 u4 u5).cell? ⟨P, 1, none⟩ = some x1 ∧ (six W R u0 u1 u2 u3 u4 u5).cell? ⟨P, 2, none⟩ = some x2 ∧ (six W R u0 u1 u2 u3 u4 u5).cell? ⟨P, 3, none⟩ = some x3 ∧ (six W R u0 u1 u2 u3 u4 u5).cell? ⟨P, 4, none⟩ = some x4 ∧ (six W R u0 u1 u2 u3 u4 u5).cell? ⟨P, 5, none⟩ = some x5 ∧ (six W R u0 u1 u2 u3 u4 u5).cell? ⟨Q, 0, none⟩ = some y := by
  simp only [cell_sixM hP, cell_sixM hQ]
  exact h
set_option maxHeartbeats 8000000 in
set_option maxRecDepth 100000 in
theorem withMenu_run (w : World) (hg : GW w) (d : Dk) (a : At) (FN p : Nat) (ms : List Lnk) (ans : ByteArray) (F : Value) (eg : ∀ args w, (callFunc FN args).run Tryz.prog w = .ok (.enter FN args) w)
    (htell : ∀ (w' : World) (Am : Option Addr) (cm : Nat), GW w' → Own d a w' → Rd w' w'.heap.size Am (linkV ms) → ms.length ≤ cm → Calls Tryz.prog FN #[dkV d a, .slice Am ms.length cm] w' fun e w'' => e = .returned (.string ans) ∧ Below w'.heap.size w' w'')
    (hv : menuV ms) (ho : Own d a w) (hp : w.heap[p]? = some (.cells #[fnV FN] 157 (0, 0))) :
    Calls Tryz.prog 187 #[dkV d a, .string (mk (menuT ms)), F, .pointer (some ⟨p, 0, none⟩)] w (Answered d ans w) := by
  have hb := bel_two (w := w) (.cells (dkC d a) 71) (.cells #[.slice none 0 0, .string ⟨#[]⟩, .string ⟨#[]⟩, .string ⟨#[]⟩, .string ⟨#[]⟩, .slice none 0 0] 71)
  have hdk := heap_alloc_new (w.alloc (.cells (dkC d a) 71)) (.cells #[.slice none 0 0, .string ⟨#[]⟩, .string ⟨#[]⟩, .string ⟨#[]⟩, .string ⟨#[]⟩, .slice none 0 0] 71)
  rw [szalloc] at hdk
  have hpa : ((w.alloc (.cells (dkC d a) 71)).alloc (.cells #[.slice none 0 0, .string ⟨#[]⟩, .string ⟨#[]⟩, .string ⟨#[]⟩, .string ⟨#[]⟩, .slice none 0 0] 71)).heap[w.heap.size]? = some (.cells (dkC d a) 71 (0, 0)) := block_below (heap_alloc_new w _) ((Below.refl _ _).alloc (Nat.le_refl _) _)
  obtain ⟨w1, hw1⟩ : ∃ w1, w1 = ((w.alloc (.cells (dkC d a) 71)).alloc (.cells #[.slice none 0 0, .string ⟨#[]⟩, .string ⟨#[]⟩, .string ⟨#[]⟩, .string ⟨#[]⟩, .slice none 0 0] 71)) := ⟨_, rfl⟩
  rw [← hw1] at hb hdk hpa
  have hpf := block_below hp hb
  have hpl : p < w.heap.size := (Array.getElem?_eq_some_iff.1 hp).1
  have ho1 := ho.below hb
  have hg1 := hg.below hb (Nat.le_refl _)
  have hpm := parseMenu_yes w1 hg1 ms hv
  generalize mk (menuT ms) = X at hpm ⊢
  obtain ⟨n, hn⟩ : ∃ n, n = ms.length := ⟨_, rfl⟩
  rw [← hn] at hpm htell
  have HG := Lib.hid hg1; have HB := Lib.hid hb; have HDK := Lib.hid hdk; have HPA := Lib.hid hpa; have HO := Lib.hid ho1; have HPF := Lib.hid hpf; have HPM := Lib.hid hpm; have HT := Lib.hid htell
  have hw1z : w.heap.size + 1 < w1.heap.size := (Array.getElem?_eq_some_iff.1 hdk).1
  clear ho hg ho1 hg1 hpf hp hb hdk hpa hpm htell hn hv
  go_enter Tryz.func187, Tryz.ntmps187
  go_wp2_with fail
  rw [← hw1]
  clear hw1
  refine HPM.out.mono ?_
  rintro _ w2 ⟨A2, c2, rfl, hom, hb2⟩
  have HO2 := Lib.hid (HO.out.below hb2); have HG2 := Lib.hid (HG.out.below hb2 (Nat.le_refl _)); have HB2 := Lib.hid (HB.out.trans (hb2.mono HB.out.size)); have HDK2 := Lib.hid (block_below HDK.out hb2); have HPA2 := Lib.hid (block_below HPA.out hb2); have HPF2 := Lib.hid (block_below HPF.out hb2)
  have hrd := own_rd2 hom
  have hcm := own_le2 hom
  have hwz2 : w.heap.size + 1 < w2.heap.size := Nat.lt_of_lt_of_le hw1z hb2.size
  have HTL := Lib.hid (fun (w' : World) (hb' : Below w2.heap.size w2 w') => HT.out w' A2 c2 (HG2.out.below hb' (Nat.le_refl _)) (HO2.out.below hb') ((hrd.below hb').mono hb'.size) hcm)
  clear hom hb2 hrd HT HPM HDK HPA HPF HO HG HB
  have HS := Lib.hid (show ∀ W : World, Below w2.heap.size w2 W → (W.cell? ⟨w.heap.size, 0, none⟩ = some (.slice a.Ar d.rs.length a.cr) ∧ W.cell? ⟨w.heap.size, 1, none⟩ = some (.string d.rf) ∧ W.cell? ⟨w.heap.size, 2, none⟩ = some (.string d.ri) ∧ W.cell? ⟨w.heap.size, 3, none⟩ = some (.string d.pl) ∧ W.cell? ⟨w.heap.size, 4, none⟩ = some (.string d.wi) ∧ W.cell? ⟨w.heap.size, 5, none⟩ = some (.slice a.Ab d.bk.length a.cb) ∧ W.cell? ⟨p, 0, none⟩ = some (fnV FN)) from fun W hbw => by
    obtain ⟨v0, v1, v2, v3, v4, v5⟩ := row_six (block_below HPA2.out hbw)
    exact ⟨v0, v1, v2, v3, v4, v5, cell_of_row _ _ _ _ _ _ (block_below HPF2.out hbw)⟩)
  have hz0 := fun (W : World) (hb : Below w2.heap.size w2 W) => (row_six (block_below HDK2.out hb)).1
  have hz1 := fun (W : World) (hb : Below w2.heap.size w2 W) => (row_six (block_below HDK2.out hb)).2.1
  have hz2 := fun (W : World) (hb : Below w2.heap.size w2 W) => (row_six (block_below HDK2.out hb)).2.2.1
  have hz3 := fun (W : World) (hb : Below w2.heap.size w2 W) => (row_six (block_below HDK2.out hb)).2.2.2.1
  have hz4 := fun (W : World) (hb : Below w2.heap.size w2 W) => (row_six (block_below HDK2.out hb)).2.2.2.2.1
  have hz5 := fun (W : World) (hb : Below w2.heap.size w2 W) => (row_six (block_below HDK2.out hb)).2.2.2.2.2
  have e0 := fun (W : World) (hb : Below w2.heap.size w2 W) => frozen_cells (block_below HDK2.out hb) 0
  have e1 := fun (W : World) (hb : Below w2.heap.size w2 W) => frozen_cells (block_below HDK2.out hb) 1
  have e2 := fun (W : World) (hb : Below w2.heap.size w2 W) => frozen_cells (block_below HDK2.out hb) 2
  have e3 := fun (W : World) (hb : Below w2.heap.size w2 W) => frozen_cells (block_below HDK2.out hb) 3
  have e4 := fun (W : World) (hb : Below w2.heap.size w2 W) => frozen_cells (block_below HDK2.out hb) 4
  have e5 := fun (W : World) (hb : Below w2.heap.size w2 W) => frozen_cells (block_below HDK2.out hb) 5
  have hbd : Below w2.heap.size w2 w2.drew := (Below.refl _ _).drew
  have hbr : Below w2.heap.size w2 w2 := Below.refl _ _
  have hn1 : w.heap.size ≠ w.heap.size + 1 := by omega
  have hn2 : p ≠ w.heap.size + 1 := by omega
  go_upto_region 4 with fail
  unfold fnV at HS
  go_region_held3 (fun W => W.cell? ⟨w.heap.size, 0, none⟩ = some (.slice a.Ar d.rs.length a.cr) ∧ W.cell? ⟨w.heap.size, 1, none⟩ = some (.string d.rf) ∧ W.cell? ⟨w.heap.size, 2, none⟩ = some (.string d.ri) ∧ W.cell? ⟨w.heap.size, 3, none⟩ = some (.string d.pl) ∧ W.cell? ⟨w.heap.size, 4, none⟩ = some (.string d.wi) ∧ W.cell? ⟨w.heap.size, 5, none⟩ = some (.slice a.Ab d.bk.length a.cb) ∧ W.cell? ⟨p, 0, none⟩ = some (.func (Fn.func FN) #[] #[])) (first | with_reducible assumption | with_reducible exact HS.out _ (by with_reducible assumption) | with_reducible exact keep7M hn1 hn2 (HS.out _ (by with_reducible assumption)) | fail) (first | (refine (HTL.out _ (by with_reducible assumption)).mono ?_; rintro _ w4 ⟨rfl, hb4⟩; have b4 := bel_onM (a := w2) (by with_reducible assumption) hb4; have y0 := hz0 _ b4; have y1 := hz1 _ b4; have y2 := hz2 _ b4; have y3 := hz3 _ b4; have y4 := hz4 _ b4; have y5 := hz5 _ b4; have q0 := e0 _ b4; have q1 := e1 _ b4; have q2 := e2 _ b4; have q3 := e3 _ b4; have q4 := e4 _ b4; have q5 := e5 _ b4) | fail)
  all_goals
    have hd4 := block_below HDK2.out b4
    have HD4 := Lib.hid hd4; have HO4 := Lib.hid (HO2.out.below b4); have HB4 := Lib.hid (HB2.out.trans (b4.mono HB2.out.size))
    obtain ⟨z0, z1, z2, z3, z4, z5⟩ := row_six hd4
    clear hd4 hz0 hz1 hz2 hz3 hz4 hz5 e0 e1 e2 e3 e4 e5
    go_wp2_with fail
    refine bodyPost_ret (v := .tuple #[dkV d a, .string ans]) (by simp [results, Tryz.results187, go_sem, z0, z1, z2, z3, z4, z5]) rfl ⟨a, rfl, ⟨?_, ?_⟩, ?_⟩
    · exact World.ownsRow.kept HO4.out.r (only_six _ (w.heap.size + 1) _ _ _ _ _ _) (own_ne HO4.out.r HD4.out (by decide))
    · exact World.ownsRow.kept HO4.out.b (only_six _ (w.heap.size + 1) _ _ _ _ _ _) (own_ne HO4.out.b HD4.out (by decide))
    · exact bel_six HB4.out (by omega) _ _ _ _ _ _
set_option maxHeartbeats 8000000 in
set_option maxRecDepth 100000 in
theorem stopsOf_ok (w : World) (d : Dk) (a : At) (Am : Option Addr) (cm n : Nat) (ms : List Lnk) (H : ByteArray) (hH : tl H ≠ []) (hyp : ∀ (w' : World) (a : At) (Am : Option Addr) (cm : Nat), Own d a w' → Rd w' w'.heap.size Am (linkV ms) → ms.length ≤ cm → Calls Tryz.prog 12 #[.agg #[.slice a.Ar d.rs.length a.cr, .string d.rf, .string d.ri, .string d.pl], .string d.wi, .slice Am ms.length cm] w' fun e w'' => e = .returned (.string H) ∧ Below w'.heap.size w' w'') (ho : Own d a w) (hm : Rd w w.heap.size Am (linkV ms)) (hn : n = ms.length) (hc : n ≤ cm) :
    Calls Tryz.prog 122 #[dkV d a, .slice Am n cm] w fun e w' => e = .returned (.string H) ∧ Below w.heap.size w w' := by
  have hb : Below w.heap.size w (w.alloc (.cells (dkC d a) 71)) := (Below.refl _ _).alloc (Nat.le_refl _) _
  have hpa := heap_alloc_new w (.cells (dkC d a) 71)
  obtain ⟨w1, hw1⟩ : ∃ w1, w1 = w.alloc (.cells (dkC d a) 71) := ⟨_, rfl⟩
  rw [← hw1] at hb hpa
  obtain ⟨P, hP⟩ : ∃ P, P = w.heap.size := ⟨_, rfl⟩
  rw [← hP] at hpa
  have ho1 := ho.below hb
  have hm1 := (hm.below hb).mono hb.size
  have hy := hyp w1 a Am cm ho1 hm1 (by rw [← hn]; exact hc)
  rw [← hn] at hy
  have HY := Lib.hid hy; have HA := Lib.hid (fun w' => orAbsent_is w' H hH)
  clear hyp hy hH hn
  have HB := Lib.hid hb; have HO := Lib.hid ho1; have HM := Lib.hid hm1
  have HW1 := Lib.hid (And.intro hw1 hP)
  obtain ⟨k0, k1, k2, k3, k4, k5⟩ := row_six hpa
  clear hb ho1 hm1 ho hm hw1
  go_enter Tryz.func122, Tryz.ntmps122
  go_upto_region 1 with fail
  rw [← HW1.out.1, ← HW1.out.2]
  clear hP
  go_wp2_with fail
  refine HY.out.mono ?_
  rintro _ w2 ⟨rfl, hb2⟩
  have HB2 := Lib.hid (HB.out.trans (hb2.mono HB.out.size))
  clear hb2
  go_wp2_with fail
  refine (HA.out _).mono ?_
  rintro _ _ ⟨rfl, rfl⟩
  go_wp2_with fail
  go_ret
  exact ⟨rfl, HB2.out⟩
set_option maxHeartbeats 8000000 in
set_option maxRecDepth 100000 in
theorem checkOf_ok (w : World) (d : Dk) (a : At) (Am : Option Addr) (cm n : Nat) (ms : List Lnk) (hyp : ∀ (w' : World) (a : At) (Am : Option Addr) (cm : Nat), Own d a w' → Rd w' w'.heap.size Am (linkV ms) → ms.length ≤ cm → Calls Tryz.prog 5 #[.agg #[.slice a.Ar d.rs.length a.cr, .string d.rf, .string d.ri, .string d.pl], .string d.wi, .slice Am ms.length cm] w' fun e w'' => e = .returned (.bool true) ∧ Below w'.heap.size w' w'') (ho : Own d a w) (hm : Rd w w.heap.size Am (linkV ms)) (hn : n = ms.length) (hc : n ≤ cm) :
    Calls Tryz.prog 124 #[dkV d a, .slice Am n cm] w fun e w' => e = .returned (.string ⟨#[121, 101, 115]⟩) ∧ Below w.heap.size w w' := by
  have hb : Below w.heap.size w (w.alloc (.cells (dkC d a) 71)) := (Below.refl _ _).alloc (Nat.le_refl _) _
  have hpa := heap_alloc_new w (.cells (dkC d a) 71)
  obtain ⟨w1, hw1⟩ : ∃ w1, w1 = w.alloc (.cells (dkC d a) 71) := ⟨_, rfl⟩
  rw [← hw1] at hb hpa
  obtain ⟨P, hP⟩ : ∃ P, P = w.heap.size := ⟨_, rfl⟩
  rw [← hP] at hpa
  have ho1 := ho.below hb
  have hm1 := (hm.below hb).mono hb.size
  have hy := hyp w1 a Am cm ho1 hm1 (by rw [← hn]; exact hc)
  rw [← hn] at hy
  have HY := Lib.hid hy
  clear hyp hy hn
  have HB := Lib.hid hb; have HO := Lib.hid ho1; have HM := Lib.hid hm1
  have HW1 := Lib.hid (And.intro hw1 hP)
  obtain ⟨k0, k1, k2, k3, k4, k5⟩ := row_six hpa
  clear hb ho1 hm1 ho hm hw1
  go_enter Tryz.func124, Tryz.ntmps124
  go_upto_region 1 with fail
  rw [← HW1.out.1, ← HW1.out.2]
  clear hP
  go_wp2_with fail
  refine HY.out.mono ?_
  rintro _ w2 ⟨rfl, hb2⟩
  have HB2 := Lib.hid (HB.out.trans (hb2.mono HB.out.size))
  clear hb2
  go_wp2_with fail
  go_ret
  exact ⟨rfl, HB2.out⟩
set_option maxHeartbeats 8000000 in
set_option maxRecDepth 100000 in
theorem boardsText_ok (w : World) (d : Dk) (a : At) (Am : Option Addr) (cm n : Nat) (ms : List Lnk) (L F : List ByteArray) (J : ByteArray) (hLF : L.length = F.length) (h0 : F ≠ []) (hl : L.length ≤ 10) (hJ : J = mk (Lib.join (F.map tl) [47])) (hz : J.size ≤ 1000) (hJ0 : tl J ≠ []) (hfp : ∀ (w' : World) (i : Nat) (h : i < L.length) (h' : i < F.length), Calls Tryz.prog 9 #[.string L[i]] w' fun e w'' => e = .returned (.string F[i]) ∧ Below w'.heap.size w' w'') (hyp : ∀ (w' : World) (a : At) (Am : Option Addr) (cm : Nat), Own d a w' → Rd w' w'.heap.size Am (linkV ms) → ms.length ≤ cm → Calls Tryz.prog 8 #[.agg #[.slice a.Ar d.rs.length a.cr, .string d.rf, .string d.ri, .string d.pl], .string d.wi, .slice Am ms.length cm] w' fun e w'' => ∃ A' c', e = .returned (.slice A' L.length c') ∧ w''.ownsRow w'.heap.size 9 1 (.slice A' L.length c') L.length (strV L) ∧ Below w'.heap.size w' w'') (ho : Own d a w) (hm : Rd w w.heap.size Am (linkV ms)) (hn : n = ms.length) (hc : n ≤ cm) :
    Calls Tryz.prog 123 #[dkV d a, .slice Am n cm] w fun e w' => e = .returned (.string J) ∧ Below w.heap.size w w' := by
  have hb : Below w.heap.size w (w.alloc (.cells (dkC d a) 71)) := (Below.refl _ _).alloc (Nat.le_refl _) _
  have hpa := heap_alloc_new w (.cells (dkC d a) 71)
  obtain ⟨w1, hw1⟩ : ∃ w1, w1 = w.alloc (.cells (dkC d a) 71) := ⟨_, rfl⟩
  rw [← hw1] at hb hpa
  obtain ⟨P, hP⟩ : ∃ P, P = w.heap.size := ⟨_, rfl⟩
  rw [← hP] at hpa
  have ho1 := ho.below hb
  have hm1 := (hm.below hb).mono hb.size
  have hy := hyp w1 a Am cm ho1 hm1 (by rw [← hn]; exact hc)
  rw [← hn] at hy
  have HY := Lib.hid hy; have HA := Lib.hid (fun w' => orAbsent_is w' J hJ0); have HFP := Lib.hid hfp; have HLF := Lib.hid hLF; have HJ := Lib.hid (And.intro hJ (And.intro hz h0))
  obtain ⟨iS, hi, hz0, hz1, hz2⟩ := info_parts Tryz.infoS
  have HI := Lib.hid hi; have HZ0 := Lib.hid hz0; have HZ1 := Lib.hid hz1; have HZ2 := Lib.hid hz2
  clear hi hz0 hz1 hz2 hyp hy hJ0 hfp hLF hJ hz h0 hn
  have HB := Lib.hid hb; have HO := Lib.hid ho1; have HM := Lib.hid hm1
  have HW1 := Lib.hid (And.intro hw1 hP)
  obtain ⟨k0, k1, k2, k3, k4, k5⟩ := row_six hpa
  clear hb ho1 hm1 ho hm hw1
  go_enter Tryz.func123, Tryz.ntmps123
  go_upto_region 1 with fail
  rw [← HW1.out.1, ← HW1.out.2]
  clear hP
  go_wp2_with fail
  refine HY.out.mono ?_
  rintro _ w2 ⟨A2, c2, rfl, hol, hb2⟩
  have HB2 := Lib.hid (HB.out.trans (hb2.mono HB.out.size)); have HRL := Lib.hid (own_rd2 hol)
  have hcl := own_le2 hol
  obtain ⟨nl, hnl⟩ : ∃ nl, nl = L.length := ⟨_, rfl⟩
  rw [← hnl] at hcl hl ⊢
  have HNL := Lib.hid hnl
  clear hb2 hol hnl
  go_wp2_with fail
  go_loopw [5, 15] (fun o i wr => ∃ k : Nat, k ≤ nl ∧ i = .int .i64 k ∧ Hid (wr.ownsRow w2.heap.size 9 1 o k (strV (F.take k))) ∧ Hid (Below w.heap.size w wr) ∧ Hid (Below w2.heap.size w2 wr)) (fun _ i _ => nl - (intOf i).toNat)
  case atStart => exact ⟨0, Nat.zero_le _, rfl, Lib.hid (World.ownsRow_nil _ _ _ _), HB2, Lib.hid (Below.refl _ _)⟩
  case round =>
    obtain ⟨k, hk, rfl, HO, HBL, HBW⟩ := hrel
    obtain ⟨A3, c3, e3⟩ := slot_slice HO.out
    subst e3
    by_cases hlt : k < nl
    · have hkl : k < L.length := by rw [← HNL.out]; exact hlt
      have hkf : k < F.length := by rw [← HLF.out]; exact hkl
      obtain ⟨b, o, rfl, -, c0⟩ := (HRL.out.below HBW.out).str hkl
      have hfp := fun (w' : World) => HFP.out w' k hkl hkf
      have hfs : strV (F.take k) ++ [Value.string F[k]] = strV (F.take (k + 1)) := by unfold strV; rw [List.take_succ_eq_append_getElem hkf, List.map_append]; rfl
      generalize L[k] = x at c0 hfp
      generalize F[k] = f at hfp hfs
      have HF1 := Lib.hid hfp; have HFS := Lib.hid hfs
      clear hfp hfs hkl hkf
      go_wp2_with fail
      refine (HF1.out _).mono ?_
      rintro _ w3 ⟨rfl, hb3⟩
      have HB3 := Lib.hid (HBL.out.trans (hb3.mono HBL.out.size)); have HBW3 := Lib.hid (HBW.out.trans (hb3.mono HBW.out.size)); have HO3 := Lib.hid (ownsRow_below HO.out hb3)
      have hsz := HBW3.out.size
      clear hb3 HBL HBW HO c0
      go_wp2_with (at_builtin; refine wpList_append_own _ rfl _ _ 33 rfl w2.heap.size 9 iS (.string ByteArray.empty) 1 16 Tryz.undS HI.out HZ0.out HZ1.out HZ2.out rfl (by decide) _ k _ rfl (HO3.out.alloc _) ⟨w3.heap.size, 0, none⟩ 1 1 [.string f] rfl rfl (one_new w3 (.string f) 9) one_cell (by unfold maxLen; omega) (by omega) (by simp; omega) ?_)
      intro v' w6 ho' hg' _
      rw [HFS.out] at ho'
      have hb6 : Below w.heap.size w w6 := (HB3.out.alloc HB3.out.size _).grown hg' (by have := HB3.out.size; simp; omega) fun k' e => by have := (HO3.out.lt k' e).1; have := HB2.out.size; omega
      have hbw6 : Below w2.heap.size w2 w6 := (HBW3.out.alloc HBW3.out.size _).grown hg' (by simp; omega) fun k' e => (HO3.out.lt k' e).1
      have HO6 := Lib.hid ho'; have HB6 := Lib.hid hb6; have HBW6 := Lib.hid hbw6
      clear ho' hg' hb6 hbw6
      go_wp2_with fail
      go_roundw
      case rel => exact ⟨k + 1, by omega, by go_num, HO6, HB6, HBW6⟩
      case measure => simp [intOf]; omega
    · have hke : k = nl := by omega
      subst hke
      have ho := HO.out
      rw [HNL.out, HLF.out, List.take_length] at ho
      have hjn := join_own wr w2.heap.size A3 c3 F (mk [47]) ho HJ.out.2.2 (by rw [← HLF.out, ← HNL.out]; omega) (by
        have h1 := HJ.out.2.1
        rw [HJ.out.1, size_mk] at h1
        rw [tl_mk]; omega)
      rw [tl_mk, ← HJ.out.1, ← HLF.out, ← HNL.out] at hjn
      have HJN := Lib.hid hjn
      clear ho hjn
      go_wp2_with fail
      refine HJN.out.mono ?_
      rintro _ w7 ⟨rfl, hb7⟩
      have HB7 := Lib.hid (HBL.out.trans (hb7.mono HBL.out.size))
      clear hb7
      go_wp2_with fail
      refine (HA.out _).mono ?_
      rintro _ _ ⟨rfl, rfl⟩
      go_wp2_with fail
      go_ret
      exact ⟨rfl, HB7.out⟩
end Go.Proofs.YtnbdimbhklbadaaGreatDoor
namespace Go.Proofs.YtnbdimbhklbadaaGreatDoor
open Go.RowKit Pl
set_option linter.unusedVariables false
theorem eg_withMenu : ∀ args w, (callFunc 187 args).run Tryz.prog w = .ok (.enter 187 args) w := enters_of Tryz.func187 (by kernel_rfl) rfl
def checkLine (ms : List Lnk) : List UInt8 := [99, 104, 101, 99, 107] ++ 32 :: menuT ms
def stopsLine (ms : List Lnk) : List UInt8 := [115, 116, 111, 112, 115] ++ 32 :: menuT ms
def boardsLine (ms : List Lnk) : List UInt8 := [98, 111, 97, 114, 100, 115] ++ 32 :: menuT ms
abbrev HypIs (d : Dk) (ms : List Lnk) (H : ByteArray) : Prop := ∀ (w' : World) (a : At) (Am : Option Addr) (cm : Nat), Own d a w' → Rd w' w'.heap.size Am (linkV ms) → ms.length ≤ cm → Calls Tryz.prog 12 #[.agg #[.slice a.Ar d.rs.length a.cr, .string d.rf, .string d.ri, .string d.pl], .string d.wi, .slice Am ms.length cm] w' fun e w'' => e = .returned (.string H) ∧ Below w'.heap.size w' w''
abbrev ChkIs (d : Dk) (ms : List Lnk) : Prop := ∀ (w' : World) (a : At) (Am : Option Addr) (cm : Nat), Own d a w' → Rd w' w'.heap.size Am (linkV ms) → ms.length ≤ cm → Calls Tryz.prog 5 #[.agg #[.slice a.Ar d.rs.length a.cr, .string d.rf, .string d.ri, .string d.pl], .string d.wi, .slice Am ms.length cm] w' fun e w'' => e = .returned (.bool true) ∧ Below w'.heap.size w' w''
abbrev BrdIs (d : Dk) (ms : List Lnk) (L : List ByteArray) : Prop := ∀ (w' : World) (a : At) (Am : Option Addr) (cm : Nat), Own d a w' → Rd w' w'.heap.size Am (linkV ms) → ms.length ≤ cm → Calls Tryz.prog 8 #[.agg #[.slice a.Ar d.rs.length a.cr, .string d.rf, .string d.ri, .string d.pl], .string d.wi, .slice Am ms.length cm] w' fun e w'' => ∃ A' c', e = .returned (.slice A' L.length c') ∧ w''.ownsRow w'.heap.size 9 1 (.slice A' L.length c') L.length (strV L) ∧ Below w'.heap.size w' w''
abbrev FpIs (L F : List ByteArray) : Prop := ∀ (w' : World) (i : Nat) (h : i < L.length) (h' : i < F.length), Calls Tryz.prog 9 #[.string L[i]] w' fun e w'' => e = .returned (.string F[i]) ∧ Below w'.heap.size w' w''
theorem exec_stops (d : Dk) (ms : List Lnk) (H : ByteArray) (hv : menuV ms) (hm : tl d.wi ≠ []) (hH : tl H ≠ []) (hyp : HypIs d ms H) : Exec d (mk (stopsLine ms)) d H := by
  have h := exec_menu0 d d [115, 116, 111, 112, 115] (mk (menuT ms)) H (by decide) (by decide) (by rw [size_mk]; have := len_menuT hv; omega) (-1) 187 eg_withMenu (by decide) hm (fun h => absurd h (by decide)) (fun _ _ _ _ _ _ _ => rfl)
    (fun w a p0 p1 p2 p3 p4 p5 p6 B hml ho hbx hr hB => withMenu_run w hml d a 122 p0 ms H _ (enters_of Tryz.func122 (by kernel_rfl) rfl) (fun w' Am cm hg' ho' hr' hc' => stopsOf_ok w' d a Am cm ms.length ms H hH hyp ho' hr' rfl hc') hv ho hbx.b0)
  rw [tl_mk] at h
  exact h
theorem exec_boards (d : Dk) (ms : List Lnk) (L F : List ByteArray) (J : ByteArray) (hv : menuV ms) (hm : tl d.wi ≠ []) (hLF : L.length = F.length) (h0 : F ≠ []) (hl : L.length ≤ 10) (hJ : J = mk (Lib.join (F.map tl) [47])) (hz : J.size ≤ 1000) (hJ0 : tl J ≠ []) (hfp : FpIs L F) (hyp : BrdIs d ms L) : Exec d (mk (boardsLine ms)) d J := by
  have h := exec_menu1 d d [98, 111, 97, 114, 100, 115] (mk (menuT ms)) J (by decide) (by decide) (by rw [size_mk]; have := len_menuT hv; omega) (-1) 187 eg_withMenu (by decide) hm (fun h => absurd h (by decide)) (fun _ _ _ _ _ _ _ => rfl)
    (fun w a p0 p1 p2 p3 p4 p5 p6 B hml ho hbx hr hB => withMenu_run w hml d a 123 p1 ms J _ (enters_of Tryz.func123 (by kernel_rfl) rfl) (fun w' Am cm hg' ho' hr' hc' => boardsText_ok w' d a Am cm ms.length ms L F J hLF h0 hl hJ hz hJ0 hfp hyp ho' hr' rfl hc') hv ho hbx.b1)
  rw [tl_mk] at h
  exact h
theorem exec_check (d : Dk) (ms : List Lnk) (hv : menuV ms) (hm : tl d.wi ≠ []) (hyp : ChkIs d ms) : Exec d (mk (checkLine ms)) d ⟨#[121, 101, 115]⟩ := by
  have h := exec_menu2 d d [99, 104, 101, 99, 107] (mk (menuT ms)) ⟨#[121, 101, 115]⟩ (by decide) (by decide) (by rw [size_mk]; have := len_menuT hv; omega) (-1) 187 eg_withMenu (by decide) hm (fun h => absurd h (by decide)) (fun _ _ _ _ _ _ _ => rfl)
    (fun w a p0 p1 p2 p3 p4 p5 p6 B hml ho hbx hr hB => withMenu_run w hml d a 124 p2 ms ⟨#[121, 101, 115]⟩ _ (enters_of Tryz.func124 (by kernel_rfl) rfl) (fun w' Am cm hg' ho' hr' hc' => checkOf_ok w' d a Am cm ms.length ms hyp ho' hr' rfl hc') hv ho hbx.b2)
  rw [tl_mk] at h
  exact h
theorem menuT_no10 {ms : List Lnk} (h : menuV ms) : (10 : UInt8) ∉ menuT ms := by
  have key : ∀ (l : List (List UInt8)), (∀ x ∈ l, (10 : UInt8) ∉ x) → (10 : UInt8) ∉ Lib.joinTail [32] l := by
    intro l hl hm
    unfold Lib.joinTail at hm
    obtain ⟨y, hy, hyt⟩ := List.mem_flatten.1 hm
    obtain ⟨x, hx, rfl⟩ := List.mem_map.1 hy
    rcases List.mem_append.1 hyt with h1 | h1
    · revert h1; decide
    · exact hl x hx h1
  have key2 : ∀ (l : List (List UInt8)), (∀ x ∈ l, (10 : UInt8) ∉ x) → (10 : UInt8) ∉ Lib.join l [32] := by
    intro l hl
    cases l with
    | nil => simp [Lib.join_nil]
    | cons a r =>
      rw [Lib.join_cons]
      simp only [List.mem_append, not_or]
      exact ⟨hl a (by simp), key r fun x hx => hl x (List.mem_cons_of_mem _ hx)⟩
  unfold menuT
  refine key2 _ fun x hx => ?_
  obtain ⟨y, hy, rfl⟩ := List.mem_map.1 hx
  obtain ⟨_, _, h3, _, _, h6⟩ := h.2.2.1 y hy
  exact lnkT_not h3 h6 (by decide)
set_option maxHeartbeats 4000000 in
theorem run_boards (w : World) (hg : GW w) (T : ByteArray) (rs : List (ByteArray × ByteArray)) (p g o : ByteArray) (q : List Nat) (ms : List Lnk) (H J : ByteArray) (L F : List ByteArray) (hv : WinV rs p g) (hq : Prm q) (hi : invP q = q) (ho : o.size = g.size) (hwo : wv (tl o) = true) (hmv : menuV ms)
    (hH : tl H ≠ []) (hHz : H.size ≤ 100) (hLF : L.length = F.length) (h0 : F ≠ []) (hl : L.length ≤ 10) (hJ : J = mk (Lib.join (F.map tl) [47])) (hz : J.size ≤ 1000) (hJ0 : tl J ≠ []) (hfp : FpIs L F)
    (hc : ChkIs (deskM rs p g q o []) ms) (hy : HypIs (deskM rs p g q o []) ms H) (hb : BrdIs (deskM rs p g q o []) ms L)
    (hT : tl T = [machLine rs p g q, windLine o, checkLine ms, stopsLine ms, boardsLine ms].flatMap (· ++ [10])) :
    Calls Tryz.prog 11 #[.string T] w fun e w' => e = .returned (.string (mk ([111, 107, 10, 111, 107, 10, 121, 101, 115, 10] ++ (tl H ++ [10]) ++ (tl J ++ [10])))) ∧ Below w.heap.size w w' := by
  have hg1 : 1 ≤ g.size ∧ g.size ≤ 3 := ⟨by have := hv.1.1; have := hv.2.1; omega, by have := hv.1.2.1; have := hv.2.1; omega⟩
  have hmz := @machT_len rs p g q hv
  have hon : tl o ≠ [] := by intro e; have := congrArg List.length e; rw [length_tl, List.length_nil] at this; omega
  have hrn : tl (mk (List.replicate g.size (97 : UInt8))) ≠ [] := by rw [tl_mk]; intro e; have := congrArg List.length e; rw [List.length_replicate, List.length_nil] at this; omega
  have h10 := menuT_no10 hmv
  have hml := len_menuT hmv
  have hnl : ∀ x ∈ [machLine rs p g q, windLine o, checkLine ms, stopsLine ms, boardsLine ms], (10 : UInt8) ∉ x := by
    intro x hx
    simp only [List.mem_cons, List.not_mem_nil, or_false] at hx
    rcases hx with rfl | rfl | rfl | rfl | rfl
    · unfold machLine
      simp only [List.mem_append, not_or]
      exact ⟨by decide, by rw [List.mem_cons, not_or]; exact ⟨by decide, machT_chars hv hq (by decide) (by decide) (by decide) (by decide) (by decide) (by decide)⟩⟩
    · unfold windLine
      simp only [List.mem_append, not_or]
      exact ⟨by decide, by rw [List.mem_cons, not_or]; exact ⟨by decide, wv_not hwo (by decide)⟩⟩
    · unfold checkLine
      simp only [List.mem_append, not_or]
      exact ⟨by decide, by rw [List.mem_cons, not_or]; exact ⟨by decide, h10⟩⟩
    · unfold stopsLine
      simp only [List.mem_append, not_or]
      exact ⟨by decide, by rw [List.mem_cons, not_or]; exact ⟨by decide, h10⟩⟩
    · unfold boardsLine
      simp only [List.mem_append, not_or]
      exact ⟨by decide, by rw [List.mem_cons, not_or]; exact ⟨by decide, h10⟩⟩
  have hsp : mkl (spl 10 (tl T)) = [mk (machLine rs p g q), mk (windLine o), mk (checkLine ms), mk (stopsLine ms), mk (boardsLine ms), mk []] := by rw [hT, spl_lines3 10 _ hnl]; rfl
  have hTz : T.size ≤ 20000 := by
    rw [← length_tl, hT]
    unfold machLine windLine checkLine stopsLine boardsLine
    simp only [List.flatMap_cons, List.flatMap_nil, List.append_nil, List.length_append, List.length_cons, List.length_nil, length_tl]
    omega
  have e0 := exec_machine Dk.empty rs p g q hv hq hi
  have e1 := exec_windows (deskM rs p g q (mk (List.replicate g.size 97)) []) q o hv hq hi rfl ho hwo hrn
  have e2 := exec_check (deskM rs p g q o []) ms hmv hon hc
  have e3 := exec_stops (deskM rs p g q o []) ms H hmv hon hH hy
  have e4 := exec_boards (deskM rs p g q o []) ms L F J hmv hon hLF h0 hl hJ hz hJ0 hfp hb
  have hrun := run_lines w hg T hTz _ hsp (by simp) (fun j => if j = 0 then Dk.empty else if j = 1 then deskM rs p g q (mk (List.replicate g.size 97)) [] else deskM rs p g q o []) (fun j => if j = 0 then [] else if j = 1 then [111, 107, 10] else if j = 2 then [111, 107, 10, 111, 107, 10] else if j = 3 then [111, 107, 10, 111, 107, 10, 121, 101, 115, 10] else if j = 4 then [111, 107, 10, 111, 107, 10, 121, 101, 115, 10] ++ (tl H ++ [10]) else [111, 107, 10, 111, 107, 10, 121, 101, 115, 10] ++ (tl H ++ [10]) ++ (tl J ++ [10])) rfl rfl (fun j hj => by
    have hj3 : j = 0 ∨ j = 1 ∨ j = 2 ∨ j = 3 ∨ j = 4 ∨ j = 5 := by simp at hj; omega
    rcases hj3 with rfl | rfl | rfl | rfl | rfl | rfl
    · exact .inr ⟨by simp only [List.getElem_cons_zero]; rw [tl_mk]; simp [machLine], by simp, mk [111, 107], by rw [size_mk]; decide, by simp [tl_mk], e0⟩
    · exact .inr ⟨by simp only [List.getElem_cons_zero, List.getElem_cons_succ]; rw [tl_mk]; simp [windLine], by simp, mk [111, 107], by rw [size_mk]; decide, by simp [tl_mk], e1⟩
    · exact .inr ⟨by simp only [List.getElem_cons_zero, List.getElem_cons_succ]; rw [tl_mk]; simp [checkLine], by simp, ⟨#[121, 101, 115]⟩, by decide, by simp [show tl (⟨#[121, 101, 115]⟩ : ByteArray) = [121, 101, 115] from rfl], e2⟩
    · exact .inr ⟨by simp only [List.getElem_cons_zero, List.getElem_cons_succ]; rw [tl_mk]; simp [stopsLine], by simp, H, by omega, by simp, e3⟩
    · exact .inr ⟨by simp only [List.getElem_cons_zero, List.getElem_cons_succ]; rw [tl_mk]; simp [boardsLine], by simp [length_tl]; omega, J, by omega, by simp, e4⟩
    · exact .inl ⟨by simp only [List.getElem_cons_zero, List.getElem_cons_succ]; rw [tl_mk], rfl, by simp⟩) (by simp)
  exact hrun
end Go.Proofs.YtnbdimbhklbadaaGreatDoor
