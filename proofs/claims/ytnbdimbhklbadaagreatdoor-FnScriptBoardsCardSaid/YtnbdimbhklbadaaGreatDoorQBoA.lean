/-
  Contracts of functions and plain laws that the law's proof uses (parts: BomA, Clon, BomB, BomC). Conditions: what each theorem names.
-/
import Derived.Test.YtnbdimbhklbadaaGreatDoorQMKeys
import Derived.OwnWalk
import Derived.Deep.AppendLies
import Derived.Deep.RegionHeld3
import Derived.Test.YtnbdimbhklbadaaGreatDoorQKeyA
import Derived.Test.YtnbdimbhklbadaaGreatDoorQStepA
import Derived.Test.YtnbdimbhklbadaaGreatDoorQScriptS
import Derived.Test.YtnbdimbhklbadaaGreatDoorQMnA
namespace Go.Proofs.YtnbdimbhklbadaaGreatDoor
open Go.RowKit Pl
set_option linter.unusedVariables false
def d1 (s : ByteArray) : Nat := dg ((tl s).headD 0)
def lx (l : Lnk) : Nat := d1 l.1
def ly (l : Lnk) : Nat := d1 l.2.1
theorem one_letter {s : ByteArray} (h : s.size = 1) (hl : wv (tl s) = true) : ∃ c, tl s = [c] ∧ isL c = true ∧ d1 s = dg c ∧ dg c < 10 := by
  obtain ⟨c, hc⟩ := List.length_eq_one_iff.1 (show (tl s).length = 1 by rw [length_tl]; exact h)
  have hi : isL c = true := wv_mem hl (by rw [hc]; simp)
  exact ⟨c, hc, hi, by unfold d1; rw [hc]; rfl, dg_lt hi⟩
theorem wv_parts {a b : List UInt8} (h : wv (a ++ b) = true) : wv a = true ∧ wv b = true := by
  simp only [wv, Bool.and_eq_true, decide_eq_true_eq, List.all_append, List.length_append] at h ⊢
  refine ⟨⟨?_, ?_⟩, ?_, ?_⟩ <;> first | omega | exact h.2.1 | exact h.2.2 | exact h.1.1 | exact h.1.2
structure LnkOk (l : Lnk) : Prop where
  s1 : l.1.size = 1
  s2 : l.2.1.size = 1
  w1 : wv (tl l.1) = true
  w2 : wv (tl l.2.1) = true
  ne : l.1 ≠ l.2.1
theorem menuV_ok {ms : List Lnk} (h : menuV ms) : ∀ l ∈ ms, LnkOk l := fun l hl => by
  obtain ⟨h1, h2, h3, h4, _⟩ := h.2.2.1 l hl
  exact ⟨h1, h2, (wv_parts h3).1, (wv_parts h3).2, h4⟩
theorem letter_at {s : ByteArray} (h : s.size = 1) (hl : wv (tl s) = true) : ∃ h0 : 0 < s.size, isL (s[0]'h0) = true ∧ dg (s[0]'h0) = d1 s ∧ d1 s < 10 := by
  obtain ⟨c, hc, hi, hd, hlt⟩ := one_letter h hl
  have h0 : 0 < s.size := by omega
  have e : (s[0]'h0) = c := by
    have h1 : (tl s)[0]? = some c := by rw [hc]; rfl
    have h2 : (tl s)[0]? = some (s[0]'h0) := by
      unfold tl
      simp [ByteArray.getElem_eq_getElem_data]
    rw [h1] at h2; injection h2 with h2; exact h2.symm
  exact ⟨h0, by rw [e]; exact hi, by rw [e, hd], by rw [hd]; exact hlt⟩
def deg (ms : List Lnk) (x : Nat) : Nat := (ms.map fun l => (if lx l = x then 1 else 0) + (if ly l = x then 1 else 0)).sum
theorem deg_snoc (ms : List Lnk) (l : Lnk) (x : Nat) : deg (ms ++ [l]) x = deg ms x + ((if lx l = x then 1 else 0) + (if ly l = x then 1 else 0)) := by
  unfold deg; rw [List.map_append, List.sum_append]; simp
theorem deg_le (ms : List Lnk) (x : Nat) : deg ms x ≤ 2 * ms.length := by
  induction ms with
  | nil => simp [deg]
  | cons l r ih =>
    have e : deg (l :: r) x = ((if lx l = x then 1 else 0) + (if ly l = x then 1 else 0)) + deg r x := by unfold deg; rw [List.map_cons, List.sum_cons]
    rw [e, List.length_cons]
    split <;> split <;> omega
def degs (ms : List Lnk) : List Nat := (List.range 10).map (deg ms)
theorem degs_len (ms : List Lnk) : (degs ms).length = 10 := by simp [degs]
theorem degs_at (ms : List Lnk) {x : Nat} (h : x < (degs ms).length) : (degs ms)[x] = deg ms x := by simp [degs]
theorem degs_snoc (ms : List Lnk) (l : Lnk) {x y : Nat} (hx : lx l = x) (hy : ly l = y) (hne : x ≠ y) (h1 : x < 10) (h2 : y < 10) : ((degs ms).set x (deg ms x + 1)).set y (deg ms y + 1) = degs (ms ++ [l]) := by
  refine List.ext_getElem (by simp [degs]) fun k hk _ => ?_
  rw [degs_at _ (by rw [degs_len]; simpa [degs] using hk), deg_snoc, hx, hy]
  rw [List.getElem_set, List.getElem_set]
  by_cases e1 : y = k
  · subst e1
    rw [if_pos rfl, if_neg hne, if_pos rfl]
  · rw [if_neg e1]
    by_cases e2 : x = k
    · subst e2
      rw [if_pos rfl, if_pos rfl, if_neg e1]
    · rw [if_neg e2, if_neg e2, if_neg e1, degs_at]; omega
abbrev iC (q : List Nat) : Array Value := (q.map fun (n : Nat) => Value.int .i64 (n : Int)).toArray
theorem iC_size (q : List Nat) : (iC q).size = q.length := by simp [iC]
theorem iC_get {q : List Nat} {k : Nat} (h : k < q.length) : (iC q)[k]? = some (.int .i64 (q[k] : Int)) := by simp [iC, h]
theorem iC_set (q : List Nat) (k n : Nat) : (iC q).setIfInBounds k (.int .i64 (n : Int)) = iC (q.set k n) := by
  apply Array.ext'
  simp only [iC, Array.toList_setIfInBounds]
  rw [List.map_set]
theorem iC_one (q : List Nat) : (iC q).all (·.oneCell') = true := by
  rw [Array.all_eq_true_iff_forall_mem]
  intro x hx
  simp [iC] at hx
  obtain ⟨n, _, rfl⟩ := hx
  rfl
theorem iSize {q : List Nat} (h : q.length = 10) : (Tryz.prog.info? 104).map (·.size) = some (iC q).size := by rw [iC_size, h]; kernel_rfl
set_option maxHeartbeats 4000000 in
set_option maxRecDepth 100000 in
theorem linkCounts_is (w : World) (A : Option Addr) (cap : Nat) (ms : List Lnk) (h : Rd w w.heap.size A (linkV ms)) (hc : ms.length ≤ cap) (hl : ms.length ≤ 100) (hv : ∀ l ∈ ms, LnkOk l) :
    Calls Tryz.prog 58 #[.slice A ms.length cap] w fun e w' => e = .returned (.agg (iC (degs ms))) ∧ Below w.heap.size w w' := by
  have HR := Lib.hid h; have HV := Lib.hid hv; clear h hv
  obtain ⟨wb, hwb⟩ : ∃ wb, wb = (w.alloc (.cells (iC (List.replicate 10 0)) 104)).alloc (.cells (iC (List.replicate 10 0)) 104) := ⟨_, rfl⟩
  have hbb : Below w.heap.size w wb := by rw [hwb]; exact ((Below.refl _ _).alloc (Nat.le_refl _) _).alloc (by simp) _
  have h0 : SB wb w.heap.size (iC (List.replicate 10 0)) 104 := by rw [hwb]; exact (SB.made w _ _).below ((Below.refl _ _).alloc (Nat.le_refl _) _)
  have h1 : SB wb (w.heap.size + 1) (iC (degs (ms.take 0))) 104 := by
    rw [hwb, show w.heap.size + 1 = (w.alloc (.cells (iC (List.replicate 10 0)) 104)).heap.size by simp]; exact SB.made _ _ _
  have HBB := Lib.hid hbb; have H0 := Lib.hid h0; have H1 := Lib.hid h1; clear hbb h0 h1
  go_enter Tryz.func58, Tryz.ntmps58
  go_wp2_with fail
  rw [show (w.alloc (.cells #[.int .i64 0, .int .i64 0, .int .i64 0, .int .i64 0, .int .i64 0, .int .i64 0, .int .i64 0, .int .i64 0, .int .i64 0, .int .i64 0] 104)).alloc (.cells #[.int .i64 0, .int .i64 0, .int .i64 0, .int .i64 0, .int .i64 0, .int .i64 0, .int .i64 0, .int .i64 0, .int .i64 0, .int .i64 0] 104) = wb from hwb.symm]
  clear hwb
  go_loopw [8] (fun i wr => ∃ k : Nat, k ≤ ms.length ∧ i = .int .i64 k ∧ Hid (SB wr w.heap.size (iC (List.replicate 10 0)) 104 ∧ SB wr (w.heap.size + 1) (iC (degs (ms.take k))) 104 ∧ Below w.heap.size w wr ∧ w.heap.size + 2 ≤ wr.heap.size)) (fun i _ => ms.length - (intOf i).toNat)
  case atStart => exact ⟨0, Nat.zero_le _, rfl, Lib.hid ⟨H0.out, H1.out, HBB.out, by have := H1.out.lt; omega⟩⟩
  case round =>
    obtain ⟨k, hk, rfl, HQ⟩ := hrel
    by_cases hlt : k < ms.length
    · obtain ⟨b0, off, hA, hbb, c0, c1, c2⟩ := (HR.out.below HQ.out.2.2.1).link hlt
      subst hA
      have hok := HV.out _ (List.getElem_mem hlt)
      obtain ⟨p0, p1, p2, p3⟩ := letter_at hok.s1 hok.w1
      obtain ⟨q0, q1, q2, q3⟩ := letter_at hok.s2 hok.w2
      have hxy : d1 ms[k].1 ≠ d1 ms[k].2.1 := by
        intro e
        obtain ⟨a, ha, ha1, ha2, _⟩ := one_letter hok.s1 hok.w1
        obtain ⟨b, hb, hb1, hb2, _⟩ := one_letter hok.s2 hok.w2
        refine hok.ne ?_
        rw [← mk_tl ms[k].1, ← mk_tl ms[k].2.1, ha, hb, ← letter_dg ha1, ← letter_dg hb1, ← ha2, ← hb2, e]
      have hsn := degs_snoc (ms.take k) ms[k] rfl rfl hxy p3 q3
      rw [← List.take_succ_eq_append_getElem hlt] at hsn
      have hdl := deg_le (ms.take k) 
      rw [List.length_take, Nat.min_eq_left hk] at hdl
      have HSN := Lib.hid hsn
      have HN1 := Lib.hid (fun w' => number_any _ w' p1)
      have HN2 := Lib.hid (fun w' => number_any _ w' q1)
      rw [p2] at HN1
      rw [q2] at HN2
      unfold lx ly at HSN
      clear hsn hok p1 p2 q1 q2
      generalize ms[k] = x at *
      obtain ⟨s, t, key⟩ := x
      simp only at *
      have hx10 : d1 s < 10 := p3
      have hy10 : d1 t < 10 := q3
      have hp0 : 0 < s.size := p0
      have hq0 : 0 < t.size := q0
      obtain ⟨B, hB⟩ : ∃ B, B = wr.heap.size := ⟨_, rfl⟩
      obtain ⟨D, hD⟩ : ∃ D, D = degs (ms.take k) := ⟨_, rfl⟩
      have hDl : D.length = 10 := by rw [hD]; exact degs_len _
      obtain ⟨x, hx⟩ : ∃ x, x = d1 s := ⟨_, rfl⟩
      obtain ⟨y, hy⟩ : ∃ y, y = d1 t := ⟨_, rfl⟩
      rw [← hx, ← hy, ← hD] at HSN
      rw [← hx] at HN1 hx10
      rw [← hy] at HN2 hy10
      obtain ⟨dx, hdx⟩ : ∃ dx, dx = deg (ms.take k) x := ⟨_, rfl⟩
      obtain ⟨dy, hdy⟩ : ∃ dy, dy = deg (ms.take k) y := ⟨_, rfl⟩
      rw [← hdx, ← hdy] at HSN
      have hdx2 : dx ≤ 200 := by rw [hdx]; have := hdl x; omega
      have hdy2 : dy ≤ 200 := by rw [hdy]; have := hdl y; omega
      have hDx : D[x]'(by omega) = dx := by subst hD; rw [degs_at]; exact hdx.symm
      have hDy : D[y]'(by omega) = dy := by subst hD; rw [degs_at]; exact hdy.symm
      have hne : x ≠ y := by rw [hx, hy]; exact hxy
      obtain ⟨W1, hW1⟩ : ∃ W1, W1 = wr.alloc (.cells #[.string s, .string t, .int .i64 (key : Int)] 50) := ⟨_, rfl⟩
      have hb1 : Below wr.heap.size wr W1 := by rw [hW1]; exact (Below.refl _ _).alloc (Nat.le_refl _) _
      obtain ⟨g0, g1, g2, g3⟩ := HQ.out
      rw [← hD] at g1
      have e1 : SB W1 (w.heap.size + 1) (iC D) 104 := g1.below hb1
      have e0 : SB W1 w.heap.size (iC (List.replicate 10 0)) 104 := g0.below hb1
      have e3 : SB W1 B #[.string s, .string t, .int .i64 (key : Int)] 50 := by rw [hW1, hB]; exact SB.made _ _ _
      have k1 : W1.cell? ⟨w.heap.size + 1, x, none⟩ = some (.int .i64 (dx : Int)) := e1.cell x _ (by rw [iC_get (by omega), hDx])
      have k1f := e1.frozen x
      have hBn : w.heap.size + 1 ≠ B := by omega
      obtain ⟨W2, hW2⟩ : ∃ W2, W2 = W1.setCell ⟨w.heap.size + 1, x, none⟩ (.int .i64 ((dx : Int) + 1)) := ⟨_, rfl⟩
      have f1 : SB W2 (w.heap.size + 1) (iC (D.set x (dx + 1))) 104 := by
        have h1 := e1.put x (.int .i64 ((dx + 1 : Nat) : Int))
        rw [iC_set] at h1
        rw [hW2]; exact h1
      have f0 : SB W2 w.heap.size (iC (List.replicate 10 0)) 104 := by rw [hW2]; exact e0.far (by omega) _ _
      have f3 : SB W2 B #[.string s, .string t, .int .i64 (key : Int)] 50 := by rw [hW2]; exact e3.far (by omega) _ _
      have k2 : W2.cell? ⟨B, 1, none⟩ = some (.string t) := f3.cell 1 _ rfl
      have k3 : W2.cell? ⟨w.heap.size + 1, y, none⟩ = some (.int .i64 (dy : Int)) := f1.cell y _ (by rw [iC_get (by rw [List.length_set]; omega), List.getElem_set, if_neg hne, hDy])
      have k3f := f1.frozen y
      rw [hW2] at k2
      have hb2 : Below w.heap.size w W2 := by rw [hW2]; exact (g2.trans (hb1.mono g2.size)).setCell (p := ⟨w.heap.size + 1, x, none⟩) (by simp) _
      have v1 : IntKind.i64.wrap ((dx : Int) + 1) = (dx : Int) + 1 := by rw [IntKind.wrap_i64]; omega
      have v2 : IntKind.i64.wrap ((dy : Int) + 1) = (dy : Int) + 1 := by rw [IntKind.wrap_i64]; omega
      have v3 : (x : Int) < 10 := by omega
      have v4 : (y : Int) < 10 := by omega
      have hz2 : W2.heap.size = wr.heap.size + 1 := by rw [hW2, hW1]; simp
      have HF := Lib.hid (show SB (W2.setCell ⟨w.heap.size + 1, y, none⟩ (.int .i64 ((dy : Int) + 1))) w.heap.size (iC (List.replicate 10 0)) 104 ∧ SB (W2.setCell ⟨w.heap.size + 1, y, none⟩ (.int .i64 ((dy : Int) + 1))) (w.heap.size + 1) (iC (degs (ms.take (k + 1)))) 104 ∧ Below w.heap.size w (W2.setCell ⟨w.heap.size + 1, y, none⟩ (.int .i64 ((dy : Int) + 1))) ∧ w.heap.size + 2 ≤ (W2.setCell ⟨w.heap.size + 1, y, none⟩ (.int .i64 ((dy : Int) + 1))).heap.size from
        ⟨f0.far (by omega) _ _, by
          have h1 := f1.put y (.int .i64 ((dy + 1 : Nat) : Int))
          rw [iC_set, HSN.out] at h1
          exact h1, hb2.setCell (p := ⟨w.heap.size + 1, y, none⟩) (by simp) _, by simp; omega⟩)
      have HW1 := Lib.hid hW1; have HW2 := Lib.hid hW2; have HB2 := Lib.hid hB
      clear hx hy hD hdx hdy hDx hDy hDl hxy hne hb1 g0 g1 g2 g3 e0 e1 e3 f0 f1 f3 hb2 hz2 hW1 hW2 hB hBn hdl p3 q3 HSN
      go_wp2_with fail
      refine (HN1.out _).mono ?_
      rintro _ _ ⟨rfl, rfl⟩
      rw [← HW1.out, ← HB2.out]
      clear c0 c1 c2
      go_wp2_with fail
      refine (HN2.out _).mono ?_
      rintro _ _ ⟨rfl, rfl⟩
      rw [← HW2.out]
      go_wp2_with fail
      go_roundw
      case rel => exact ⟨k + 1, by omega, by go_num, HF⟩
      case measure => simp [intOf]; omega
    · have hke : k = ms.length := by omega
      subst hke
      obtain ⟨g0, g1, g2, g3⟩ := HQ.out
      rw [List.take_length] at g1
      have HQ0 := Lib.hid g0; have HP := Lib.hid g1; have HBL := Lib.hid g2
      clear g0 g1 g2 g3
      go_wp2_with (first | (refine wpList_load_row rfl 104 _ rfl (w.heap.size + 1) rfl _ _ _ _ HP.out Tryz.underlying104 rfl (iSize (degs_len ms)) ?_) | (refine wpList_store_row rfl 104 _ _ rfl w.heap.size (iC (degs ms)) rfl rfl _ _ HQ0.out (iSize (degs_len ms)) (by rw [iC_size, iC_size, degs_len]; rfl) (iC_one _) ?_))
      have hs := setRow_heap wr w.heap.size _ (iC (degs ms)) _ _ HQ0.out
      refine bodyPost_ret (results_cell_row rfl _ _ w.heap.size _ (iC (degs ms)) _ _ rfl hs Tryz.underlying104 rfl (iSize (degs_len ms))) rfl ⟨rfl, ?_⟩
      exact below_setRow HBL.out (Nat.le_refl _) _
def centTo (ms : List Lnk) : Nat → Nat
  | 0 => 0
  | k + 1 => if deg ms (centTo ms k) < deg ms k then k else centTo ms k
def cent (ms : List Lnk) : Nat := centTo ms 10
theorem centTo_lt (ms : List Lnk) : ∀ k, centTo ms k = 0 ∨ centTo ms k < k
  | 0 => .inl rfl
  | k + 1 => by
    unfold centTo
    split
    · exact .inr (Nat.lt_succ_self k)
    · rcases centTo_lt ms k with h | h
      · exact .inl h
      · exact .inr (by omega)
theorem cent_lt (ms : List Lnk) : cent ms < 10 := by rcases centTo_lt ms 10 with h | h <;> (unfold cent; omega)
set_option maxHeartbeats 4000000 in
set_option maxRecDepth 100000 in
theorem index_ints (w : World) (p : List Nat) (k : Nat) (hk : k < p.length) (h10 : p.length = 10) : (Instr.index 104 (.agg (iC p)) (.int .i64 (k : Int))).run Tryz.prog w = .ok (.int .i64 (p[k] : Int)) w := by
  have h1 : (iC p)[k]? = some (.int .i64 (p[k] : Int)) := iC_get hk
  have h2 : (iC p).size = p.length := iC_size p
  have h3 : k < (iC p).size := by rw [h2]; exact hk
  rw [Array.getElem?_eq_getElem h3] at h1
  injection h1 with h1
  have h4 : k < 10 := by omega
  unfold Instr.index
  simp [go_sem, hk, h4]
set_option maxHeartbeats 4000000 in
set_option maxRecDepth 100000 in
theorem centralLetter_is (w : World) (A : Option Addr) (cap : Nat) (ms : List Lnk) (h : Rd w w.heap.size A (linkV ms)) (hc : ms.length ≤ cap) (hv : menuV ms) :
    Calls Tryz.prog 29 #[.slice A ms.length cap] w fun e w' => e = .returned (.string (mk [letter (cent ms)])) ∧ Below w.heap.size w w' := by
  have HMV := Lib.hid (menuValid_true w A cap ms h hc hv)
  have HLC := Lib.hid (fun (w' : World) (hb : Below w.heap.size w w') => linkCounts_is w' A cap ms ((h.below hb).mono hb.size) hc (by have := hv.2.1; omega) (menuV_ok hv))
  have hdl := fun x => deg_le ms x
  have hl12 := hv.2.1
  have HDL := Lib.hid hdl
  clear h hv hdl
  obtain ⟨D, hD⟩ : ∃ D, D = degs ms := ⟨_, rfl⟩
  have hDl : D.length = 10 := by rw [hD]; exact degs_len _
  have hDa : ∀ x, x < 10 → D[x]? = some (deg ms x) := fun x hx => by subst hD; rw [List.getElem?_eq_getElem (by rw [degs_len]; exact hx), degs_at]
  rw [← hD] at HLC
  have HDl := Lib.hid hDl; have HDa := Lib.hid hDa
  clear hD hDl hDa
  go_enter Tryz.func29, Tryz.ntmps29
  go_wp2_with fail
  refine HMV.out.mono ?_
  rintro _ w1 ⟨rfl, hb1⟩
  have HB1 := Lib.hid hb1; clear hb1
  go_wp2_with fail
  refine (HLC.out _ HB1.out).mono ?_
  rintro _ w2 ⟨rfl, hb2⟩
  have HB2 := Lib.hid (HB1.out.trans (hb2.mono HB1.out.size)); clear hb2
  have h0 : SB (w2.alloc (.cells (iC (List.replicate 10 0)) 104)) w2.heap.size (iC (List.replicate 10 0)) 104 := SB.made _ _ _
  have H0 := Lib.hid h0; clear h0
  have hs := setRow_heap (w2.alloc (.cells (iC (List.replicate 10 0)) 104)) w2.heap.size _ (iC D) _ _ H0.out
  obtain ⟨w3, hw3⟩ : ∃ w3, w3 = (w2.alloc (.cells #[.int .i64 0, .int .i64 0, .int .i64 0, .int .i64 0, .int .i64 0, .int .i64 0, .int .i64 0, .int .i64 0, .int .i64 0, .int .i64 0] 104)).setRow w2.heap.size (iC D) := ⟨_, rfl⟩
  have HS := Lib.hid hs; clear hs
  have h3 : SB w3 w2.heap.size (iC D) 104 := by rw [hw3]; exact HS.out
  have hb3 : Below w.heap.size w w3 := by rw [hw3]; exact below_setRow (HB2.out.alloc HB2.out.size _) HB2.out.size _
  have HB3 := Lib.hid hb3; have H3 := Lib.hid h3; clear hb3 h3
  go_wp2_with (first | (refine wpList_store_row rfl 104 _ _ rfl w2.heap.size (iC D) rfl rfl _ _ H0.out (iSize HDl.out) (by rw [iC_size, iC_size, HDl.out]; rfl) (iC_one _) ?_) | (refine wpList_load_row rfl 104 _ rfl w2.heap.size rfl _ _ _ _ HS.out Tryz.underlying104 rfl (iSize HDl.out) ?_))
  rw [← hw3]
  obtain ⟨B, hB⟩ : ∃ B, B = w2.heap.size := ⟨_, rfl⟩
  rw [← hB] at H3 ⊢
  clear hw3 HS H0
  have HBe := Lib.hid hB; clear hB
  go_loopw [3, 13] (fun b i wr => ∃ k : Nat, k ≤ 10 ∧ i = .int .i64 k ∧ b = .int .i64 (centTo ms k : Int) ∧ wr = w3) (fun _ i _ => 10 - (intOf i).toNat)
  case atStart => exact ⟨0, by omega, rfl, rfl, rfl⟩
  case round =>
    obtain ⟨k, hk, rfl, rfl, rfl⟩ := hrel
    by_cases hlt : k < 10
    · obtain ⟨c, hc⟩ : ∃ c, c = centTo ms k := ⟨_, rfl⟩
      have hc10 : c < 10 := by rcases centTo_lt ms k with h | h <;> omega
      have hx := fun w' => index_ints w' D k (by rw [HDl.out]; exact hlt) HDl.out
      have hdk : D[k]'(by rw [HDl.out]; exact hlt) = deg ms k := by
        have h1 := HDa.out k hlt
        rw [List.getElem?_eq_getElem (by rw [HDl.out]; exact hlt)] at h1
        injection h1
      simp only [hdk] at hx
      have hcc : wr.cell? ⟨B, c, none⟩ = some (.int .i64 (deg ms c : Int)) := H3.out.cell c _ (by
        have h1 := HDa.out c hc10
        rw [List.getElem?_eq_getElem (by rw [HDl.out]; exact hc10)] at h1
        injection h1 with h1
        rw [iC_get (by rw [HDl.out]; exact hc10), h1])
      have hnx : centTo ms (k + 1) = if deg ms c < deg ms k then k else c := by rw [hc]; rfl
      rw [← hc]
      clear hdk hc
      have v1 : (c : Int) < 10 := by omega
      have v2 : (k : Int) < 10 := by omega
      by_cases hgt : deg ms c < deg ms k
      · rw [if_pos hgt] at hnx
        have HNX := Lib.hid hnx
        generalize deg ms k = dk at *
        generalize deg ms c = dc at *
        clear hnx
        go_wp2_with fail
        refine ⟨⟨k + 1, by omega, by go_num, by rw [HNX.out], trivial⟩, by simp [intOf]; omega⟩
      · rw [if_neg hgt] at hnx
        have HNX := Lib.hid hnx
        generalize deg ms k = dk at *
        generalize deg ms c = dc at *
        clear hnx
        go_wp2_with fail
        refine ⟨⟨k + 1, by omega, by go_num, by rw [HNX.out], trivial⟩, by simp [intOf]; omega⟩
    · have hke : k = 10 := by omega
      subst hke
      have hlet := fun w' => letter_any (cent ms) w' (cent_lt ms)
      have HLET := Lib.hid hlet; clear hlet
      rw [show centTo ms 10 = cent ms from rfl]
      have hcv := conv_string (P := Tryz.prog) (wr.alloc (.cells #[.int .u8 (letter (cent ms)).toNat] 5)) 22 9 5 wr.heap.size 0 1 [letter (cent ms)] Tryz.underlying22 Tryz.underlying5 Tryz.underlying9 (fun j hj => by
        obtain rfl : j = 0 := by simpa using hj
        exact (SB.made wr #[.int .u8 (letter (cent ms)).toNat] 5).cell 0 _ rfl)
      rw [show ([letter (cent ms)] : List UInt8).length = 1 from rfl] at hcv
      go_wp2_with fail
      refine (HLET.out _).mono ?_
      rintro _ _ ⟨rfl, rfl⟩
      go_wp2_with fail
      go_ret
      exact ⟨rfl, HB3.out.alloc HB3.out.size _⟩
end Go.Proofs.YtnbdimbhklbadaaGreatDoor
namespace Go.Proofs.YtnbdimbhklbadaaGreatDoor
open Go.RowKit Pl
set_option linter.unusedVariables false
theorem two_sbs (w : World) (a b : Array Value) (T U : TypeId) (w0 : World) (h : w0 = (w.alloc (.cells a T)).alloc (.cells b U)) : Below w.heap.size w w0 ∧ SB w0 w.heap.size a T ∧ SB w0 (w.heap.size + 1) b U := by
  subst h
  refine ⟨((Below.refl _ _).alloc (Nat.le_refl _) _).alloc (by simp) _, (SB.made w a T).below ((Below.refl _ _).alloc (Nat.le_refl _) _), ?_⟩
  have h1 := SB.made (w.alloc (.cells a T)) b U
  rw [show (w.alloc (.cells a T)).heap.size = w.heap.size + 1 by simp] at h1
  exact h1
theorem cell_set_ne {w : World} {p k : Nat} (hne : p ≠ k) (i j : Nat) (v : Value) : (w.setCell ⟨k, j, none⟩ v).cell? ⟨p, i, none⟩ = w.cell? ⟨p, i, none⟩ :=
  World.cell?_of_block (a := ⟨p, i, none⟩) (Below.heap_setCell w ⟨k, j, none⟩ v p hne)
theorem keep2P {W : World} {B X : Nat} (hB : B ≠ X) {a b u v : Value} (h : W.cell? ⟨B, 0, none⟩ = some a ∧ W.cell? ⟨B, 1, none⟩ = some b) :
    ((W.setCell ⟨X, 0, none⟩ u).setCell ⟨X, 1, none⟩ v).cell? ⟨B, 0, none⟩ = some a ∧ ((W.setCell ⟨X, 0, none⟩ u).setCell ⟨X, 1, none⟩ v).cell? ⟨B, 1, none⟩ = some b := by
  simp only [cell_set_ne hB]; exact h
theorem ten_range : Ten (List.range 10) := ⟨rfl, fun n hn => List.mem_range.1 hn⟩
theorem slice_some_nil1 {P : Program} (w : World) (d : Nat) (t e : TypeId) (a : Addr) (l c : Nat) (h : P.underlying t = some (.slice e)) : (Op.equalIn (d + 1) t (.slice (some a) l c) (.slice none 0 0)).run P w = .ok false w := by
  simp [Op.equalIn, run_underlying h]
theorem slice_some_nil2 {P : Program} (w : World) (t e : TypeId) (a : Addr) (l c : Nat) (h : P.underlying t = some (.slice e)) : (Op.equal t (.slice (some a) l c) (.slice none 0 0)).run P w = .ok false w := slice_some_nil1 w 9999 t e a l c h
theorem slice_some_nil {P : Program} (w : World) (t e : TypeId) (a : Addr) (l c : Nat) (h : P.underlying t = some (.slice e)) : (binOp .eql t (.slice (some a) l c) (.slice none 0 0)).run P w = .ok (.bool false) w := by
  simp [binOp, slice_some_nil2 w t e a l c h]
set_option maxHeartbeats 4000000 in
set_option maxRecDepth 100000 in
theorem cloneR_is (w : World) (A : Option Addr) (cap : Nat) (rs : List (ByteArray × ByteArray)) (h : Rd w w.heap.size A (rotV rs)) (h1 : 1 ≤ rs.length) (hl : rs.length ≤ 100) :
    Calls Tryz.prog 153 #[.slice A rs.length cap] w fun e w' => ∃ A' c', e = .returned (.slice A' rs.length c') ∧ w'.ownsRow w.heap.size 142 2 (.slice A' rs.length c') rs.length (rotV rs) ∧ Below w.heap.size w w' := by
  obtain ⟨iR, hi, hz0, hz1, hz2⟩ := info_parts Tryz.infoR
  have HI := Lib.hid hi; have HZ0 := Lib.hid hz0; have HZ1 := Lib.hid hz1; have HZ2 := Lib.hid hz2
  clear hi hz0 hz1 hz2
  have hm0 : (w.alloc (.cells #[] 142)).ownsRow w.heap.size 142 2 (.slice (some ⟨w.heap.size, 0, none⟩) 0 0) 0 [] := World.ownsRow_made w #[] 0 (Nat.le_refl _) (by decide) rfl
  have hb0 : Below w.heap.size w (w.alloc (.cells #[] 142)) := (Below.refl _ _).alloc (Nat.le_refl _) _
  have hn : rotV rs ≠ [] := by
    intro e
    have h2 := congrArg List.length e
    rw [length_rotV, List.length_nil] at h2
    omega
  have h9 := h.below hb0
  obtain ⟨b, off, rfl, hb, hcell⟩ := h9 hn
  have hcl : ∀ j u, (rotV rs)[j]? = some u → (w.alloc (.cells #[] 142)).cell? ((⟨b, off, none⟩ : Addr).add j) = some u := by
    intro j u hj
    obtain ⟨hl, rfl⟩ := List.getElem?_eq_some_iff.1 hj
    rw [add_none]; exact hcell j hl
  have hlen : (rotV rs).length = rs.length * 2 := length_rotV rs
  have h63 : 0 + rs.length ≤ maxLen := by unfold maxLen; omega
  have hbt : (0 + rs.length) * 32 ≤ 140737488355328 := by omega
  have HM0 := Lib.hid hm0; have HB0 := Lib.hid hb0; have HCL := Lib.hid hcl; have HLEN := Lib.hid hlen; have H63 := Lib.hid h63; have HBT := Lib.hid hbt
  have H1 := Lib.hid (show 0 < rs.length from h1); have HON := Lib.hid (rotV_one rs)
  clear hm0 hb0 hcl hlen h63 hbt hcell hb hn h h9 h1 hl
  have hnil := fun (w' : World) (M : Nat) => slice_some_nil (P := Tryz.prog) w' 23 _ ⟨b, off, none⟩ M cap Tryz.undR
  generalize rotV rs = V at HCL HLEN HON ⊢
  generalize rs.length = M at HLEN H63 HBT H1 ⊢
  go_enter Tryz.func153, Tryz.ntmps153
  go_wp2_with (at_builtin; go_loud (refine wpList_append_lies _ rfl (.tmp 5) (.tmp 6) 23 rfl w.heap.size 142 iR _ 2 32 Tryz.undR HI.out HZ0.out HZ1.out HZ2.out rfl (by decide) _ 0 [] rfl HM0.out ⟨b, off, none⟩ M cap V rfl HLEN.out HCL.out HON.out H1.out H63.out HBT.out HB0.out.size _ rfl ?_))
  intro g c w1 ho1 hg1 hat1 hlt1
  have hb1 := HB0.out.grown hg1 HB0.out.size (fun k e => (HM0.out.lt k e).1)
  clear hg1 hat1 hlt1
  have HO1 := Lib.hid ho1; have HB1 := Lib.hid hb1
  clear ho1 hb1
  go_wp2_with fail
  go_ret
  exact ⟨_, _, rfl, HO1.out, HB1.out⟩
set_option maxHeartbeats 4000000 in
set_option maxRecDepth 100000 in
theorem identityPerm_is (w : World) :
    Calls Tryz.prog 57 #[] w fun e w' => e = .returned (.string (mk ((List.range 10).map letter))) ∧ Below w.heap.size w w' := by
  have hid := fun w' => identity_any w'
  have hst := fun w' => permStr_any w' (List.range 10) ten_range
  have HID := Lib.hid hid; have HST := Lib.hid hst
  clear hid hst
  generalize List.range 10 = L at HID HST ⊢
  go_enter Tryz.func57, Tryz.ntmps57
  go_wp2_with fail
  refine (HID.out _).mono ?_
  rintro _ w1 ⟨rfl, hb1⟩
  have HB1 := Lib.hid hb1; clear hb1
  go_wp2_with fail
  refine (HST.out _).mono ?_
  rintro _ w2 ⟨rfl, hb2⟩
  have HB2 := Lib.hid (HB1.out.trans (hb2.mono HB1.out.size)); clear hb2
  go_wp2_with fail
  go_ret
  exact ⟨rfl, HB2.out⟩
set_option maxHeartbeats 4000000 in
set_option maxRecDepth 100000 in
theorem cloneW_is (w : World) (A : Option Addr) (cap : Nat) (rs : List (ByteArray × ByteArray)) (p : ByteArray) (h : Rd w w.heap.size A (rotV rs)) (h1 : 1 ≤ rs.length) (hl : rs.length ≤ 100) :
    Calls Tryz.prog 95 #[.agg #[.slice A rs.length cap, .string p]] w fun e w' => ∃ A' c', e = .returned (.agg #[.slice A' rs.length c', .string p]) ∧ w'.ownsRow w.heap.size 142 2 (.slice A' rs.length c') rs.length (rotV rs) ∧ Below w.heap.size w w' := by
  obtain ⟨w0, hw0⟩ : ∃ w0, w0 = (w.alloc (.cells #[.slice A rs.length cap, .string p] 25)).alloc (.cells #[.slice none 0 0, .string ⟨#[]⟩] 25) := ⟨_, rfl⟩
  obtain ⟨hb0, hs0, hq0⟩ := two_sbs w _ _ _ _ w0 hw0
  have hcl : ∀ w' : World, Below w0.heap.size w0 w' → Calls Tryz.prog 153 #[.slice A rs.length cap] w' fun e w'' => ∃ A' c', e = .returned (.slice A' rs.length c') ∧ w''.ownsRow w0.heap.size 142 2 (.slice A' rs.length c') rs.length (rotV rs) ∧ Below w0.heap.size w0 w'' := by
    intro w' hb
    have hb2 := hb0.trans (hb.mono hb0.size)
    refine (cloneR_is w' A cap rs ((h.below hb2).mono hb2.size) h1 hl).mono ?_
    rintro e w'' ⟨A', c', rfl, ho, hb3⟩
    exact ⟨A', c', rfl, own_mono3 ho hb.size, hb.trans (hb3.mono hb.size)⟩
  have HCL := Lib.hid hcl; have HB0 := Lib.hid hb0
  have hBw : w.heap.size ≤ w.heap.size + 1 := Nat.le_succ _
  clear h h1 hl hcl hb0
  generalize rotV rs = V at HCL ⊢
  generalize rs.length = M at hw0 hs0 hq0 HCL ⊢
  obtain ⟨B, hB⟩ : ∃ B, B = w.heap.size := ⟨_, rfl⟩
  have HBW := Lib.hid (show w.heap.size ≤ B + 1 by rw [hB]; exact Nat.le_succ _)
  rw [← hB] at hs0 hq0
  have HS0 := Lib.hid hs0; have HQ0 := Lib.hid hq0
  have hs : ∀ W' : World, Below w0.heap.size w0 W' → (W'.cell? ⟨B, 0, none⟩ = some (.slice A M cap) ∧ W'.cell? ⟨B, 1, none⟩ = some (.string p)) := fun W' hb => (HS0.out.below hb).two_cells
  have HSS := Lib.hid hs
  have hbr : Below w0.heap.size w0 w0 := Below.refl _ _
  have hbd : Below w0.heap.size w0 w0.drew := (Below.refl _ _).drew
  clear hs0 hq0 hs hBw
  go_enter Tryz.func95, Tryz.ntmps95
  go_wp2_with fail
  rw [← hw0, ← hB]
  clear hw0 hB
  go_wp2_with fail
  go_region_held3 (fun W' => W'.cell? ⟨B, 0, none⟩ = some (.slice A M cap) ∧ W'.cell? ⟨B, 1, none⟩ = some (.string p)) (first | with_reducible assumption | with_reducible exact HSS.out _ (by with_reducible assumption) | with_reducible exact keep2P (Nat.ne_of_lt (Nat.lt_succ_self B)) (HSS.out _ (by with_reducible assumption)) | fail) (first | (go_at_call 153; refine (HCL.out _ (by with_reducible assumption)).mono ?_; rintro _ w7 ⟨Ao, co, rfl, hoo, b7⟩; have hq7 := HQ0.out.below b7; obtain ⟨⟨x0, x1⟩, f0, f1⟩ := hq7.twoC; have HQ7 := Lib.hid hq7; clear hq7) | fail)
  all_goals
    have hne := own_ne_type hoo HQ7.out (by decide)
    have HSF := Lib.hid (HQ7.out.two (.slice Ao M co) (.string p))
    have HOF := Lib.hid (own_mono3 (own_set (own_set hoo hne 0 (.slice Ao M co)) hne 1 (.string p)) HB0.out.size)
    have HBF := Lib.hid (((HB0.out.trans (b7.mono HB0.out.size)).setCell (p := ⟨B + 1, 0, none⟩) HBW.out (.slice Ao M co)).setCell (p := ⟨B + 1, 1, none⟩) HBW.out (.string p))
    go_wp2_with fail
    refine bodyPost_ret (results_cell_row rfl _ _ (B + 1) _ #[.slice Ao M co, .string p] _ _ rfl HSF.out Tryz.underlying25 rfl whlSize) rfl ⟨Ao, co, rfl, HOF.out, HBF.out⟩
end Go.Proofs.YtnbdimbhklbadaaGreatDoor
namespace Go.Proofs.YtnbdimbhklbadaaGreatDoor
open Go.RowKit Pl
set_option linter.unusedVariables false
theorem keepB3 {W : World} {B X : Nat} (hB : B ≠ X) {a b c u v y z : Value} (h : W.cell? ⟨B, 0, none⟩ = some a ∧ W.cell? ⟨B, 1, none⟩ = some b ∧ W.cell? ⟨B, 2, none⟩ = some c) :
    ((((W.setCell ⟨X, 0, none⟩ u).setCell ⟨X, 1, none⟩ v).setCell ⟨X, 2, none⟩ y).setCell ⟨X, 3, none⟩ z).cell? ⟨B, 0, none⟩ = some a ∧ ((((W.setCell ⟨X, 0, none⟩ u).setCell ⟨X, 1, none⟩ v).setCell ⟨X, 2, none⟩ y).setCell ⟨X, 3, none⟩ z).cell? ⟨B, 1, none⟩ = some b ∧ ((((W.setCell ⟨X, 0, none⟩ u).setCell ⟨X, 1, none⟩ v).setCell ⟨X, 2, none⟩ y).setCell ⟨X, 3, none⟩ z).cell? ⟨B, 2, none⟩ = some c := by
  simp only [cell_set_ne hB]; exact h
set_option maxHeartbeats 8000000 in
set_option maxRecDepth 100000 in
theorem withPlugs_yes (w : World) (A : Option Addr) (cap : Nat) (rs : List (ByteArray × ByteArray)) (p g l s : ByteArray) (h : Rd w w.heap.size A (rotV rs)) (hc : rs.length ≤ cap) (hv : MachV rs p g l) (hs : IsBoard s) :
    Calls Tryz.prog 56 #[.agg #[.slice A rs.length cap, .string p, .string g, .string l], .string s] w fun e w' => ∃ A' c', e = .returned (.tuple #[.agg #[.slice A' rs.length c', .string p, .string g, .string s], .bool true]) ∧ w'.ownsRow w.heap.size 142 2 (.slice A' rs.length c') rs.length (rotV rs) ∧ Below w.heap.size w w' := by
  have hl3 : rs.length ≤ 3 := hv.1.1.2.1
  have hl1 : 1 ≤ rs.length := hv.1.1.1
  obtain ⟨w0, hw0⟩ : ∃ w0, w0 = (w.alloc (.cells #[.slice A rs.length cap, .string p, .string g, .string l] 27)).alloc (.cells #[.slice none 0 0, .string ⟨#[]⟩, .string ⟨#[]⟩, .string ⟨#[]⟩] 27) := ⟨_, rfl⟩
  obtain ⟨hb0, hs0, hq0⟩ := two_sbs w _ _ _ _ w0 hw0
  have hmv := fun (w' : World) (h' : Rd w' w'.heap.size A (rotV rs)) => machineValid_any w' A cap rs p g l true h' hc (by omega) (by simp [hv])
  have hpv := fun (w' : World) => plugsValid_any w' s true (by simp [hs])
  have hcl : ∀ (w1 : World) (hb1 : Below w.heap.size w w1) (w' : World) (hb : Below w1.heap.size w1 w'), Calls Tryz.prog 95 #[.agg #[.slice A rs.length cap, .string p]] w' fun e w'' => ∃ A' c', e = .returned (.agg #[.slice A' rs.length c', .string p]) ∧ w''.ownsRow w1.heap.size 142 2 (.slice A' rs.length c') rs.length (rotV rs) ∧ Below w'.heap.size w' w'' := by
    intro w1 hb1 w' hb
    refine (cloneW_is w' A cap rs p ((h.below (hb1.trans (hb.mono hb1.size))).mono (hb1.trans (hb.mono hb1.size)).size) hl1 (by omega)).mono ?_
    rintro e w'' ⟨A', c', rfl, ho, hb3⟩
    exact ⟨A', c', rfl, own_mono3 ho hb.size, hb3⟩
  have hrd := (h.below hb0).mono hb0.size
  have HMV := Lib.hid hmv; have HPV := Lib.hid hpv; have HCL := Lib.hid hcl; have HB0 := Lib.hid hb0
  have HRD := Lib.hid hrd
  clear h hc hv hs hmv hpv hcl hb0 hrd
  generalize rotV rs = V at HCL HMV HRD ⊢
  generalize rs.length = M at hw0 hs0 hq0 HCL HMV hl3 hl1 ⊢
  obtain ⟨B, hB⟩ : ∃ B, B = w.heap.size := ⟨_, rfl⟩
  have HBW := Lib.hid (show w.heap.size ≤ B + 1 by rw [hB]; exact Nat.le_succ _)
  rw [← hB] at hs0 hq0
  have HS0 := Lib.hid hs0; have HQ0 := Lib.hid hq0
  clear hs0 hq0
  obtain ⟨⟨c0, c1, c2, c3⟩, _⟩ := HS0.out.all4
  go_enter Tryz.func56, Tryz.ntmps56
  go_wp2_with fail
  rw [← hw0, ← hB]
  clear hw0 hB
  go_wp2_with fail
  refine (HMV.out _ HRD.out).mono ?_
  rintro _ w1 ⟨rfl, hb1⟩
  have HB1 := Lib.hid (HB0.out.trans (hb1.mono HB0.out.size)); have HS1 := Lib.hid (HS0.out.below hb1); have HQ1 := Lib.hid (HQ0.out.below hb1)
  clear hb1 c0 c1 c2 c3 HB0 HS0 HQ0 HRD
  go_wp2_with fail
  refine (HPV.out _).mono ?_
  rintro _ w2 ⟨rfl, hb2⟩
  have HB2 := Lib.hid (HB1.out.trans (hb2.mono HB1.out.size)); have HS2 := Lib.hid (HS1.out.below hb2); have HQ2 := Lib.hid (HQ1.out.below hb2)
  clear hb2 HB1 HS1 HQ1
  have hs : ∀ W' : World, Below w2.heap.size w2 W' → (W'.cell? ⟨B, 0, none⟩ = some (.slice A M cap) ∧ W'.cell? ⟨B, 1, none⟩ = some (.string p) ∧ W'.cell? ⟨B, 2, none⟩ = some (.string g)) := fun W' hb => by
    obtain ⟨⟨q0, q1, q2, q3⟩, _⟩ := (HS2.out.below hb).all4
    exact ⟨q0, q1, q2⟩
  have HSS := Lib.hid hs
  have hcc := HCL.out w2 HB2.out
  have HCC := Lib.hid hcc
  have hbr : Below w2.heap.size w2 w2 := Below.refl _ _
  have hbd : Below w2.heap.size w2 w2.drew := (Below.refl _ _).drew
  clear hs hcc HCL
  go_wp2_with fail
  go_region_held3 (fun W' => W'.cell? ⟨B, 0, none⟩ = some (.slice A M cap) ∧ W'.cell? ⟨B, 1, none⟩ = some (.string p) ∧ W'.cell? ⟨B, 2, none⟩ = some (.string g)) (first | with_reducible assumption | with_reducible exact HSS.out _ (by with_reducible assumption) | with_reducible exact keepB3 (Nat.ne_of_lt (Nat.lt_succ_self B)) (HSS.out _ (by with_reducible assumption)) | fail) (first | (go_at_call 95; refine (HCC.out _ (by with_reducible assumption)).mono ?_; rintro _ w7 ⟨Ao, co, rfl, hoo, hb7⟩; have bz := bel_on (a := w2) (by with_reducible assumption) hb7; obtain ⟨⟨x0, x1, x2, x3⟩, f0, f1, f2, f3⟩ := (HQ2.out.below bz).all4) | fail)
  all_goals
    have hqz := HQ2.out.below bz
    have hne := own_ne_type hoo hqz (by decide)
    have HSF := Lib.hid (hqz.four (.slice Ao M co) (.string p) (.string g) (.string s))
    have HOF := Lib.hid (own_mono3 (own_set (own_set (own_set (own_set hoo hne 0 (.slice Ao M co)) hne 1 (.string p)) hne 2 (.string g)) hne 3 (.string s)) HB2.out.size)
    have HBF := Lib.hid (((((HB2.out.trans (bz.mono HB2.out.size)).setCell (p := ⟨B + 1, 0, none⟩) HBW.out (.slice Ao M co)).setCell (p := ⟨B + 1, 1, none⟩) HBW.out (.string p)).setCell (p := ⟨B + 1, 2, none⟩) HBW.out (.string g)).setCell (p := ⟨B + 1, 3, none⟩) HBW.out (.string s))
    clear x0 x1 x2 x3 f0 f1 f2 f3 hoo bz hb7 hqz
    go_wp2_with fail
    refine bodyPost_ret (results_st_tmp rfl _ _ (B + 1) _ #[.slice Ao M co, .string p, .string g, .string s] _ _ rfl HSF.out Tryz.underlying27 ⟨_, rfl⟩ macSize) rfl ⟨Ao, co, rfl, HOF.out, HBF.out⟩
end Go.Proofs.YtnbdimbhklbadaaGreatDoor
namespace Go.Proofs.YtnbdimbhklbadaaGreatDoor
open Go.RowKit Pl
set_option linter.unusedVariables false
abbrev Wir := Nat × List Nat
def wirV (x : Wir) : List Value := .int .i64 (x.1 : Int) :: pV x.2
def wireV (l : List Wir) : List Value := l.flatMap wirV
theorem wireV_snoc (l : List Wir) (x : Wir) : wireV l ++ wirV x = wireV (l ++ [x]) := by unfold wireV; rw [List.flatMap_append]; simp
abbrev Edg := Nat × Nat × List Nat
def edgs (K : Nat → List Nat) (ms : List Lnk) : List Edg := ms.map fun l => (lx l, ly l, K l.2.2)
def wirs (es : List Edg) (x : Nat) : List Wir := es.flatMap fun e => (if e.1 = x then [(e.2.1, e.2.2)] else []) ++ (if e.2.1 = x then [(e.1, e.2.2)] else [])
theorem wirs_snoc (es : List Edg) (e : Edg) (x : Nat) : wirs (es ++ [e]) x = wirs es x ++ ((if e.1 = x then [(e.2.1, e.2.2)] else []) ++ (if e.2.1 = x then [(e.1, e.2.2)] else [])) := by
  unfold wirs; rw [List.flatMap_append]; simp
theorem wirs_len (es : List Edg) (x : Nat) : (wirs es x).length ≤ 2 * es.length := by
  induction es with
  | nil => simp [wirs]
  | cons e r ih =>
    have h1 : wirs (e :: r) x = ((if e.1 = x then [(e.2.1, e.2.2)] else []) ++ (if e.2.1 = x then [(e.1, e.2.2)] else [])) ++ wirs r x := by unfold wirs; rw [List.flatMap_cons]
    rw [h1, List.length_append, List.length_append, List.length_cons]
    split <;> split <;> simp <;> omega
theorem edgs_len (K : Nat → List Nat) (ms : List Lnk) : (edgs K ms).length = ms.length := by unfold edgs; rw [List.length_map]
theorem edgs_take (K : Nat → List Nat) (ms : List Lnk) {k : Nat} (h : k < ms.length) : edgs K (ms.take (k + 1)) = edgs K (ms.take k) ++ [(lx ms[k], ly ms[k], K ms[k].2.2)] := by
  unfold edgs; rw [List.take_succ_eq_append_getElem h, List.map_append]; rfl
theorem own_at {W W1 : World} {base : Nat} {e : TypeId} {s n : Nat} {v : Value} {xs : List Value} (h : W.ownsRow base e s v n xs) (hk : ∀ j, v.ownBlock = some j → W1.heap[j]? = W.heap[j]?) : W1.ownsRow base e s v n xs := by
  obtain ⟨h1, h2 | ⟨g, cap, cur, hv, hbg, hg, r⟩⟩ := h
  · exact ⟨h1, .inl h2⟩
  · exact ⟨h1, .inr ⟨g, cap, cur, hv, hbg, (hk g (by rw [hv]; rfl)).trans hg, r⟩⟩
abbrev RowF := Nat → Option Addr × Nat
def slV (f : RowF) (L : Nat → List Wir) (x : Nat) : Value := .slice (f x).1 (L x).length (f x).2
def slC (f : RowF) (L : Nat → List Wir) : Array Value := ((List.range 10).map (slV f L)).toArray
theorem slC_size (f : RowF) (L : Nat → List Wir) : (slC f L).size = 10 := by simp [slC]
theorem slC_get (f : RowF) (L : Nat → List Wir) {x : Nat} (h : x < 10) : (slC f L)[x]? = some (slV f L x) := by simp [slC, h]
def updN {α : Type} (f : Nat → α) (x : Nat) (v : α) (y : Nat) : α := if y = x then v else f y
theorem updN_same {α : Type} (f : Nat → α) (x : Nat) (v : α) : updN f x v x = v := if_pos rfl
theorem updN_ne {α : Type} (f : Nat → α) {x y : Nat} (v : α) (h : y ≠ x) : updN f x v y = f y := if_neg h
theorem slC_set (f : RowF) (L : Nat → List Wir) {x : Nat} (h : x < 10) (a : Option Addr) (c : Nat) (l : List Wir) : (slC f L).setIfInBounds x (.slice a l.length c) = slC (updN f x (a, c)) (updN L x l) := by
  apply Array.ext
  · rw [Array.size_setIfInBounds, slC_size, slC_size]
  · intro k h1 h2
    have hk : k < 10 := by rw [slC_size] at h2; exact h2
    have e2 := slC_get (updN f x (a, c)) (updN L x l) hk
    rw [Array.getElem?_eq_getElem h2] at e2
    injection e2 with e2
    rw [e2, Array.getElem_setIfInBounds (by rw [slC_size]; exact hk)]
    by_cases e : x = k
    · subst e; rw [if_pos rfl]; unfold slV; rw [updN_same, updN_same]
    · rw [if_neg e]
      have e3 := slC_get f L hk
      rw [Array.getElem?_eq_getElem (by rw [slC_size]; exact hk)] at e3
      injection e3 with e3
      rw [e3]; unfold slV; rw [updN_ne _ _ (fun h => e h.symm), updN_ne _ _ (fun h => e h.symm)]
structure BomR (W : World) (X : Nat) (L : Nat → List Wir) (f : RowF) : Prop where
  blk : SB W X (slC f L) 101
  row : ∀ x, x < 10 → W.ownsRow (X + 1) 103 11 (slV f L x) (L x).length (wireV (L x))
  dis : ∀ x y, x < 10 → y < 10 → x ≠ y → ∀ j, (slV f L x).ownBlock = some j → (slV f L y).ownBlock ≠ some j
theorem BomR.below {W W' : World} {X : Nat} {L : Nat → List Wir} {f : RowF} (h : BomR W X L f) (hb : Below W.heap.size W W') : BomR W' X L f :=
  ⟨h.blk.below hb, fun x hx => ownsRow_below (h.row x hx) hb, h.dis⟩
theorem BomR.ne {W : World} {X : Nat} {L : Nat → List Wir} {f : RowF} (h : BomR W X L f) {x : Nat} (hx : x < 10) {p : Nat} (hp : p ≤ X) : (slV f L x).ownBlock ≠ some p := fun e => by have := ((h.row x hx).lt p e).1; omega
theorem BomR.add {W W' W1 : World} {X H g cap x : Nat} {L : Nat → List Wir} {f : RowF} {z : Wir} (h : BomR W X L f) (hx : x < 10) (hb : Below W.heap.size W W')
    (ho : W1.ownsRow (X + 1) 103 11 (.slice (some ⟨g, 0, none⟩) ((L x).length + 1) cap) ((L x).length + 1) (wireV (L x) ++ wirV z)) (hg : W'.grownBy W1 (slV f L x).ownBlock) (hat : (slV f L x).ownBlock = some g ∨ g = H) (hH : W.heap.size ≤ H) :
    BomR (W1.setCell ⟨X, x, none⟩ (.slice (some ⟨g, 0, none⟩) ((L x).length + 1) cap)) X (updN L x (L x ++ [z])) (updN f x (some ⟨g, 0, none⟩, cap)) := by
  have hXg : X ≠ g := by have := (ho.lt g rfl).1; omega
  have hl : (L x ++ [z]).length = (L x).length + 1 := by simp
  have hs1 : SB W1 X (slC f L) 101 := SB.own (v := slV f L x) (h.blk.below hb) hg (h.ne hx (Nat.le_refl _))
  have hblk : ∀ y, y < 10 → y ≠ x → ∀ j, (slV f L y).ownBlock = some j → j < W.heap.size ∧ j ≠ X ∧ (slV f L x).ownBlock ≠ some j := fun y hy hyx j hj => by
    have h1 := (h.row y hy).lt j hj
    exact ⟨h1.2, by omega, h.dis y x hy hx hyx j hj⟩
  refine ⟨?_, ?_, ?_⟩
  · have h1 := hs1.put x (.slice (some ⟨g, 0, none⟩) ((L x).length + 1) cap)
    rw [← hl, slC_set f L hx] at h1
    rw [← hl]; exact h1
  · intro y hy
    by_cases e : y = x
    · subst e
      unfold slV
      rw [updN_same, updN_same, hl, ← wireV_snoc]
      exact own_setn ho (.inr (by intro e; simp [Value.ownBlock] at e; exact hXg e.symm)) _ _
    · have e1 : slV (updN f x (some ⟨g, 0, none⟩, cap)) (updN L x (L x ++ [z])) y = slV f L y := by unfold slV; rw [updN_ne _ _ e, updN_ne _ _ e]
      rw [e1, updN_ne _ _ e]
      refine own_at (h.row y hy) fun j hj => ?_
      obtain ⟨k1, k2, k3⟩ := hblk y hy e j hj
      rw [Below.heap_setCell W1 ⟨X, x, none⟩ _ j (by exact k2), hg.block j (by have := hb.size; omega) (fun e => k3 e.symm), hb.block j k1]
  · intro y1 y2 h1 h2 hne j hj hj2
    have hv : ∀ y, y < 10 → slV (updN f x (some ⟨g, 0, none⟩, cap)) (updN L x (L x ++ [z])) y = if y = x then .slice (some ⟨g, 0, none⟩) ((L x).length + 1) cap else slV f L y := fun y hy => by
      by_cases e : y = x
      · subst e; rw [if_pos rfl]; unfold slV; rw [updN_same, updN_same, hl]
      · rw [if_neg e]; unfold slV; rw [updN_ne _ _ e, updN_ne _ _ e]
    have key : ∀ y, y < 10 → y ≠ x → (slV f L y).ownBlock ≠ some g := fun y hy hyx e => by
      obtain ⟨k1, k2, k3⟩ := hblk y hy hyx g e
      rcases hat with h3 | h3
      · exact k3 h3
      · omega
    rw [hv y1 h1] at hj
    rw [hv y2 h2] at hj2
    by_cases e1 : y1 = x
    · rw [if_pos e1] at hj
      have e2 : y2 ≠ x := fun e => hne (e1.trans e.symm)
      rw [if_neg e2] at hj2
      have : j = g := by simpa [Value.ownBlock] using hj.symm
      subst this
      exact key y2 h2 e2 hj2
    · rw [if_neg e1] at hj
      by_cases e2 : y2 = x
      · rw [if_pos e2] at hj2
        have : j = g := by simpa [Value.ownBlock] using hj2.symm
        subst this
        exact key y1 h1 e1 hj
      · rw [if_neg e2] at hj2
        exact h.dis y1 y2 h1 h2 hne j hj hj2
end Go.Proofs.YtnbdimbhklbadaaGreatDoor
