/-
  Products of keys, rows of permutations, the products and the characteristic on both sides. Conditions: what each theorem names.
-/
import Derived.Test.YtipcodebmemkpaaGreatDoorEncC
import Derived.Test.YtipcodebmemkpaaGreatDoorFactL
import Derived.Deep.MidRow
import Derived.Test.YtipcodebmemkpaaGreatDoorTextF
import Derived.Deep.AppendLies
import Derived.Deep.RegionHeld3
import Derived.OwnWalk
namespace Go.Proofs.YtipcodebmemkpaaGreatDoor
set_option linter.unusedVariables false

section
open Go.RowKit Pl

theorem nth_id10 {j : Nat} (hj : j < 10) : nth (List.range 10) j = j := by rw [nth_eq (by simpa using hj), List.getElem_range]
theorem prm_id10 : Prm (List.range 10) := ⟨⟨rfl, fun n hn => List.mem_range.1 hn⟩, List.nodup_range⟩
theorem wayC_conj {q : List Nat} {rs : List (ByteArray × ByteArray)} {ws rg : List Nat} {n : Nat} (hq : Prm q) (hw : ∀ i, i < n → Prm (wirP rs i)) : ∀ c, c ≤ n → ∀ x, x < 10 → nth (wayC q rs ws rg n c) x = nth (wayC (List.range 10) rs ws rg n c) (nth q x)
  | 0, _, x, hx => (nth_id10 (nth_ten hq.toTen)).symm
  | c + 1, h, x, hx => by
    have h1 := wayC_prm (ws := ws) (rg := rg) hq hw c (by omega)
    have h2 := wayC_prm (ws := ws) (rg := rg) prm_id10 hw c (by omega)
    show nth (thenP (wayC q rs ws rg n c) _) x = nth (thenP (wayC (List.range 10) rs ws rg n c) _) (nth q x)
    rw [nth_thenP (by rw [h1.len]; exact hx), nth_thenP (by rw [h2.len]; exact nth_ten hq.toTen), wayC_conj hq hw c (by omega) x hx]
theorem nth_permW {w r : List Nat} (hw : Prm w) (hr : Prm r) {y : Nat} (hy : y < 10) : nth (permW w r) y = nth (invP w) (nth r (nth w y)) := by
  unfold permW
  rw [nth_thenP (by rw [(prm_then hw hr).len]; exact hy), nth_thenP (by rw [hw.len]; exact hy)]
theorem keyP_conj {q r : List Nat} {rs : List (ByteArray × ByteArray)} {rg : List Nat} {o : ByteArray} (hq : Prm q) (hi : invP q = q) (hr : Prm r) (hw : ∀ i, i < rs.length → Prm (wirP rs i)) (k : Nat) {x : Nat} (hx : x < 10) :
    nth (keyP q r rs rg o k) (nth q x) = nth q (nth (keyP (List.range 10) r rs rg o k) x) := by
  unfold keyP
  have h1 := wayC_prm (ws := wnd rs o k) (rg := rg) hq hw rs.length (Nat.le_refl _)
  have h2 := wayC_prm (ws := wnd rs o k) (rg := rg) prm_id10 hw rs.length (Nat.le_refl _)
  have hc := fun y (hy : y < 10) => wayC_conj (ws := wnd rs o k) (rg := rg) hq hw rs.length (Nat.le_refl _) y hy
  generalize wayC q rs (wnd rs o k) rg rs.length rs.length = Wq at h1 hc ⊢
  generalize wayC (List.range 10) rs (wnd rs o k) rg rs.length rs.length = W at h2 hc ⊢
  have hqx : nth q x < 10 := nth_ten hq.toTen
  rw [nth_permW h1 hr hqx, nth_permW h2 hr hx, hc _ hqx, inv_nth hq hi hx]
  have hz : nth r (nth W x) < 10 := nth_ten hr.toTen
  generalize nth r (nth W x) = z at hz ⊢
  have hv : nth (invP W) z < 10 := nth_ten (prm_inv h2).toTen
  have e : nth Wq (nth q (nth (invP W) z)) = z := by rw [hc _ (nth_ten hq.toTen), inv_nth hq hi hv, inv_right h2 hz]
  have h3 := inv_left h1 (x := nth q (nth (invP W) z)) (nth_ten hq.toTen)
  rw [e] at h3
  exact h3
/-- the product of two keys, n apart -/
def prodP (K : Nat → List Nat) (n i : Nat) : List Nat := thenP (K (i + 1)) (K (i + n + 1))
theorem prodP_prm {K : Nat → List Nat} (hK : ∀ k, Prm (K k)) (n i : Nat) : Prm (prodP K n i) := prm_then (hK _) (hK _)
def prodL (K : Nat → List Nat) (n : Nat) : List (List Nat) := (List.range n).map (prodP K n)
theorem lenD_prod {q r : List Nat} {rs : List (ByteArray × ByteArray)} {rg : List Nat} {o : ByteArray} (hq : Prm q) (hi : invP q = q) (hr : Prm r) (hw : ∀ i, i < rs.length → Prm (wirP rs i)) (n i : Nat) :
    lenD (prodP (keyP q r rs rg o) n i) = lenD (prodP (keyP (List.range 10) r rs rg o) n i) := by
  have k1 : ∀ k, Prm (keyP q r rs rg o k) := fun k => keyP_prm hq hr hw k
  have k2 : ∀ k, Prm (keyP (List.range 10) r rs rg o k) := fun k => keyP_prm prm_id10 hr hw k
  refine lenI_conj (s := q) (prodP_prm k2 n i) (prodP_prm k1 n i) hq fun x hx => ?_
  unfold prodP
  rw [nth_thenP (by rw [(k1 _).len]; exact nth_ten hq.toTen), nth_thenP (by rw [(k2 _).len]; exact hx), keyP_conj hq hi hr hw _ hx, keyP_conj hq hi hr hw _ (nth_ten (k2 _).toTen)]
/-- the characteristic: a text for each place -/
def chrL (K : Nat → List Nat) (n : Nat) : List ByteArray := (List.range n).map fun i => lenT (prodP K n i)
theorem chrL_same {q r : List Nat} {rs : List (ByteArray × ByteArray)} {rg : List Nat} {o : ByteArray} (hq : Prm q) (hi : invP q = q) (hr : Prm r) (hw : ∀ i, i < rs.length → Prm (wirP rs i)) (n : Nat) :
    chrL (keyP q r rs rg o) n = chrL (keyP (List.range 10) r rs rg o) n := by
  unfold chrL
  refine List.map_congr_left fun i _ => ?_
  unfold lenT lenL
  rw [lenD_prod hq hi hr hw]
theorem chrL_length (K : Nat → List Nat) (n : Nat) : (chrL K n).length = n := by unfold chrL; rw [List.length_map, List.length_range]

end

section
open Go Go.RowKit Pl

theorem Tryz.infoPm : (Tryz.prog.info? 101).map (fun i => (i.zero, i.size, i.bytes)) = some (some (.agg #[.int .u8 0, .int .u8 0, .int .u8 0, .int .u8 0, .int .u8 0, .int .u8 0, .int .u8 0, .int .u8 0, .int .u8 0, .int .u8 0]), 10, 10) := by kernel_rfl
theorem Tryz.undPm : Tryz.prog.underlying 136 = some (.slice 101) := by kernel_rfl
theorem pV_ten {q : List Nat} (h : q.length = 10) : pV q = [.int .u8 (nth q 0 : Int), .int .u8 (nth q 1 : Int), .int .u8 (nth q 2 : Int), .int .u8 (nth q 3 : Int), .int .u8 (nth q 4 : Int), .int .u8 (nth q 5 : Int), .int .u8 (nth q 6 : Int), .int .u8 (nth q 7 : Int), .int .u8 (nth q 8 : Int), .int .u8 (nth q 9 : Int)] := by
  rw [← pC_list, pC_ten h]
theorem ten_one {a0 a1 a2 a3 a4 a5 a6 a7 a8 a9 : Int} : ∀ u ∈ [Value.int .u8 a0, .int .u8 a1, .int .u8 a2, .int .u8 a3, .int .u8 a4, .int .u8 a5, .int .u8 a6, .int .u8 a7, .int .u8 a8, .int .u8 a9], u.oneCell' = true := by
  intro u hu
  simp only [List.mem_cons, List.not_mem_nil, or_false] at hu
  rcases hu with rfl | rfl | rfl | rfl | rfl | rfl | rfl | rfl | rfl | rfl <;> rfl
/-- the cells of permutations, side by side -/
def pF (l : List (List Nat)) : List Value := l.flatMap pV
theorem pF_snoc (l : List (List Nat)) (q : List Nat) : pF l ++ pV q = pF (l ++ [q]) := by unfold pF; rw [List.flatMap_append]; simp
theorem pF_length : ∀ (l : List (List Nat)), (∀ q ∈ l, q.length = 10) → (pF l).length = l.length * 10
  | [], _ => rfl
  | q :: l, h => by
    have h1 := pF_length l fun x hx => h x (List.mem_cons_of_mem _ hx)
    have h2 := h q (by simp)
    unfold pF at h1 ⊢
    rw [List.flatMap_cons, List.length_append, pV_len, h1, h2, List.length_cons]; omega
theorem pF_split {l : List (List Nat)} {i : Nat} (hi : i < l.length) : pF l = pF (l.take i) ++ pV l[i] ++ pF (l.drop (i + 1)) := by
  conv => lhs; rw [← List.take_append_drop i l, List.drop_eq_getElem_cons hi]
  unfold pF
  rw [List.flatMap_append, List.flatMap_cons, List.append_assoc]
/-- the cells of one of the permutations -/
theorem pF_range {W : World} {b off i : Nat} {l : List (List Nat)} (hl : ∀ q ∈ l, q.length = 10) (h : ∀ j, j < (pF l).length → W.cell? ⟨b, off + j, none⟩ = (pF l)[j]?) (hi : i < l.length) : W.rangeAt b (off + i * 10) (pV l[i]) := by
  intro j v hv
  have hq := hl _ (List.getElem_mem hi)
  have ht : (pF (l.take i)).length = i * 10 := by rw [pF_length _ fun x hx => hl x (List.mem_of_mem_take hx), List.length_take]; rw [Nat.min_eq_left (by omega)]
  have hj : j < (pV l[i]).length := by
    rcases Nat.lt_or_ge j (pV l[i]).length with h1 | h1
    · exact h1
    · rw [List.getElem?_eq_none h1] at hv; cases hv
  have hs := pF_split hi
  have hlt : i * 10 + j < (pF l).length := by rw [hs, List.length_append, List.length_append, ht]; omega
  rw [Nat.add_assoc, h _ hlt, hs, List.append_assoc, List.getElem?_append_right (by rw [ht]; omega), ht, Nat.add_sub_cancel_left, List.getElem?_append_left hj]
  exact hv

end

section
open Go.RowKit Pl

theorem bel_alS {a W : World} {o : Obj} (h : Below a.heap.size a W) : Below a.heap.size a (W.alloc o) := h.alloc h.size o
theorem bel_onS {a W W' : World} (h : Below a.heap.size a W) (hb : Below W.heap.size W W') : Below a.heap.size a W' := h.trans (hb.mono h.size)
theorem prods_snoc (K : Nat → List Nat) (n k : Nat) : (List.range k).map (prodP K n) ++ [prodP K n k] = (List.range (k + 1)).map (prodP K n) := by rw [List.range_succ, List.map_append]; rfl
theorem pTs_at (l : List (List Nat)) {k : Nat} (h : k < l.length) (h' : k < (pTs l).length) : (pTs l)[k] = pT l[k] := by simp [pTs]
theorem two_bel {W W' : World} {a1 a2 : Addr} {u1 u2 : Value} (h : W.cell? a1 = some u1 ∧ W.cell? a2 = some u2) (hb : Below W.heap.size W W') : W'.cell? a1 = some u1 ∧ W'.cell? a2 = some u2 :=
  ⟨(hb.cell (World.block_lt_of_cell? _ _ h.1)).trans h.1, (hb.cell (World.block_lt_of_cell? _ _ h.2)).trans h.2⟩
theorem two_grown {W W' : World} {b o1 o2 : Nat} {r : Option Nat} {u1 u2 : Value} (h : W.cell? ⟨b, o1, none⟩ = some u1 ∧ W.cell? ⟨b, o2, none⟩ = some u2) (hg : W.grownBy W' r) (hn : some b ≠ r) : W'.cell? ⟨b, o1, none⟩ = some u1 ∧ W'.cell? ⟨b, o2, none⟩ = some u2 := by
  have hb : b < W.heap.size := World.block_lt_of_cell? _ _ h.1
  exact ⟨(World.cell?_of_block (w := W) (a := ⟨b, o1, none⟩) (hg.block b hb hn)).trans h.1, (World.cell?_of_block (w := W) (a := ⟨b, o2, none⟩) (hg.block b hb hn)).trans h.2⟩

set_option maxHeartbeats 8000000 in
set_option maxRecDepth 100000 in
theorem l10Products_is (w : World) (A : Option Addr) (cap : Nat) (rs : List (ByteArray × ByteArray)) (p g l o : ByteArray) (K : Nat → List Nat) (n : Nat) (hn : o.size = n) (hn1 : 1 ≤ n) (hn3 : n ≤ 3) (hK : ∀ k, Prm (K k)) (h : Rd w w.heap.size A (rotV rs)) (hc : rs.length ≤ cap)
    (hpe : ∀ (w' : World) (m : Int), m = ((2 * n : Nat) : Int) → Rd w' w'.heap.size A (rotV rs) → Calls Tryz.prog 169 #[.agg #[.slice A rs.length cap, .string p, .string g, .string l], .string o, .int .i64 m] w' fun e w'' => ∃ v : Value, e = .returned v ∧ w''.ownsRow w'.heap.size 9 1 v (2 * n) (strV (pTs (permsTo K (2 * n)))) ∧ Below w'.heap.size w' w'') :
    Calls Tryz.prog 103 #[.agg #[.slice A rs.length cap, .string p, .string g, .string l], .string o] w fun e w' => ∃ A' c', e = .returned (.slice A' n c') ∧ w'.ownsRow w.heap.size 9 1 (.slice A' n c') n (strV (pTs (prodL K n))) ∧ Below w.heap.size w w' := by
  obtain ⟨iS, hi, hz0, hz1, hz2⟩ := info_parts Tryz.infoS
  have HI := Lib.hid hi; have HZ0 := Lib.hid hz0; have HZ1 := Lib.hid hz1; have HZ2 := Lib.hid hz2
  clear hi hz0 hz1 hz2
  have hsz : (w.alloc (.cells #[.slice A rs.length cap, .string p, .string g, .string l] 29)).heap.size = w.heap.size + 1 := by simp
  obtain ⟨w0, hw0⟩ : ∃ w0, w0 = (w.alloc (.cells #[.slice A rs.length cap, .string p, .string g, .string l] 29)).alloc (.cells #[] 9) := ⟨_, rfl⟩
  have hb0 : Below w.heap.size w w0 := by rw [hw0]; exact ((Below.refl _ _).alloc (Nat.le_refl _) _).alloc (by rw [hsz]; omega) _
  obtain ⟨P, hP⟩ : ∃ P, P = w.heap.size := ⟨_, rfl⟩
  have hs0 : SB w0 P #[.slice A rs.length cap, .string p, .string g, .string l] 29 := by rw [hw0, hP]; exact (SB.made w _ _).below ((Below.refl _ _).alloc (Nat.le_refl _) _)
  have how : w0.ownsRow P 9 1 (.slice (some ⟨P + 1, 0, none⟩) 0 0) 0 (strV (pTs ((List.range 0).map (prodP K n)))) := by
    rw [hw0, hP, ← hsz]
    exact World.ownsRow_made _ #[] 0 (by rw [hsz]; omega) (by decide) rfl
  have hz0 : w0.heap.size = P + 2 := by rw [hw0, hP]; simp
  have hpe0 := fun (m : Int) (hm : m = ((2 * n : Nat) : Int)) => hpe w0 m hm ((h.below hb0).mono hb0.size)
  have HPE := Lib.hid hpe0; have HB0 := Lib.hid hb0; have HS0 := Lib.hid hs0; have HO0 := Lib.hid how; have HZ0' := Lib.hid hz0; have HK := Lib.hid hK; have HPP := Lib.hid hP
  obtain ⟨⟨c0, c1, c2, c3⟩, _⟩ := hs0.all4
  rw [hw0, hP] at c0 c1 c2 c3
  have v2 : IntKind.i64.wrap (2 * ((n : Nat) : Int)) = ((2 * n : Nat) : Int) := by rw [IntKind.wrap_i64]; omega
  clear h hb0 hs0 how hz0 hpe hpe0 hK hc
  generalize rs.length = M at *
  go_enter Tryz.func103, Tryz.ntmps103
  go_wp2_with fail
  rw [← hw0, ← hP]
  clear hw0 hP c0 c1 c2 c3
  refine (HPE.out _ (by omega)).mono ?_
  rintro _ w2 ⟨v, rfl, hl2, hb2⟩
  obtain ⟨A2, c2, rfl⟩ := slot_slice hl2
  have hne : strV (pTs (permsTo K (2 * n))) ≠ [] := by
    intro e
    have := congrArg List.length e
    rw [length_strV, pTs_len, permsTo_len, List.length_nil] at this; omega
  obtain ⟨b, off, hbe, hbb, hcell⟩ := own_rd3' hl2 hne
  subst hbe
  have hbP : P + 1 < b := by have h1 := (hl2.lt b rfl).1; have := HZ0'.out; omega
  have hcs : ∀ i, i < 2 * n → w2.cell? ⟨b, off + i, none⟩ = some (.string (pT (K (i + 1)))) := fun i hi => by
    have h1 := hcell i (by rw [length_strV, pTs_len, permsTo_len]; exact hi)
    rw [h1]
    simp [strV, pTs, permsTo]
  have HB2 := Lib.hid (HB0.out.trans (hb2.mono HB0.out.size)); have HO2 := Lib.hid (ownsRow_below HO0.out hb2); have HCS := Lib.hid hcs
  have hbz : b < w2.heap.size := hbb
  clear hcs hcell hne hl2 hb2 HB0 HO0 HS0 HPE hbb
  obtain ⟨L, hL⟩ : ∃ L, L = 2 * n := ⟨_, rfl⟩
  rw [← hL]
  have HLN := Lib.hid hL
  clear hL
  go_wp2_with fail
  go_loopw [5, 7] (fun ov iv wr => ∃ j : Nat, j ≤ n ∧ iv = .int .i64 (j : Int) ∧ Hid (wr.ownsRow P 9 1 ov j (strV (pTs ((List.range j).map (prodP K n))))) ∧ Hid (some b ≠ ov.ownBlock) ∧ Hid (∀ i, i < 2 * n → wr.cell? ⟨b, off + i, none⟩ = some (.string (pT (K (i + 1))))) ∧ Hid (b < wr.heap.size) ∧ Hid (Below w.heap.size w wr)) (fun _ iv _ => n - (intOf iv).toNat)
  case atStart => exact ⟨0, Nat.zero_le _, rfl, HO2, Lib.hid (by simp [Value.ownBlock]; omega), HCS, Lib.hid hbz, HB2⟩
  case round =>
    obtain ⟨j, hj, rfl, HO, HNB, HC, HBZ, HBL⟩ := hrel
    clear HO2 HCS HB2 hbz
    obtain ⟨A3, c3, e3⟩ := slot_slice HO.out
    subst e3
    by_cases hlt : j < n
    · have d1 := HC.out j (by omega)
      have d2 := HC.out (j + n) (by omega)
      have hth := fun w' => l2Then_any w' (K (j + 1)) (K (j + n + 1)) (HK.out _).toTen (HK.out _).toTen
      rw [show thenP (K (j + 1)) (K (j + n + 1)) = prodP K n j from rfl] at hth
      obtain ⟨X, hX⟩ : ∃ X, X = pT (K (j + 1)) := ⟨_, rfl⟩
      obtain ⟨Y, hY⟩ : ∃ Y, Y = pT (K (j + n + 1)) := ⟨_, rfl⟩
      obtain ⟨Z, hZ⟩ : ∃ Z, Z = pT (prodP K n j) := ⟨_, rfl⟩
      rw [← hX] at d1 hth
      rw [← hY] at d2 hth
      rw [← hZ] at hth
      have hs : ∀ W : World, Below wr.heap.size wr W → (W.cell? ⟨b, off + j, none⟩ = some (.string X) ∧ W.cell? ⟨b, off + (j + n), none⟩ = some (.string Y)) := fun W hb => two_bel ⟨d1, d2⟩ hb
      have HS := Lib.hid hs; have HTH := Lib.hid hth; have HZE := Lib.hid hZ
      have HO5 := Lib.hid (fun (w5 : World) (h5 : Below wr.heap.size wr w5) => ownsRow_below HO.out h5)
      have hbd : Below wr.heap.size wr wr.drew := (Below.refl _ _).drew
      have hbr : Below wr.heap.size wr wr := Below.refl _ _
      have hPr : P ≤ wr.heap.size := by have := HBZ.out; omega
      have hL := HLN.out
      have v0 : (j : Int) < (n : Int) := by omega
      have x1 : IntKind.i64.wrap ((j : Int) + (n : Int)) = (j : Int) + (n : Int) := by rw [IntKind.wrap_i64]; omega
      have x2 : (0 : Int) ≤ (j : Int) + (n : Int) := by omega
      have x3 : (j : Int) + (n : Int) < (L : Int) := by omega
      have x6 : j + n < L := by omega
      have x7 : j < L := by omega
      have x8 : ((j + n : Nat) : Int) < (L : Int) := by omega
      have x4 : ((j : Int) + (n : Int)).toNat = j + n := by omega
      have x5 : (j : Int) < (L : Int) := by omega
      clear hs hth hX hY hZ d1 d2 hL
      go_wp2_with fail
      go_region_held3 (fun W => W.cell? ⟨b, off + j, none⟩ = some (.string X) ∧ W.cell? ⟨b, off + (j + n), none⟩ = some (.string Y)) (first | with_reducible assumption | with_reducible exact HS.out _ (by with_reducible assumption) | with_reducible exact HS.out _ (bel_alS (by with_reducible assumption)) | exact two_grown (HS.out _ (bel_alS b5)) hg6 HNB.out | fail) (first | (go_at_call 170; refine (HTH.out _).mono ?_; rintro _ w5 ⟨rfl, hb5⟩; have b5 := bel_onS (a := wr) (by with_reducible assumption) hb5; clear hb5) | (rw [if_pos (by rfl)]; refine wp_append_lies _ (.tmp 21) (.tmp 34) 42 (by rfl) P 9 iS _ 1 16 Tryz.undS HI.out HZ0.out HZ1.out HZ2.out rfl (by decide) _ j _ (by rfl) ((HO5.out _ b5).alloc _) ⟨w5.heap.size, 0, none⟩ 1 1 [.string Z] (by rfl) rfl (one_new w5 _ _) one_cell (by decide) (by unfold maxLen; omega) (by omega) (Nat.le_trans (Nat.le_trans hPr b5.size) (by simp)) _ rfl ?_; intro g6 c6 w6 ho6 hg6 hat6 hlt6) | fail)
      all_goals
        have ho5 := HO5.out _ b5
        have hbw := HBL.out.size
        have b5w := HBL.out.trans (b5.mono hbw)
        have b6 : Below w.heap.size w w6 := (b5w.alloc b5w.size _).grown hg6 (Nat.le_trans b5w.size (by simp)) fun k' e => by have := (ho5.lt k' e).1; have := HPP.out; omega
        rw [HZE.out, pTs_snoc, prods_snoc] at ho6
        have hn6 : some b ≠ (Value.slice (some ⟨g6, 0, none⟩) (j + 1) c6).ownBlock := by
          intro e
          have e2 : b = g6 := by simpa [Value.ownBlock] using e
          rcases hat6 with h | h
          · exact HNB.out (by rw [e2]; exact h.symm)
          · have h1 := HBZ.out; have h2 := b5.size
            rw [e2, h] at h1; simp at h1; omega
        have hc6 : ∀ i, i < 2 * n → w6.cell? ⟨b, off + i, none⟩ = some (.string (pT (K (i + 1)))) := fun i hi => by
          have h1 := (b5.cell (p := ⟨b, off + i, none⟩) HBZ.out).trans (HC.out i hi)
          exact (two_grown ⟨cell_alloc2 h1 (.cells #[.string Z] 9), cell_alloc2 h1 (.cells #[.string Z] 9)⟩ hg6 HNB.out).1
        have hz6 : b < w6.heap.size := World.block_lt_of_cell? _ _ (hc6 j (by omega))
        have HO6 := Lib.hid ho6; have HN6 := Lib.hid hn6; have HC6 := Lib.hid hc6; have HZ6 := Lib.hid hz6; have HB6 := Lib.hid b6
        clear ho5 ho6 hn6 hc6 hz6 b6 b5w hg6 hat6 hlt6
        go_wp2_with fail
        go_roundw
        case rel => exact ⟨j + 1, by omega, by go_num, HO6, HN6, HC6, HZ6, HB6⟩
        case measure => simp [intOf]; omega
    · obtain rfl : j = n := by omega
      go_wp2_with fail
      go_ret
      exact ⟨A3, c3, rfl, own_mono3 HO.out (by rw [HPP.out]; exact Nat.le_refl _), HBL.out⟩

end

section
open Go.RowKit Pl

/-- what dayProducts answers -/
abbrev DPIs (rs : List (ByteArray × ByteArray)) (p g l o : ByteArray) (K : Nat → List Nat) (n : Nat) : Prop := ∀ (w' : World) (A : Option Addr) (cap : Nat), Rd w' w'.heap.size A (rotV rs) → rs.length ≤ cap → Calls Tryz.prog 99 #[.agg #[.slice A rs.length cap, .string p, .string g, .string l], .string o] w' fun e w'' => ∃ A' c', e = .returned (.slice A' n c') ∧ w''.ownsRow w'.heap.size 101 10 (.slice A' n c') n (pF (prodL K n)) ∧ Below w'.heap.size w' w''
/-- the products were made -/
def PrMade (K : Nat → List Nat) (n : Nat) (w : World) (e : Ending) (w' : World) : Prop := ∃ A c, e = .returned (.slice A n c) ∧ w'.ownsRow w.heap.size 9 1 (.slice A n c) n (strV (pTs (prodL K n))) ∧ Below w.heap.size w w'
theorem prodL_at (K : Nat → List Nat) {n j : Nat} (h : j < (prodL K n).length) : (prodL K n)[j] = prodP K n j := by simp [prodL]
theorem prodL_length (K : Nat → List Nat) (n : Nat) : (prodL K n).length = n := by simp [prodL]
theorem prods_all (K : Nat → List Nat) (n : Nat) : (List.range n).map (prodP K n) = prodL K n := rfl

set_option maxHeartbeats 8000000 in
set_option maxRecDepth 100000 in
theorem iDayProducts_yes (w : World) (A : Option Addr) (cap : Nat) (rs : List (ByteArray × ByteArray)) (p g l o : ByteArray) (K : Nat → List Nat) (n : Nat) (hn : o.size = n) (hn1 : 1 ≤ n) (hn3 : n ≤ 3) (hK : ∀ k, Prm (K k)) (h : Rd w w.heap.size A (rotV rs)) (hc : rs.length ≤ cap) (hl : rs.length ≤ 100) (hs : SetV rs p g l o) (hd : DPIs rs p g l o K n) :
    Calls Tryz.prog 56 #[.agg #[.slice A rs.length cap, .string p, .string g, .string l], .string o] w (PrMade K n w) := by
  obtain ⟨iS, hi, hz0, hz1, hz2⟩ := info_parts Tryz.infoS
  have HI := Lib.hid hi; have HZ0 := Lib.hid hz0; have HZ1 := Lib.hid hz1; have HZ2 := Lib.hid hz2
  clear hi hz0 hz1 hz2
  obtain ⟨w0, hw0⟩ : ∃ w0, w0 = w.alloc (.cells #[.slice A rs.length cap, .string p, .string g, .string l] 29) := ⟨_, rfl⟩
  have hb0 : Below w.heap.size w w0 := by rw [hw0]; exact (Below.refl _ _).alloc (Nat.le_refl _) _
  have hs0 := SB.made w #[.slice A rs.length cap, .string p, .string g, .string l] 29
  rw [← hw0] at hs0
  obtain ⟨P, hP⟩ : ∃ P, P = w.heap.size := ⟨_, rfl⟩
  rw [← hP] at hs0
  have hrd0 := (h.below hb0).mono hb0.size
  have hcon := settingValid_any w0 A cap rs p g l o true hrd0 hc hl (by simp [hs])
  have hd2 := fun (w' : World) (h' : Rd w' w'.heap.size A (rotV rs)) => hd w' A cap h' hc
  have HB0 := Lib.hid hb0; have HS0 := Lib.hid hs0; have HCON := Lib.hid hcon; have HRD := Lib.hid hrd0; have HDP := Lib.hid hd2; have HK := Lib.hid hK
  unfold PrMade
  obtain ⟨⟨c0, c1, c2, c3⟩, _⟩ := hs0.all4
  clear h hb0 hs0 hcon hrd0 hd hd2 hs hK
  generalize rs.length = M at *
  go_enter Tryz.func56, Tryz.ntmps56
  go_wp2_with fail
  rw [← hw0, ← hP]
  clear hw0 hP
  go_wp2_with fail
  refine HCON.out.mono ?_
  rintro _ w1 ⟨rfl, hb1⟩
  have HB1 := Lib.hid (HB0.out.trans (hb1.mono HB0.out.size)); have HS1 := Lib.hid (HS0.out.below hb1); have HR1 := Lib.hid ((HRD.out.below hb1).mono hb1.size)
  have HB1S := Lib.hid HB1.out.size
  clear hb1 c0 c1 c2 c3 HB0 HS0 HRD HCON
  go_wp2_with (at_make; refine wpList_make_own _ rfl _ _ 42 rfl w1.heap.size 9 iS (.string ByteArray.empty) 1 Tryz.undS HI.out HZ0.out HZ1.out .i64 .i64 _ n rfl rfl (by first | rfl | omega) (by rw [HZ2.out]; omega) (by unfold maxLen; omega) (Nat.le_refl _) ?_)
  intro w2 ho2 hg2
  have hb2 : Below w1.heap.size w1 w2 := (Below.refl _ _).grown hg2 (Nat.le_refl _) fun k e => by cases e
  have HB2 := Lib.hid (HB1.out.trans (hb2.mono HB1.out.size)); have HS2 := Lib.hid (HS1.out.below hb2); have HR2 := Lib.hid ((HR1.out.below hb2).mono hb2.size); have HO2 := Lib.hid ho2
  obtain ⟨⟨c0, c1, c2, c3⟩, _⟩ := HS2.out.all4
  clear hb2 ho2 hg2 HB1 HS1 HR1
  go_wp2_with fail
  refine (HDP.out _ HR2.out).mono ?_
  rintro _ w3 ⟨A3, k3, rfl, ho3, hb3⟩
  have HB3 := Lib.hid (HB2.out.trans (hb3.mono HB2.out.size)); have HO3 := Lib.hid (ownsRow_below HO2.out hb3); have HL3 := Lib.hid ho3
  have h23 := hb3.size
  have h12 : w1.heap.size ≤ w2.heap.size := Nat.le_of_lt (HO2.out.lt w1.heap.size rfl).2
  have HH := Lib.hid (show w.heap.size ≤ w1.heap.size from HB1S.out)
  clear hb3 ho3 c0 c1 c2 c3 HB2 HS2 HR2 HO2 HDP
  go_wp2_with fail
  go_loopw [5, 19] (fun ov iv wr => ∃ j : Nat, j ≤ n ∧ iv = .int .i64 (j : Int) ∧ Hid (wr.ownsRow w1.heap.size 9 1 ov j (strV (pTs ((List.range j).map (prodP K n))))) ∧ Hid (wr.ownsRow w2.heap.size 101 10 (.slice A3 n k3) n (pF (prodL K n))) ∧ Hid (w1.heap.size ≤ wr.heap.size) ∧ Hid (Below w.heap.size w wr)) (fun _ iv _ => n - (intOf iv).toNat)
  case atStart => exact ⟨0, Nat.zero_le _, rfl, HO3, HL3, Lib.hid (Nat.le_trans h12 h23), HB3⟩
  case round =>
    obtain ⟨j, hj, rfl, HO, HL, HW1, HBL⟩ := hrel
    clear HO3 HL3 HB3
    obtain ⟨A4, k4, e4⟩ := slot_slice HO.out
    subst e4
    by_cases hlt : j < n
    · have hll : (prodL K n).length = n := prodL_length K n
      have hl10 : ∀ x ∈ prodL K n, x.length = 10 := fun x hx => by
        obtain ⟨i, _, rfl⟩ := List.mem_map.1 hx
        exact (prodP_prm HK.out n i).len
      have hne : pF (prodL K n) ≠ [] := by
        intro e
        have h1 := pF_length _ hl10
        rw [e, hll, List.length_nil] at h1; omega
      obtain ⟨b, off, hbe, hbb, hcell⟩ := own_rd3' HL.out hne
      subst hbe
      have hrg := pF_range hl10 (fun i hi => (hcell i hi).trans (List.getElem?_eq_getElem hi).symm) (i := j) (by rw [hll]; exact hlt)
      rw [prodL_at] at hrg
      have hq := prodP_prm HK.out n j
      have hps := fun w' => permStr_any w' (prodP K n j) hq.toTen
      rw [show mk ((prodP K n j).map letter) = pT (prodP K n j) from rfl] at hps
      have hpt : strV (pTs ((List.range j).map (prodP K n))) ++ [Value.string (pT (prodP K n j))] = strV (pTs ((List.range (j + 1)).map (prodP K n))) := by rw [pTs_snoc, prods_snoc]
      generalize prodP K n j = q at hrg hq hps hpt
      have HRG := Lib.hid hrg; have HQL := Lib.hid hq.len; have HI10 := Lib.hid (permLen hq.len); have HPS := Lib.hid hps
      have HG := Lib.hid (PB.made wr)
      have HGR := Lib.hid (HG.out.row q)
      have hbA : Below wr.heap.size wr ((wr.alloc (.cells #[.int .u8 0, .int .u8 0, .int .u8 0, .int .u8 0, .int .u8 0, .int .u8 0, .int .u8 0, .int .u8 0, .int .u8 0, .int .u8 0] 101)).setRow wr.heap.size (pC q)) := below_setRow ((Below.refl _ _).alloc (Nat.le_refl _) _) (Nat.le_refl _) _
      have HBA := Lib.hid hbA; have HPT := Lib.hid hpt
      have v0 : (j : Int) < (n : Int) := by omega
      clear hcell hne hll hl10 hrg hq hps hpt hbA hbb
      go_wp2_with (first | (refine wpList_load_mid rfl 101 _ rfl b (off + j * 10) rfl (pV q) _ HRG.out Tryz.underlying101 rfl HI10.out ?_) | (refine wpList_store_row rfl 101 _ _ rfl wr.heap.size (pC q) rfl rfl _ _ HG.out (permSize HQL.out) (by rw [pC_size, pC_size, HQL.out]; rfl) (pC_one _) ?_) | (refine wpList_load_row rfl 101 _ rfl wr.heap.size rfl _ _ _ _ HGR.out Tryz.underlying101 rfl (permSize HQL.out) ?_))
      refine (HPS.out _).mono ?_
      rintro _ w5 ⟨rfl, hb5⟩
      have b5 := HBA.out.trans (hb5.mono HBA.out.size)
      have ho5 := ownsRow_below HO.out b5
      have hl5 := ownsRow_below HL.out b5
      have hbw := HBL.out.size
      have b5w := HBL.out.trans (b5.mono hbw)
      have h1r := Nat.le_of_lt (show w1.heap.size < wr.heap.size + 1 by have := HW1.out; omega)
      have h5z := b5.size
      have hap := own_kinds hl5 ho5 (by decide)
      generalize pT q = Z at HPT ⊢
      clear hb5
      go_wp2_with (at_builtin; refine wpList_append_own _ rfl _ _ 42 rfl w1.heap.size 9 iS (.string ByteArray.empty) 1 16 Tryz.undS HI.out HZ0.out HZ1.out HZ2.out rfl (by decide) _ j _ rfl (ho5.alloc _) ⟨w5.heap.size, 0, none⟩ 1 1 [.string Z] rfl rfl (one_new w5 _ _) one_cell (by unfold maxLen; omega) (by omega) (by simp; omega) ?_)
      intro v' w6 ho6 hg6 _
      rw [HPT.out] at ho6
      have b6 : Below w.heap.size w w6 := (b5w.alloc b5w.size _).grown hg6 (Nat.le_trans b5w.size (by simp)) fun k' e => Nat.le_trans HH.out (ho5.lt k' e).1
      have hl6 := World.ownsRow.kept (hl5.alloc (.cells #[.string Z] 9)) hg6 hap
      have HO6 := Lib.hid ho6; have HL6 := Lib.hid hl6; have HB6 := Lib.hid b6; have HW6 := Lib.hid (show w1.heap.size ≤ w6.heap.size from Nat.le_trans (Nat.le_trans HW1.out h5z) (Nat.le_trans (by simp) hg6.size))
      clear ho5 hl5 ho6 hl6 b6 b5 b5w hg6 hap
      go_wp2_with fail
      go_roundw
      case rel => exact ⟨j + 1, by omega, by go_num, HO6, HL6, HW6, HB6⟩
      case measure => simp [intOf]; omega
    · obtain rfl : j = n := by omega
      go_wp2_with fail
      go_ret
      exact ⟨A4, k4, rfl, own_mono3 HO.out HH.out, HBL.out⟩

/-- a row of texts of the call's own -/
structure TxAt (w : World) (G : Nat) (ls : List ByteArray) : Prop where
  block : ∃ cs, w.heap[G]? = some (.cells cs 9 (0, 0))
  cells : ∀ k (h : k < ls.length), w.cell? ⟨G, k, none⟩ = some (.string ls[k])
theorem TxAt.lt {w : World} {G : Nat} {ls : List ByteArray} (h : TxAt w G ls) : G < w.heap.size := by
  obtain ⟨cs, hb⟩ := h.block
  exact (Array.getElem?_eq_some_iff.1 hb).1
theorem TxAt.below {w w' : World} {G : Nat} {ls : List ByteArray} (h : TxAt w G ls) (hb : Below w.heap.size w w') : TxAt w' G ls := by
  obtain ⟨cs, hc⟩ := h.block
  exact ⟨⟨cs, (hb.block G h.lt).trans hc⟩, fun k hk => (hb.cell (p := ⟨G, k, none⟩) h.lt).trans (h.cells k hk)⟩
theorem TxAt.frozen {w : World} {G : Nat} {ls : List ByteArray} (h : TxAt w G ls) (k : Nat) : w.frozen? ⟨G, k, none⟩ = false := by
  obtain ⟨cs, hc⟩ := h.block
  exact frozen_cells hc k
theorem TxAt.put {w : World} {G : Nat} {ls : List ByteArray} (h : TxAt w G ls) {k : Nat} (hk : k < ls.length) (x : ByteArray) : TxAt (w.setCell ⟨G, k, none⟩ (.string x)) G (ls.set k x) := by
  obtain ⟨cs, hc⟩ := h.block
  refine ⟨⟨_, set_block2 hc k (.string x)⟩, fun i hi => ?_⟩
  rw [List.length_set] at hi
  by_cases e : k = i
  · subst e
    rw [World.cell?_setCell_same' _ _ _ (by rw [h.cells k hk]; rfl), List.getElem_set_self]
  · rw [List.getElem_set_ne e, World.cell?_setCell_other w ⟨G, k, none⟩ ⟨G, i, none⟩ (.string x) (by intro e2; injection e2 with _ e2 _; exact e e2)]
    exact h.cells i hi
theorem TxAt.rd {w : World} {G : Nat} {ls : List ByteArray} (h : TxAt w G ls) : Rd w w.heap.size (some ⟨G, 0, none⟩) (strV ls) := fun _ => ⟨G, 0, rfl, h.lt, fun k hk => by
  rw [length_strV] at hk
  rw [Nat.zero_add, h.cells k hk]; simp [strV]⟩
theorem tx_of_own {w : World} {base n c : Nat} {A : Option Addr} {ls : List ByteArray} (h : w.ownsRow base 9 1 (.slice A n c) n (strV ls)) (hl : ls.length = n) (hn : 1 ≤ n) : ∃ G, A = some ⟨G, 0, none⟩ ∧ n ≤ c ∧ TxAt w G ls := by
  have hr := own_rd3' h
  have hc := own_le3 h
  obtain ⟨b, off, hA, hb, hcell⟩ := hr (by intro e; have := congrArg List.length e; rw [length_strV, List.length_nil] at this; omega)
  obtain ⟨_, ⟨hv, _⟩ | ⟨g, cap, cur, hv, hbg, hg, _⟩⟩ := h
  · rw [hA] at hv; cases hv
  · simp only [Value.slice.injEq] at hv
    have e1 := hv.1
    rw [hA] at e1
    simp only [Option.some.injEq, Addr.mk.injEq] at e1
    obtain ⟨rfl, rfl, _⟩ := e1
    refine ⟨b, hA, hc, ⟨cur, hg⟩, fun k hk => ?_⟩
    have h1 := hcell k (by rw [length_strV]; exact hk)
    rw [Nat.zero_add] at h1
    rw [h1]; simp [strV]
/-- the texts of the first j lengths, and the products left -/
def txs (K : Nat → List Nat) (n j : Nat) : List ByteArray := (List.range n).map fun i => if i < j then lenT (prodP K n i) else pT (prodP K n i)
theorem txs_length (K : Nat → List Nat) (n j : Nat) : (txs K n j).length = n := by simp [txs]
theorem txs_at (K : Nat → List Nat) {n i : Nat} (j : Nat) (h : i < n) : (txs K n j)[i]'(by rw [txs_length]; exact h) = if i < j then lenT (prodP K n i) else pT (prodP K n i) := by simp [txs]
theorem txs_zero (K : Nat → List Nat) (n : Nat) : txs K n 0 = pTs (prodL K n) := by simp [txs, pTs, prodL]
theorem txs_all (K : Nat → List Nat) (n : Nat) : txs K n n = chrL K n := by
  unfold txs chrL
  refine List.map_congr_left fun i hi => ?_
  rw [if_pos (List.mem_range.1 hi)]
theorem txs_set (K : Nat → List Nat) {n j : Nat} (h : j < n) : (txs K n j).set j (lenT (prodP K n j)) = txs K n (j + 1) := by
  apply List.ext_getElem (by simp [txs_length])
  intro i h1 h2
  rw [List.length_set, txs_length] at h1
  rw [txs_at K (j + 1) h1]
  by_cases e : j = i
  · subst e; rw [List.getElem_set_self, if_pos (Nat.lt_succ_self _)]
  · rw [List.getElem_set_ne e, txs_at K j h1]
    by_cases e2 : i < j
    · rw [if_pos e2, if_pos (by omega)]
    · rw [if_neg e2, if_neg (by omega)]
/-- the characteristic was made -/
def ChMade (K : Nat → List Nat) (n : Nat) (w : World) (e : Ending) (w' : World) : Prop := ∃ G c, e = .returned (.slice (some ⟨G, 0, none⟩) n c) ∧ w.heap.size ≤ G ∧ Rd w' w'.heap.size (some ⟨G, 0, none⟩) (strV (chrL K n)) ∧ n ≤ c ∧ Below w.heap.size w w'

set_option maxHeartbeats 8000000 in
set_option maxRecDepth 100000 in
theorem iChar_of (w : World) (hg0 : GW w) (A : Option Addr) (cap : Nat) (rs : List (ByteArray × ByteArray)) (p g l o : ByteArray) (K : Nat → List Nat) (n : Nat) (hn1 : 1 ≤ n) (hn3 : n ≤ 3) (hK : ∀ k, Prm (K k)) (h : Rd w w.heap.size A (rotV rs)) (hd : ∀ w' : World, Rd w' w'.heap.size A (rotV rs) → Calls Tryz.prog 56 #[.agg #[.slice A rs.length cap, .string p, .string g, .string l], .string o] w' (PrMade K n w')) :
    Calls Tryz.prog 15 #[.agg #[.slice A rs.length cap, .string p, .string g, .string l], .string o] w (ChMade K n w) := by
  obtain ⟨w0, hw0⟩ : ∃ w0, w0 = w.alloc (.cells #[.slice A rs.length cap, .string p, .string g, .string l] 29) := ⟨_, rfl⟩
  have hb0 : Below w.heap.size w w0 := by rw [hw0]; exact (Below.refl _ _).alloc (Nat.le_refl _) _
  have hs0 := SB.made w #[.slice A rs.length cap, .string p, .string g, .string l] 29
  rw [← hw0] at hs0
  obtain ⟨P, hP⟩ : ∃ P, P = w.heap.size := ⟨_, rfl⟩
  have HB0 := Lib.hid hb0; have HK := Lib.hid hK
  have HDP := Lib.hid (hd w0 ((h.below hb0).mono hb0.size))
  rw [← hP] at hs0
  obtain ⟨⟨c0, c1, c2, c3⟩, _⟩ := hs0.all4
  unfold ChMade
  have HGW := Lib.hid hg0; clear hg0
  clear h hb0 hs0 hd hK
  generalize rs.length = M at *
  go_enter Tryz.func15, Tryz.ntmps15
  go_wp2_with fail
  rw [← hw0, ← hP]
  clear hw0 hP
  go_wp2_with fail
  refine HDP.out.mono ?_
  rintro _ w1 ⟨A1, k1, rfl, ho1, hb1⟩
  obtain ⟨G, rfl, hk1, htx⟩ := tx_of_own ho1 (by rw [pTs_len, prodL_length]) hn1
  rw [← txs_zero] at htx
  have HTX := Lib.hid htx; have HB1 := Lib.hid (HB0.out.trans (hb1.mono HB0.out.size))
  have hGw : w.heap.size ≤ G := by have h1 := (ho1.lt G rfl).1; have h2 := HB0.out.size; omega
  clear hb1 ho1 htx c0 c1 c2 c3 HB0 HDP
  go_wp2_with fail
  go_loopw [13] (fun iv wr => ∃ j : Nat, j ≤ n ∧ iv = .int .i64 (j : Int) ∧ Hid (TxAt wr G (txs K n j)) ∧ Hid (Below w.heap.size w wr)) (fun iv _ => n - (intOf iv).toNat)
  case atStart => exact ⟨0, Nat.zero_le _, rfl, HTX, HB1⟩
  case round =>
    obtain ⟨j, hj, rfl, HT, HBL⟩ := hrel
    clear HTX HB1
    by_cases hlt : j < n
    · have v0 : (j : Int) < (n : Int) := by omega
      have hcj := HT.out.cells j (by rw [txs_length]; exact hlt)
      rw [txs_at _ _ hlt, if_neg (Nat.lt_irrefl j)] at hcj
      have HLT := Lib.hid (fun (w' : World) (h' : GW w') => lengthsText_is w' h' (prodP K n j) (prodP_prm HK.out n j))
      have HTS := Lib.hid (txs_set K hlt)
      generalize pT (prodP K n j) = X at hcj HLT
      generalize lenT (prodP K n j) = Z at HLT HTS
      go_wp2_with fail
      refine (HLT.out _ (HGW.out.below HBL.out (Nat.le_refl _))).mono ?_
      rintro _ w5 ⟨rfl, hb5⟩
      have ht5 := HT.out.below hb5
      have hc5 := ht5.cells j (by rw [txs_length]; exact hlt)
      have hf5 := ht5.frozen j
      have b5 := HBL.out.trans (hb5.mono HBL.out.size)
      have HT6 := Lib.hid (ht5.put (k := j) (by rw [txs_length]; exact hlt) Z)
      rw [HTS.out] at HT6
      have HB6 := Lib.hid (b5.setCell (p := ⟨G, j, none⟩) hGw (.string Z))
      generalize (txs K n j)[j]'(by rw [txs_length]; exact hlt) = Y at hc5
      clear ht5 hb5 b5 hcj
      go_wp2_with fail
      go_roundw
      case rel => exact ⟨j + 1, by omega, by go_num, HT6, HB6⟩
      case measure => simp [intOf]; omega
    · obtain rfl : j = n := by omega
      go_wp2_with fail
      go_ret
      refine ⟨G, k1, rfl, hGw, ?_, hk1, HBL.out⟩
      have h1 := HT.out.rd
      rw [txs_all] at h1
      exact h1

set_option maxHeartbeats 8000000 in
set_option maxRecDepth 100000 in
theorem sChar_of (w : World) (A : Option Addr) (cap : Nat) (rs : List (ByteArray × ByteArray)) (p g l o : ByteArray) (K : Nat → List Nat) (n : Nat) (hn1 : 1 ≤ n) (hn3 : n ≤ 3) (hK : ∀ k, Prm (K k)) (h : Rd w w.heap.size A (rotV rs)) (hd : ∀ w' : World, Rd w' w'.heap.size A (rotV rs) → Calls Tryz.prog 58 #[.agg #[.slice A rs.length cap, .string p, .string g, .string l], .string o] w' (PrMade K n w')) :
    Calls Tryz.prog 17 #[.agg #[.slice A rs.length cap, .string p, .string g, .string l], .string o] w (ChMade K n w) := by
  obtain ⟨w0, hw0⟩ : ∃ w0, w0 = w.alloc (.cells #[.slice A rs.length cap, .string p, .string g, .string l] 29) := ⟨_, rfl⟩
  have hb0 : Below w.heap.size w w0 := by rw [hw0]; exact (Below.refl _ _).alloc (Nat.le_refl _) _
  have hs0 := SB.made w #[.slice A rs.length cap, .string p, .string g, .string l] 29
  rw [← hw0] at hs0
  obtain ⟨P, hP⟩ : ∃ P, P = w.heap.size := ⟨_, rfl⟩
  have HB0 := Lib.hid hb0; have HK := Lib.hid hK
  have HDP := Lib.hid (hd w0 ((h.below hb0).mono hb0.size))
  rw [← hP] at hs0
  obtain ⟨⟨c0, c1, c2, c3⟩, _⟩ := hs0.all4
  unfold ChMade
  skip
  clear h hb0 hs0 hd hK
  generalize rs.length = M at *
  go_enter Tryz.func17, Tryz.ntmps17
  go_wp2_with fail
  rw [← hw0, ← hP]
  clear hw0 hP
  go_wp2_with fail
  refine HDP.out.mono ?_
  rintro _ w1 ⟨A1, k1, rfl, ho1, hb1⟩
  obtain ⟨G, rfl, hk1, htx⟩ := tx_of_own ho1 (by rw [pTs_len, prodL_length]) hn1
  rw [← txs_zero] at htx
  have HTX := Lib.hid htx; have HB1 := Lib.hid (HB0.out.trans (hb1.mono HB0.out.size))
  have hGw : w.heap.size ≤ G := by have h1 := (ho1.lt G rfl).1; have h2 := HB0.out.size; omega
  clear hb1 ho1 htx c0 c1 c2 c3 HB0 HDP
  go_wp2_with fail
  go_loopw [6] (fun iv wr => ∃ j : Nat, j ≤ n ∧ iv = .int .i64 (j : Int) ∧ Hid (TxAt wr G (txs K n j)) ∧ Hid (Below w.heap.size w wr)) (fun iv _ => n - (intOf iv).toNat)
  case atStart => exact ⟨0, Nat.zero_le _, rfl, HTX, HB1⟩
  case round =>
    obtain ⟨j, hj, rfl, HT, HBL⟩ := hrel
    clear HTX HB1
    by_cases hlt : j < n
    · have v0 : (j : Int) < (n : Int) := by omega
      have hcj := HT.out.cells j (by rw [txs_length]; exact hlt)
      rw [txs_at _ _ hlt, if_neg (Nat.lt_irrefl j)] at hcj
      have HLT := Lib.hid (fun (w' : World) => sLengthsText_is w' (prodP K n j) (prodP_prm HK.out n j))
      have HTS := Lib.hid (txs_set K hlt)
      generalize pT (prodP K n j) = X at hcj HLT
      generalize lenT (prodP K n j) = Z at HLT HTS
      go_wp2_with fail
      refine (HLT.out _).mono ?_
      rintro _ w5 ⟨rfl, hb5⟩
      have ht5 := HT.out.below hb5
      have hc5 := ht5.cells j (by rw [txs_length]; exact hlt)
      have hf5 := ht5.frozen j
      have b5 := HBL.out.trans (hb5.mono HBL.out.size)
      have HT6 := Lib.hid (ht5.put (k := j) (by rw [txs_length]; exact hlt) Z)
      rw [HTS.out] at HT6
      have HB6 := Lib.hid (b5.setCell (p := ⟨G, j, none⟩) hGw (.string Z))
      generalize (txs K n j)[j]'(by rw [txs_length]; exact hlt) = Y at hc5
      clear ht5 hb5 b5 hcj
      go_wp2_with fail
      go_roundw
      case rel => exact ⟨j + 1, by omega, by go_num, HT6, HB6⟩
      case measure => simp [intOf]; omega
    · obtain rfl : j = n := by omega
      go_wp2_with fail
      go_ret
      refine ⟨G, k1, rfl, hGw, ?_, hk1, HBL.out⟩
      have h1 := HT.out.rd
      rw [txs_all] at h1
      exact h1

end

end Go.Proofs.YtipcodebmemkpaaGreatDoor
