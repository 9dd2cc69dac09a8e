/-
  Contracts of functions and plain laws that the law's proof uses (parts: Crib, Menu, Numb, MenZ, MenuRun, MenuS, MenZs). Conditions: what each theorem names.
-/
import Derived.Deep.QuietTactic
import Derived.BigQuiet
import Derived.Deep.AppendLies
import Derived.BigRegion
import Derived.Deep.RegionHeld3
import Derived.Test.YtnbdimbhklbadaaGreatDoorQPlA
import Derived.Test.YtnbdimbhklbadaaGreatDoorQBsA
import Derived.Test.YtnbdimbhklbadaaGreatDoorQRunL
import Derived.Test.YtnbdimbhklbadaaGreatDoorQShelf
import Derived.Test.YtnbdimbhklbadaaGreatDoorQDoA
import Derived.Test.YtnbdimbhklbadaaGreatDoorQExecH
import Derived.Laws.StructEq
import Derived.Shelf.SlicesE.Kit
namespace Go.Proofs.YtnbdimbhklbadaaGreatDoor
open Go.RowKit Pl
set_option linter.unusedVariables false
def linkV (l : List Lnk) : List Value := l.flatMap fun x => [.string x.1, .string x.2.1, .int .i64 (x.2.2 : Int)]
theorem length_linkV (l : List Lnk) : (linkV l).length = l.length * 3 := by
  induction l with
  | nil => rfl
  | cons x r ih =>
    have : linkV (x :: r) = [.string x.1, .string x.2.1, .int .i64 (x.2.2 : Int)] ++ linkV r := rfl
    rw [this, List.length_append, ih, List.length_cons]
    simp only [List.length_cons, List.length_nil]; omega
theorem linkV_snoc (l : List Lnk) (x : Lnk) : linkV l ++ [.string x.1, .string x.2.1, .int .i64 (x.2.2 : Int)] = linkV (l ++ [x]) := by simp [linkV]
theorem Tryz.infoL : (Tryz.prog.info? 50).map (fun i => (i.zero, i.size, i.bytes)) = some (some (.agg #[.string ByteArray.empty, .string ByteArray.empty, .int .i64 0]), 3, 40) := by kernel_rfl
theorem Tryz.undL : Tryz.prog.underlying 28 = some (.slice 50) := by kernel_rfl
theorem three_new (w : World) (a b : ByteArray) (n : Int) (t : TypeId) : ∀ (j : Nat) u, [Value.string a, Value.string b, Value.int .i64 n][j]? = some u → (w.alloc (.cells #[.string a, .string b, .int .i64 n] t)).cell? ((⟨w.heap.size, 0, none⟩ : Addr).add j) = some u :=
  World.news_of_block (cs := #[.string a, .string b, .int .i64 n]) (t := t) (fr := (0, 0)) (heap_alloc_new w _)
theorem three_one (a b : ByteArray) (n : Int) : ∀ u ∈ [Value.string a, Value.string b, Value.int .i64 n], u.oneCell' = true := by
  intro u hu
  simp at hu
  rcases hu with rfl | rfl | rfl <;> rfl
end Go.Proofs.YtnbdimbhklbadaaGreatDoor
namespace Go.Proofs.YtnbdimbhklbadaaGreatDoor
open Go.RowKit Pl
set_option linter.unusedVariables false
theorem below_grow (w : World) (k : Nat) (os : Array Obj) : Below w.heap.size w (Sort.grow (w.drewN k) os) :=
  ⟨rfl, rfl, rfl, by simp [Sort.grow], fun i hi => by simp only [Sort.grow]; rw [Array.getElem?_append_left (by simpa using hi)]; rfl⟩
theorem itoa_any (w : World) (hg : GW w) (n : Nat) (hn : n ≤ 1000000000000000000) :
    Calls Tryz.prog 26 #[.int .i64 n] w fun e w' => e = .returned (.string (mk (Lib.itoa n))) ∧ Below w.heap.size w w' := by
  refine (Tryz.strconv_Itoa (n : Int) (by omega) (by omega) w hg.tb).mono ?_
  rintro e w' ⟨rfl, k, os, rfl⟩
  exact ⟨rfl, below_grow w k os⟩
theorem Rd.link {w : World} {B : Nat} {A : Option Addr} {l : List Lnk} (h : Rd w B A (linkV l)) {k : Nat} (hk : k < l.length) :
    ∃ b off, A = some ⟨b, off, none⟩ ∧ b < B ∧ w.cell? ⟨b, off + k * 3, none⟩ = some (.string l[k].1) ∧ w.cell? ⟨b, off + k * 3 + 1, none⟩ = some (.string l[k].2.1) ∧ w.cell? ⟨b, off + k * 3 + 2, none⟩ = some (.int .i64 (l[k].2.2 : Int)) := by
  have hn : linkV l ≠ [] := by intro e; have := congrArg List.length e; rw [length_linkV, List.length_nil] at this; omega
  obtain ⟨b, off, e, hb, hcell⟩ := h hn
  have hat : ∀ (l : List Lnk) (k : Nat) (hk : k < l.length), (linkV l)[k * 3]? = some (.string l[k].1) ∧ (linkV l)[k * 3 + 1]? = some (.string l[k].2.1) ∧ (linkV l)[k * 3 + 2]? = some (.int .i64 (l[k].2.2 : Int)) := by
    intro l
    induction l with
    | nil => intro k hk; simp at hk
    | cons x r ih =>
      intro k hk
      have e1 : linkV (x :: r) = [.string x.1, .string x.2.1, .int .i64 (x.2.2 : Int)] ++ linkV r := rfl
      cases k with
      | zero => rw [e1]; exact ⟨rfl, rfl, rfl⟩
      | succ k =>
        obtain ⟨i1, i2, i3⟩ := ih k (by simpa using hk)
        rw [e1]
        have q : ∀ j, j = k * 3 ∨ j = k * 3 + 1 ∨ j = k * 3 + 2 → ([Value.string x.1, .string x.2.1, .int .i64 (x.2.2 : Int)] ++ linkV r)[j + 3]? = (linkV r)[j]? := fun j _ => by
          rw [List.getElem?_append_right (by simp)]; simp
        refine ⟨?_, ?_, ?_⟩
        · rw [show (k + 1) * 3 = k * 3 + 3 by omega, q _ (.inl rfl)]; exact i1
        · rw [show (k + 1) * 3 + 1 = k * 3 + 1 + 3 by omega, q _ (.inr (.inl rfl))]; exact i2
        · rw [show (k + 1) * 3 + 2 = k * 3 + 2 + 3 by omega, q _ (.inr (.inr rfl))]; exact i3
  obtain ⟨j1, j2, j3⟩ := hat l k hk
  have hl := length_linkV l
  refine ⟨b, off, e, hb, ?_, ?_, ?_⟩
  · rw [hcell (k * 3) (by omega), ← List.getElem?_eq_getElem]; exact j1
  · rw [Nat.add_assoc, hcell (k * 3 + 1) (by omega), ← List.getElem?_eq_getElem]; exact j2
  · rw [Nat.add_assoc, hcell (k * 3 + 2) (by omega), ← List.getElem?_eq_getElem]; exact j3
set_option maxHeartbeats 4000000 in
set_option maxRecDepth 100000 in
theorem menuValid_true (w : World) (A : Option Addr) (cap : Nat) (m : List Lnk) (h : Rd w w.heap.size A (linkV m)) (hc : m.length ≤ cap) (hv : menuV m) :
    Calls Tryz.prog 19 #[.slice A m.length cap] w fun e w' => e = .returned (.bool true) ∧ Below w.heap.size w w' := by
  obtain ⟨h1, h2, hall, hord⟩ := hv
  have HR := Lib.hid h; have HA := Lib.hid hall; have HO := Lib.hid hord; clear h hall hord
  go_enter Tryz.func19, Tryz.ntmps19
  go_wp2_with fail
  go_loopw [3, 16] (fun p i wr => ∃ (k q : Nat), k ≤ m.length ∧ i = .int .i64 k ∧ p = .int .i64 q ∧ q ≤ 60 ∧ Hid (∀ j (hj : j < m.length), k ≤ j → q < m[j].2.2) ∧ Below w.heap.size w wr) (fun _ i _ => m.length - (intOf i).toNat)
  case atStart => exact ⟨0, 0, Nat.zero_le _, rfl, rfl, by omega, Lib.hid (fun j hj _ => (HA.out _ (List.getElem_mem hj)).2.2.2.2.1), Below.refl _ _⟩
  case round =>
    obtain ⟨k, q, hk, rfl, rfl, hq, HQ, hbl⟩ := hrel
    have HBL := Lib.hid hbl; clear hbl
    by_cases hlt : k < m.length
    · obtain ⟨b, off, rfl, hbb, c0, c1, c2⟩ := (HR.out.below HBL.out).link hlt
      obtain ⟨x1, x2, x3, x4, x5, x6⟩ := HA.out _ (List.getElem_mem hlt)
      have hqk := HQ.out k hlt (Nat.le_refl _)
      have hnx : ∀ j (hj : j < m.length), k + 1 ≤ j → m[k].2.2 < m[j].2.2 := fun j hj hkj => List.pairwise_iff_getElem.1 HO.out k j hlt hj (by omega)
      have HNX := Lib.hid hnx; clear hnx
      generalize m[k] = x at c0 c1 c2 x1 x2 x3 x4 x5 x6 hqk HNX
      obtain ⟨p, c, key⟩ := x
      simp only at c0 c1 c2 x1 x2 x3 x4 x5 x6 hqk HNX
      have hwv : wv (tl (p ++ c)) = true := by rw [append_tl, tl_mk]; exact x3
      have hpc : (p.toList == c.toList) = false := by rw [beq_eq_false_iff_ne]; intro e; exact x4 (by rw [toList_tl, toList_tl] at e; rw [← mk_tl p, ← mk_tl c, e])
      have n1 : ((p.size : Int) != 1) = false := by simp; omega
      have n2 : ((c.size : Int) != 1) = false := by simp; omega
      have HWV := Lib.hid hwv; clear hwv x3 x4
      go_wp2_with fail
      refine (wordValid_is _ true _ HWV.out).mono ?_
      rintro _ _ ⟨rfl, rfl⟩
      have hb2 : Below w.heap.size w (wr.alloc (.cells #[.string p, .string c, .int .i64 (key : Int)] 50)) := HBL.out.alloc HBL.out.size _
      have HB2 := Lib.hid hb2; clear hb2
      go_wp2_with fail
      go_roundw
      case rel => exact ⟨k + 1, key, by omega, by go_num, rfl, by omega, HNX, HB2.out⟩
      case measure => simp [intOf]; omega
    · go_wp2_with fail
      go_ret
      exact ⟨rfl, HBL.out⟩
theorem itoa_size (n : Nat) (hn : n ≤ 1000000000000000000) : (mk (Lib.itoa n)).size ≤ 30 := by
  have key : ∀ (f u : Nat), u < 10 ^ f → (Lib.decDigits u).length ≤ f + 1 := by
    intro f
    induction f with
    | zero => intro u hu; rw [Lib.decDigits, dif_pos (by simp at hu; omega)]; simp
    | succ f ih =>
      intro u hu
      rw [Lib.decDigits]
      split
      · simp
      · rw [List.length_append, List.length_singleton]
        have := ih (u / 10) (by rw [Nat.pow_succ] at hu; omega)
        omega
  rw [size_mk]
  unfold Lib.itoa
  rw [if_neg (by omega), Int.toNat_natCast]
  have := key 19 n (by omega)
  omega
section
variable {W W' : World} {B : Nat} {p c : ByteArray} {n : Int}
theorem s3_below (hb : Below W.heap.size W W') (h : W.cell? ⟨B, 0, none⟩ = some (.string p) ∧ W.cell? ⟨B, 1, none⟩ = some (.string c) ∧ W.cell? ⟨B, 2, none⟩ = some (.int .i64 n)) :
    W'.cell? ⟨B, 0, none⟩ = some (.string p) ∧ W'.cell? ⟨B, 1, none⟩ = some (.string c) ∧ W'.cell? ⟨B, 2, none⟩ = some (.int .i64 n) := by
  have hl := World.block_lt_of_cell? _ _ h.1
  have e := fun i => World.cell?_of_block (a := ⟨B, i, none⟩) (hb.block B hl)
  exact ⟨(e 0).trans h.1, (e 1).trans h.2.1, (e 2).trans h.2.2⟩
theorem s3_alloc (h : W.cell? ⟨B, 0, none⟩ = some (.string p) ∧ W.cell? ⟨B, 1, none⟩ = some (.string c) ∧ W.cell? ⟨B, 2, none⟩ = some (.int .i64 n)) (o : Obj) :
    (W.alloc o).cell? ⟨B, 0, none⟩ = some (.string p) ∧ (W.alloc o).cell? ⟨B, 1, none⟩ = some (.string c) ∧ (W.alloc o).cell? ⟨B, 2, none⟩ = some (.int .i64 n) :=
  s3_below ((Below.refl _ _).alloc (Nat.le_refl _) o) h
theorem s3_grown {row : Option Nat} (hg : W.grownBy W' row) (hne : some B ≠ row) (h : W.cell? ⟨B, 0, none⟩ = some (.string p) ∧ W.cell? ⟨B, 1, none⟩ = some (.string c) ∧ W.cell? ⟨B, 2, none⟩ = some (.int .i64 n)) :
    W'.cell? ⟨B, 0, none⟩ = some (.string p) ∧ W'.cell? ⟨B, 1, none⟩ = some (.string c) ∧ W'.cell? ⟨B, 2, none⟩ = some (.int .i64 n) :=
  ⟨cell_grown2 hg h.1 hne, cell_grown2 hg h.2.1 hne, cell_grown2 hg h.2.2 hne⟩
end
theorem strV_snoc2 (l : List ByteArray) (x : ByteArray) : strV l ++ [Value.string x] = strV (l ++ [x]) := by simp [strV]
set_option maxHeartbeats 8000000 in
set_option maxRecDepth 100000 in
theorem formatMenu_any (w : World) (hg : GW w) (A : Option Addr) (cap : Nat) (m : List Lnk) (h : Rd w w.heap.size A (linkV m)) (hc : m.length ≤ cap) (hv : menuV m) :
    Calls Tryz.prog 7 #[.slice A m.length cap] w fun e w' => e = .returned (.string (mk (menuT m))) ∧ Below w.heap.size w w' := by
  obtain ⟨iS, hi, hz0, hz1, hz2⟩ := info_parts Tryz.infoS
  have HI := Lib.hid hi; have HZ0 := Lib.hid hz0; have HZ1 := Lib.hid hz1; have HZ2 := Lib.hid hz2
  clear hi hz0 hz1 hz2
  obtain ⟨h1, h2, hall, hord⟩ := hv
  have HR := Lib.hid h; have HV := Lib.hid (show menuV m from ⟨h1, h2, hall, hord⟩); have HA := Lib.hid hall; have HG := Lib.hid hg; clear h hall hord hg
  obtain ⟨M, hM⟩ : ∃ M : Nat → List ByteArray, M = fun k => (m.take k).map fun x => mk (lnkT x) := ⟨_, rfl⟩
  have hMl : ∀ k, k ≤ m.length → (M k).length = k := fun k hk => by rw [hM]; simp [hk]
  have hMs : ∀ k (hk : k < m.length), M k ++ [m[k].1 ++ m[k].2.1 ++ mk (Lib.itoa m[k].2.2)] = M (k + 1) := fun k hk => by
    rw [hM]
    simp only [List.take_succ_eq_append_getElem hk, List.map_append, List.map_cons, List.map_nil]
    congr 2
  have hM0 : M 0 = [] := by rw [hM]; rfl
  have HML := Lib.hid hMl; have HMS := Lib.hid hMs; have HM0 := Lib.hid hM0
  have hMj : mk (Lib.join ((M m.length).map tl) [32]) = mk (menuT m) := by
    rw [hM]; unfold menuT; simp only [List.take_length, List.map_map]
    congr 2
  have hjz : (Lib.join ((M m.length).map tl) [32]).length ≤ 1000 := by
    rw [hM]
    refine Nat.le_trans (join_le _ _ 40 ?_) ?_
    · intro s hs
      simp only [List.take_length, List.map_map, List.mem_map] at hs
      obtain ⟨x, hx, rfl⟩ := hs
      obtain ⟨y1, y2, _, _, y5, y6⟩ := HA.out x hx
      have := itoa_size x.2.2 (by omega)
      rw [size_mk] at this
      show (tl (mk (lnkT x))).length ≤ 40
      rw [tl_mk]; unfold lnkT
      simp only [List.length_append, length_tl]; omega
    · simp only [List.length_map, List.take_length, List.length_singleton]; omega
  have HMJ := Lib.hid hMj; have HJZ := Lib.hid hjz
  clear hMl hMs hM0 hMj hM hjz
  go_enter Tryz.func7, Tryz.ntmps7
  go_wp2_with fail
  refine (menuValid_true _ A cap m HR.out hc HV.out).mono ?_
  rintro _ w1 ⟨rfl, hb1⟩
  have HB1 := Lib.hid hb1; clear hb1
  go_wp2_with fail
  go_loopw [3, 11] (fun o i wr => ∃ k : Nat, k ≤ m.length ∧ i = .int .i64 k ∧ wr.ownsRow w.heap.size 9 1 o k (strV (M k)) ∧ Below w.heap.size w wr) (fun _ i _ => m.length - (intOf i).toNat)
  case atStart => exact ⟨0, Nat.zero_le _, rfl, by rw [HM0.out]; exact World.ownsRow_nil _ _ _ _, HB1.out⟩
  case round =>
    obtain ⟨k, hk, rfl, hown, hbl⟩ := hrel
    have HO := Lib.hid hown; have HBL := Lib.hid hbl; clear hown hbl HB1
    obtain ⟨A3, c3, e3⟩ := slot_slice HO.out
    subst e3
    by_cases hlt : k < m.length
    · obtain ⟨b, off, rfl, hbb, c0, c1, c2⟩ := (HR.out.below HBL.out).link hlt
      obtain ⟨x1, x2, x3, x4, x5, x6⟩ := HA.out _ (List.getElem_mem hlt)
      have hms := HMS.out k hlt
      generalize m[k] = x at c0 c1 c2 x1 x2 x5 x6 hms
      obtain ⟨p, c, key⟩ := x
      simp only at c0 c1 c2 x1 x2 x5 x6 hms
      have hbw := HBL.out.size
      have HMSX := Lib.hid hms; clear hms x3 x4
      have hgr := HG.out.below (HBL.out.alloc HBL.out.size (.cells #[.string p, .string c, .int .i64 (key : Int)] 50)).drew (Nat.le_refl _)
      have hito := itoa_any _ hgr key (by omega)
      have hod := World.ownsRow.drew (HO.out.alloc (.cells #[.string p, .string c, .int .i64 (key : Int)] 50))
      have hbd := (HBL.out.alloc HBL.out.size (.cells #[.string p, .string c, .int .i64 (key : Int)] 50)).drew
      have d0 : (wr.alloc (.cells #[.string p, .string c, .int .i64 (key : Int)] 50)).cell? ⟨wr.heap.size, 0, none⟩ = some (.string p) := by simp
      have d1 : (wr.alloc (.cells #[.string p, .string c, .int .i64 (key : Int)] 50)).cell? ⟨wr.heap.size, 1, none⟩ = some (.string c) := by simp
      have d2 : (wr.alloc (.cells #[.string p, .string c, .int .i64 (key : Int)] 50)).cell? ⟨wr.heap.size, 2, none⟩ = some (.int .i64 (key : Int)) := by simp
      have hnb : some wr.heap.size ≠ (Value.slice A3 k c3).ownBlock := fun e => by have := (HO.out.lt _ e.symm).2; omega
      have hbs : wr.heap.size < (wr.alloc (.cells #[.string p, .string c, .int .i64 (key : Int)] 50)).heap.size := by simp
      go_wp2_with fail
      generalize wr.alloc (.cells #[.string p, .string c, .int .i64 (key : Int)] 50) = W0 at hito hod hbd d0 d1 d2 hbs ⊢
      generalize wr.heap.size = B at d0 d1 d2 hnb hbs ⊢
      have HITO := Lib.hid hito; have HOD := Lib.hid hod; have HBD := Lib.hid hbd; have HSZ := Lib.hid hbd.size; clear hito hod hbd hgr hbw c0 c1 c2
      have hpz : (p ++ c).size ≤ 10 := by rw [ByteArray.size_append]; omega
      have hiz : (mk (Lib.itoa key)).size ≤ 30 := itoa_size key (by omega)
      generalize mk (Lib.itoa (key : Int)) = I at HITO HMSX hiz
      have hs0 : ¬ (9223372036854775807 < (p ++ c).size + I.size) := by omega
      have hs1 : ¬ (9223372036854775807 < p.size + c.size + I.size) := by omega
      have hs2 : ¬ (9223372036854775807 < 1 + 1 + I.size) := by omega
      have hs3 : ¬ (9223372036854775807 < 2 + I.size) := by omega
      have hk12 : k ≤ 12 := by omega
      go_region_held3 (fun W => W.cell? ⟨B, 0, none⟩ = some (.string p) ∧ W.cell? ⟨B, 1, none⟩ = some (.string c) ∧ W.cell? ⟨B, 2, none⟩ = some (.int .i64 (key : Int))) (first | assumption | exact ⟨d0, d1, d2⟩ | exact s3_below hb7 ⟨d0, d1, d2⟩ | exact s3_alloc (s3_below hb7 ⟨d0, d1, d2⟩) _ | exact s3_grown hg5 hnb (s3_alloc (s3_below hb7 ⟨d0, d1, d2⟩) _)) (first | (go_at_call 26; refine HITO.out.mono ?_; rintro _ w7 ⟨rfl, hb7⟩) | (rw [if_pos (by rfl)]; refine wp_append_lies _ (.tmp 15) (.tmp 25) 33 (by rfl) w.heap.size 9 iS _ 1 16 Tryz.undS HI.out HZ0.out HZ1.out HZ2.out rfl (by decide) _ k _ (by rfl) ((ownsRow_below HOD.out hb7).alloc _) ⟨w7.heap.size, 0, none⟩ 1 1 [.string (p ++ c ++ I)] (by rfl) rfl (one_new w7 _ _) one_cell (by decide) (by unfold maxLen; omega) (by omega) (Nat.le_trans HSZ.out (Nat.le_trans hb7.size (by simp))) _ rfl ?_; intro g5 c5 w8 ho5 hg5 hat5 hlt5) | fail)
      all_goals
        rw [strV_snoc2, HMSX.out] at ho5
        have hb5 : Below w.heap.size w w8 := (((HBD.out.trans (hb7.mono HSZ.out)).alloc (Nat.le_trans HSZ.out hb7.size) _)).grown hg5 (Nat.le_trans HSZ.out (Nat.le_trans hb7.size (by simp))) fun k' e' => (HO.out.lt k' e').1
        have HO5 := Lib.hid ho5; have HB5 := Lib.hid hb5; clear ho5 hg5 hat5 hlt5 hb5 hb7 d0 d1 d2 hbs hnb hs0 hs1 hs2 hs3
        go_wp2_with fail
        go_roundw
        case rel => exact ⟨k + 1, by omega, by go_num, HO5.out, HB5.out⟩
        case measure => simp [intOf]; omega
    · have hke : k = m.length := by omega
      subst hke
      have hMl := HML.out m.length (Nat.le_refl _)
      obtain ⟨ws, hws⟩ : ∃ ws, ws = M m.length := ⟨_, rfl⟩
      have hmj := HMJ.out
      have hjz := HJZ.out
      rw [← hws] at hMl hmj hjz
      have ho := HO.out
      rw [← hws] at ho
      have hml2 := hMl
      have hjn := join_own wr w.heap.size A3 c3 ws (mk [32]) (by rw [hMl]; exact ho) (by intro e; rw [e] at hMl; simp at hMl; omega) (by omega) (by rw [tl_mk]; omega)
      rw [hMl, tl_mk, hmj] at hjn
      have HJN := Lib.hid hjn
      clear hjn ho hmj hjz hws hMl hml2 HO
      go_wp2_with fail
      refine HJN.out.mono ?_
      rintro _ w7 ⟨rfl, hb7⟩
      have HB7 := Lib.hid (HBL.out.trans (hb7.mono HBL.out.size)); clear hb7
      go_wp2_with fail
      go_ret
      exact ⟨rfl, HB7.out⟩
end Go.Proofs.YtnbdimbhklbadaaGreatDoor
namespace Go.Proofs.YtnbdimbhklbadaaGreatDoor
open Go.RowKit Pl
set_option linter.unusedVariables false
theorem itoa_nat (u : Nat) : Lib.itoa (u : Int) = Lib.decDigits u := by unfold Lib.itoa; rw [if_neg (by omega), Int.toNat_natCast]
theorem itoa_len (u : Nat) (hu : u ≤ 1000000000000) : 1 ≤ (Lib.itoa (u : Int)).length ∧ (Lib.itoa (u : Int)).length ≤ 14 := by
  have key : ∀ (f u : Nat), u < 10 ^ f → (Lib.decDigits u).length ≤ f + 1 := by
    intro f
    induction f with
    | zero => intro u hu; rw [Lib.decDigits, dif_pos (by simp at hu; omega)]; simp
    | succ f ih =>
      intro u hu
      rw [Lib.decDigits]
      split
      · simp
      · rw [List.length_append, List.length_singleton]
        have := ih (u / 10) (by rw [Nat.pow_succ] at hu; omega)
        omega
  rw [itoa_nat]
  have := key 13 u (by omega)
  exact ⟨List.length_pos_iff.2 (dec_ne u), by omega⟩
end Go.Proofs.YtnbdimbhklbadaaGreatDoor
namespace Go.Proofs.YtnbdimbhklbadaaGreatDoor
open Go.RowKit Pl
set_option linter.unusedVariables false
abbrev LnkZ := ByteArray × ByteArray × Int
def linkZ (l : List LnkZ) : List Value := l.flatMap fun x => [.string x.1, .string x.2.1, .int .i64 x.2.2]
theorem length_linkZ : ∀ (l : List LnkZ), (linkZ l).length = l.length * 3
  | [] => rfl
  | x :: r => by
    have e1 : linkZ (x :: r) = [.string x.1, .string x.2.1, .int .i64 x.2.2] ++ linkZ r := rfl
    rw [e1, List.length_append, length_linkZ r, List.length_cons]; simp; omega
theorem Rd.linkz {w : World} {B : Nat} {A : Option Addr} {l : List LnkZ} (h : Rd w B A (linkZ l)) {k : Nat} (hk : k < l.length) :
    ∃ b off, A = some ⟨b, off, none⟩ ∧ b < B ∧ w.cell? ⟨b, off + k * 3, none⟩ = some (.string l[k].1) ∧ w.cell? ⟨b, off + k * 3 + 1, none⟩ = some (.string l[k].2.1) ∧ w.cell? ⟨b, off + k * 3 + 2, none⟩ = some (.int .i64 l[k].2.2) := by
  have hn : linkZ l ≠ [] := by intro e; have := congrArg List.length e; rw [length_linkZ, List.length_nil] at this; omega
  obtain ⟨b, off, e, hb, hcell⟩ := h hn
  have hat : ∀ (l : List LnkZ) (k : Nat) (hk : k < l.length), (linkZ l)[k * 3]? = some (.string l[k].1) ∧ (linkZ l)[k * 3 + 1]? = some (.string l[k].2.1) ∧ (linkZ l)[k * 3 + 2]? = some (.int .i64 l[k].2.2) := by
    intro l
    induction l with
    | nil => intro k hk; simp at hk
    | cons x r ih =>
      intro k hk
      have e1 : linkZ (x :: r) = [.string x.1, .string x.2.1, .int .i64 x.2.2] ++ linkZ r := rfl
      cases k with
      | zero => rw [e1]; exact ⟨rfl, rfl, rfl⟩
      | succ k =>
        obtain ⟨i1, i2, i3⟩ := ih k (by simpa using hk)
        rw [e1]
        have q : ∀ j, j = k * 3 ∨ j = k * 3 + 1 ∨ j = k * 3 + 2 → ([Value.string x.1, .string x.2.1, .int .i64 x.2.2] ++ linkZ r)[j + 3]? = (linkZ r)[j]? := fun j _ => by
          rw [List.getElem?_append_right (by simp)]; simp
        refine ⟨?_, ?_, ?_⟩
        · rw [show (k + 1) * 3 = k * 3 + 3 by omega, q _ (.inl rfl)]; exact i1
        · rw [show (k + 1) * 3 + 1 = k * 3 + 1 + 3 by omega, q _ (.inr (.inl rfl))]; exact i2
        · rw [show (k + 1) * 3 + 2 = k * 3 + 2 + 3 by omega, q _ (.inr (.inr rfl))]; exact i3
  obtain ⟨j1, j2, j3⟩ := hat l k hk
  have hl := length_linkZ l
  refine ⟨b, off, e, hb, ?_, ?_, ?_⟩
  · rw [hcell (k * 3) (by omega), ← List.getElem?_eq_getElem]; exact j1
  · rw [Nat.add_assoc, hcell (k * 3 + 1) (by omega), ← List.getElem?_eq_getElem]; exact j2
  · rw [Nat.add_assoc, hcell (k * 3 + 2) (by omega), ← List.getElem?_eq_getElem]; exact j3
def okZ (q : Int) (x : LnkZ) : Prop := x.1.size = 1 ∧ x.2.1.size = 1 ∧ wv (tl x.1 ++ tl x.2.1) = true ∧ x.1 ≠ x.2.1 ∧ q < x.2.2 ∧ x.2.2 ≤ 60
def okM : Int → List LnkZ → Prop
  | _, [] => True
  | q, x :: r => okZ q x ∧ okM x.2.2 r
def menuZ (m : List LnkZ) : Prop := 1 ≤ m.length ∧ m.length ≤ 12 ∧ okM 0 m
def toL (m : List LnkZ) : List Lnk := m.map fun x => (x.1, x.2.1, x.2.2.toNat)
theorem toL_length (m : List LnkZ) : (toL m).length = m.length := List.length_map _
theorem okM_all : ∀ (m : List LnkZ) (q : Int), 0 ≤ q → okM q m → linkZ m = linkV (toL m) ∧ (∀ x ∈ toL m, x.1.size = 1 ∧ x.2.1.size = 1 ∧ wv (tl x.1 ++ tl x.2.1) = true ∧ x.1 ≠ x.2.1 ∧ q < (x.2.2 : Int) ∧ x.2.2 ≤ 60) ∧ (toL m).Pairwise fun x y => x.2.2 < y.2.2
  | [], _, _, _ => ⟨rfl, fun x hx => by simp [toL] at hx, List.Pairwise.nil⟩
  | x :: r, q, hq, h => by
    obtain ⟨⟨h1, h2, h3, h4, h5, h6⟩, hr⟩ := h
    obtain ⟨i1, i2, i3⟩ := okM_all r x.2.2 (by omega) hr
    have e0 : ((x.2.2.toNat : Nat) : Int) = x.2.2 := by omega
    have e1 : toL (x :: r) = (x.1, x.2.1, x.2.2.toNat) :: toL r := rfl
    refine ⟨?_, ?_, ?_⟩
    · show [Value.string x.1, .string x.2.1, .int .i64 x.2.2] ++ linkZ r = _
      rw [i1, e1]
      show _ = [Value.string x.1, .string x.2.1, .int .i64 (x.2.2.toNat : Int)] ++ linkV (toL r)
      rw [e0]
    · intro y hy
      rw [e1] at hy
      rcases List.mem_cons.1 hy with rfl | hy
      · exact ⟨h1, h2, h3, h4, by simp only; omega, by simp only; omega⟩
      · obtain ⟨k1, k2, k3, k4, k5, k6⟩ := i2 y hy
        exact ⟨k1, k2, k3, k4, by omega, k6⟩
    · rw [e1]
      refine List.pairwise_cons.2 ⟨fun y hy => ?_, i3⟩
      have := (i2 y hy).2.2.2.2.1
      simp only; omega
theorem menuZ_to {m : List LnkZ} (h : menuZ m) : linkZ m = linkV (toL m) ∧ menuV (toL m) := by
  obtain ⟨i1, i2, i3⟩ := okM_all m 0 (by omega) h.2.2
  refine ⟨i1, by rw [toL_length]; exact h.1, by rw [toL_length]; exact h.2.1, fun x hx => ?_, i3⟩
  obtain ⟨k1, k2, k3, k4, k5, k6⟩ := i2 x hx
  exact ⟨k1, k2, k3, k4, by omega, k6⟩
theorem okM_at {q : Int} {m : List LnkZ} {k : Nat} (hk : k < m.length) : okM q (m.drop k) ↔ okZ q m[k] ∧ okM m[k].2.2 (m.drop (k + 1)) := by
  rw [List.drop_eq_getElem_cons hk]; rfl
set_option maxHeartbeats 8000000 in
set_option maxRecDepth 100000 in
theorem menuValid_any (w : World) (A : Option Addr) (cap : Nat) (m : List LnkZ) (b : Bool) (h : Rd w w.heap.size A (linkZ m)) (hc : m.length ≤ cap) (hz : ∀ x ∈ m, x.1.size ≤ 100 ∧ x.2.1.size ≤ 100) (hb : b = true ↔ menuZ m) :
    Calls Tryz.prog 19 #[.slice A m.length cap] w fun e w' => e = .returned (.bool b) ∧ Below w.heap.size w w' := by
  have HR := Lib.hid h; have HZ := Lib.hid hz; have HB := Lib.hid hb; clear h hz hb
  go_enter Tryz.func19, Tryz.ntmps19
  by_cases hl1 : m.length < 1
  · have hbf : b = false := by cases b with | false => rfl | true => have := (HB.out.1 rfl).1; omega
    subst hbf
    go_wp2_with fail
    go_ret
    exact ⟨rfl, Below.refl _ _⟩
  by_cases hl2 : 12 < m.length
  · have hbf : b = false := by cases b with | false => rfl | true => have := (HB.out.1 rfl).2.1; omega
    subst hbf
    go_wp2_with fail
    go_ret
    exact ⟨rfl, Below.refl _ _⟩
  have HB2 := Lib.hid (show b = true ↔ okM 0 m from ⟨fun e => (HB.out.1 e).2.2, fun e => HB.out.2 ⟨by omega, by omega, e⟩⟩)
  go_wp2_with fail
  go_loopw [3, 16] (fun p i wr => ∃ (k : Nat) (q : Int), k ≤ m.length ∧ i = .int .i64 k ∧ p = .int .i64 q ∧ Hid (b = true ↔ okM q (m.drop k)) ∧ Below w.heap.size w wr) (fun _ i _ => m.length - (intOf i).toNat)
  case atStart => exact ⟨0, 0, Nat.zero_le _, rfl, rfl, HB2, Below.refl _ _⟩
  case round =>
    obtain ⟨k, q, hk, rfl, rfl, HQ, hbl⟩ := hrel
    have HBL := Lib.hid hbl; clear hbl
    by_cases hlt : k < m.length
    · obtain ⟨b0, off, rfl, hbb, c0, c1, c2⟩ := (HR.out.below HBL.out).linkz hlt
      obtain ⟨y1, y2⟩ := HZ.out _ (List.getElem_mem hlt)
      have hst := HQ.out.trans (okM_at hlt)
      have HST := Lib.hid hst; clear hst
      generalize m[k] = x at c0 c1 c2 y1 y2 HST
      obtain ⟨p, c, key⟩ := x
      simp only at c0 c1 c2 y1 y2 HST
      have hb2 : Below w.heap.size w (wr.alloc (.cells #[.string p, .string c, .int .i64 key] 50)) := HBL.out.alloc HBL.out.size _
      have HB3 := Lib.hid hb2; clear hb2
      have hno : ¬ okZ q (p, c, key) → b = false := fun hn => by
        cases b with
        | false => rfl
        | true => exact absurd (HST.out.1 rfl).1 hn
      by_cases g1 : p.size = 1
      case neg =>
        have hbf := hno fun k => g1 k.1
        subst hbf
        have n1 : ((p.size : Int) != 1) = true := by simp; omega
        clear hno
        go_wp2_with fail
        go_ret
        exact ⟨rfl, HB3.out⟩
      by_cases g2 : c.size = 1
      case neg =>
        have hbf := hno fun k => g2 k.2.1
        subst hbf
        have n1 : ((p.size : Int) != 1) = false := by simp; omega
        have n2 : ((c.size : Int) != 1) = true := by simp; omega
        clear hno
        go_wp2_with fail
        go_ret
        exact ⟨rfl, HB3.out⟩
      have n1 : ((p.size : Int) != 1) = false := by simp; omega
      have n2 : ((c.size : Int) != 1) = false := by simp; omega
      by_cases g3 : wv (tl p ++ tl c) = true
      case neg =>
        have hbf := hno fun k => g3 k.2.2.1
        subst hbf
        have hwv : wv (tl (p ++ c)) = false := by rw [append_tl, tl_mk]; simpa using g3
        have HWV := Lib.hid hwv; clear hwv g3 hno
        go_wp2_with fail
        refine (wordValid_is _ false _ HWV.out).mono ?_
        rintro _ _ ⟨rfl, rfl⟩
        go_wp2_with fail
        go_ret
        exact ⟨rfl, HB3.out⟩
      have hwv : wv (tl (p ++ c)) = true := by rw [append_tl, tl_mk]; exact g3
      have HWV := Lib.hid hwv; clear hwv
      by_cases g4 : p = c
      case pos =>
        have hbf := hno fun k => k.2.2.2.1 g4
        subst hbf
        have hpc : (p.toList == c.toList) = true := by rw [beq_iff_eq, g4]
        clear hno g3 g4
        go_wp2_with fail
        refine (wordValid_is _ true _ HWV.out).mono ?_
        rintro _ _ ⟨rfl, rfl⟩
        go_wp2_with fail
        go_ret
        exact ⟨rfl, HB3.out⟩
      have hpc : (p.toList == c.toList) = false := by rw [beq_eq_false_iff_ne]; intro e; exact g4 (by rw [toList_tl, toList_tl] at e; rw [← mk_tl p, ← mk_tl c, e])
      by_cases g5 : q < key
      case neg =>
        have hbf := hno fun k => g5 k.2.2.2.2.1
        subst hbf
        have n3 : key ≤ q := by omega
        clear hno g3 g4
        go_wp2_with fail
        refine (wordValid_is _ true _ HWV.out).mono ?_
        rintro _ _ ⟨rfl, rfl⟩
        go_wp2_with fail
        go_ret
        exact ⟨rfl, HB3.out⟩
      have n3 : ¬ key ≤ q := by omega
      by_cases g6 : key ≤ 60
      case neg =>
        have hbf := hno fun k => g6 k.2.2.2.2.2
        subst hbf
        have n4 : 60 < key := by omega
        clear hno g3 g4
        go_wp2_with fail
        refine (wordValid_is _ true _ HWV.out).mono ?_
        rintro _ _ ⟨rfl, rfl⟩
        go_wp2_with fail
        go_ret
        exact ⟨rfl, HB3.out⟩
      have n4 : ¬ 60 < key := by omega
      have HNX := Lib.hid (show b = true ↔ okM key (m.drop (k + 1)) from HST.out.trans ⟨fun e => e.2, fun e => ⟨⟨g1, g2, g3, g4, g5, g6⟩, e⟩⟩)
      clear hno g3 g4
      go_wp2_with fail
      refine (wordValid_is _ true _ HWV.out).mono ?_
      rintro _ _ ⟨rfl, rfl⟩
      go_wp2_with fail
      go_roundw
      case rel => exact ⟨k + 1, key, by omega, by go_num, rfl, HNX, HB3.out⟩
      case measure => simp [intOf]; omega
    · have hbt : b = true := HQ.out.2 (by rw [List.drop_eq_nil_of_le (by omega)]; trivial)
      subst hbt
      go_wp2_with fail
      go_ret
      exact ⟨rfl, HBL.out⟩
end Go.Proofs.YtnbdimbhklbadaaGreatDoor
namespace Go.Proofs.YtnbdimbhklbadaaGreatDoor
open Go.RowKit Pl
set_option linter.unusedVariables false
theorem orAbsent_is (w : World) (s : ByteArray) (h : tl s ≠ []) :
    Calls Tryz.prog 175 #[.string s, .bool true] w fun e w' => e = .returned (.string s) ∧ w = w' := by
  have hq : s.toList.isEmpty = false := by rw [List.isEmpty_eq_false_iff, toList_tl]; exact h
  clear h
  go_enter Tryz.func175, Tryz.ntmps175
  go_wp2_with fail
  go_ret
  exact ⟨rfl, rfl⟩
theorem own_rd2 {w : World} {base : Nat} {e : TypeId} {size n cap : Nat} {A : Option Addr} {xs : List Value} (h : w.ownsRow base e size (.slice A n cap) n xs) : Rd w w.heap.size A xs := by
  obtain ⟨A', cap', he, _, _, hr⟩ := ownsRow_rd h
  simp only [Value.slice.injEq] at he
  rw [he.1]; exact hr
theorem own_le2 {w : World} {base : Nat} {e : TypeId} {size n cap : Nat} {A : Option Addr} {xs : List Value} (h : w.ownsRow base e size (.slice A n cap) n xs) : n ≤ cap := by
  obtain ⟨A', cap', he, h1, _, hr⟩ := ownsRow_rd h
  simp only [Value.slice.injEq] at he
  omega
end Go.Proofs.YtnbdimbhklbadaaGreatDoor
namespace Go.Proofs.YtnbdimbhklbadaaGreatDoor
open Go.RowKit Pl
set_option linter.unusedVariables false
theorem sL1Is (s : ByteArray) (c : UInt8) (w : World) (hs : s = mk [c]) (h : isL c = true) :
    Calls Tryz.prog 89 #[.string s] w fun e w' => e = .returned (.bool true) ∧ w' = w := by
  have hz : s.size = 1 := by rw [hs, size_mk]; rfl
  have h0 : 0 < s.size := by omega
  have hc : (s[0]'h0) = c := by subst hs; rfl
  have hcb := c.toNat_lt
  have hz1 : (((s.size : Nat) : Int) == 1) = true := by simp; omega
  have hzi : ((s.size : Nat) : Int) = 1 := by omega
  have hge : (1 : Nat) ≤ s.size := by omega
  clear hs
  have hr : 97 ≤ (s[0]'h0).toNat ∧ (s[0]'h0).toNat < 107 := by rw [hc]; simpa [isL] using h
  obtain ⟨h1, h2⟩ := hr
  have HZ := Lib.hid hz; clear hz hc hzi h
  go_enter Tryz.func89, Tryz.ntmps89
  go_wp2
  go_ret
  exact ⟨by simp; try omega, rfl⟩
theorem sL1In (n lo hi : Int) (b : Bool) (w : World) (h : (decide (lo ≤ n) && decide (n ≤ hi)) = b) :
    Calls Tryz.prog 90 #[.int .i64 n, .int .i64 lo, .int .i64 hi] w fun e w' => e = .returned (.bool b) ∧ w' = w := (l1In_is n lo hi b w h).mono fun _ _ ⟨a, b⟩ => ⟨a, b.symm⟩
end Go.Proofs.YtnbdimbhklbadaaGreatDoor
namespace Go.Proofs.YtnbdimbhklbadaaGreatDoor
open Go.RowKit Pl
set_option linter.unusedVariables false
def is1 (s : ByteArray) : Bool := decide (s.size = 1) && (tl s).all isL
set_option maxRecDepth 100000 in
theorem sL1Is_any (s : ByteArray) (w : World) : Calls Tryz.prog 89 #[.string s] w fun e w' => e = .returned (.bool (is1 s)) ∧ w' = w := by
  by_cases hz : s.size = 1
  · obtain ⟨c, hc⟩ : ∃ c, tl s = [c] := List.length_eq_one_iff.1 (by rw [length_tl]; exact hz)
    have e : s = mk [c] := by rw [← mk_tl s, hc]
    cases h : isL c with
    | true =>
      have hi : is1 s = true := by unfold is1; rw [hc]; simp [hz, h]
      rw [hi]; exact sL1Is s c w e h
    | false =>
      have hi : is1 s = false := by unfold is1; rw [hc]; simp [h]
      rw [hi]
      have h0 : 0 < s.size := by omega
      have hs0 : (s[0]'h0) = c := by subst e; rfl
      have hcb := c.toNat_lt
      have hge : (1 : Nat) ≤ s.size := by omega
      have hr : ¬ (97 ≤ (s[0]'h0).toNat ∧ (s[0]'h0).toNat < 107) := by rw [hs0]; intro hx; simp [isL, hx] at h
      have hzi : ((s.size : Nat) : Int) = 1 := by omega
      clear e hc hi hs0 hcb h
      by_cases h1 : 97 ≤ (s[0]'h0).toNat
      · have h2 : ¬ (s[0]'h0).toNat < 107 := fun h3 => hr ⟨h1, h3⟩
        clear hr
        have HZ := Lib.hid hz; clear hz
        go_enter Tryz.func89, Tryz.ntmps89
        go_wp2
        go_ret
        exact ⟨by simp; try omega, rfl⟩
      · clear hr
        have HZ := Lib.hid hz; clear hz
        go_enter Tryz.func89, Tryz.ntmps89
        go_wp2
        go_ret
        exact ⟨by simp; try omega, rfl⟩
  · have hi : is1 s = false := by unfold is1; simp [hz]
    rw [hi]
    have hz1 : (((s.size : Nat) : Int) == 1) = false := by rw [beq_eq_false_iff_ne]; omega
    clear hi
    go_enter Tryz.func89, Tryz.ntmps89
    go_wp2
    go_ret
    exact ⟨by simp; try omega, rfl⟩
theorem okZ_iff {q : Int} {x : LnkZ} (hq : 0 ≤ q) : okZ q x ↔ is1 x.1 = true ∧ is1 x.2.1 = true ∧ x.1 ≠ x.2.1 ∧ 1 ≤ x.2.2 ∧ x.2.2 ≤ 60 ∧ q < x.2.2 := by
  unfold okZ is1
  simp only [Bool.and_eq_true, decide_eq_true_eq, List.all_eq_true]
  constructor
  · rintro ⟨h1, h2, h3, h4, h5, h6⟩
    exact ⟨⟨h1, fun c hc => wv_mem h3 (List.mem_append_left _ hc)⟩, ⟨h2, fun c hc => wv_mem h3 (List.mem_append_right _ hc)⟩, h4, by omega, h6, h5⟩
  · rintro ⟨⟨h1, a1⟩, ⟨h2, a2⟩, h4, _, h6, h5⟩
    refine ⟨h1, h2, ?_, h4, h5, h6⟩
    simp only [wv, Bool.and_eq_true, decide_eq_true_eq, List.length_append, length_tl, List.all_append, List.all_eq_true]
    exact ⟨by omega, a1, a2⟩
def prevK (m : List LnkZ) (k : Nat) : Int := match k with
  | 0 => 0
  | j + 1 => ((m[j]?).map fun x => x.2.2).getD 0
set_option maxHeartbeats 8000000 in
set_option maxRecDepth 100000 in
theorem sMenuValid_z (w : World) (A : Option Addr) (cap : Nat) (m : List LnkZ) (b : Bool) (h : Rd w w.heap.size A (linkZ m)) (hc : m.length ≤ cap) (hl : m.length ≤ 1000) (hz : ∀ x ∈ m, -1000000 ≤ x.2.2 ∧ x.2.2 ≤ 1000000) (hb : b = true ↔ menuZ m) :
    Calls Tryz.prog 51 #[.slice A m.length cap] w fun e w' => e = .returned (.bool b) ∧ Below w.heap.size w w' := by
  have HR := Lib.hid h; have HBB := Lib.hid hb; have HZ := Lib.hid hz; clear h hb hz
  obtain ⟨n, hn⟩ : ∃ n, n = m.length := ⟨_, rfl⟩
  rw [← hn] at hc hl ⊢
  have HN := Lib.hid hn
  clear hn
  have h1 : Hid ((okM (prevK m 0) (m.drop 0)) ↔ okM 0 m) := Lib.hid Iff.rfl
  go_enter Tryz.func51, Tryz.ntmps51
  go_wp2_with fail
  go_loopw [3] (fun i wr => ∃ k : Nat, k ≤ n ∧ i = .int .i64 k ∧ Hid ((okM (prevK m k) (m.drop k)) ↔ okM 0 m) ∧ Hid (0 ≤ prevK m k) ∧ Below w.heap.size w wr) (fun i _ => n - (intOf i).toNat)
  case atStart => exact ⟨0, Nat.zero_le _, rfl, h1, Lib.hid (Int.le_refl 0), Below.refl _ _⟩
  case round =>
    clear h1
    obtain ⟨k, hk, rfl, HQ, HQ0, hbl⟩ := hrel
    have HBL := Lib.hid hbl; clear hbl
    by_cases hlt : k < n
    · have hkm : k < m.length := by rw [← HN.out]; exact hlt
      have hrd := HR.out.below HBL.out
      obtain ⟨b0, off, hA, hbb, c0, c1, c2⟩ := hrd.linkz hkm
      subst hA
      have hz := HZ.out _ (List.getElem_mem hkm)
      have hat := okM_at (q := prevK m k) hkm
      have hpn : prevK m (k + 1) = m[k].2.2 := by unfold prevK; simp [List.getElem?_eq_getElem hkm]
      have hio := okZ_iff (q := prevK m k) (x := m[k]) HQ0.out
      have hno : ¬ okZ (prevK m k) m[k] → b = false := fun hn0 => by
        cases b with
        | false => rfl
        | true =>
          have h2 := HQ.out.2 (HBB.out.1 rfl).2.2
          exact absurd (hat.1 h2).1 hn0
      have hyes : okZ (prevK m k) m[k] → ((okM (prevK m (k + 1)) (m.drop (k + 1))) ↔ okM 0 m) ∧ 0 ≤ prevK m (k + 1) := fun hy => by
        rw [hpn]
        refine ⟨⟨fun h2 => HQ.out.1 (hat.2 ⟨hy, h2⟩), fun h2 => (hat.1 (HQ.out.2 h2)).2⟩, ?_⟩
        have := hy.2.2.2.2.1; have := HQ0.out; omega
      have hprev : ∀ j, k = j + 1 → wr.cell? ⟨b0, off + j * 3 + 2, none⟩ = some (.int .i64 (prevK m k)) := fun j hj => by
        obtain ⟨b1, off1, e1, _, _, _, d2⟩ := hrd.linkz (k := j) (by omega)
        simp only [Option.some.injEq, Addr.mk.injEq, and_true] at e1
        obtain ⟨rfl, rfl⟩ := e1
        rw [d2]
        subst hj
        unfold prevK; simp [List.getElem?_eq_getElem (show j < m.length by omega)]
      have HNO := Lib.hid hno; have HYES := Lib.hid hyes; have HIO := Lib.hid hio
      clear hrd hat hpn hno hyes hio HQ HQ0
      generalize m[k] = x at *
      obtain ⟨p, c, key⟩ := x
      obtain ⟨q, hqe⟩ : ∃ q, q = prevK m k := ⟨_, rfl⟩
      rw [← hqe] at hprev HNO HIO HYES
      have HQZ := Lib.hid (show k = 0 → q = 0 from fun h0 => by rw [hqe, h0]; rfl)
      clear hqe
      simp only at c0 c1 c2 hz
      have hcc : ∀ (s : ByteArray) (w' : World), Calls Tryz.prog 89 #[.string s] w' fun e w'' => e = .returned (.bool (is1 s)) ∧ w'' = w' := fun s w' => sL1Is_any s w'
      have hba : Below wr.heap.size wr (wr.alloc (.cells #[.string p, .string c, .int .i64 key] 50)) := (Below.refl _ _).alloc (Nat.le_refl _) _
      have hb2 : Below w.heap.size w (wr.alloc (.cells #[.string p, .string c, .int .i64 key] 50)) := HBL.out.alloc HBL.out.size _
      have HB2 := Lib.hid hb2; clear hb2
      obtain ⟨W, hW⟩ : ∃ W, W = wr.alloc (.cells #[.string p, .string c, .int .i64 key] 50) := ⟨_, rfl⟩
      have f0 : W.cell? ⟨wr.heap.size, 0, none⟩ = some (.string p) := by rw [hW]; simp
      have f1 : W.cell? ⟨wr.heap.size, 1, none⟩ = some (.string c) := by rw [hW]; simp
      have f2 : W.cell? ⟨wr.heap.size, 2, none⟩ = some (.int .i64 key) := by rw [hW]; simp
      rw [← hW] at hba HB2
      obtain ⟨B, hB⟩ : ∃ B, B = wr.heap.size := ⟨_, rfl⟩
      rw [← hB] at f0 f1 f2
      have HWB := Lib.hid (And.intro hW hB); have HBA := Lib.hid hba
      clear hW hB hba
      -- the region, whatever the tests say
      have H3 := Lib.hid (fun (w' : World) => sL1In key 1 60 (decide (1 ≤ key) && decide (key ≤ 60)) w' rfl)
      cases i1 : is1 p with
      | false =>
        obtain rfl : b = false := HNO.out fun ho => by have := (HIO.out.1 ho).1; rw [i1] at this; cases this
        have H1 := Lib.hid (fun w' => i1 ▸ hcc p w')
        clear i1 hcc hprev
        go_upto_region 5 with fail
        rw [← HWB.out.1, ← HWB.out.2]
        clear c0 c1 c2
        go_quiet (first | (go_at_call 89; exact Calls.quiet_of_same (H1.out _)) | fail)
        clear f0 f1 f2
        go_wp2_with fail
        go_ret
        exact ⟨rfl, below_drewN' HB2.out _⟩
      | true =>
        have hi1 := fun w' => i1 ▸ hcc p w'
        cases i2 : is1 c with
        | false =>
          obtain rfl : b = false := HNO.out fun ho => by have := (HIO.out.1 ho).2.1; rw [i2] at this; cases this
          have hi2 := fun w' => i2 ▸ hcc c w'
          have H1 := Lib.hid hi1; have H2 := Lib.hid hi2
          clear i1 i2 hi1 hi2 hcc hprev
          go_upto_region 5 with fail
          rw [← HWB.out.1, ← HWB.out.2]
          clear c0 c1 c2
          go_quiet (first | (go_at_call 89; first | with_reducible exact Calls.quiet_of_same (H1.out _) | with_reducible exact Calls.quiet_of_same (H2.out _)) | fail)
          clear f0 f1 f2
          go_wp2_with fail
          go_ret
          exact ⟨rfl, below_drewN' HB2.out _⟩
        | true =>
          have hi2 := fun w' => i2 ▸ hcc c w'
          have H1 := Lib.hid hi1; have H2 := Lib.hid hi2; have I12 := Lib.hid (And.intro i1 i2)
          clear i1 i2 hi1 hi2 hcc
          by_cases he : p = c
          · obtain rfl : b = false := HNO.out fun ho => (HIO.out.1 ho).2.2.1 he
            have hpc : (p.toList == c.toList) = true := by rw [he]; exact beq_self_eq_true _
            clear he hprev
            go_upto_region 5 with fail
            rw [← HWB.out.1, ← HWB.out.2]
            clear c0 c1 c2
            go_quiet (first | (go_at_call 89; first | with_reducible exact Calls.quiet_of_same (H1.out _) | with_reducible exact Calls.quiet_of_same (H2.out _)) | fail)
            clear hpc
            clear f0 f1 f2
            go_wp2_with fail
            go_ret
            exact ⟨rfl, below_drewN' HB2.out _⟩
          · have hpc : (p.toList == c.toList) = false := by rw [beq_eq_false_iff_ne]; intro e; exact he (by rw [toList_tl, toList_tl] at e; rw [← mk_tl p, ← mk_tl c, e])
            have HNE := Lib.hid he
            clear he
            by_cases h60 : 1 ≤ key ∧ key ≤ 60
            · have h3 := fun (w' : World) => sL1In key 1 60 true w' (by simp; omega)
              have HI3 := Lib.hid h3
              clear h3
              obtain ⟨k1, k2⟩ := h60
              by_cases hk0 : k = 0
              · subst hk0
                have hy := HYES.out (HIO.out.2 ⟨I12.out.1, I12.out.2, HNE.out, k1, k2, by rw [HQZ.out rfl]; show (0 : Int) < key; omega⟩)
                have HY1 := Lib.hid hy.1; have HY2 := Lib.hid hy.2
                simp only [Nat.zero_mul, Nat.add_zero] at c0 c1 c2
                rw [show ((0 : Nat) : Int) = 0 from rfl]
                clear hprev hy
                go_upto_region 5 with fail
                rw [← HWB.out.1, ← HWB.out.2]
                clear c0 c1 c2
                go_quiet (first | (go_at_call 89; first | with_reducible exact Calls.quiet_of_same (H1.out _) | with_reducible exact Calls.quiet_of_same (H2.out _)) | (go_at_call 90; exact Calls.quiet_of_same (HI3.out _)) | fail)
                clear hpc f0 f1 f2
                go_wp2_with fail
                go_roundw
                case rel => exact ⟨0 + 1, by omega, by go_num, HY1, HY2, below_drewN' HB2.out _⟩
                case measure => simp [intOf]; omega
              · obtain ⟨j, hj⟩ : ∃ j, k = j + 1 := ⟨k - 1, by omega⟩
                have d0 := hprev j hj
                have d1 : W.cell? ⟨b0, off + j * 3 + 2, none⟩ = some (.int .i64 q) := (HBA.out.cell (World.block_lt_of_cell? _ _ d0)).trans d0
                have e1 : ((k : Int) - 1).toNat = j := by omega
                have e2 : IntKind.i64.wrap ((k : Int) - 1) = (k : Int) - 1 := by rw [IntKind.wrap_i64]; omega
                have e3 : (0 : Int) ≤ (k : Int) - 1 := by omega
                have e4 : (k : Int) - 1 < (n : Int) := by omega
                have e5 : 0 < k := by omega
                by_cases hqk : q < key
                · have hy := HYES.out (HIO.out.2 ⟨I12.out.1, I12.out.2, HNE.out, k1, k2, hqk⟩)
                  have HY1 := Lib.hid hy.1; have HY2 := Lib.hid hy.2
                  have e6 : ¬ key ≤ q := by omega
                  clear hprev d0 hj hk0 hy hqk
                  go_upto_region 5 with fail
                  rw [← HWB.out.1, ← HWB.out.2]
                  clear c0 c1 c2
                  go_quiet (first | (go_at_call 89; first | with_reducible exact Calls.quiet_of_same (H1.out _) | with_reducible exact Calls.quiet_of_same (H2.out _)) | (go_at_call 90; exact Calls.quiet_of_same (HI3.out _)) | fail)
                  clear hpc e1 e2 e3 e4 d1 f0 f1 f2
                  go_wp2_with fail
                  go_roundw
                  case rel => exact ⟨k + 1, by omega, by go_num, HY1, HY2, below_drewN' HB2.out _⟩
                  case measure => simp [intOf]; omega
                · obtain rfl : b = false := HNO.out fun ho => hqk (HIO.out.1 ho).2.2.2.2.2
                  have e6 : key ≤ q := by omega
                  clear hprev d0 hj hk0 hqk
                  go_upto_region 5 with fail
                  rw [← HWB.out.1, ← HWB.out.2]
                  clear c0 c1 c2
                  go_quiet (first | (go_at_call 89; first | with_reducible exact Calls.quiet_of_same (H1.out _) | with_reducible exact Calls.quiet_of_same (H2.out _)) | (go_at_call 90; exact Calls.quiet_of_same (HI3.out _)) | fail)
                  clear hpc e1 e2 e3 e4 d1
                  clear f0 f1 f2
                  go_wp2_with fail
                  go_ret
                  exact ⟨rfl, below_drewN' HB2.out _⟩
            · obtain rfl : b = false := HNO.out fun ho => h60 ⟨(HIO.out.1 ho).2.2.2.1, (HIO.out.1 ho).2.2.2.2.1⟩
              have h3 := fun (w' : World) => sL1In key 1 60 false w' (by simp; omega)
              have HI3 := Lib.hid h3
              clear h60 h3 hprev
              go_upto_region 5 with fail
              rw [← HWB.out.1, ← HWB.out.2]
              clear c0 c1 c2
              go_quiet (first | (go_at_call 89; first | with_reducible exact Calls.quiet_of_same (H1.out _) | with_reducible exact Calls.quiet_of_same (H2.out _)) | (go_at_call 90; exact Calls.quiet_of_same (HI3.out _)) | fail)
              clear hpc
              clear f0 f1 f2
              go_wp2_with fail
              go_ret
              exact ⟨rfl, below_drewN' HB2.out _⟩
    · have hke : k = n := by omega
      have hok : okM 0 m := by
        refine HQ.out.1 ?_
        rw [hke, HN.out, List.drop_length]; trivial
      have hbl : (decide ((1 : Int) ≤ (n : Int)) && decide ((n : Int) ≤ 12)) = b := by
        have h2 := HBB.out
        unfold menuZ at h2
        rw [← HN.out] at h2
        cases b with
        | true =>
          have h3 := h2.1 rfl
          simp; omega
        | false =>
          by_cases h4 : 1 ≤ n ∧ n ≤ 12
          · exact absurd (h2.2 ⟨h4.1, h4.2, hok⟩) (by simp)
          · simp; omega
      have hin := fun w' => sL1In (n : Int) 1 12 b w' hbl
      have H3 := Lib.hid hin
      clear hin hbl hok hke
      go_wp2_with fail
      refine (H3.out _).mono ?_
      rintro _ _ ⟨rfl, rfl⟩
      go_wp2_with fail
      go_ret
      exact ⟨rfl, HBL.out⟩
end Go.Proofs.YtnbdimbhklbadaaGreatDoor
