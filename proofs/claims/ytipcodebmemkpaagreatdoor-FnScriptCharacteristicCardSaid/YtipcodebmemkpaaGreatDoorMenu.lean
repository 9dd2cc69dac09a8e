/-
  Contracts of MenuValid and FormatMenu, of the program. Conditions: what each theorem names.
-/
import Derived.Test.YtipcodebmemkpaaGreatDoorCrib
import Derived.Test.YtipcodebmemkpaaGreatDoorRunL
import Derived.Test.YtipcodebmemkpaaGreatDoorShelf
import Derived.Test.YtipcodebmemkpaaGreatDoorJoinC
import Derived.Test.YtipcodebmemkpaaGreatDoorTexts
namespace Go.Proofs.YtipcodebmemkpaaGreatDoor
open Go.RowKit Pl
set_option linter.unusedVariables false

theorem below_grow (w : World) (k : Nat) (os : Array Obj) : Below w.heap.size w (Sort.grow (w.drewN k) os) :=
  ⟨rfl, rfl, rfl, by simp [Sort.grow], fun i hi => by simp only [Sort.grow]; rw [Array.getElem?_append_left (by simpa using hi)]; rfl⟩
theorem itoa_any (w : World) (hg : GW w) (n : Nat) (hn : n ≤ 1000000000000000000) :
    Calls Tryz.prog 101 #[.int .i64 n] w fun e w' => e = .returned (.string (mk (Lib.itoa n))) ∧ Below w.heap.size w w' := by
  refine (Tryz.strconv_Itoa (n : Int) (by omega) (by omega) w hg.tb).mono ?_
  rintro e w' ⟨rfl, k, os, rfl⟩
  exact ⟨rfl, below_grow w k os⟩

theorem Rd.link {w : World} {B : Nat} {A : Option Addr} {l : List Lnk} (h : Rd w B A (linkV l)) {k : Nat} (hk : k < l.length) :
    ∃ b off, A = some ⟨b, off, none⟩ ∧ b < B ∧ w.cell? ⟨b, off + k * 3, none⟩ = some (.string l[k].1) ∧ w.cell? ⟨b, off + k * 3 + 1, none⟩ = some (.string l[k].2.1) ∧ w.cell? ⟨b, off + k * 3 + 2, none⟩ = some (.int .i64 (l[k].2.2 : Int)) := by
  have hn : linkV l ≠ [] := by intro e; have := congrArg List.length e; rw [length_linkV, List.length_nil] at this; omega
  obtain ⟨b, off, e, hb, hcell⟩ := h hn
  have hat : ∀ (l : List Lnk) (k : Nat) (hk : k < l.length), (linkV l)[k * 3]? = some (.string l[k].1) ∧ (linkV l)[k * 3 + 1]? = some (.string l[k].2.1) ∧ (linkV l)[k * 3 + 2]? = some (.int .i64 (l[k].2.2 : Int)) := by
    intro l
    induction l with
    | nil => intro k hk; simp at hk
    | cons x r ih =>
      intro k hk
      have e1 : linkV (x :: r) = [.string x.1, .string x.2.1, .int .i64 (x.2.2 : Int)] ++ linkV r := rfl
      cases k with
      | zero => rw [e1]; exact ⟨rfl, rfl, rfl⟩
      | succ k =>
        obtain ⟨i1, i2, i3⟩ := ih k (by simpa using hk)
        rw [e1]
        have q : ∀ j, j = k * 3 ∨ j = k * 3 + 1 ∨ j = k * 3 + 2 → ([Value.string x.1, .string x.2.1, .int .i64 (x.2.2 : Int)] ++ linkV r)[j + 3]? = (linkV r)[j]? := fun j _ => by
          rw [List.getElem?_append_right (by simp)]; simp
        refine ⟨?_, ?_, ?_⟩
        · rw [show (k + 1) * 3 = k * 3 + 3 by omega, q _ (.inl rfl)]; exact i1
        · rw [show (k + 1) * 3 + 1 = k * 3 + 1 + 3 by omega, q _ (.inr (.inl rfl))]; exact i2
        · rw [show (k + 1) * 3 + 2 = k * 3 + 2 + 3 by omega, q _ (.inr (.inr rfl))]; exact i3
  obtain ⟨j1, j2, j3⟩ := hat l k hk
  have hl := length_linkV l
  refine ⟨b, off, e, hb, ?_, ?_, ?_⟩
  · rw [hcell (k * 3) (by omega), ← List.getElem?_eq_getElem]; exact j1
  · rw [Nat.add_assoc, hcell (k * 3 + 1) (by omega), ← List.getElem?_eq_getElem]; exact j2
  · rw [Nat.add_assoc, hcell (k * 3 + 2) (by omega), ← List.getElem?_eq_getElem]; exact j3

set_option maxHeartbeats 4000000 in
set_option maxRecDepth 100000 in
theorem menuValid_true (w : World) (A : Option Addr) (cap : Nat) (m : List Lnk) (h : Rd w w.heap.size A (linkV m)) (hc : m.length ≤ cap) (hv : menuV m) :
    Calls Tryz.prog 259 #[.slice A m.length cap] w fun e w' => e = .returned (.bool true) ∧ Below w.heap.size w w' := by
  obtain ⟨h1, h2, hall, hord⟩ := hv
  have HR := Lib.hid h; have HA := Lib.hid hall; have HO := Lib.hid hord; clear h hall hord
  go_enter Tryz.func259, Tryz.ntmps259
  go_wp2_with fail
  go_loopw [3, 16] (fun p i wr => ∃ (k q : Nat), k ≤ m.length ∧ i = .int .i64 k ∧ p = .int .i64 q ∧ q ≤ 60 ∧ Hid (∀ j (hj : j < m.length), k ≤ j → q < m[j].2.2) ∧ Below w.heap.size w wr) (fun _ i _ => m.length - (intOf i).toNat)
  case atStart => exact ⟨0, 0, Nat.zero_le _, rfl, rfl, by omega, Lib.hid (fun j hj _ => (HA.out _ (List.getElem_mem hj)).2.2.2.2.1), Below.refl _ _⟩
  case round =>
    obtain ⟨k, q, hk, rfl, rfl, hq, HQ, hbl⟩ := hrel
    have HBL := Lib.hid hbl; clear hbl
    by_cases hlt : k < m.length
    · obtain ⟨b, off, rfl, hbb, c0, c1, c2⟩ := (HR.out.below HBL.out).link hlt
      obtain ⟨x1, x2, x3, x4, x5, x6⟩ := HA.out _ (List.getElem_mem hlt)
      have hqk := HQ.out k hlt (Nat.le_refl _)
      have hnx : ∀ j (hj : j < m.length), k + 1 ≤ j → m[k].2.2 < m[j].2.2 := fun j hj hkj => List.pairwise_iff_getElem.1 HO.out k j hlt hj (by omega)
      have HNX := Lib.hid hnx; clear hnx
      generalize m[k] = x at c0 c1 c2 x1 x2 x3 x4 x5 x6 hqk HNX
      obtain ⟨p, c, key⟩ := x
      simp only at c0 c1 c2 x1 x2 x3 x4 x5 x6 hqk HNX
      have hwv : wv (tl (p ++ c)) = true := by rw [append_tl, tl_mk]; exact x3
      have hpc : (p.toList == c.toList) = false := by rw [beq_eq_false_iff_ne]; intro e; exact x4 (by rw [toList_tl, toList_tl] at e; rw [← mk_tl p, ← mk_tl c, e])
      have n1 : ((p.size : Int) != 1) = false := by simp; omega
      have n2 : ((c.size : Int) != 1) = false := by simp; omega
      have HWV := Lib.hid hwv; clear hwv x3 x4
      go_wp2_with fail
      refine (wordValid_is _ true _ HWV.out).mono ?_
      rintro _ _ ⟨rfl, rfl⟩
      have hb2 : Below w.heap.size w (wr.alloc (.cells #[.string p, .string c, .int .i64 (key : Int)] 230)) := HBL.out.alloc HBL.out.size _
      have HB2 := Lib.hid hb2; clear hb2
      go_wp2_with fail
      go_roundw
      case rel => exact ⟨k + 1, key, by omega, by go_num, rfl, by omega, HNX, HB2.out⟩
      case measure => simp [intOf]; omega
    · go_wp2_with fail
      go_ret
      exact ⟨rfl, HBL.out⟩

theorem itoa_size (n : Nat) (hn : n ≤ 1000000000000000000) : (mk (Lib.itoa n)).size ≤ 30 := by
  have key : ∀ (f u : Nat), u < 10 ^ f → (Lib.decDigits u).length ≤ f + 1 := by
    intro f
    induction f with
    | zero => intro u hu; rw [Lib.decDigits, dif_pos (by simp at hu; omega)]; simp
    | succ f ih =>
      intro u hu
      rw [Lib.decDigits]
      split
      · simp
      · rw [List.length_append, List.length_singleton]
        have := ih (u / 10) (by rw [Nat.pow_succ] at hu; omega)
        omega
  rw [size_mk]
  unfold Lib.itoa
  rw [if_neg (by omega), Int.toNat_natCast]
  have := key 19 n (by omega)
  omega
section
variable {W W' : World} {B : Nat} {p c : ByteArray} {n : Int}
theorem s3_below (hb : Below W.heap.size W W') (h : W.cell? ⟨B, 0, none⟩ = some (.string p) ∧ W.cell? ⟨B, 1, none⟩ = some (.string c) ∧ W.cell? ⟨B, 2, none⟩ = some (.int .i64 n)) :
    W'.cell? ⟨B, 0, none⟩ = some (.string p) ∧ W'.cell? ⟨B, 1, none⟩ = some (.string c) ∧ W'.cell? ⟨B, 2, none⟩ = some (.int .i64 n) := by
  have hl := World.block_lt_of_cell? _ _ h.1
  have e := fun i => World.cell?_of_block (a := ⟨B, i, none⟩) (hb.block B hl)
  exact ⟨(e 0).trans h.1, (e 1).trans h.2.1, (e 2).trans h.2.2⟩
theorem s3_alloc (h : W.cell? ⟨B, 0, none⟩ = some (.string p) ∧ W.cell? ⟨B, 1, none⟩ = some (.string c) ∧ W.cell? ⟨B, 2, none⟩ = some (.int .i64 n)) (o : Obj) :
    (W.alloc o).cell? ⟨B, 0, none⟩ = some (.string p) ∧ (W.alloc o).cell? ⟨B, 1, none⟩ = some (.string c) ∧ (W.alloc o).cell? ⟨B, 2, none⟩ = some (.int .i64 n) :=
  s3_below ((Below.refl _ _).alloc (Nat.le_refl _) o) h
theorem s3_grown {row : Option Nat} (hg : W.grownBy W' row) (hne : some B ≠ row) (h : W.cell? ⟨B, 0, none⟩ = some (.string p) ∧ W.cell? ⟨B, 1, none⟩ = some (.string c) ∧ W.cell? ⟨B, 2, none⟩ = some (.int .i64 n)) :
    W'.cell? ⟨B, 0, none⟩ = some (.string p) ∧ W'.cell? ⟨B, 1, none⟩ = some (.string c) ∧ W'.cell? ⟨B, 2, none⟩ = some (.int .i64 n) :=
  ⟨cell_grown2 hg h.1 hne, cell_grown2 hg h.2.1 hne, cell_grown2 hg h.2.2 hne⟩
end
theorem strV_snoc2 (l : List ByteArray) (x : ByteArray) : strV l ++ [Value.string x] = strV (l ++ [x]) := by simp [strV]

set_option maxHeartbeats 8000000 in
set_option maxRecDepth 100000 in
theorem formatMenu_any (w : World) (hg : GW w) (A : Option Addr) (cap : Nat) (m : List Lnk) (h : Rd w w.heap.size A (linkV m)) (hc : m.length ≤ cap) (hv : menuV m) :
    Calls Tryz.prog 209 #[.slice A m.length cap] w fun e w' => e = .returned (.string (mk (menuT m))) ∧ Below w.heap.size w w' := by
  obtain ⟨iS, hi, hz0, hz1, hz2⟩ := info_parts Tryz.infoS
  have HI := Lib.hid hi; have HZ0 := Lib.hid hz0; have HZ1 := Lib.hid hz1; have HZ2 := Lib.hid hz2
  clear hi hz0 hz1 hz2
  obtain ⟨h1, h2, hall, hord⟩ := hv
  have HR := Lib.hid h; have HV := Lib.hid (show menuV m from ⟨h1, h2, hall, hord⟩); have HA := Lib.hid hall; have HG := Lib.hid hg; clear h hall hord hg
  obtain ⟨M, hM⟩ : ∃ M : Nat → List ByteArray, M = fun k => (m.take k).map fun x => mk (lnkT x) := ⟨_, rfl⟩
  have hMl : ∀ k, k ≤ m.length → (M k).length = k := fun k hk => by rw [hM]; simp [hk]
  have hMs : ∀ k (hk : k < m.length), M k ++ [m[k].1 ++ m[k].2.1 ++ mk (Lib.itoa m[k].2.2)] = M (k + 1) := fun k hk => by
    rw [hM]
    simp only [List.take_succ_eq_append_getElem hk, List.map_append, List.map_cons, List.map_nil]
    congr 2
  have hM0 : M 0 = [] := by rw [hM]; rfl
  have HML := Lib.hid hMl; have HMS := Lib.hid hMs; have HM0 := Lib.hid hM0
  have hMj : mk (Lib.join ((M m.length).map tl) [32]) = mk (menuT m) := by
    rw [hM]; unfold menuT; simp only [List.take_length, List.map_map]
    congr 2
  have hjz : (Lib.join ((M m.length).map tl) [32]).length ≤ 1000 := by
    rw [hM]
    refine Nat.le_trans (join_le _ _ 40 ?_) ?_
    · intro s hs
      simp only [List.take_length, List.map_map, List.mem_map] at hs
      obtain ⟨x, hx, rfl⟩ := hs
      obtain ⟨y1, y2, _, _, y5, y6⟩ := HA.out x hx
      have := itoa_size x.2.2 (by omega)
      rw [size_mk] at this
      show (tl (mk (lnkT x))).length ≤ 40
      rw [tl_mk]; unfold lnkT
      simp only [List.length_append, length_tl]; omega
    · simp only [List.length_map, List.take_length, List.length_singleton]; omega
  have HMJ := Lib.hid hMj; have HJZ := Lib.hid hjz
  clear hMl hMs hM0 hMj hM hjz
  go_enter Tryz.func209, Tryz.ntmps209
  go_wp2_with fail
  refine (menuValid_true _ A cap m HR.out hc HV.out).mono ?_
  rintro _ w1 ⟨rfl, hb1⟩
  have HB1 := Lib.hid hb1; clear hb1
  go_wp2_with fail
  go_loopw [3, 11] (fun o i wr => ∃ k : Nat, k ≤ m.length ∧ i = .int .i64 k ∧ wr.ownsRow w.heap.size 9 1 o k (strV (M k)) ∧ Below w.heap.size w wr) (fun _ i _ => m.length - (intOf i).toNat)
  case atStart => exact ⟨0, Nat.zero_le _, rfl, by rw [HM0.out]; exact World.ownsRow_nil _ _ _ _, HB1.out⟩
  case round =>
    obtain ⟨k, hk, rfl, hown, hbl⟩ := hrel
    have HO := Lib.hid hown; have HBL := Lib.hid hbl; clear hown hbl HB1
    obtain ⟨A3, c3, e3⟩ := slot_slice HO.out
    subst e3
    by_cases hlt : k < m.length
    · obtain ⟨b, off, rfl, hbb, c0, c1, c2⟩ := (HR.out.below HBL.out).link hlt
      obtain ⟨x1, x2, x3, x4, x5, x6⟩ := HA.out _ (List.getElem_mem hlt)
      have hms := HMS.out k hlt
      generalize m[k] = x at c0 c1 c2 x1 x2 x5 x6 hms
      obtain ⟨p, c, key⟩ := x
      simp only at c0 c1 c2 x1 x2 x5 x6 hms
      have hbw := HBL.out.size
      have HMSX := Lib.hid hms; clear hms x3 x4
      have hgr := HG.out.below (HBL.out.alloc HBL.out.size (.cells #[.string p, .string c, .int .i64 (key : Int)] 230)).drew (Nat.le_refl _)
      have hito := itoa_any _ hgr key (by omega)
      have hod := World.ownsRow.drew (HO.out.alloc (.cells #[.string p, .string c, .int .i64 (key : Int)] 230))
      have hbd := (HBL.out.alloc HBL.out.size (.cells #[.string p, .string c, .int .i64 (key : Int)] 230)).drew
      have d0 : (wr.alloc (.cells #[.string p, .string c, .int .i64 (key : Int)] 230)).cell? ⟨wr.heap.size, 0, none⟩ = some (.string p) := by simp
      have d1 : (wr.alloc (.cells #[.string p, .string c, .int .i64 (key : Int)] 230)).cell? ⟨wr.heap.size, 1, none⟩ = some (.string c) := by simp
      have d2 : (wr.alloc (.cells #[.string p, .string c, .int .i64 (key : Int)] 230)).cell? ⟨wr.heap.size, 2, none⟩ = some (.int .i64 (key : Int)) := by simp
      have hnb : some wr.heap.size ≠ (Value.slice A3 k c3).ownBlock := fun e => by have := (HO.out.lt _ e.symm).2; omega
      have hbs : wr.heap.size < (wr.alloc (.cells #[.string p, .string c, .int .i64 (key : Int)] 230)).heap.size := by simp
      go_wp2_with fail
      generalize wr.alloc (.cells #[.string p, .string c, .int .i64 (key : Int)] 230) = W0 at hito hod hbd d0 d1 d2 hbs ⊢
      generalize wr.heap.size = B at d0 d1 d2 hnb hbs ⊢
      have HITO := Lib.hid hito; have HOD := Lib.hid hod; have HBD := Lib.hid hbd; have HSZ := Lib.hid hbd.size; clear hito hod hbd hgr hbw c0 c1 c2
      have hpz : (p ++ c).size ≤ 10 := by rw [ByteArray.size_append]; omega
      have hiz : (mk (Lib.itoa key)).size ≤ 30 := itoa_size key (by omega)
      generalize mk (Lib.itoa (key : Int)) = I at HITO HMSX hiz
      have hs0 : ¬ (9223372036854775807 < (p ++ c).size + I.size) := by omega
      have hs1 : ¬ (9223372036854775807 < p.size + c.size + I.size) := by omega
      have hs2 : ¬ (9223372036854775807 < 1 + 1 + I.size) := by omega
      have hs3 : ¬ (9223372036854775807 < 2 + I.size) := by omega
      have hk12 : k ≤ 12 := by omega
      go_region_held3 (fun W => W.cell? ⟨B, 0, none⟩ = some (.string p) ∧ W.cell? ⟨B, 1, none⟩ = some (.string c) ∧ W.cell? ⟨B, 2, none⟩ = some (.int .i64 (key : Int))) (first | assumption | exact ⟨d0, d1, d2⟩ | exact s3_below hb7 ⟨d0, d1, d2⟩ | exact s3_alloc (s3_below hb7 ⟨d0, d1, d2⟩) _ | exact s3_grown hg5 hnb (s3_alloc (s3_below hb7 ⟨d0, d1, d2⟩) _)) (first | (go_at_call 101; refine HITO.out.mono ?_; rintro _ w7 ⟨rfl, hb7⟩) | (rw [if_pos (by rfl)]; refine wp_append_lies _ (.tmp 15) (.tmp 25) 42 (by rfl) w.heap.size 9 iS _ 1 16 Tryz.undS HI.out HZ0.out HZ1.out HZ2.out rfl (by decide) _ k _ (by rfl) ((ownsRow_below HOD.out hb7).alloc _) ⟨w7.heap.size, 0, none⟩ 1 1 [.string (p ++ c ++ I)] (by rfl) rfl (one_new w7 _ _) one_cell (by decide) (by unfold maxLen; omega) (by omega) (Nat.le_trans HSZ.out (Nat.le_trans hb7.size (by simp))) _ rfl ?_; intro g5 c5 w8 ho5 hg5 hat5 hlt5) | fail)
      all_goals
        rw [strV_snoc2, HMSX.out] at ho5
        have hb5 : Below w.heap.size w w8 := (((HBD.out.trans (hb7.mono HSZ.out)).alloc (Nat.le_trans HSZ.out hb7.size) _)).grown hg5 (Nat.le_trans HSZ.out (Nat.le_trans hb7.size (by simp))) fun k' e' => (HO.out.lt k' e').1
        have HO5 := Lib.hid ho5; have HB5 := Lib.hid hb5; clear ho5 hg5 hat5 hlt5 hb5 hb7 d0 d1 d2 hbs hnb hs0 hs1 hs2 hs3
        go_wp2_with fail
        go_roundw
        case rel => exact ⟨k + 1, by omega, by go_num, HO5.out, HB5.out⟩
        case measure => simp [intOf]; omega
    · have hke : k = m.length := by omega
      subst hke
      have hMl := HML.out m.length (Nat.le_refl _)
      obtain ⟨ws, hws⟩ : ∃ ws, ws = M m.length := ⟨_, rfl⟩
      have hmj := HMJ.out
      have hjz := HJZ.out
      rw [← hws] at hMl hmj hjz
      have ho := HO.out
      rw [← hws] at ho
      have hml2 := hMl
      have hjn := join_own wr w.heap.size A3 c3 ws (mk [32]) (by rw [hMl]; exact ho) (by intro e; rw [e] at hMl; simp at hMl; omega) (by omega) (by rw [tl_mk]; omega)
      rw [hMl, tl_mk, hmj] at hjn
      have HJN := Lib.hid hjn
      clear hjn ho hmj hjz hws hMl hml2 HO
      go_wp2_with fail
      refine HJN.out.mono ?_
      rintro _ w7 ⟨rfl, hb7⟩
      have HB7 := Lib.hid (HBL.out.trans (hb7.mono HBL.out.size)); clear hb7
      go_wp2_with fail
      go_ret
      exact ⟨rfl, HB7.out⟩

end Go.Proofs.YtipcodebmemkpaaGreatDoor
