/-
  Contracts of MenuValid and MenuOf of the reference, and of the comparison of menus. Conditions: what each theorem names.
-/
import Derived.Test.YtlbngohbbcdfkaaGreatDoorCribS
import Derived.Test.YtlbngohbbcdfkaaGreatDoorMenu
import Derived.Test.YtlbngohbbcdfkaaGreatDoorMenuRun
import Derived.Laws.StructEq
import Derived.Shelf.SlicesE.Kit
namespace Go.Proofs.YtlbngohbbcdfkaaGreatDoor
open Go.RowKit Pl
set_option linter.unusedVariables false

theorem sL1Is (s : ByteArray) (c : UInt8) (w : World) (hs : s = mk [c]) (h : isL c = true) :
    Calls Tryz.prog 49 #[.string s] w fun e w' => e = .returned (.bool true) ∧ w' = w := by
  have hz : s.size = 1 := by rw [hs, size_mk]; rfl
  have h0 : 0 < s.size := by omega
  have hc : (s[0]'h0) = c := by subst hs; rfl
  have hcb := c.toNat_lt
  have hz1 : (((s.size : Nat) : Int) == 1) = true := by simp; omega
  have hzi : ((s.size : Nat) : Int) = 1 := by omega
  have hge : (1 : Nat) ≤ s.size := by omega
  clear hs
  have hr : 97 ≤ (s[0]'h0).toNat ∧ (s[0]'h0).toNat < 107 := by rw [hc]; simpa [isL] using h
  obtain ⟨h1, h2⟩ := hr
  have HZ := Lib.hid hz; clear hz hc hzi h
  go_enter Tryz.func49, Tryz.ntmps49
  go_wp2
  go_ret
  exact ⟨by simp; try omega, rfl⟩
theorem sL1Is_yes (s : ByteArray) (w : World) (hs : s.size = 1) (hl : ∀ c ∈ tl s, isL c = true) :
    Calls Tryz.prog 49 #[.string s] w fun e w' => e = .returned (.bool true) ∧ w' = w := by
  obtain ⟨c, hc⟩ : ∃ c, tl s = [c] := List.length_eq_one_iff.1 (by rw [length_tl]; exact hs)
  have e : s = mk [c] := by rw [← mk_tl s, hc]
  exact sL1Is s c w e (hl c (by rw [hc]; simp))
theorem sL1In (n lo hi : Int) (b : Bool) (w : World) (h : (decide (lo ≤ n) && decide (n ≤ hi)) = b) :
    Calls Tryz.prog 48 #[.int .i64 n, .int .i64 lo, .int .i64 hi] w fun e w' => e = .returned (.bool b) ∧ w' = w := (l1In_is n lo hi b w h).mono fun _ _ ⟨a, b⟩ => ⟨a, b.symm⟩

/-- a menu whose letters and order are right -/
def menuN (m : List Lnk) : Prop := (∀ x ∈ m, x.1.size = 1 ∧ x.2.1.size = 1 ∧ (∀ c ∈ tl x.1, isL c = true) ∧ (∀ c ∈ tl x.2.1, isL c = true) ∧ x.1 ≠ x.2.1 ∧ 1 ≤ x.2.2 ∧ x.2.2 ≤ 1000) ∧ m.Pairwise fun x y => x.2.2 < y.2.2
theorem menuL_nice {c k : List UInt8} {t : Nat} (h : cribF c k t = true) : menuN (menuL c k t) := by
  obtain ⟨hc, hk, hn, _, hle, hall⟩ := cribF_iff.1 h
  have hcl := wv_length hc
  refine ⟨?_, ?_⟩
  · intro x hx
    obtain ⟨i, hi, rfl⟩ := List.mem_map.1 hx
    have hi := List.mem_range.1 hi
    have hic : t + i < c.length := by omega
    have e1 : (k.drop i).take 1 = [k[i]] := by rw [List.drop_eq_getElem_cons hi]; rfl
    have e2 : (c.drop (t + i)).take 1 = [c[t + i]] := by rw [List.drop_eq_getElem_cons hic]; rfl
    have l1 := wv_mem hk (List.getElem_mem hi)
    have l2 := wv_mem hc (List.getElem_mem hic)
    have hne : k[i] ≠ c[t + i] := by
      have := List.all_eq_true.1 hall i (List.mem_range.2 hi)
      rw [Int.toNat_natCast, List.getElem?_eq_getElem hi, List.getElem?_eq_getElem hic] at this
      intro e; rw [e] at this; simp at this
    simp only [e1, e2]
    refine ⟨by rw [size_mk]; rfl, by rw [size_mk]; rfl, ?_, ?_, ?_, by omega, by omega⟩
    · intro a ha; rw [tl_mk] at ha; simp at ha; subst ha; exact l1
    · intro a ha; rw [tl_mk] at ha; simp at ha; subst ha; exact l2
    · intro e
      have := congrArg tl e
      rw [tl_mk, tl_mk] at this
      injection this with h0; exact hne h0
  · unfold menuL
    rw [List.pairwise_map]
    refine List.Pairwise.imp ?_ List.pairwise_lt_range
    intro a b hab
    show t + a + 1 < t + b + 1
    omega
def menuB (m : List Lnk) : Bool := m.all (fun x => decide (x.2.2 ≤ 60)) && (decide (1 ≤ m.length) && decide (m.length ≤ 12))
theorem menuB_bad {m : List Lnk} {k : Nat} (hk : k < m.length) (h : 60 < m[k].2.2) : menuB m = false := by
  unfold menuB
  rw [Bool.and_eq_false_iff]
  refine .inl (List.all_eq_false.2 ⟨m[k], List.getElem_mem hk, by simp; omega⟩)
theorem menuB_all {m : List Lnk} (h : ∀ j (hj : j < m.length), m[j].2.2 ≤ 60) : (decide ((1 : Int) ≤ (m.length : Int)) && decide ((m.length : Int) ≤ 12)) = menuB m := by
  unfold menuB
  have : (m.all fun x => decide (x.2.2 ≤ 60)) = true := List.all_eq_true.2 fun x hx => by
    obtain ⟨j, hj, rfl⟩ := List.mem_iff_getElem.1 hx
    have := h j hj; simp; omega
  rw [this, Bool.true_and]
  congr 1 <;> (rw [decide_eq_decide]; omega)
theorem menuB_L {c k : List UInt8} {t : Nat} (hn : k ≠ []) : menuB (menuL c k t) = true ↔ k.length ≤ 12 ∧ t + k.length ≤ 60 := by
  have hp := List.length_pos_iff.2 hn
  unfold menuB
  simp only [Bool.and_eq_true, decide_eq_true_eq, length_menuL, List.all_eq_true]
  constructor
  · rintro ⟨h1, h2, h3⟩
    refine ⟨h3, ?_⟩
    have := h1 (mk ((k.drop (k.length - 1)).take 1), mk ((c.drop (t + (k.length - 1))).take 1), t + (k.length - 1) + 1) (List.mem_map.2 ⟨k.length - 1, List.mem_range.2 (by omega), rfl⟩)
    simp only at this
    omega
  · rintro ⟨h1, h2⟩
    refine ⟨fun x hx => ?_, by omega, h1⟩
    obtain ⟨i, hi, rfl⟩ := List.mem_map.1 hx
    have := List.mem_range.1 hi
    show t + i + 1 ≤ 60
    omega

set_option maxHeartbeats 8000000 in
set_option maxRecDepth 100000 in
theorem sMenuValid_any (w : World) (A : Option Addr) (cap : Nat) (m : List Lnk) (h : Rd w w.heap.size A (linkV m)) (hc : m.length ≤ cap) (hv : menuN m) (hl : m.length ≤ 1000) :
    Calls Tryz.prog 24 #[.slice A m.length cap] w fun e w' => e = .returned (.bool (menuB m)) ∧ Below w.heap.size w w' := by
  obtain ⟨hall, hord⟩ := hv
  have HR := Lib.hid h; have HA := Lib.hid hall; have HO := Lib.hid hord; clear h hall hord
  obtain ⟨b, hb⟩ : ∃ b, b = menuB m := ⟨_, rfl⟩
  rw [← hb]
  have HBB := Lib.hid hb; clear hb
  go_enter Tryz.func24, Tryz.ntmps24
  go_wp2_with fail
  go_loopw [3] (fun i wr => ∃ k : Nat, k ≤ m.length ∧ i = .int .i64 k ∧ Hid (∀ j (hj : j < m.length), j < k → m[j].2.2 ≤ 60) ∧ Below w.heap.size w wr) (fun i _ => m.length - (intOf i).toNat)
  case atStart => exact ⟨0, Nat.zero_le _, rfl, Lib.hid (fun j hj hjk => by omega), Below.refl _ _⟩
  case round =>
    obtain ⟨k, hk, rfl, HQ, hbl⟩ := hrel
    have HBL := Lib.hid hbl; clear hbl
    by_cases hlt : k < m.length
    · have hrd := HR.out.below HBL.out
      obtain ⟨b0, off, rfl, hbb, c0, c1, c2⟩ := hrd.link hlt
      obtain ⟨x1, x2, x3, x4, x5, x6, x7⟩ := HA.out _ (List.getElem_mem hlt)
      have hnx : m[k].2.2 ≤ 60 → ∀ j (hj : j < m.length), j < k + 1 → m[j].2.2 ≤ 60 := fun h60 j hj hjk => by
        by_cases hje : j = k
        · subst hje; exact h60
        · exact HQ.out j hj (by omega)
      have hbad : 60 < m[k].2.2 → b = false := fun h60 => by rw [HBB.out]; exact menuB_bad hlt h60
      have hprev : ∀ j, k = j + 1 → ∃ q : Nat, wr.cell? ⟨b0, off + j * 3 + 2, none⟩ = some (.int .i64 (q : Int)) ∧ q < m[k].2.2 := fun j hj => by
        obtain ⟨b1, off1, e1, _, _, _, d2⟩ := hrd.link (k := j) (by omega)
        simp only [Option.some.injEq, Addr.mk.injEq, and_true] at e1
        obtain ⟨rfl, rfl⟩ := e1
        exact ⟨_, d2, List.pairwise_iff_getElem.1 HO.out j k (by omega) hlt (by omega)⟩
      have HNX := Lib.hid hnx; clear hnx hrd
      generalize m[k] = x at c0 c1 c2 x1 x2 x3 x4 x5 x6 x7 hbad hprev HNX
      obtain ⟨p, c, key⟩ := x
      simp only at c0 c1 c2 x1 x2 x3 x4 x5 x6 x7 hbad hprev HNX
      have hpc : (p.toList == c.toList) = false := by rw [beq_eq_false_iff_ne]; intro e; exact x5 (by rw [toList_tl, toList_tl] at e; rw [← mk_tl p, ← mk_tl c, e])
      have hc1 := fun w' => sL1Is_yes p w' x1 x3
      have hc2 := fun w' => sL1Is_yes c w' x2 x4
      have hcc : ∀ (s : ByteArray) (w' : World), s = p ∨ s = c → Calls Tryz.prog 49 #[.string s] w' fun e w'' => e = .returned (.bool true) ∧ w'' = w' := fun s w' hs => by
        rcases hs with rfl | rfl
        · exact hc1 w'
        · exact hc2 w'
      have H1 := Lib.hid hcc; clear hcc hc1 hc2 x1 x2 x3 x4 x5
      have hba : Below wr.heap.size wr (wr.alloc (.cells #[.string p, .string c, .int .i64 (key : Int)] 50)) := (Below.refl _ _).alloc (Nat.le_refl _) _
      have hb2 : Below w.heap.size w (wr.alloc (.cells #[.string p, .string c, .int .i64 (key : Int)] 50)) := HBL.out.alloc HBL.out.size _
      have HB2 := Lib.hid hb2; clear hb2
      obtain ⟨W, hW⟩ : ∃ W, W = wr.alloc (.cells #[.string p, .string c, .int .i64 (key : Int)] 50) := ⟨_, rfl⟩
      have f0 : W.cell? ⟨wr.heap.size, 0, none⟩ = some (.string p) := by rw [hW]; simp
      have f1 : W.cell? ⟨wr.heap.size, 1, none⟩ = some (.string c) := by rw [hW]; simp
      have f2 : W.cell? ⟨wr.heap.size, 2, none⟩ = some (.int .i64 (key : Int)) := by rw [hW]; simp
      rw [← hW] at hba HB2
      obtain ⟨B, hB⟩ : ∃ B, B = wr.heap.size := ⟨_, rfl⟩
      by_cases h60 : key ≤ 60
      · have hin := fun w' => sL1In (key : Int) 1 60 true w' (by simp; omega)
        have H3 := Lib.hid hin; have HNX2 := Lib.hid (HNX.out h60); clear hin HNX hbad
        by_cases hk0 : k = 0
        · subst hk0
          simp only [Nat.zero_mul, Nat.add_zero] at c0 c1 c2
          rw [show ((0 : Nat) : Int) = 0 from rfl]
          clear hprev hba
          go_wp2_with fail
          rw [← hW, ← hB]
          rw [← hB] at f0 f1 f2
          clear hW hB c0 c1 c2
          go_quiet (first | (go_at_call 49; exact Calls.quiet_of_same (H1.out _ _ (by first | exact .inl rfl | exact .inr rfl))) | (go_at_call 48; exact Calls.quiet_of_same (H3.out _)))
          clear hpc f0 f1 f2
          go_wp2_with fail
          go_roundw
          case rel => exact ⟨0 + 1, by omega, by go_num, HNX2, below_drewN' HB2.out _⟩
          case measure => simp [intOf]; omega
        · obtain ⟨j, hj⟩ : ∃ j, k = j + 1 := ⟨k - 1, by omega⟩
          obtain ⟨q, d0, hq⟩ := hprev j hj
          have d1 : W.cell? ⟨b0, off + j * 3 + 2, none⟩ = some (.int .i64 (q : Int)) := (hba.cell (World.block_lt_of_cell? _ _ d0)).trans d0
          have e1 : ((k : Int) - 1).toNat = j := by omega
          have e2 : IntKind.i64.wrap ((k : Int) - 1) = (k : Int) - 1 := by rw [IntKind.wrap_i64]; omega
          have e3 : (0 : Int) ≤ (k : Int) - 1 := by omega
          have e4 : (k : Int) - 1 < (m.length : Int) := by omega
          have e5 : 0 < k := by omega
          have e6 : q < key := by omega
          clear hprev hba d0 hj hk0 hq
          go_wp2_with fail
          rw [← hW, ← hB]
          rw [← hB] at f0 f1 f2
          clear hW hB c0 c1 c2
          go_quiet (first | (go_at_call 49; exact Calls.quiet_of_same (H1.out _ _ (by first | exact .inl rfl | exact .inr rfl))) | (go_at_call 48; exact Calls.quiet_of_same (H3.out _)))
          have e7 : ¬ key ≤ q := by omega
          clear hpc e1 e2 e3 e4 e5 d1 f0 f1 f2
          go_wp2_with fail
          go_roundw
          case rel => exact ⟨k + 1, by omega, by go_num, HNX2, below_drewN' HB2.out _⟩
          case measure => simp [intOf]; omega
      · have hbf := hbad (by omega)
        subst hbf
        have hin := fun w' => sL1In (key : Int) 1 60 false w' (by simp; omega)
        have H3 := Lib.hid hin; clear hin HNX hbad hprev hba
        go_wp2_with fail
        rw [← hW, ← hB]
        rw [← hB] at f0 f1 f2
        clear hW hB c0 c1 c2
        go_quiet (first | (go_at_call 49; exact Calls.quiet_of_same (H1.out _ _ (by first | exact .inl rfl | exact .inr rfl))) | (go_at_call 48; exact Calls.quiet_of_same (H3.out _)))
        clear hpc f0 f1 f2
        go_wp2_with fail
        go_ret
        exact ⟨rfl, below_drewN' HB2.out _⟩
    · have hin := fun w' => sL1In (m.length : Int) 1 12 b w' (by rw [HBB.out]; exact menuB_all fun j hj => HQ.out j hj (by omega))
      have H3 := Lib.hid hin; clear hin
      go_wp2_with fail
      refine (H3.out _).mono ?_
      rintro _ _ ⟨rfl, rfl⟩
      go_wp2_with fail
      go_ret
      exact ⟨rfl, HBL.out⟩

/-- the callee has made the menu m, or none -/
def MenusB (b : Bool) (m : List Lnk) (w : World) (e : Ending) (w' : World) : Prop :=
  (b = true ∧ ∃ A cap, e = .returned (.tuple #[.slice A m.length cap, .bool true]) ∧ w'.ownsRow w.heap.size 50 3 (.slice A m.length cap) m.length (linkV m) ∧ Below w.heap.size w w') ∨
  (b = false ∧ ∃ A, e = .returned (.tuple #[.slice A 0 0, .bool false]) ∧ Below w.heap.size w w')

theorem sMenuOf_none (c k : ByteArray) (t : Int) (w : World) (h0 : -9223372036854775808 ≤ t ∧ t ≤ 9223372036854775807) (h : cribF (tl c) (tl k) t = false) (m : List Lnk) :
    Calls Tryz.prog 8 #[.string c, .string k, .int .i64 t] w (MenusB false m w) := by
  have hcf := fun w' => sCribFits_any c k t w' h0
  rw [h] at hcf
  have HCF := Lib.hid hcf; clear hcf h
  have hb0 : Below w.heap.size w (w.alloc (.cells #[] 50)) := (Below.refl _ _).alloc (Nat.le_refl _) _
  have HB0 := Lib.hid hb0; clear hb0
  go_enter Tryz.func8, Tryz.ntmps8
  go_wp2_with fail
  refine (HCF.out _).mono ?_
  rintro _ w1 ⟨rfl, hb1⟩
  go_wp2_with fail
  go_ret2
  exact .inr ⟨rfl, _, rfl, HB0.out.trans (hb1.mono HB0.out.size)⟩

set_option maxHeartbeats 8000000 in
set_option maxRecDepth 100000 in
theorem sMenuOf_fit (c k : ByteArray) (t : Nat) (w : World) (h : cribF (tl c) (tl k) t = true) :
    Calls Tryz.prog 8 #[.string c, .string k, .int .i64 t] w (MenusB (menuB (menuL (tl c) (tl k) t)) (menuL (tl c) (tl k) t) w) := by
  obtain ⟨iL, hi, hz0, hz1, hz2⟩ := info_parts Tryz.infoL
  have HI := Lib.hid hi; have HZ0 := Lib.hid hz0; have HZ1 := Lib.hid hz1; have HZ2 := Lib.hid hz2
  clear hi hz0 hz1 hz2
  obtain ⟨hcw, hkw, _, _, hle, _⟩ := cribF_iff.1 h
  have hkl := wv_length hkw
  have hcl := wv_length hcw
  rw [length_tl] at hkl hcl
  rw [length_tl, length_tl] at hle
  have hle' : t + k.size ≤ c.size := by omega
  have hcf := fun w' => sCribFits_any c k (t : Int) w' (by omega)
  rw [h] at hcf
  have hnice := menuL_nice h
  have hmll := length_menuL (tl c) (tl k) t
  rw [length_tl] at hmll
  have HCF := Lib.hid hcf; clear hcf h hle hcw hkw
  have hml : menuL (tl c) (tl k) t = (List.range k.size).map fun i => (mk (((tl k).drop i).take 1), mk (((tl c).drop (t + i)).take 1), t + i + 1) := by unfold menuL; rw [length_tl]
  obtain ⟨M, hM⟩ : ∃ M : Nat → List Lnk, M = fun n => (List.range n).map fun i => (mk (((tl k).drop i).take 1), mk (((tl c).drop (t + i)).take 1), t + i + 1) := ⟨_, rfl⟩
  have hM0 : M 0 = [] := by rw [hM]; rfl
  have hMs : ∀ n, M n ++ [(k.extract n (n + 1), c.extract (t + n) (t + n + 1), t + n + 1)] = M (n + 1) := fun n => by
    rw [hM, extract_mk', extract_mk', Nat.add_sub_cancel_left, Nat.add_sub_cancel_left]
    simp [List.range_succ]
  have hMk : M k.size = menuL (tl c) (tl k) t := by rw [hml, hM]
  obtain ⟨m, hm⟩ : ∃ m, m = menuL (tl c) (tl k) t := ⟨_, rfl⟩
  rw [← hm] at hnice hmll hMk ⊢
  have HM0 := Lib.hid hM0; have HMK := Lib.hid hMk; have HMS := Lib.hid hMs; have HNI := Lib.hid hnice; have HMLL := Lib.hid hmll
  clear hml hM hM0 hMk hMs hnice hmll hm
  have how : (w.alloc (.cells #[] 50)).ownsRow w.heap.size 50 3 (.slice (some ⟨w.heap.size, 0, none⟩) 0 0) 0 (linkV []) := World.ownsRow_made w #[] 0 (Nat.le_refl _) (by decide) rfl
  have hb0 : Below w.heap.size w (w.alloc (.cells #[] 50)) := (Below.refl _ _).alloc (Nat.le_refl _) _
  have HOW := Lib.hid how; have HB0 := Lib.hid hb0; clear how hb0
  obtain ⟨P, hP⟩ : ∃ P, P = w.heap.size := ⟨_, rfl⟩
  go_enter Tryz.func8, Tryz.ntmps8
  go_wp2_with fail
  refine (HCF.out _).mono ?_
  rintro _ w1 ⟨rfl, hb1⟩
  have HO1 := Lib.hid (ownsRow_below HOW.out hb1)
  have HB1 := Lib.hid (HB0.out.trans (hb1.mono HB0.out.size)); clear hb1 HCF HOW HB0
  rw [← hP] at HO1 ⊢
  have HPE := Lib.hid hP; clear hP
  go_wp2_with fail
  go_loopw [8, 9] (fun o i wr => ∃ n : Nat, n ≤ k.size ∧ i = .int .i64 n ∧ wr.ownsRow P 50 3 o n (linkV (M n)) ∧ Below w.heap.size w wr) (fun _ i _ => k.size - (intOf i).toNat)
  case atStart => exact ⟨0, Nat.zero_le _, rfl, by rw [HM0.out]; exact HO1.out, HB1.out⟩
  case round =>
    obtain ⟨n, hn, rfl, hown, hbl⟩ := hrel
    have HO := Lib.hid hown; have HBL := Lib.hid hbl; clear hown hbl HO1 HB1
    obtain ⟨A3, c3, e3⟩ := slot_slice HO.out
    subst e3
    by_cases hlt : n < k.size
    · have hbw : P ≤ wr.heap.size := by rw [HPE.out]; exact HBL.out.size
      have a1 : ((n : Int) + 1).toNat = n + 1 := by omega
      have a2 : ((t : Int) + (n : Int)).toNat = t + n := by omega
      have a3 : ((t : Int) + (n : Int) + 1).toNat = t + n + 1 := by omega
      have w1 : IntKind.i64.wrap ((n : Int) + 1) = (n : Int) + 1 := by rw [IntKind.wrap_i64]; omega
      have w2 : IntKind.i64.wrap ((t : Int) + (n : Int)) = (t : Int) + (n : Int) := by rw [IntKind.wrap_i64]; omega
      have w3 : IntKind.i64.wrap ((t : Int) + (n : Int) + 1) = (t : Int) + (n : Int) + 1 := by rw [IntKind.wrap_i64]; omega
      have b1 : (0 : Int) ≤ (n : Int) := by omega
      have b2 : (n : Int) ≤ (n : Int) + 1 := by omega
      have b3 : (n : Int) + 1 ≤ (k.size : Int) := by omega
      have b4 : (0 : Int) ≤ (t : Int) + (n : Int) := by omega
      have b5 : (t : Int) + (n : Int) ≤ (t : Int) + (n : Int) + 1 := by omega
      have b6 : (t : Int) + (n : Int) + 1 ≤ (c.size : Int) := by omega
      have z1 : (k.extract n (n + 1)).size ≤ 100 := by simp [ByteArray.size_extract]; omega
      have z2 : (c.extract (t + n) (t + n + 1)).size ≤ 100 := by simp [ByteArray.size_extract]; omega
      go_wp2_with fail
      go_region_held3 (fun W => True) (exact True.intro) (first | (rw [if_pos (by rfl)]; refine wp_append_lies _ (.tmp 23) (.tmp 43) 25 (by rfl) P 50 iL _ 3 40 Tryz.undL HI.out HZ0.out HZ1.out HZ2.out rfl (by decide) _ n _ (by rfl) (HO.out.alloc _) ⟨wr.heap.size, 0, none⟩ 1 1 [.string (k.extract n (n + 1)), .string (c.extract (t + n) (t + n + 1)), .int .i64 ((t : Int) + (n : Int) + 1)] (by rfl) rfl (three_new wr _ _ _ _) (three_one _ _ _) (by decide) (by unfold maxLen; omega) (by omega) (by simp; omega) _ rfl ?_; intro g5 c5 w5 ho5 hg5 hat5 hlt5) | fail)
      have hls := linkV_snoc (M n) (k.extract n (n + 1), c.extract (t + n) (t + n + 1), t + n + 1)
      rw [HMS.out] at hls
      simp only [Int.natCast_add, Int.natCast_one] at hls
      rw [hls] at ho5
      have hb5 : Below w.heap.size w w5 := ((HBL.out.alloc HBL.out.size _).drew).grown hg5 (by simp; have := HBL.out.size; omega) fun k' e' => by have := (HO.out.lt k' e').1; have := HPE.out; omega
      have HO5 := Lib.hid ho5; have HB5 := Lib.hid hb5; clear ho5 hg5 hat5 hlt5 hb5 hls
      go_wp2_with fail
      go_roundw
      case rel => exact ⟨n + 1, by omega, by go_num, HO5.out, HB5.out⟩
      case measure => simp [intOf]; omega
    · obtain rfl : n = k.size := by omega
      have ho := HO.out
      rw [HMK.out] at ho
      have hmv := sMenuValid_any wr A3 c3 m (own_rd2 ho) (by rw [HMLL.out]; exact own_le2 ho) HNI.out (by rw [HMLL.out]; omega)
      rw [HMLL.out] at hmv
      have HMV := Lib.hid hmv; have HOO := Lib.hid ho; clear hmv ho hlt hn
      cases hbb : menuB m with
      | true =>
        rw [hbb] at HMV
        go_wp2_with fail
        refine HMV.out.mono ?_
        rintro _ w4 ⟨rfl, hb4⟩
        have HO4 := Lib.hid (ownsRow_below HOO.out hb4)
        have HB4 := Lib.hid (HBL.out.trans (hb4.mono HBL.out.size)); clear hb4
        go_wp2_with fail
        go_ret2
        refine .inl ⟨hbb, A3, c3, by rw [HMLL.out]; rfl, ?_, HB4.out⟩
        rw [HMLL.out, ← HPE.out]; exact HO4.out
      | false =>
        rw [hbb] at HMV
        go_wp2_with fail
        refine HMV.out.mono ?_
        rintro _ w4 ⟨rfl, hb4⟩
        have HB4 := Lib.hid (HBL.out.trans (hb4.mono HBL.out.size)); clear hb4
        go_wp2_with fail
        go_ret2
        exact .inr ⟨hbb, _, rfl, HB4.out.alloc HB4.out.size _⟩

set_option maxHeartbeats 4000000 in
theorem rcMenus_same (w : World) (A1 A2 : Option Addr) (c1 c2 : Nat) (m : List Lnk) (h1 : Rd w w.heap.size A1 (linkV m)) (h2 : Rd w w.heap.size A2 (linkV m)) (k1 : m.length ≤ c1) (k2 : m.length ≤ c2) (hl : m.length ≤ 1000) :
    Calls Tryz.prog 9 #[.slice A1 m.length c1, .slice A2 m.length c2] w fun e w' => e = .returned (.bool true) ∧ Below w.heap.size w w' := by
  have R1 := Lib.hid h1; have R2 := Lib.hid h2; clear h1 h2
  go_enter Tryz.func9, Tryz.ntmps9
  go_wp2_with fail
  go_loopw [5] (fun i wr => ∃ k : Nat, k ≤ m.length ∧ i = .int .i64 k ∧ Below w.heap.size w wr) (fun i _ => m.length - (intOf i).toNat)
  case atStart => exact ⟨0, Nat.zero_le _, rfl, Below.refl _ _⟩
  case round =>
    obtain ⟨k, hk, rfl, hbl⟩ := hrel
    have HBL := Lib.hid hbl; clear hbl
    by_cases hlt : k < m.length
    · obtain ⟨b1, o1, rfl, _, d0, d1, d2⟩ := (R1.out.below HBL.out).link hlt
      obtain ⟨b2, o2, rfl, _, e0, e1, e2⟩ := (R2.out.below HBL.out).link hlt
      generalize m[k] = x at d0 d1 d2 e0 e1 e2
      obtain ⟨p, c, key⟩ := x
      simp only at d0 d1 d2 e0 e1 e2
      go_wp2_with fail
      go_quiet (fail)
      clear d0 d1 d2 e0 e1 e2
      go_wp2_with fail
      go_roundw
      case rel => exact ⟨k + 1, by omega, by go_num, below_drewN' HBL.out _⟩
      case measure => simp [intOf]; omega
    · go_wp2_with fail
      go_ret
      exact ⟨rfl, HBL.out⟩

end Go.Proofs.YtlbngohbbcdfkaaGreatDoor
