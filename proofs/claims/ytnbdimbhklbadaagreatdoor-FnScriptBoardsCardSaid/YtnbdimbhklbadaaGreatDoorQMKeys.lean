/-
  Contracts of functions and plain laws that the law's proof uses (parts: MKeys). Conditions: what each theorem names.
-/
import Derived.Maps.AppendAt
import Derived.Test.YtnbdimbhklbadaaGreatDoorQDayPr
import Derived.Test.YtnbdimbhklbadaaGreatDoorQMnA
namespace Go.Proofs.YtnbdimbhklbadaaGreatDoor
set_option linter.unusedVariables false
open Go Go.RowKit Pl
def cntK : List Lnk → Nat → Nat
  | [], _ => 0
  | x :: r, k => if x.2.2 ≤ k then cntK r k + 1 else 0
theorem cntK_gt : ∀ (ms : List Lnk) (k : Nat) (h : cntK ms k < ms.length), k < (ms[cntK ms k]).2.2
  | [], _, h => by simp [cntK] at h
  | x :: r, k, h => by
    by_cases hx : x.2.2 ≤ k
    · have e : cntK (x :: r) k = cntK r k + 1 := by rw [cntK, if_pos hx]
      have h' : cntK r k < r.length := by rw [e, List.length_cons] at h; omega
      have h2 := cntK_gt r k h'
      simp only [e, List.getElem_cons_succ]; exact h2
    · have e : cntK (x :: r) k = 0 := by rw [cntK, if_neg hx]
      simp only [e, List.getElem_cons_zero]; omega
theorem cntK_zero {ms : List Lnk} (h : ∀ x ∈ ms, 1 ≤ x.2.2) : cntK ms 0 = 0 := by
  cases ms with
  | nil => rfl
  | cons x r => rw [cntK, if_neg (by have := h x (List.mem_cons_self ..); omega)]
theorem cntK_above {ms : List Lnk} {k : Nat} (h : ∀ x ∈ ms, k < x.2.2) : cntK ms k = 0 := by
  cases ms with
  | nil => rfl
  | cons x r => rw [cntK, if_neg (by have := h x (List.mem_cons_self ..); omega)]
theorem cntK_hit : ∀ (ms : List Lnk) (k : Nat), (ms.Pairwise fun x y => x.2.2 < y.2.2) → ∀ (h : cntK ms k < ms.length), (ms[cntK ms k]).2.2 = k + 1 → cntK ms (k + 1) = cntK ms k + 1
  | [], _, _, h, _ => by simp [cntK] at h
  | x :: r, k, hp, h, hk => by
    obtain ⟨hp1, hp2⟩ := List.pairwise_cons.1 hp
    by_cases hx : x.2.2 ≤ k
    · have e : cntK (x :: r) k = cntK r k + 1 := by rw [cntK, if_pos hx]
      have h' : cntK r k < r.length := by rw [e, List.length_cons] at h; omega
      have h2 := cntK_hit r k hp2 h' (by simp only [e, List.getElem_cons_succ] at hk; exact hk)
      rw [e, ← h2, cntK, if_pos (by omega)]
    · have e : cntK (x :: r) k = 0 := by rw [cntK, if_neg hx]
      simp only [e, List.getElem_cons_zero] at hk
      rw [e, cntK, if_pos (by omega), cntK_above fun y hy => by have := hp1 y hy; omega]
theorem cntK_miss : ∀ (ms : List Lnk) (k : Nat) (h : cntK ms k < ms.length), (ms[cntK ms k]).2.2 ≠ k + 1 → cntK ms (k + 1) = cntK ms k
  | [], _, h, _ => by simp [cntK] at h
  | x :: r, k, h, hk => by
    by_cases hx : x.2.2 ≤ k
    · have e : cntK (x :: r) k = cntK r k + 1 := by rw [cntK, if_pos hx]
      have h' : cntK r k < r.length := by rw [e, List.length_cons] at h; omega
      have h2 := cntK_miss r k h' (by simp only [e, List.getElem_cons_succ] at hk; exact hk)
      rw [e, ← h2, cntK, if_pos (by omega)]
    · have e : cntK (x :: r) k = 0 := by rw [cntK, if_neg hx]
      simp only [e, List.getElem_cons_zero] at hk
      rw [e, cntK, if_neg (by omega)]
def keysL (K : Nat → List Nat) (ms : List Lnk) : List (List Nat) := ms.map fun x => K x.2.2
def keysTo (K : Nat → List Nat) (ms : List Lnk) (k : Nat) : List (List Nat) := keysL K (ms.take (cntK ms k))
theorem keysTo_hit {K : Nat → List Nat} {ms : List Lnk} {k : Nat} (hp : ms.Pairwise fun x y => x.2.2 < y.2.2) (h : cntK ms k < ms.length) (hk : (ms[cntK ms k]).2.2 = k + 1) : keysTo K ms (k + 1) = keysTo K ms k ++ [K (k + 1)] := by
  unfold keysTo keysL
  rw [cntK_hit ms k hp h hk, List.take_succ_eq_append_getElem h, List.map_append, List.map_cons, List.map_nil, hk]
theorem keysTo_miss {K : Nat → List Nat} {ms : List Lnk} {k : Nat} (h : cntK ms k < ms.length) (hk : (ms[cntK ms k]).2.2 ≠ k + 1) : keysTo K ms (k + 1) = keysTo K ms k := by
  unfold keysTo; rw [cntK_miss ms k h hk]
theorem keysTo_all {K : Nat → List Nat} {ms : List Lnk} {k : Nat} (h : cntK ms k = ms.length) : keysTo K ms k = keysL K ms := by
  unfold keysTo; rw [h, List.take_length]
theorem keysL_len (K : Nat → List Nat) (ms : List Lnk) : (keysL K ms).length = ms.length := by unfold keysL; rw [List.length_map]
structure MKeysAt (w W : World) (P Q m : Nat) (Am : Option Addr) (cm : Nat) (ms : List Lnk) (K : Nat → List Nat) (k : Nat) : Prop where
  num : SB W (Q + 1) #[.int .i64 (k : Int)] 3
  men : SB W (P + 1) #[.slice Am ms.length cm] 28
  row : ∃ A c, SB W Q #[.slice A (cntK ms k) c] 47 ∧ W.ownsRow (P + 2) 52 10 (.slice A (cntK ms k) c) (cntK ms k) (pF (keysTo K ms k)) ∧ ∀ j, (Value.slice A (cntK ms k) c).ownBlock = some j → j = P + 2 ∨ m ≤ j
  bel : Below P w W
theorem own_cells2 {lo b base : Nat} {A B : World} {e : TypeId} {s n : Nat} {v : Value} {xs : List Value} (h : A.ownsRow base e s v n xs) (hb : ButC lo b A B) (hm : ∀ j, v.ownBlock = some j → j ≠ b) : B.ownsRow base e s v n xs := by
  obtain ⟨h1, h2 | ⟨g, cap, cur, hv, hbg, hg, r⟩⟩ := h
  · exact ⟨h1, .inl h2⟩
  · exact ⟨h1, .inr ⟨g, cap, cur, hv, hbg, hb.cells g _ hg rfl (hm g (by rw [hv]; rfl)), r⟩⟩
theorem MKeysAt.toC {w A B : World} {P Q m k lo b cm : Nat} {Am : Option Addr} {ms : List Lnk} {K : Nat → List Nat} (h : MKeysAt w A P Q m Am cm ms K k) (hb : ButC lo b A B) (h0 : P + 3 ≤ Q) (h1 : Q + 1 < lo) (h2 : Q + 1 < b) (h3 : b < m) : MKeysAt w B P Q m Am cm ms K k := by
  obtain ⟨A', c, hs, ho, hj⟩ := h.row
  exact ⟨(hb.block (Q + 1) (by omega) (by omega)).trans h.num, (hb.block (P + 1) (by omega) (by omega)).trans h.men, ⟨A', c, (hb.block Q (by omega) (by omega)).trans hs, own_cells2 ho hb fun j e => by rcases hj j e with h | h <;> omega, hj⟩, h.bel.trans (hb.toButTo.below (by omega) (by omega))⟩
def mkMu (Q : Nat) (W : World) : Nat := match W.cell? ⟨Q + 1, 0, none⟩ with
  | some (.int _ k) => 60 - k.toNat
  | _ => 0
theorem mkMu_at {w W : World} {P Q m k cm : Nat} {Am : Option Addr} {ms : List Lnk} {K : Nat → List Nat} (h : MKeysAt w W P Q m Am cm ms K k) : mkMu Q W = 60 - k := by
  unfold mkMu
  rw [h.num.cell 0 (.int .i64 (k : Int)) rfl]
  simp
theorem kp_grown2 {n0 n1 m b : Nat} {W W' : World} {r : Option Nat} (hg : W.grownBy W' r) (hr : ∀ k, r = some k → (n0 ≤ k ∧ k < n1) ∨ m ≤ k) (hm : m ≤ W.heap.size) (hb : b < m) (hbn : b < n0 ∨ n1 ≤ b) : KP n0 n1 m b W W' :=
  ⟨⟨hg.size, fun j hj h2 _ => hg.block j (by omega) (by intro e; have := hr j e.symm; omega)⟩, hg.block b (by omega) (by intro e; have := hr b e.symm; omega)⟩
theorem mk_cells {wb w1 : World} {P : Nat} {v0 v1 v2 v3 : Value} {t : TypeId} (h : SB wb P #[v0, v1, v2, v3] t) (hg : wb.grownBy w1 none) (o1 o2 : Obj) :
    ((w1.alloc o1).alloc o2).cell? ⟨P, 0, none⟩ = some v0 ∧ ((w1.alloc o1).alloc o2).cell? ⟨P, 1, none⟩ = some v1 ∧ ((w1.alloc o1).alloc o2).cell? ⟨P, 2, none⟩ = some v2 ∧ ((w1.alloc o1).alloc o2).cell? ⟨P, 3, none⟩ = some v3 := by
  have h1 : SB w1 P #[v0, v1, v2, v3] t := SB.own (v := .slice none 0 0) h hg (by simp [Value.ownBlock])
  have h2 : SB ((w1.alloc o1).alloc o2) P #[v0, v1, v2, v3] t := (h1.below ((Below.refl _ _).alloc (Nat.le_refl _) _)).below ((Below.refl _ _).alloc (Nat.le_refl _) _)
  exact h2.all4.1
theorem own_putD {W : World} {base l : Nat} {e : TypeId} {s n : Nat} {v : Value} {xs : List Value} {o : Obj} (h : W.ownsRow base e s v n xs) (hl : W.heap[l]? = some o) (hc : o.isCells = false) (o' : Obj) : (W.putObj l o').ownsRow base e s v n xs := by
  obtain ⟨h1, h2 | ⟨g, cap, cur, hv, hbg, hg, r⟩⟩ := h
  · exact ⟨h1, .inl h2⟩
  · refine ⟨h1, .inr ⟨g, cap, cur, hv, hbg, (World.putObj_heap_other ?_).trans hg, r⟩⟩
    intro e1; subst e1
    rw [hl] at hg; injection hg with hg; rw [hg] at hc; simp [Obj.isCells] at hc
attribute [local go_sem] Oper.semAt_some
set_option maxHeartbeats 4000000 in
set_option maxRecDepth 100000 in
theorem menuKeys_is (w : World) (A : Option Addr) (cap : Nat) (rs : List (ByteArray × ByteArray)) (r q rg : List Nat) (o : ByteArray) (h : Rd w w.heap.size A (rotV rs)) (hc : rs.length ≤ cap) (hv : SetV rs (pT r) (pT rg) (pT q) o) (hr : Prm r) (hri : invP r = r) (hq : Prm q) (hi : invP q = q) (hrg : rg.length = rs.length) (hrl : ∀ x ∈ rg, x < 10)
    (Am : Option Addr) (cm : Nat) (ms : List Lnk) (hm : Rd w w.heap.size Am (linkV ms)) (hmc : ms.length ≤ cm) (hmv : menuV ms) :
    Calls Tryz.prog 20 #[.agg #[.slice A rs.length cap, .string (pT r), .string (pT rg), .string (pT q)], .string o, .slice Am ms.length cm] w fun e w' => ∃ A' c', e = .returned (.slice A' ms.length c') ∧ w'.ownsRow w.heap.size 52 10 (.slice A' ms.length c') ms.length (pF (keysL (keyP q r rs rg o) ms)) ∧ Below w.heap.size w w' := by
  obtain ⟨iM, hi0, hz1, hz2, hz3⟩ := info_parts Tryz.infoPm
  have HI0 := Lib.hid hi0; have HZ1 := Lib.hid hz1; have HZ2 := Lib.hid hz2; have HZ3 := Lib.hid hz3
  clear hi0 hz1 hz2 hz3
  have hl3 := hv.1.1.1.2.1
  have hl1 := hv.1.1.1.1
  have hrv := hv.1.1.1.2.2.2
  have hz : o.size = rs.length := hv.2.1.trans hv.1.1.2.1
  have hwp : WinV rs (pT r) o := ⟨hv.1.1.1, hz, hv.2.2⟩
  have hwi : ∀ i, i < rs.length → Prm (wirP rs i) := fun i hi => (wir_ok hrv hi).1
  obtain ⟨wb, hwb⟩ : ∃ wb, wb = (w.alloc (.cells #[.slice A rs.length cap, .string (pT r), .string (pT rg), .string (pT q)] 27)).alloc (.cells #[.slice Am ms.length cm] 28) := ⟨_, rfl⟩
  have hbb : Below w.heap.size w wb := by rw [hwb]; exact ((Below.refl _ _).alloc (Nat.le_refl _) _).alloc (by simp) _
  obtain ⟨P, hP⟩ : ∃ P, P = w.heap.size := ⟨_, rfl⟩
  have hsb0 : SB wb P #[.slice A rs.length cap, .string (pT r), .string (pT rg), .string (pT q)] 27 := by
    rw [hwb, hP]; exact (SB.made w _ _).below ((Below.refl _ _).alloc (Nat.le_refl _) _)
  have hmb0 : SB wb (P + 1) #[.slice Am ms.length cm] 28 := by
    rw [hwb, hP, show w.heap.size + 1 = (w.alloc (.cells #[.slice A rs.length cap, .string (pT r), .string (pT rg), .string (pT q)] 27)).heap.size by simp]
    exact SB.made _ _ _
  have hzb : wb.heap.size = P + 2 := by rw [hwb, hP]; simp
  have HSB0 := Lib.hid hsb0; have HMB0 := Lib.hid hmb0; have HBB := Lib.hid hbb; have HZB := Lib.hid hzb; have HR0 := Lib.hid h; have HMR := Lib.hid hm
  have HQ := Lib.hid (And.intro (And.intro hr hri) (And.intro hq hi)); have HRG := Lib.hid (And.intro hrg hrl); have HC := Lib.hid (And.intro hc (And.intro hl3 hwp)); have HWI := Lib.hid hwi
  have HRV := Lib.hid hrv
  have HSZ := Lib.hid (show 1 ≤ o.size ∧ o.size ≤ 3 by omega)
  have HMV := Lib.hid hmv; have HMC := Lib.hid hmc
  obtain ⟨n, hn⟩ : ∃ n, n = ms.length := ⟨_, rfl⟩
  have hn1 : 1 ≤ n := by rw [hn]; exact hmv.1
  have hn12 : n ≤ 12 := by rw [hn]; exact hmv.2.1
  rw [← hn] at hwb HMB0
  have hml : wb.cell? ⟨P + 1, 0, none⟩ = some (.slice Am n cm) := HMB0.out.cell 0 _ rfl
  rw [hwb, hP] at hml
  have HSX := Lib.hid hsb0
  rw [hwb, hP] at HSX
  have HN := Lib.hid hn
  rw [← hn]
  clear h hbb hsb0 hmb0 hzb hv hr hri hq hi hrg hrl hc hl3 hl1 hwp hwi hrv hz hm hmc hmv hn
  generalize hT1 : pT r = T1 at *
  generalize hT2 : pT rg = T2 at *
  generalize hT3 : pT q = T3 at *
  have HT := Lib.hid (And.intro hT1 (And.intro hT2 hT3))
  clear hT1 hT2 hT3
  refine (callsIn_wide (n := 3)).1 ?_
  refine callsIn_of_wp_marks Tryz.func20 rfl trivial ?_ rfl
  simp only [Tryz.ntmps20, List.size_toArray, List.length_cons, List.length_nil, Nat.reduceAdd, Nat.reduceSub, Array.replicate_succ, Array.replicate_zero, List.push_toArray, List.append_toArray, List.nil_append, List.cons_append]
  refine wpIn_wide.2 ?_
  go_wp2_with (at_make; refine wpList_make_own _ rfl _ _ 47 rfl (w.heap.size + 2) 52 iM _ 10 Tryz.undPm HI0.out HZ1.out HZ2.out .i64 .i64 _ n rfl rfl rfl (by rw [HZ3.out]; omega) (by unfold maxLen; omega) (by simp) ?_; intro w1 ho1 hg1; obtain ⟨c0, c1, c2, c3⟩ := mk_cells HSX.out hg1 (.cells #[.slice (some ⟨w.heap.size + 1 + 1, 0, none⟩) 0 n] 47) (.cells #[.int .i64 0] 3))
  rw [← hwb] at hg1 ho1
  have e0 := HZB.out
  rw [e0] at ho1
  rw [← hP] at ho1 ⊢
  rw [show P + 1 + 1 = P + 2 from rfl]
  have hs1 : SB w1 P #[.slice A rs.length cap, .string T1, .string T2, .string T3] 27 := SB.own (v := .slice none 0 0) HSB0.out hg1 (by simp [Value.ownBlock])
  have hm1 : SB w1 (P + 1) #[.slice Am n cm] 28 := SB.own (v := .slice none 0 0) HMB0.out hg1 (by simp [Value.ownBlock])
  have hb1 : Below w.heap.size w w1 := HBB.out.grown hg1 (by have := HBB.out.size; omega) (fun k e => by cases e)
  obtain ⟨Q, hQ⟩ : ∃ Q, Q = w1.heap.size := ⟨_, rfl⟩
  have hQP : P + 3 ≤ Q := by
    have h1 := (ho1.lt (P + 2) rfl).2
    omega
  obtain ⟨w0, hw0⟩ : ∃ w0, w0 = (w1.alloc (.cells #[.slice (some ⟨P + 2, 0, none⟩) 0 n] 47)).alloc (.cells #[.int .i64 0] 3) := ⟨_, rfl⟩
  have hb10 : Below w1.heap.size w1 w0 := by rw [hw0]; exact ((Below.refl _ _).alloc (Nat.le_refl _) _).alloc (by simp) _
  have hs0 := hs1.below hb10
  have hm0 := hm1.below hb10
  have hk0 : SB w0 Q #[.slice (some ⟨P + 2, 0, none⟩) 0 n] 47 := by
    rw [hw0, hQ]; exact (SB.made w1 _ _).below ((Below.refl _ _).alloc (Nat.le_refl _) _)
  have hi0 : SB w0 (Q + 1) #[.int .i64 0] 3 := by
    rw [hw0, hQ, show w1.heap.size + 1 = (w1.alloc (.cells #[.slice (some ⟨P + 2, 0, none⟩) 0 n] 47)).heap.size by simp]
    exact SB.made _ _ _
  have ho0 := ownsRow_below ho1 hb10
  have hz0 : w0.heap.size = Q + 2 := by rw [hw0, hQ]; simp
  have hb0 : Below w.heap.size w w0 := hb1.trans (hb10.mono hb1.size)
  have hrd0 := (HR0.out.below hb0).mono hb0.size
  have hna := newAssembly_is w0 A cap rs T2 q r hrd0 HC.out.1 HC.out.2.1 HRV.out HQ.out.2.1 HQ.out.2.2 HQ.out.1.1 HQ.out.1.2
  rw [HT.out.1, HT.out.2.2] at hna
  have HNA := Lib.hid hna; have HB0 := Lib.hid hb0; have HS0 := Lib.hid hs0; have HM0 := Lib.hid hm0; have HK0 := Lib.hid hk0; have HI9 := Lib.hid hi0; have HZ0 := Lib.hid hz0; have HO0 := Lib.hid ho0; have HQP := Lib.hid hQP
  clear hna hb0 hs0 hm0 hk0 hi0 hz0 ho0 hQP hrd0 hb10 hs1 hm1 hb1 ho1 hg1 hml e0 c0 c1 c2 c3
  rw [← hw0]
  refine HNA.out.mono ?_
  rintro _ w3 ⟨XA, rfl, hxl, has, hb3⟩
  go_wp2_with fail
  refine (keys_is _ XA o).mono ?_
  rintro _ w4 ⟨rfl, hw4⟩
  go_wp2_with fail
  rw [← hw4, ← hQ, ← hP]
  have HP := Lib.hid hP; have HQE := Lib.hid hQ
  clear hP hQ hw0 HNA hwb
  obtain ⟨Ba, hBa⟩ : ∃ Ba, Ba = w3.heap.size := ⟨_, rfl⟩
  rw [← hBa]
  have hz4 : w4.heap.size = Ba + 2 := by rw [hw4, hBa]; simp
  have hBP : Q + 2 ≤ Ba := by have := hb3.size; have := HZ0.out; omega
  have hXP : Q + 2 ≤ XA := by have := HZ0.out; omega
  have hb34 : Below w3.heap.size w3 w4 := bel_eq (Below.refl _ _) hw4
  have has4 := has.below hb34
  have hXB : XA < Ba := by
    obtain ⟨v, hv⟩ := Option.isSome_iff_exists.1 (has.th 0 (by decide)).1
    have := World.block_lt_of_cell? _ _ hv
    simp only at this; omega
  have hca : w4.cell? ⟨Ba, 0, none⟩ = some (.pointer (some ⟨XA, 0, none⟩)) := by
    have h1 : SB w4 Ba #[.pointer (some ⟨XA, 0, none⟩)] 92 := by rw [hw4, hBa]; exact block_kept3 (heap_alloc_new' _ _) _
    exact h1.cell 0 _ rfl
  have hsb : SB w4 (Ba + 1) #[.string o] 9 := by
    rw [hw4, show Ba + 1 = (w3.alloc (.cells #[.pointer (some ⟨XA, 0, none⟩)] 92)).heap.size by simp [hBa]]
    exact heap_alloc_new' _ _
  have hx0 : w4.cell? ⟨XA, 0, none⟩ = some (.slice A rs.length cap) := by have h1 := has4.m 0 _ rfl; rw [Nat.zero_add] at h1; exact h1
  have hx1 : w4.cell? ⟨XA, 1, none⟩ = some (.string T1) := by have h1 := has4.m 1 _ rfl; rw [Nat.zero_add] at h1; exact h1
  have hb04 : Below w0.heap.size w0 w4 := hb3.trans (hb34.mono hb3.size)
  have HB4 := Lib.hid (HB0.out.trans (hb04.mono HB0.out.size))
  have hP4 : P ≤ w4.heap.size := by have := HQP.out; omega
  have hrd4 : Rd w4 P A (rotV rs) := by have h1 := HR0.out.below HB4.out; rw [← HP.out] at h1; exact h1
  have hwo := HC.out.2.2.2.2
  have hoz := HC.out.2.2.2.1
  have hQP := HQP.out
  have hK : ∀ k, Prm (keyP q r rs rg o k) := fun k => keyP_prm HQ.out.2.1 HQ.out.1.1 HWI.out k
  have hseq := keys1_seq 2 60 Ba (Ba + 1) XA P (Q + 2) w4 (.slice A rs.length cap) T1 (stepW rs o) (keyP q r rs rg o)
    (fun W => AsmTo W XA [.slice A rs.length cap, .string T1, .string T2, .string T3] q r rs rs.length 0 ∧ Rd W P A (rotV rs) ∧ P ≤ W.heap.size)
    (fun k W => MKeysAt w W P Q w4.heap.size Am cm ms (keyP q r rs rg o) k ∧ cntK ms k < n ∧ k < 60) (mkMu Q)
    (by omega) (by omega) (by omega) (by omega) (by omega) hXP hBP (by omega) hca (by rw [stepW_zero]; exact hsb.cell 0 _ rfl) (hsb.frozen 0) hx0 hx1
    ⟨has4, hrd4, hP4⟩
    (fun A' B h hk => ⟨h.1.keep (hk.block XA (by omega) (.inr hXP) (by omega)), h.2.1.keep (fun j hj => hk.block j (by omega) (.inl hj) (by omega)), Nat.le_trans h.2.2 hk.size⟩)
    (fun W k h => step_at W A cap rs T1 o (WhB.make (h.2.1.mono h.2.2) HC.out.1 HC.out.2.2) k)
    (fun W k h => by
      have h1 := h.1
      rw [← HT.out.2.1] at h1
      have h2 := permAt_is W XA A rs.length cap T1 T3 q r rg (wnd rs o k) rs HC.out.2.1 (by rw [wnd_len]; exact hoz) (wnd_lo hwo k) HRG.out.1 HRG.out.2 HQ.out.2.1 HQ.out.1.1 HWI.out h1
      rw [wnd_pT hwo] at h2
      exact h2)
    (fun k W h => by rw [mkMu_at h.1]; have := h.2.2; omega)
  have hcz : cntK ms 0 = 0 := cntK_zero fun x hx => (HMV.out.2.2.1 x hx).2.2.2.2.1
  have hkz : keysTo (keyP q r rs rg o) ms 0 = [] := by unfold keysTo; rw [hcz]; rfl
  have hE0 : MKeysAt w w4 P Q w4.heap.size Am cm ms (keyP q r rs rg o) 0 :=
    ⟨HI9.out.below hb04, by have h1 := HM0.out.below hb04; rw [HN.out] at h1; exact h1, ⟨some ⟨P + 2, 0, none⟩, n, by rw [hcz]; exact HK0.out.below hb04, by rw [hkz, hcz]; exact ownsRow_below HO0.out hb04, fun j e => .inl (by simpa [Value.ownBlock] using e.symm)⟩, by have h1 := HB4.out; rw [← HP.out] at h1; exact h1⟩
  have HSEQ := Lib.hid hseq; have HE0 := Lib.hid hE0; have HK := Lib.hid hK
  have HFA := Lib.hid (show Q + 2 ≤ Ba ∧ w4.heap.size = Ba + 2 ∧ P + 3 ≤ Q ∧ 1 ≤ n ∧ n ≤ 12 from ⟨hBP, hz4, hQP, hn1, hn12⟩)
  have HCZ := Lib.hid hcz
  obtain ⟨S, hS⟩ : ∃ S, S = stepW rs o := ⟨_, rfl⟩
  obtain ⟨K, hKK⟩ : ∃ K, K = keyP q r rs rg o := ⟨_, rfl⟩
  rw [← hS, ← hKK] at HSEQ
  rw [← hKK] at HE0 HK
  have HSS := Lib.hid (And.intro hS hKK)
  obtain ⟨m, hm⟩ : ∃ m, m = w4.heap.size := ⟨_, rfl⟩
  have HM := Lib.hid hm
  clear hS hKK hseq hE0 hK hBP hXP hXB has4 has hca hsb hx0 hx1 hP4 hrd4 hwo hoz hw4 hxl hb3 hb34 hb04 hz4 hBa hQP hcz hkz hn1 hn12
  refine (wpIn_wide (n := 3)).1 ?_
  refine wpIn_range_natC rfl (by omega) (gf := 84) (lb := #[.pointer (some ⟨Ba, 0, none⟩), .pointer (some ⟨Ba + 1, 0, none⟩)]) rfl trivial (enters_of Tryz.func84 (by kernel_rfl) rfl) (b := Ba + 1) (by rw [HFA.out.2.1]; omega)
    (fun k W => MKeysAt w W P Q w4.heap.size Am cm ms K k ∧ cntK ms k < n ∧ k < 60) (fun c k W => c = .exit 0 ∧ MKeysAt w W P Q w4.heap.size Am cm ms K k ∧ cntK ms k = n) HSEQ.out KP.trans
    (fun W l o' hl => KP.put W l o' hl (by rw [HFA.out.2.1]; omega)) (fun _ => rfl)
    (fun k A' B h hb => ⟨h.1.toC hb HFA.out.2.2.1 (by rw [HFA.out.2.1]; have := HFA.out.1; omega) (by have := HFA.out.1; omega) (by rw [HFA.out.2.1]; omega), h.2⟩)
    (fun c k A' B h hb => ⟨h.1, h.2.1.toC hb HFA.out.2.2.1 (by rw [HFA.out.2.1]; have := HFA.out.1; omega) (by have := HFA.out.1; omega) (by rw [HFA.out.2.1]; omega), h.2.2⟩)
    ⟨HE0.out, by rw [HCZ.out]; have := HFA.out.2.2.2.1; omega, by omega⟩
    (fun k a' W => ∃ Bx, w4.heap.size ≤ Bx ∧ PB W Bx (K (k + 1)) ∧ a' = { tmps := #[.agg #[.slice A rs.length cap, .string T1, .string T2, .string T3], .string o, .slice Am n cm, .pointer (some ⟨P, 0, none⟩), undef, .pointer (some ⟨P + 1, 0, none⟩), .slice none 0 0, .pointer (some ⟨Q, 0, none⟩), .pointer (some ⟨Q + 1, 0, none⟩), undef, .pointer (some ⟨Bx, 0, none⟩), .slice Am n cm, .int .i64 n, .slice (some ⟨P + 2, 0, none⟩) 0 n, .agg #[.slice A rs.length cap, .string T1, .string T2, .string T3], .pointer (some ⟨XA, 0, none⟩), .string o, .func (.func 84) #[] #[.pointer (some ⟨Ba, 0, none⟩), .pointer (some ⟨Ba + 1, 0, none⟩)], .string (S (k + 1)), .agg (pC (K (k + 1))), undef, undef, undef, undef, undef, undef, undef, undef, undef, undef, undef, undef, undef, undef, undef, undef, undef, undef, undef, undef], defers := [] })
    (fun k a' W j o o' h hj hc => by
      obtain ⟨Bx, h1, h2, h3⟩ := h
      refine ⟨Bx, h1, (World.putObj_heap_other ?_).trans h2, h3⟩
      intro e; subst e
      have h4 := h2.symm.trans hj
      injection h4 with h4
      rw [← h4] at hc
      exact absurd hc (by simp [Obj.isCells]))
    ?assign ?body ?stop
  case assign =>
    intro l k W K' hI hlt hK'
    have HI := Lib.hid hI; have HKK := Lib.hid hK'; have HLT := Lib.hid hlt
    clear hI hK' hlt
    have hpm := PB.made W
    have HPM := Lib.hid hpm; clear hpm
    have hql : (K (k + 1)).length = 10 := (HK.out (k + 1)).len
    have HQL := Lib.hid hql; clear hql
    refine region_list_round (by kernel_rfl) (fun _ _ h => h) ?_
    go_wp2_with (first | (refine wpList_store_row rfl 52 _ _ rfl W.heap.size (pC (K (k + 1))) rfl rfl _ _ HPM.out (permSize HQL.out) (by rw [pC_size, pC_size, HQL.out]; rfl) (pC_one _) ?_))
    have hb' : Below W.heap.size W ((W.alloc (.cells #[.int .u8 0, .int .u8 0, .int .u8 0, .int .u8 0, .int .u8 0, .int .u8 0, .int .u8 0, .int .u8 0, .int .u8 0, .int .u8 0] 52)).setRow W.heap.size (pC (K (k + 1)))) := below_setRow ((Below.refl _ _).alloc (Nat.le_refl _) _) (Nat.le_refl _) _
    exact HKK.out _ _ (keeps_below hb') (KP.of_below hb' (Nat.le_of_lt HLT.out) (by rw [HFA.out.2.1]; omega)) ⟨HI.out.1.toC (ButC.of_but (lo := w4.heap.size) (But.of_below (b := Ba + 1) hb') (Nat.le_of_lt HLT.out)) HFA.out.2.2.1 (by rw [HFA.out.2.1]; have := HFA.out.1; omega) (by have := HFA.out.1; omega) (by rw [HFA.out.2.1]; omega), HI.out.2⟩ ⟨W.heap.size, Nat.le_of_lt HLT.out, HPM.out.row _, rfl⟩
  case body =>
    rintro l k a' W hI ⟨Bx, hBx, hPB, rfl⟩ hlt
    have HI := Lib.hid hI; have HBX := Lib.hid hBx; have HLT := Lib.hid hlt; have HPB := Lib.hid hPB
    obtain ⟨Ak, ck, hsk, hok, hjk⟩ := hI.1.row
    have hcn := hI.2.1
    have hk60 := hI.2.2
    obtain ⟨c, hc⟩ : ∃ c, c = cntK ms k := ⟨_, rfl⟩
    rw [← hc] at hsk hok hjk hcn
    have HCC := Lib.hid hc
    have hnc := hI.1.num
    have hmc := hI.1.men
    rw [← HN.out] at hmc
    have HNC := Lib.hid hnc; have HMC2 := Lib.hid hmc
    have hnl : W.cell? ⟨Q + 1, 0, none⟩ = some (.int .i64 (k : Int)) := hnc.cell 0 _ rfl
    have hnf := hnc.frozen 0
    have hkc : W.cell? ⟨Q, 0, none⟩ = some (.slice Ak c ck) := hsk.cell 0 _ rfl
    have hmcl : W.cell? ⟨P + 1, 0, none⟩ = some (.slice Am n cm) := hmc.cell 0 _ rfl
    have hql : (K (k + 1)).length = 10 := (HK.out (k + 1)).len
    have HQL := Lib.hid hql; have HOK := Lib.hid hok; have HSK := Lib.hid hsk; have HJK := Lib.hid hjk
    have hbel := HI.out.1.bel
    have hcl : c < ms.length := by rw [← HN.out]; exact hcn
    have hrd : Rd W w.heap.size Am (linkV ms) := HMR.out.below (by rw [← HP.out]; exact hbel)
    obtain ⟨mb, mo, hmA, hmlt, hmx, hmy, hmk⟩ := hrd.link hcl
    clear hmx hmy
    obtain ⟨key, hkey⟩ : ∃ key, key = ms[c].2.2 := ⟨_, rfl⟩
    rw [← hkey] at hmk
    have HKEY := Lib.hid (show ∀ h : cntK ms k < ms.length, (ms[cntK ms k]).2.2 = key from fun h => by subst hc; exact hkey.symm)
    have hkgt : k < key := by subst hc; rw [hkey]; exact cntK_gt ms k hcl
    have hk60' : key ≤ 60 := by rw [hkey]; exact (HMV.out.2.2.1 _ (List.getElem_mem hcl)).2.2.2.2.2
    subst hmA
    have hz1 : mb < W.heap.size := World.block_lt_of_cell? _ _ hmk
    have HCL := Lib.hid hcl
    clear hI hBx hlt hPB hok hsk hjk hql hnc hmc hbel hcl hrd hkey hc
    obtain ⟨w6, hw6⟩ : ∃ w6, w6 = (W.setCell ⟨Q + 1, 0, none⟩ (.int .i64 ((k : Int) + 1))).drew := ⟨_, rfl⟩
    have hPm : Q + 1 < w4.heap.size := by rw [HFA.out.2.1]; have := HFA.out.1; omega
    have hm2 : w4.heap.size ≤ W.heap.size := Nat.le_of_lt HLT.out
    have hPQ := HFA.out.2.2.1
    have hjx : ∀ x, x ≤ Q + 1 → x ≠ P + 2 → (Value.slice Ak c ck).ownBlock ≠ some x := fun x h1 h2 e => by rcases HJK.out x e with h | h <;> omega
    have hs6 : SB w6 Q #[.slice Ak c ck] 47 := by rw [hw6]; exact (HSK.out.far (by omega) _ _).below (Below.refl _ _).drew
    have hn6 : SB w6 (Q + 1) #[.int .i64 ((k : Int) + 1)] 3 := by rw [hw6]; exact (HNC.out.put 0 _).below (Below.refl _ _).drew
    have hm6 : SB w6 (P + 1) #[.slice (some ⟨mb, mo, none⟩) n cm] 28 := by rw [hw6]; exact (HMC2.out.far (by omega) _ _).below (Below.refl _ _).drew
    have ho6 : w6.ownsRow (P + 2) 52 10 (.slice Ak c ck) c (pF (keysTo K ms k)) := by rw [hw6]; exact ownsRow_below (own_setn HOK.out (.inr (hjx (Q + 1) (by omega) (by omega))) 0 _) (Below.refl _ _).drew
    have hpb6 : PB w6 Bx (K (k + 1)) := by
      have hne : Bx ≠ Q + 1 := by have := HBX.out; omega
      have h1 : (W.setCell ⟨Q + 1, 0, none⟩ (.int .i64 ((k : Int) + 1))).heap[Bx]? = W.heap[Bx]? := Below.heap_setCell W ⟨Q + 1, 0, none⟩ _ Bx (by intro e; exact hne e)
      rw [hw6]; exact (show PB (W.setCell ⟨Q + 1, 0, none⟩ (.int .i64 ((k : Int) + 1))) Bx (K (k + 1)) from h1.trans HPB.out)
    have hk6 : KeepsOthers W w6 := by rw [hw6]; exact (KeepsOthers.setCell _ _ _).trans (keeps_below (Below.refl _ _).drew)
    have hsz6 : w6.heap.size = W.heap.size := by rw [hw6]; simp
    have hp6 : KP P (Q + 2) w4.heap.size (Ba + 1) W w6 := by
      rw [hw6]
      exact (KP.own _ _ (by omega) (by omega) (by have := HFA.out.1; omega)).trans (KP.of_below (Below.refl _ _).drew (by simpa using hm2) (by rw [HFA.out.2.1]; omega))
    have hb6 : Below P w w6 := by rw [hw6]; exact (HI.out.1.bel.setCell (p := ⟨Q + 1, 0, none⟩) (by simp only; omega) _).drew
    have hmk6 : w6.cell? ⟨mb, mo + c * 3 + 2, none⟩ = some (.int .i64 key) := by
      have hlt : mb < w.heap.size := hmlt
      rw [← HP.out] at hlt
      rw [hw6]
      exact (show (W.setCell ⟨Q + 1, 0, none⟩ (.int .i64 ((k : Int) + 1))).cell? ⟨mb, mo + c * 3 + 2, none⟩ = _ from (World.cell?_of_block (w := W) (a := ⟨mb, mo + c * 3 + 2, none⟩) (Below.heap_setCell W ⟨Q + 1, 0, none⟩ _ mb (by intro e; simp only at e; omega))).trans hmk)
    have kc6 : w6.cell? ⟨Q, 0, none⟩ = some (.slice Ak c ck) := hs6.cell 0 _ rfl
    have kf6 := hs6.frozen 0
    have kn6 : w6.cell? ⟨Q + 1, 0, none⟩ = some (.int .i64 ((k : Int) + 1)) := hn6.cell 0 _ rfl
    have km6 : w6.cell? ⟨P + 1, 0, none⟩ = some (.slice (some ⟨mb, mo, none⟩) n cm) := hm6.cell 0 _ rfl
    have HS6 := Lib.hid hs6; have HN6 := Lib.hid hn6; have HM6 := Lib.hid hm6; have HO6 := Lib.hid ho6; have HPB6 := Lib.hid hpb6; have HK6 := Lib.hid (And.intro hk6 hp6); have HB6 := Lib.hid hb6; have HSZ6 := Lib.hid hsz6
    have v1 : IntKind.i64.wrap ((k : Int) + 1) = (k : Int) + 1 := by rw [IntKind.wrap_i64]; omega
    have v2 : wrap64 ((k : Int) + 1) = (k : Int) + 1 := by unfold wrap64; omega
    have v3 : (c : Int) < (n : Int) := by omega
    have hjq : (Value.slice Ak c ck).ownBlock ≠ some Q := hjx Q (by omega) (by omega)
    have hjn : (Value.slice Ak c ck).ownBlock ≠ some (Q + 1) := hjx (Q + 1) (by omega) (by omega)
    have hjm : (Value.slice Ak c ck).ownBlock ≠ some (P + 1) := hjx (P + 1) (by omega) (by omega)
    have HJ := Lib.hid (And.intro hjq (And.intro hjn hjm))
    have HW6 := Lib.hid hw6
    clear hs6 hn6 hm6 ho6 hpb6 hk6 hp6 hb6 hsz6 hw6 hmk hkc hjx hmcl hjq hjn hjm hPm hm2 hPQ hmlt hz1
    refine wpIn_block ?_
    refine wpIn_seq ?_
    refine region_list_round (by kernel_rfl) (fun _ _ h => h) ?_
    go_wp2_with fail
    refine wpIn_seq ?_
    refine still_tail_round 7 (by kernel_rfl) (by kernel_rfl) (fun _ _ h => h) (by kernel_rfl) ?_
    simp only [List.take_succ_cons, List.take_zero, List.drop_succ_cons, List.drop_zero]
    rw [← HW6.out]
    clear hnl hnf
    repeat still_step
    refine wpStill_nil ?_
    go_wp2_with fail
    by_cases hkk : key = k + 1
    case neg =>
      have v5 : (((k : Int) + 1) == (key : Int)) = false := by rw [beq_eq_false_iff_ne]; omega
      have hcm : cntK ms (k + 1) = c := by
        have h1 := cntK_miss ms k (by rw [← HCC.out]; exact HCL.out) (by rw [HKEY.out]; exact hkk)
        rw [h1, ← HCC.out]
      have hkm : keysTo K ms (k + 1) = keysTo K ms k := keysTo_miss (by rw [← HCC.out]; exact HCL.out) (by rw [HKEY.out]; exact hkk)
      have HEND := Lib.hid (show MKeysAt w w6 P Q w4.heap.size (some ⟨mb, mo, none⟩) cm ms K (k + 1) ∧ cntK ms (k + 1) < n ∧ k + 1 < 60 from
        ⟨⟨HN6.out, by rw [← HN.out]; exact HM6.out, ⟨Ak, ck, by rw [hcm]; exact HS6.out, by rw [hcm, hkm]; exact HO6.out, by rw [hcm]; exact HJK.out⟩, HB6.out⟩, by rw [hcm]; omega, by omega⟩)
      clear hcm hkm hkk hkgt hk60'
      gi_wp2_with fail
      exact ⟨HK6.out.1, HK6.out.2, HEND.out⟩
    have v5 : (((k : Int) + 1) == (key : Int)) = true := by rw [beq_iff_eq]; omega
    have hcm : cntK ms (k + 1) = c + 1 := by
      have h1 := cntK_hit ms k HMV.out.2.2.2 (by rw [← HCC.out]; exact HCL.out) (by rw [HKEY.out]; exact hkk)
      rw [h1, ← HCC.out]
    have hkm : keysTo K ms (k + 1) = keysTo K ms k ++ [K (k + 1)] := keysTo_hit HMV.out.2.2.2 (by rw [← HCC.out]; exact HCL.out) (by rw [HKEY.out]; exact hkk)
    have HCM := Lib.hid hcm; have HKM := Lib.hid hkm
    have hq10 := HQL.out
    have hpv := pV_ten hq10
    have hps := permSize hq10
    rw [pC_ten hq10] at hps
    have hpb := HPB6.out
    unfold PB at hpb
    rw [pC_ten hq10] at hpb
    have hpe : pF (keysTo K ms k) ++ pV (K (k + 1)) = pF (keysTo K ms (k + 1)) := by rw [hkm, pF_snoc]
    rw [hpv] at hpe
    have HPS := Lib.hid hps; have HPT := Lib.hid hpb; have HPE := Lib.hid hpe
    have hk59 : k + 1 ≤ 60 := by omega
    have hc12 : c < 12 := by have := HFA.out; omega
    have hbz : P + 2 ≤ w6.heap.size := by
      have h1 := HFA.out; have h2 : w4.heap.size ≤ w6.heap.size := by rw [HSZ6.out]; exact Nat.le_of_lt HLT.out
      omega
    clear hps hpb hpe hpv hq10 hcm hkm hkk hkgt hk60' hmk6 km6 HPB6
    rw [pC_ten HQL.out]
    generalize nth (K (k + 1)) 0 = a0 at *
    generalize nth (K (k + 1)) 1 = a1 at *
    generalize nth (K (k + 1)) 2 = a2 at *
    generalize nth (K (k + 1)) 3 = a3 at *
    generalize nth (K (k + 1)) 4 = a4 at *
    generalize nth (K (k + 1)) 5 = a5 at *
    generalize nth (K (k + 1)) 6 = a6 at *
    generalize nth (K (k + 1)) 7 = a7 at *
    generalize nth (K (k + 1)) 8 = a8 at *
    generalize nth (K (k + 1)) 9 = a9 at *
    refine wpIn_cond_true (by rw [v5]; rfl) ?_
    refine wpIn_seq ?_
    refine region_list_round (by kernel_rfl) (fun _ _ h => h) ?_
    go_wp2_with (first | (refine wpList_load_row rfl 52 _ rfl Bx rfl _ _ _ _ HPT.out Tryz.underlying52 rfl HPS.out ?_) | (at_builtin; refine wpList_append_own_at _ rfl _ _ 47 rfl (P + 2) 52 iM _ 10 10 Tryz.undPm HI0.out HZ1.out HZ2.out HZ3.out rfl (by decide) _ c _ rfl (HO6.out.alloc _) ⟨w6.heap.size, 0, none⟩ 1 1 [.int .u8 (a0 : Int), .int .u8 (a1 : Int), .int .u8 (a2 : Int), .int .u8 (a3 : Int), .int .u8 (a4 : Int), .int .u8 (a5 : Int), .int .u8 (a6 : Int), .int .u8 (a7 : Int), .int .u8 (a8 : Int), .int .u8 (a9 : Int)] rfl rfl (World.news_of_block (fr := (0, 0)) (heap_alloc_new w6 _)) ten_one (by unfold maxLen; omega) (by omega) (by simp; omega) ?_))
    intro v' w7 ho' hg' _ hblk
    rw [HPE.out] at ho'
    obtain ⟨O9, hO9⟩ : ∃ O9 : Obj, O9 = .cells #[.int .u8 (a0 : Int), .int .u8 (a1 : Int), .int .u8 (a2 : Int), .int .u8 (a3 : Int), .int .u8 (a4 : Int), .int .u8 (a5 : Int), .int .u8 (a6 : Int), .int .u8 (a7 : Int), .int .u8 (a8 : Int), .int .u8 (a9 : Int)] 52 := ⟨_, rfl⟩
    rw [← hO9] at hg'
    have hm2 : w4.heap.size ≤ w6.heap.size := by rw [HSZ6.out]; exact Nat.le_of_lt HLT.out
    have hbA : Below w6.heap.size w6 (w6.alloc O9) := (Below.refl _ _).alloc (Nat.le_refl _) _
    have hoA := HO6.out.alloc O9
    have hsA := SB.below HS6.out hbA
    have hnA := SB.below HN6.out hbA
    have hmA := SB.below HM6.out hbA
    have hs7 : SB w7 Q #[.slice Ak c ck] 47 := SB.own hsA hg' HJ.out.1
    have hn7 : SB w7 (Q + 1) #[.int .i64 ((k : Int) + 1)] 3 := SB.own hnA hg' HJ.out.2.1
    have hm7 : SB w7 (P + 1) #[.slice (some ⟨mb, mo, none⟩) n cm] 28 := SB.own hmA hg' HJ.out.2.2
    have kc7 : w7.cell? ⟨Q, 0, none⟩ = some (.slice Ak c ck) := hs7.cell 0 _ rfl
    have kf7 := hs7.frozen 0
    have hk1 : KeepsOthers W w7 := HK6.out.1.trans ((keeps_below hbA).trans (keeps_grown hoA hg'))
    have hr1 : ∀ j, (Value.slice Ak c ck).ownBlock = some j → (P ≤ j ∧ j < Q + 2) ∨ w4.heap.size ≤ j := fun j e => by
      rcases HJK.out j e with h | h
      · exact .inl (by have := HFA.out.2.2.1; omega)
      · exact .inr h
    have hkp : KP P (Q + 2) w4.heap.size (Ba + 1) W w7 := HK6.out.2.trans ((KP.of_below hbA hm2 (by rw [HFA.out.2.1]; omega)).trans (kp_grown2 hg' hr1 (Nat.le_trans hm2 hbA.size) (by rw [HFA.out.2.1]; omega) (.inr (by have := HFA.out.1; omega))))
    have hPw : P ≤ w6.heap.size := by have := HFA.out; omega
    have hbl : Below P w w7 := by
      have h1 := HB6.out.trans (hbA.mono hPw)
      exact h1.grown hg' (by have := hbA.size; omega) fun j e => by
        have h9 := HFA.out
        rcases hr1 j e with h | h <;> omega
    obtain ⟨A6, c6, e6⟩ := slot_slice ho'
    subst e6
    have hj6 : ∀ x, (Value.slice A6 (c + 1) c6).ownBlock = some x → x = P + 2 ∨ w4.heap.size ≤ x := fun x e => by
      rcases hblk with h | h
      · rw [h] at e; exact HJK.out x e
      · rw [h] at e
        have e2 : x = w6.heap.size + 1 := by simpa using e.symm
        exact .inr (by omega)
    have hjx6 : ∀ x, x ≤ Q + 1 → x ≠ P + 2 → (Value.slice A6 (c + 1) c6).ownBlock ≠ some x := fun x h1 h2 e => by
      have h3 := HFA.out
      rcases hj6 x e with h | h <;> omega
    obtain ⟨w8, hw8⟩ : ∃ w8, w8 = w7.setCell ⟨Q, 0, none⟩ (.slice A6 (c + 1) c6) := ⟨_, rfl⟩
    have hQP := HFA.out.2.2.1
    have hk8 : KeepsOthers W w8 := by rw [hw8]; exact hk1.trans (KeepsOthers.setCell _ _ _)
    have hp8 : KP P (Q + 2) w4.heap.size (Ba + 1) W w8 := by rw [hw8]; exact hkp.trans (KP.own _ _ (by omega) (by omega) (by have := HFA.out.1; omega))
    have hs8 : SB w8 Q #[.slice A6 (c + 1) c6] 47 := by rw [hw8]; exact hs7.put 0 _
    have hn8 : SB w8 (Q + 1) #[.int .i64 ((k : Int) + 1)] 3 := by rw [hw8]; exact hn7.far (by omega) _ _
    have hm8 : SB w8 (P + 1) #[.slice (some ⟨mb, mo, none⟩) n cm] 28 := by rw [hw8]; exact hm7.far (by omega) _ _
    have ho8 : w8.ownsRow (P + 2) 52 10 (.slice A6 (c + 1) c6) (c + 1) (pF (keysTo K ms (k + 1))) := by rw [hw8]; exact own_setn ho' (.inr (hjx6 Q (by omega) (by omega))) 0 _
    have hb8 : Below P w w8 := by rw [hw8]; exact hbl.setCell (p := ⟨Q, 0, none⟩) (by simp only; omega) _
    have H8 := Lib.hid (show MKeysAt w w8 P Q w4.heap.size (some ⟨mb, mo, none⟩) cm ms K (k + 1) from ⟨by have h1 := hn8; simpa using h1, by rw [← HN.out]; exact hm8, ⟨A6, c6, by rw [HCM.out]; exact hs8, by rw [HCM.out]; exact ho8, by rw [HCM.out]; exact hj6⟩, hb8⟩)
    have HK8 := Lib.hid (And.intro hk8 hp8)
    have sc8 : w8.cell? ⟨Q, 0, none⟩ = some (.slice A6 (c + 1) c6) := hs8.cell 0 _ rfl
    have sm8 : w8.cell? ⟨P + 1, 0, none⟩ = some (.slice (some ⟨mb, mo, none⟩) n cm) := hm8.cell 0 _ rfl
    have HW8 := Lib.hid hw8
    clear hg' ho' hbA hoA hsA hnA hmA hs7 hn7 hm7 hk1 hr1 hkp hbl hk8 hp8 hs8 hn8 hm8 ho8 hb8 hj6 hjx6 hblk hO9 hw8 kc6 kf6 kn6 hQP hPw hm2
    go_wp2_with fail
    rw [← HW8.out]
    clear kc7 kf7
    by_cases hend : c + 1 = n
    · have v6 : (((c : Int) + 1) == (n : Int)) = true := by rw [beq_iff_eq]; omega
      have v7 : (((c + 1 : Nat) : Int) == (n : Int)) = true := by rw [beq_iff_eq]; omega
      have HEND := Lib.hid hend
      clear hend v5 hcn v3
      gi_wp2_with fail
      exact ⟨HK8.out.1, rfl, H8.out, by rw [HCM.out]; exact HEND.out⟩
    · have v6 : (((c : Int) + 1) == (n : Int)) = false := by rw [beq_eq_false_iff_ne]; omega
      have v7 : (((c + 1 : Nat) : Int) == (n : Int)) = false := by rw [beq_eq_false_iff_ne]; omega
      have HEND := Lib.hid (show c + 1 < n ∧ k + 1 < 60 from ⟨by omega, by
        have h1 := cntK_gt ms (k + 1) (by rw [HCM.out, ← HN.out]; omega)
        have h2 := (HMV.out.2.2.1 _ (List.getElem_mem (l := ms) (n := cntK ms (k + 1)) (by rw [HCM.out, ← HN.out]; omega))).2.2.2.2.2
        omega⟩)
      clear hend v5 hcn v3
      gi_wp2_with fail
      exact ⟨HK8.out.1, HK8.out.2, H8.out, by rw [HCM.out]; exact HEND.out.1, HEND.out.2⟩
  case stop =>
    rintro D' _ k W ⟨rfl, hE, hcn⟩ hD hK0
    obtain ⟨Ak, ck, hsk, hok, hjk⟩ := hE.row
    rw [hcn] at hsk hok hjk
    have hkc : W.cell? ⟨Q, 0, none⟩ = some (.slice Ak n ck) := hsk.cell 0 _ rfl
    have hka : keysTo K ms k = keysL K ms := keysTo_all (by rw [hcn]; exact HN.out)
    rw [hka] at hok
    have HOK := Lib.hid hok; have HE := Lib.hid hE; have HDD := Lib.hid hK0; have HD := Lib.hid hD
    clear hE hD hK0 hsk hok hjk hka hcn
    refine wpIn_wide.2 ?_
    go_wp2_with fail
    refine ⟨by simp, .inl ⟨_, _, rfl, run_takeDeferred (show W.heap[D']? = some (.deferred (some [])) from HDD.out), ?_⟩⟩
    refine ⟨.slice Ak n ck, by simp [results, Tryz.results20, go_sem], Ak, ck, rfl, ?_, ?_⟩
    · have h1 := HOK.out
      rw [HSS.out.2] at h1
      exact own_mono3 (own_putD h1 HDD.out rfl _) (by rw [HP.out]; omega)
    · have h1 := HE.out.bel
      rw [HP.out] at h1
      exact bel_put h1 (by have h2 := HD.out; have h3 := HB4.out.size; omega) _
end Go.Proofs.YtnbdimbhklbadaaGreatDoor
