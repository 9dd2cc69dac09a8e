/-
  Contracts of undoing an order of places, and of the places of columns, of the program and of the reference. Conditions: what each theorem names.
-/
import Derived.Test.YteeeaeidocalnaaGreatDoorTrans2
import Derived.Test.YteeeaeidocalnaaGreatDoorKey
namespace Go.Proofs.YteeeaeidocalnaaGreatDoor
open Go.RowKit Pl
set_option linter.unusedVariables false

/-- what of an order has been undone -/
def UndoneTo (p u : List Nat) (k : Nat) : Prop := u.length = p.length ∧ ∀ j (h : j < p.length), j < k → u[p[j]]? = some j
theorem undone_put {p u : List Nat} {k : Nat} (h : UndoneTo p u k) (hp : Places p) (hk : k < p.length) : UndoneTo p (u.set p[k] k) (k + 1) := by
  refine ⟨by rw [List.length_set]; exact h.1, fun j hj hjk => ?_⟩
  rw [List.getElem?_set]
  by_cases e : p[k] = p[j]
  · have hkj : k = j := by
      have h1 := List.pairwise_iff_getElem.1 hp.nodup
      rcases Nat.lt_trichotomy k j with hlt | heq | hgt
      · exact absurd e (h1 k j hk hj hlt)
      · exact heq
      · exact absurd e.symm (h1 j k hj hk hgt)
    subst hkj
    have := hp.lt (List.getElem_mem hk)
    rw [if_pos rfl, if_pos (by rw [h.1]; exact this)]
  · rw [if_neg e]
    exact h.2 j hj (by rcases Nat.lt_or_ge j k with h2 | h2; exact h2; exact absurd (by congr 1; omega : p[k] = p[j]) e)

set_option maxHeartbeats 4000000 in
set_option maxRecDepth 100000 in
theorem undoPlaces_ok (w : World) (A : Option Addr) (cap : Nat) (p : List Nat) (h : Rd w w.heap.size A (natV p)) (hc : p.length ≤ cap) (hp : Places p) (hl : p.length ≤ 200) :
    Calls Tryz.prog 157 #[.slice A p.length cap] w fun e w' => ∃ (v : Value) (u : List Nat), e = .returned (.tuple #[v, .bool true]) ∧ Undoes p u ∧ w'.ownsRow w.heap.size 3 1 v u.length (natV u) ∧ Below w.heap.size w w' := by
  obtain ⟨iI, hi, hz0, hz1, hz2⟩ := info_parts Tryz.infoI
  have HR := Lib.hid h; have HP := Lib.hid hp; clear h hp
  have HI := Lib.hid hi; have HZ0 := Lib.hid hz0; have HZ1 := Lib.hid hz1; have HZ2 := Lib.hid hz2
  clear hi hz0 hz1 hz2
  go_enter Tryz.func157, Tryz.ntmps157
  go_wp2_with fail
  refine (placesValid_true _ A cap p HR.out hc HP.out hl).mono ?_
  rintro _ w1 ⟨rfl, hb1⟩
  have HB1 := Lib.hid hb1; clear hb1
  go_wp2_with (at_make; refine wpList_make_full _ rfl _ _ 43 rfl w1.heap.size 3 iI (.int .i64 0) 1 Tryz.underlying43 HI.out HZ0.out HZ1.out .i64 .i64 _ _ p.length rfl rfl rfl rfl (by rw [HZ2.out]; omega) (by unfold maxLen; omega) (Nat.le_refl _) ?_; intro w2 ho2 hg2)
  rw [made_ints] at ho2
  have hb2 : Below w.heap.size w w2 := HB1.out.trans (Below.grown (Below.refl _ _) hg2 HB1.out.size (by simp))
  obtain ⟨G, hG⟩ : ∃ G, G = w1.heap.size := ⟨_, rfl⟩
  rw [← hG] at ho2 ⊢
  have HG := Lib.hid hG; clear hG
  have HO2 := Lib.hid ho2; have HB2 := Lib.hid hb2; clear ho2 hb2 hg2
  go_wp2_with fail
  go_loopw [15] (fun i wr => ∃ (k : Nat) (u : List Nat), k ≤ p.length ∧ i = .int .i64 k ∧ UndoneTo p u k ∧ wr.ownsRow G 3 1 (.slice (some ⟨G, 0, none⟩) p.length p.length) p.length (natV u) ∧ Below w.heap.size w wr) (fun i _ => p.length - (intOf i).toNat)
  case atStart => exact ⟨0, List.replicate p.length 0, Nat.zero_le _, rfl, ⟨by simp, fun j _ hj => by omega⟩, HO2.out, HB2.out⟩
  case round =>
    obtain ⟨k, u, hk, rfl, hun, hown, hbl⟩ := hrel
    have HU := Lib.hid hun; have HO := Lib.hid hown; have HBL := Lib.hid hbl; clear hun hown hbl HO2 HB2
    by_cases hlt : k < p.length
    · obtain ⟨b, off, rfl, hbb, c0⟩ := (HR.out.below HBL.out).nat hlt
      have hpl := HP.out.lt (List.getElem_mem hlt)
      have hun2 := undone_put HU.out HP.out hlt
      generalize p[k] = t at c0 hpl hun2
      have f0 := HO.out.frozenAt t
      have hst := (HO.out.stored t (.int .i64 (k : Int))).1
      rw [natV_set] at hst
      obtain ⟨x1, c1⟩ : ∃ x, wr.cell? ⟨G, t, none⟩ = some x := ⟨_, by rw [HO.out.cellAt t (by omega), List.getElem?_eq_getElem (by rw [length_natV, HU.out.1]; exact hpl)]⟩
      have HST := Lib.hid hst; have HU2 := Lib.hid hun2; clear hst hun2
      go_wp2_with fail
      go_roundw
      case rel => exact ⟨k + 1, u.set t k, by omega, by go_num, HU2.out, HST.out, HBL.out.setCell (by rw [HG.out]; exact HB1.out.size) _⟩
      case measure => simp [intOf]; omega
    · have hu : Undoes p u := ⟨HU.out.1, fun j hj => HU.out.2 j hj (by omega)⟩
      have hul := hu.1
      have HUU := Lib.hid hu; have HUL := Lib.hid hul; clear hu hul
      go_wp2_with fail
      go_ret2
      refine ⟨_, u, rfl, HUU.out, ?_, HBL.out⟩
      rw [HUL.out]
      exact own_mono3 HO.out (by rw [HG.out]; exact HB1.out.size)

/-- a column's first places -/
theorem colP_split {c n m : Nat} (hm : 0 < m) (hc : c < m) (k : Nat) : (∀ j, j < k → c + j * m < n) → ¬ c + k * m < n → (List.range k).map (fun j => c + j * m) = colP c n m := by
  intro h1 h2
  unfold colP
  have hk : (n + (m - 1) - c) / m = k := by
    rw [Nat.div_eq_iff hm]
    cases k with
    | zero => omega
    | succ k =>
      have := h1 k (by omega)
      rw [Nat.succ_mul] at *
      omega
  rw [hk]
theorem col_snoc (c m k : Nat) : (List.range k).map (fun j => c + j * m) ++ [c + k * m] = (List.range (k + 1)).map (fun j => c + j * m) := by rw [List.range_succ, List.map_append]; rfl

set_option maxHeartbeats 4000000 in
set_option maxRecDepth 100000 in
theorem sKeyOrder_any (w : World) (s : ByteArray) (hv : keyV (tl s) = true) :
    Calls Tryz.prog 54 #[.string s] w (Nums (kord (tl s)) w) := by
  obtain ⟨iI, hi, hz0, hz1, hz2⟩ := info_parts Tryz.infoI
  have HI := Lib.hid hi; have HZ0 := Lib.hid hz0; have HZ1 := Lib.hid hz1; have HZ2 := Lib.hid hz2
  clear hi hz0 hz1 hz2
  obtain ⟨hw, h1, h2⟩ := keyV_iff.1 hv
  rw [length_tl] at h1 h2
  have hf : ∀ x i, (((List.range i).filter fun i => kd (tl s) i == x)).length ≤ i := fun x i => by have := List.length_filter_le (fun i => kd (tl s) i == x) (List.range i); simpa using this
  have hfl : ∀ x, ((List.range x).flatMap fun x => (List.range s.size).filter fun i => kd (tl s) i == x).length ≤ x * 12 := by
    intro x
    induction x with
    | zero => simp
    | succ x ih =>
      rw [List.range_succ, List.flatMap_append, List.length_append]
      have := hf x s.size
      simp only [List.flatMap_cons, List.flatMap_nil, List.append_nil]
      omega
  have HF := Lib.hid hf; have HFL := Lib.hid hfl; have HV := Lib.hid hv; have HW := Lib.hid hw; clear hf hfl hv hw
  have OWN := Lib.hid (World.ownsRow_made (base := w.heap.size) (e := 3) (size := 1) w #[] 0 (Nat.le_refl _) (by decide) rfl)
  have HB0 := Lib.hid ((Below.refl w.heap.size w).alloc (Nat.le_refl _) (.cells #[] 3))
  obtain ⟨K, hK⟩ : ∃ K : Nat → List Nat, K = fun x => (List.range x).flatMap fun x => (List.range s.size).filter fun i => kd (tl s) i == x := ⟨_, rfl⟩
  have hKl : ∀ x, (K x).length ≤ x * 12 := by rw [hK]; exact HFL.out
  have hK0 : K 0 = [] := by rw [hK]; rfl
  have hKs : ∀ x, K x ++ (List.range s.size).filter (fun i => kd (tl s) i == x) = K (x + 1) := fun x => by rw [hK]; simp [List.range_succ]
  have hKe : K 10 = kord (tl s) := by rw [hK]; unfold kord; rw [length_tl]
  have HKL := Lib.hid hKl; have HK0 := Lib.hid hK0; have HKS := Lib.hid hKs; have HKE := Lib.hid hKe; clear hKl hK0 hKs hKe hK
  go_enter Tryz.func54, Tryz.ntmps54
  go_wp2_with fail
  go_loopw [3, 4] (fun o i wr => ∃ x : Nat, x ≤ 10 ∧ i = .int .i64 x ∧ wr.ownsRow w.heap.size 3 1 o (K x).length (natV (K x)) ∧ Below w.heap.size w wr) (fun _ i _ => 10 - (intOf i).toNat)
  case atStart => exact ⟨0, by omega, rfl, by rw [HK0.out]; exact OWN.out, HB0.out⟩
  case round =>
    obtain ⟨x, hx, rfl, hown, hbl⟩ := hrel
    have HO := Lib.hid hown; have HBL := Lib.hid hbl; clear hown hbl OWN HB0
    by_cases hlt : x < 10
    · go_wp2_with fail
      refine (l17Key_is _ true _ HV.out).mono ?_
      rintro _ _ ⟨rfl, rfl⟩
      go_wp2_with fail
      have HKLx := Lib.hid (HKL.out x)
      have hL0 : K x = K x ++ (List.range 0).filter fun i => kd (tl s) i == x := by rw [List.range_zero, List.filter_nil, List.append_nil]
      have HL0 := Lib.hid hL0; clear hL0
      go_loopw [3, 5] (fun o i wi => ∃ (j : Nat) (L : List Nat), j ≤ s.size ∧ i = .int .i64 j ∧ Hid (L = K x ++ (List.range j).filter fun i => kd (tl s) i == x) ∧ wi.ownsRow w.heap.size 3 1 o L.length (natV L) ∧ Below w.heap.size w wi) (fun _ i _ => s.size - (intOf i).toNat)
      case atStart => exact ⟨0, K x, by omega, rfl, HL0, HO.out, HBL.out⟩
      case round =>
        obtain ⟨j, L, hj, rfl, HL, hown2, hbl2⟩ := hrel
        have HO2 := Lib.hid hown2; have HBL2 := Lib.hid hbl2; clear hown2 hbl2 HO HL0 HBL
        obtain ⟨A3, c3, e3⟩ := slot_slice HO2.out
        subst e3
        by_cases hjl : j < s.size
        · have hrs : ∀ b : Bool, (kd (tl s) j == x) = b → (List.range (j + 1)).filter (fun i => kd (tl s) i == x) = (List.range j).filter (fun i => kd (tl s) i == x) ++ (if b then [j] else []) := fun b hb => by
            rw [List.range_succ, List.filter_append, List.filter_cons, hb]; cases b <;> rfl
          have hkd : kd (tl s) j = dg s[j] := by
            unfold kd; rw [List.getElem?_eq_getElem (by rw [length_tl]; exact hjl), Option.getD_some, getElem_tl]
          have hbd := isL_bounds (wv_mem HW.out (show s[j] ∈ tl s by rw [getElem_tl]; exact List.getElem_mem _))
          have hdg : dg s[j] = s[j].toNat - 97 := rfl
          rw [hkd] at hrs
          have hfz := List.length_filter_le (fun i => kd (tl s) i == x) (List.range j)
          rw [List.length_range] at hfz
          have hlen : L.length ≤ 200 := by
            rw [HL.out, List.length_append]; have := HKLx.out; omega
          by_cases hq : dg s[j] = x
          · have hrs1 := hrs true (by simp [hq])
            have hnx : L ++ [j] = K x ++ (List.range (j + 1)).filter fun i => kd (tl s) i == x := by rw [hrs1, HL.out, List.append_assoc]; rfl
            have hbq : (((s[j].toNat : Nat) : Int) - 97 == (x : Int)) = true := by rw [beq_iff_eq]; omega
            have HNX := Lib.hid hnx; clear hnx hrs hrs1 hkd hq hdg hfz HL
            have hbw := HBL2.out.size
            go_wp2_with fail
            refine (l1Digit_any s j _ hjl (by omega)).mono ?_
            rintro _ _ ⟨rfl, rfl⟩
            go_wp2_with (at_builtin; refine wpList_append_own _ rfl _ _ 43 rfl w.heap.size 3 iI (.int .i64 0) 1 8 Tryz.undI HI.out HZ0.out HZ1.out HZ2.out rfl (by decide) _ L.length _ rfl (HO2.out.alloc _) ⟨wr.heap.size, 0, none⟩ 1 1 [.int .i64 (j : Int)] rfl rfl (one_new wr _ _) nat_cell (by unfold maxLen; omega) (by omega) (by simp; omega) ?_)
            intro v' w6 ho' hg' _
            rw [natV_snoc, show L.length + 1 = (L ++ [j]).length by simp] at ho'
            have hb6 := (HBL2.out.alloc HBL2.out.size _).grown hg' (Nat.le_trans HBL2.out.size (by simp)) fun k' e => (HO2.out.lt k' e).1
            have HO6 := Lib.hid ho'; have HB6 := Lib.hid hb6; clear ho' hg' hb6
            go_wp2_with fail
            go_roundw
            case rel => exact ⟨j + 1, L ++ [j], by omega, by go_num, HNX, HO6.out, HB6.out⟩
            case measure => simp [intOf]; omega
          · have hrs1 := hrs false (by simp [hq])
            have hnx : L = K x ++ (List.range (j + 1)).filter fun i => kd (tl s) i == x := by rw [hrs1, HL.out]; simp
            have hbq : (((s[j].toNat : Nat) : Int) - 97 == (x : Int)) = false := by rw [beq_eq_false_iff_ne]; omega
            have HNX := Lib.hid hnx; clear hnx HL hrs hrs1 hkd hq hdg hfz
            go_wp2_with fail
            refine (l1Digit_any s j _ hjl (by omega)).mono ?_
            rintro _ _ ⟨rfl, rfl⟩
            go_wp2_with fail
            go_roundw
            case rel => exact ⟨j + 1, L, by omega, by go_num, HNX, HO2.out, HBL2.out⟩
            case measure => simp [intOf]; omega
        · have hje : L = K (x + 1) := by rw [← HKS.out, HL.out]; congr 3; omega
          have HJE := Lib.hid hje; clear hje
          go_wp2_with fail
          go_roundw
          case rel => exact ⟨x + 1, by omega, by go_num, by rw [← HJE.out]; exact HO2.out, HBL2.out⟩
          case measure => simp [intOf]; omega
    · have hx10 : x = 10 := by omega
      subst hx10
      go_wp2_with fail
      go_ret
      refine ⟨_, rfl, ?_, HBL.out⟩
      rw [← HKE.out]; exact HO.out

end Go.Proofs.YteeeaeidocalnaaGreatDoor
