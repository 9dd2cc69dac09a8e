/-
  Contracts of functions and plain laws that the law's proof uses (parts: MachB). Conditions: what each theorem names.
-/
import Derived.Deep.RegionWith
import Derived.Deep.RegionLaw
import Derived.Deep.RegionHeld3
import Derived.Test.YtnbdimbhklbadaaGreatDoorQMachA
import Derived.Test.YtnbdimbhklbadaaGreatDoorQDoA
namespace Go.Proofs.YtnbdimbhklbadaaGreatDoor
open Go.RowKit Pl
set_option linter.unusedVariables false
def RotorV (r : ByteArray × ByteArray) : Prop := IsPerm r.1 ∧ r.2.size ≤ 3 ∧ wv (tl r.2) = true ∧ ∀ j (h1 : j < r.2.size) (h2 : j + 1 < r.2.size), r.2[j].toNat < r.2[j + 1].toNat
def rotT (r : ByteArray × ByteArray) : List UInt8 := tl r.1 ++ 32 :: (if tl r.2 = [] then [45] else tl r.2)
theorem two_below {w w' : World} {a1 a2 : Addr} {u1 u2 : Value} (hb : Below w.heap.size w w') (h : w.cell? a1 = some u1 ∧ w.cell? a2 = some u2) : w'.cell? a1 = some u1 ∧ w'.cell? a2 = some u2 :=
  ⟨(hb.cell (World.block_lt_of_cell? _ _ h.1)).trans h.1, (hb.cell (World.block_lt_of_cell? _ _ h.2)).trans h.2⟩
theorem permValid_any (w : World) (s : ByteArray) (b : Bool) (hb : b = true ↔ IsPerm s) :
    Calls Tryz.prog 216 #[.string s] w fun e w' => e = .returned (.bool b) ∧ Below w.heap.size w w' := by
  have hpo : ∃ q : List Nat, q.length = 10 ∧ Calls Tryz.prog 62 #[.string s] w fun e w' => e = .returned (.tuple #[.agg (pC q), .bool b]) ∧ Below w.heap.size w w' := by
    by_cases hp : IsPerm s
    · have hbt := hb.2 hp
      subst hbt
      obtain ⟨q, hq, rfl⟩ := hp
      exact ⟨q, hq.len, permOf_yes w q hq⟩
    · have hbf : b = false := by rw [Bool.eq_false_iff]; exact fun e => hp (hb.1 e)
      subst hbf
      exact ⟨zP, rfl, permOf_not w s hp⟩
  obtain ⟨q, hql, hpo⟩ := hpo
  have HPO := Lib.hid hpo; have HQL := Lib.hid hql; clear hpo hql hb
  go_enter Tryz.func216, Tryz.ntmps216
  go_wp2_with fail
  refine HPO.out.mono ?_
  rintro _ w1 ⟨rfl, hb1⟩
  have HB1 := Lib.hid hb1; clear hb1
  have HG1 := Lib.hid (PB.made w1)
  have HB3 := Lib.hid (below_setRow (HB1.out.alloc HB1.out.size (.cells #[.int .u8 0, .int .u8 0, .int .u8 0, .int .u8 0, .int .u8 0, .int .u8 0, .int .u8 0, .int .u8 0, .int .u8 0, .int .u8 0] 52)) HB1.out.size (pC q))
  go_wp2_with (first | (refine wpList_store_row rfl 52 _ _ rfl w1.heap.size (pC q) rfl rfl _ _ HG1.out (permSize HQL.out) (by rw [pC_size, pC_size, HQL.out]; rfl) (pC_one _) ?_))
  go_ret
  exact ⟨rfl, HB3.out⟩
set_option maxHeartbeats 4000000 in
set_option maxRecDepth 100000 in
theorem rotorValid_any (w : World) (a n : ByteArray) (b : Bool) (hb : b = true ↔ RotorV (a, n)) :
    Calls Tryz.prog 155 #[.agg #[.string a, .string n]] w fun e w' => e = .returned (.bool b) ∧ Below w.heap.size w w' := by
  have hb0 : Below w.heap.size w (w.alloc (.cells #[.string a, .string n] 142)) := (Below.refl _ _).alloc (Nat.le_refl _) _
  have h0 : (w.alloc (.cells #[.string a, .string n] 142)).cell? ⟨w.heap.size, 0, none⟩ = some (.string a) := by simp
  have h1 : (w.alloc (.cells #[.string a, .string n] 142)).cell? ⟨w.heap.size, 1, none⟩ = some (.string n) := by simp
  have H01 := Lib.hid (And.intro h0 h1); have HB0 := Lib.hid hb0
  clear hb0 h0 h1
  by_cases hp : IsPerm a
  · have hpv := fun w' => permValid_any w' a true (Iff.intro (fun _ => hp) (fun _ => rfl))
    have HPV := Lib.hid hpv; clear hpv
    by_cases hz : n.size ≤ 3
    · by_cases hv : wv (tl n) = true
      · have hbb : b = true ↔ ∀ j (h1 : j < n.size) (h2 : j + 1 < n.size), n[j].toNat < n[j + 1].toNat := hb.trans ⟨fun h => h.2.2.2, fun h => ⟨hp, hz, hv, h⟩⟩
        have HBB := Lib.hid hbb; have HV := Lib.hid hv; clear hb hbb hv hp
        go_enter Tryz.func155, Tryz.ntmps155
        go_wp2_with fail
        refine (HPV.out _).mono ?_
        rintro _ w1 ⟨rfl, hb1⟩
        have HB1 := Lib.hid (HB0.out.trans (hb1.mono HB0.out.size))
        obtain ⟨c0, c1⟩ := two_below hb1 H01.out
        have H1 := Lib.hid (And.intro c0 c1); clear hb1 HB0 H01 HPV
        obtain ⟨P, hP⟩ : ∃ P, P = w.heap.size := ⟨_, rfl⟩
        rw [← hP] at H1 c0 c1 ⊢
        clear hP
        go_wp2_with fail
        refine (wordValid_is _ true _ HV.out).mono ?_
        rintro _ _ ⟨rfl, rfl⟩
        go_wp2_with fail
        clear c0 c1
        go_loopw [3] (fun i wr => ∃ k : Nat, i = .int .i64 k ∧ 1 ≤ k ∧ k ≤ n.size + 1 ∧ Hid (∀ l (h1 : l < n.size) (h2 : l + 1 < n.size), l + 1 < k → n[l].toNat < n[l + 1].toNat) ∧ wr.cell? ⟨P, 1, none⟩ = some (.string n) ∧ Below w.heap.size w wr) (fun i _ => n.size + 1 - (intOf i).toNat)
        case atStart => exact ⟨1, rfl, Nat.le_refl _, by omega, Lib.hid (fun l _ _ h => absurd h (by omega)), H1.out.2, HB1.out⟩
        case round =>
          obtain ⟨k, rfl, hk1, hk2, HA, c1, hbl⟩ := hrel
          have HBL := Lib.hid hbl; clear hbl HB1 H1
          by_cases hlt : k < n.size
          · obtain ⟨j, hj⟩ : ∃ j, k = j + 1 := ⟨k - 1, by omega⟩
            have hjn : j < n.size := by omega
            have e1 : ((k : Int) - 1).toNat = j := by omega
            have e2 : IntKind.i64.wrap ((k : Int) - 1) = (k : Int) - 1 := by rw [IntKind.wrap_i64]; omega
            have e3 : (0 : Int) ≤ (k : Int) - 1 := by omega
            have e4 : (k : Int) - 1 < (n.size : Int) := by omega
            have e5 : (1 : Int) ≤ (k : Int) := by omega
            have y1 := n[j].toNat_lt
            have y2 := n[k].toNat_lt
            have hnx : n[j].toNat < n[k].toNat → ∀ l (h1 : l < n.size) (h2 : l + 1 < n.size), l + 1 < k + 1 → n[l].toNat < n[l + 1].toNat := fun h l h1 h2 hl => by
              by_cases e : l = j
              · subst e; subst hj; exact h
              · exact HA.out l h1 h2 (by omega)
            have hbd : ¬ n[j].toNat < n[k].toNat → b = false := fun h => by
              rw [Bool.eq_false_iff]; intro e; subst hj; exact h (HBB.out.1 e j hjn hlt)
            by_cases hc : n[j].toNat < n[k].toNat
            · have HNX := Lib.hid (hnx hc); clear hnx hbd hj
              have hc2 : ¬ n[k].toNat ≤ n[j].toNat := by omega
              go_wp2_with fail
              go_quiet (fail)
              go_wp2_with fail
              go_roundw
              case rel => exact ⟨k + 1, by go_num, by omega, by omega, HNX, c1, below_drewN' HBL.out _⟩
              case measure => simp [intOf]; omega
            · have hbf := hbd hc; clear hnx hbd hj
              subst hbf
              have hc2 : n[k].toNat ≤ n[j].toNat := by omega
              go_wp2_with fail
              go_quiet (fail)
              go_wp2_with fail
              go_ret
              exact ⟨rfl, below_drewN' HBL.out _⟩
          · have hbt : b = true := HBB.out.2 fun l h1 h2 => HA.out l h1 h2 (by omega)
            subst hbt
            go_wp2_with fail
            go_ret
            exact ⟨rfl, HBL.out⟩
      · have hbf : b = false := by rw [Bool.eq_false_iff]; exact fun e => hv (hb.1 e).2.2.1
        subst hbf
        have HV := Lib.hid (Bool.eq_false_iff.2 hv); clear hb hv hp
        go_enter Tryz.func155, Tryz.ntmps155
        go_wp2_with fail
        refine (HPV.out _).mono ?_
        rintro _ w1 ⟨rfl, hb1⟩
        have HB1 := Lib.hid (HB0.out.trans (hb1.mono HB0.out.size))
        obtain ⟨c0, c1⟩ := two_below hb1 H01.out
        clear hb1 HB0 H01 HPV
        go_wp2_with fail
        refine (wordValid_is _ false _ HV.out).mono ?_
        rintro _ _ ⟨rfl, rfl⟩
        go_wp2_with fail
        go_ret
        exact ⟨rfl, HB1.out⟩
    · have hbf : b = false := by rw [Bool.eq_false_iff]; exact fun e => hz (hb.1 e).2.1
      subst hbf
      have hz2 : (3 : Int) < (n.size : Int) := by omega
      clear hb hp hz
      go_enter Tryz.func155, Tryz.ntmps155
      go_wp2_with fail
      refine (HPV.out _).mono ?_
      rintro _ w1 ⟨rfl, hb1⟩
      have HB1 := Lib.hid (HB0.out.trans (hb1.mono HB0.out.size))
      obtain ⟨c0, c1⟩ := two_below hb1 H01.out
      clear hb1 HB0 H01 HPV
      go_wp2_with fail
      go_ret
      exact ⟨rfl, HB1.out⟩
  · have hbf : b = false := by rw [Bool.eq_false_iff]; exact fun e => hp (hb.1 e).1
    subst hbf
    have hpv := fun w' => permValid_any w' a false (Iff.intro (fun h => Bool.noConfusion h) (fun h => absurd h hp))
    have HPV := Lib.hid hpv; clear hpv hb hp
    go_enter Tryz.func155, Tryz.ntmps155
    go_wp2_with fail
    refine (HPV.out _).mono ?_
    rintro _ w1 ⟨rfl, hb1⟩
    have HB1 := Lib.hid (HB0.out.trans (hb1.mono HB0.out.size)); clear hb1 HB0 H01 HPV
    go_wp2_with fail
    go_ret
    exact ⟨rfl, HB1.out⟩
set_option maxHeartbeats 1000000 in
theorem formatRotor_yes (w : World) (a n : ByteArray) (h : RotorV (a, n)) :
    Calls Tryz.prog 98 #[.agg #[.string a, .string n]] w fun e w' => e = .returned (.string (mk (rotT (a, n)))) ∧ Below w.heap.size w w' := by
  have hrv := fun w' => rotorValid_any w' a n true (Iff.intro (fun _ => h) (fun _ => rfl))
  have hb0 : Below w.heap.size w (w.alloc (.cells #[.string a, .string n] 142)) := (Below.refl _ _).alloc (Nat.le_refl _) _
  have h0 : (w.alloc (.cells #[.string a, .string n] 142)).cell? ⟨w.heap.size, 0, none⟩ = some (.string a) := by simp
  have h1 : (w.alloc (.cells #[.string a, .string n] 142)).cell? ⟨w.heap.size, 1, none⟩ = some (.string n) := by simp
  have haz : a.size = 10 := by obtain ⟨q, hq, e⟩ := h.1; show a.size = 10; rw [show a = pT q from e, pT_size, hq.len]
  have hnz : n.size ≤ 3 := h.2.1
  have haz2 : a.size ≤ 10 := by omega
  have e1 : tl n = [] → a ++ ⟨#[32, 45]⟩ = mk (rotT (a, n)) := fun e => by
    unfold rotT; simp only [e, if_true]; rw [append_tl]; rfl
  have e2 : tl n ≠ [] → a ++ ⟨#[32]⟩ ++ n = mk (rotT (a, n)) := fun e => by
    unfold rotT; simp only [e, if_false]; simp only [append_tl, tl_mk]
    rw [show tl (⟨#[32]⟩ : ByteArray) = [32] from rfl]; simp
  have HRV := Lib.hid hrv; have HB0 := Lib.hid hb0; have H01 := Lib.hid (And.intro h0 h1); have E1 := Lib.hid e1; have E2 := Lib.hid e2
  clear hrv hb0 h h0 h1 e1 e2 haz
  go_enter Tryz.func98, Tryz.ntmps98
  go_wp2_with fail
  refine (HRV.out _).mono ?_
  rintro _ w1 ⟨rfl, hb1⟩
  have HB1 := Lib.hid (HB0.out.trans (hb1.mono HB0.out.size))
  obtain ⟨c0, c1⟩ := two_below hb1 H01.out
  clear hb1 HB0 H01 HRV
  by_cases hn : tl n = []
  · have hem : n.toList.isEmpty = true := by rw [toList_tl, hn]; rfl
    have HN := Lib.hid hn; clear hn
    go_wp2_with fail
    go_ret
    exact ⟨by rw [← E1.out HN.out]; rfl, HB1.out⟩
  · have hem : n.toList.isEmpty = false := by rw [List.isEmpty_eq_false_iff, toList_tl]; exact hn
    have HN := Lib.hid hn; clear hn
    go_wp2_with fail
    go_ret
    exact ⟨by rw [← E2.out HN.out]; rfl, HB1.out⟩
set_option maxHeartbeats 4000000 in
set_option maxRecDepth 100000 in
theorem sRotorValid_any (w : World) (a n : ByteArray) (b : Bool) (hb : b = true ↔ RotorV (a, n)) :
    Calls Tryz.prog 255 #[.agg #[.string a, .string n]] w fun e w' => e = .returned (.bool b) ∧ Below w.heap.size w w' := by
  have hb0 : Below w.heap.size w (w.alloc (.cells #[.string a, .string n] 142)) := (Below.refl _ _).alloc (Nat.le_refl _) _
  have h0 : (w.alloc (.cells #[.string a, .string n] 142)).cell? ⟨w.heap.size, 0, none⟩ = some (.string a) := by simp
  have h1 : (w.alloc (.cells #[.string a, .string n] 142)).cell? ⟨w.heap.size, 1, none⟩ = some (.string n) := by simp
  have H01 := Lib.hid (And.intro h0 h1); have HB0 := Lib.hid hb0
  clear hb0 h0 h1
  by_cases hp : IsPerm a
  · have hpv := fun w' => sPermValid_any w' a true (Iff.intro (fun _ => hp) (fun _ => rfl))
    have HPV := Lib.hid hpv; clear hpv
    by_cases hz : n.size ≤ 3
    · by_cases hv : wv (tl n) = true
      · have hbb : b = true ↔ ∀ j (h1 : j < n.size) (h2 : j + 1 < n.size), n[j].toNat < n[j + 1].toNat := hb.trans ⟨fun h => h.2.2.2, fun h => ⟨hp, hz, hv, h⟩⟩
        have HBB := Lib.hid hbb; have HV := Lib.hid hv; clear hb hbb hv hp
        go_enter Tryz.func255, Tryz.ntmps255
        go_wp2_with fail
        refine (HPV.out _).mono ?_
        rintro _ w1 ⟨rfl, hb1⟩
        have HB1 := Lib.hid (HB0.out.trans (hb1.mono HB0.out.size))
        obtain ⟨c0, c1⟩ := two_below hb1 H01.out
        have H1 := Lib.hid (And.intro c0 c1); clear hb1 HB0 H01 HPV
        obtain ⟨P, hP⟩ : ∃ P, P = w.heap.size := ⟨_, rfl⟩
        rw [← hP] at H1 c0 c1 ⊢
        clear hP
        go_wp2_with fail
        refine (sWordValid_is _ true _ HV.out).mono ?_
        rintro _ _ ⟨rfl, rfl⟩
        go_wp2_with fail
        clear c0 c1
        go_loopw [3] (fun i wr => ∃ k : Nat, i = .int .i64 k ∧ 1 ≤ k ∧ k ≤ n.size + 1 ∧ Hid (∀ l (h1 : l < n.size) (h2 : l + 1 < n.size), l + 1 < k → n[l].toNat < n[l + 1].toNat) ∧ wr.cell? ⟨P, 1, none⟩ = some (.string n) ∧ Below w.heap.size w wr) (fun i _ => n.size + 1 - (intOf i).toNat)
        case atStart => exact ⟨1, rfl, Nat.le_refl _, by omega, Lib.hid (fun l _ _ h => absurd h (by omega)), H1.out.2, HB1.out⟩
        case round =>
          obtain ⟨k, rfl, hk1, hk2, HA, c1, hbl⟩ := hrel
          have HBL := Lib.hid hbl; clear hbl HB1 H1
          by_cases hlt : k < n.size
          · obtain ⟨j, hj⟩ : ∃ j, k = j + 1 := ⟨k - 1, by omega⟩
            have hjn : j < n.size := by omega
            have e1 : ((k : Int) - 1).toNat = j := by omega
            have e2 : IntKind.i64.wrap ((k : Int) - 1) = (k : Int) - 1 := by rw [IntKind.wrap_i64]; omega
            have e3 : (0 : Int) ≤ (k : Int) - 1 := by omega
            have e4 : (k : Int) - 1 < (n.size : Int) := by omega
            have e5 : (1 : Int) ≤ (k : Int) := by omega
            have y1 := n[j].toNat_lt
            have y2 := n[k].toNat_lt
            have hnx : n[j].toNat < n[k].toNat → ∀ l (h1 : l < n.size) (h2 : l + 1 < n.size), l + 1 < k + 1 → n[l].toNat < n[l + 1].toNat := fun h l h1 h2 hl => by
              by_cases e : l = j
              · subst e; subst hj; exact h
              · exact HA.out l h1 h2 (by omega)
            have hbd : ¬ n[j].toNat < n[k].toNat → b = false := fun h => by
              rw [Bool.eq_false_iff]; intro e; subst hj; exact h (HBB.out.1 e j hjn hlt)
            by_cases hc : n[j].toNat < n[k].toNat
            · have HNX := Lib.hid (hnx hc); clear hnx hbd hj
              have hc2 : ¬ n[k].toNat ≤ n[j].toNat := by omega
              go_wp2_with fail
              go_quiet (fail)
              go_wp2_with fail
              go_roundw
              case rel => exact ⟨k + 1, by go_num, by omega, by omega, HNX, c1, below_drewN' HBL.out _⟩
              case measure => simp [intOf]; omega
            · have hbf := hbd hc; clear hnx hbd hj
              subst hbf
              have hc2 : n[k].toNat ≤ n[j].toNat := by omega
              go_wp2_with fail
              go_quiet (fail)
              go_wp2_with fail
              go_ret
              exact ⟨rfl, below_drewN' HBL.out _⟩
          · have hbt : b = true := HBB.out.2 fun l h1 h2 => HA.out l h1 h2 (by omega)
            subst hbt
            go_wp2_with fail
            go_ret
            exact ⟨rfl, HBL.out⟩
      · have hbf : b = false := by rw [Bool.eq_false_iff]; exact fun e => hv (hb.1 e).2.2.1
        subst hbf
        have HV := Lib.hid (Bool.eq_false_iff.2 hv); clear hb hv hp
        go_enter Tryz.func255, Tryz.ntmps255
        go_wp2_with fail
        refine (HPV.out _).mono ?_
        rintro _ w1 ⟨rfl, hb1⟩
        have HB1 := Lib.hid (HB0.out.trans (hb1.mono HB0.out.size))
        obtain ⟨c0, c1⟩ := two_below hb1 H01.out
        clear hb1 HB0 H01 HPV
        go_wp2_with fail
        refine (sWordValid_is _ false _ HV.out).mono ?_
        rintro _ _ ⟨rfl, rfl⟩
        go_wp2_with fail
        go_ret
        exact ⟨rfl, HB1.out⟩
    · have hbf : b = false := by rw [Bool.eq_false_iff]; exact fun e => hz (hb.1 e).2.1
      subst hbf
      have hz2 : (3 : Int) < (n.size : Int) := by omega
      clear hb hp hz
      go_enter Tryz.func255, Tryz.ntmps255
      go_wp2_with fail
      refine (HPV.out _).mono ?_
      rintro _ w1 ⟨rfl, hb1⟩
      have HB1 := Lib.hid (HB0.out.trans (hb1.mono HB0.out.size))
      obtain ⟨c0, c1⟩ := two_below hb1 H01.out
      clear hb1 HB0 H01 HPV
      go_wp2_with fail
      go_ret
      exact ⟨rfl, HB1.out⟩
  · have hbf : b = false := by rw [Bool.eq_false_iff]; exact fun e => hp (hb.1 e).1
    subst hbf
    have hpv := fun w' => sPermValid_any w' a false (Iff.intro (fun h => Bool.noConfusion h) (fun h => absurd h hp))
    have HPV := Lib.hid hpv; clear hpv hb hp
    go_enter Tryz.func255, Tryz.ntmps255
    go_wp2_with fail
    refine (HPV.out _).mono ?_
    rintro _ w1 ⟨rfl, hb1⟩
    have HB1 := Lib.hid (HB0.out.trans (hb1.mono HB0.out.size)); clear hb1 HB0 H01 HPV
    go_wp2_with fail
    go_ret
    exact ⟨rfl, HB1.out⟩
def slN : Value → Nat
  | .slice _ n _ => n
  | _ => 0
def bV (S : List Nat) : Array Value := ((List.range 10).map fun x => Value.bool (decide (x ∈ S))).toArray
theorem bV_get {S : List Nat} {x : Nat} (hx : x < 10) : (bV S)[x]? = some (.bool (decide (x ∈ S))) := by simp [bV, hx]
theorem bV_put {S : List Nat} {x : Nat} (hx : x < 10) : (bV S).setIfInBounds x (.bool true) = bV (S ++ [x]) := by
  unfold bV
  rw [List.setIfInBounds_toArray]
  congr 1
  apply List.ext_getElem?
  intro j
  rw [List.getElem?_set, List.length_map, List.length_range]
  by_cases e : x = j
  · subst e; simp [hx]
  · rw [if_neg e, List.getElem?_map, List.getElem?_map]
    by_cases hj : j < 10
    · simp [hj, show ¬ j = x from fun h => e h.symm]
    · rw [List.getElem?_eq_none (by simp; omega)]; rfl
theorem own_set {w : World} {base : Nat} {e : TypeId} {size n : Nat} {v : Value} {xs : List Value} (h : w.ownsRow base e size v n xs) {p : Nat} (hp : v.ownBlock ≠ some p) (i : Nat) (u : Value) : (w.setCell ⟨p, i, none⟩ u).ownsRow base e size v n xs :=
  h.kept (row := some p) ⟨rfl, rfl, rfl, by simp [World.setCell], fun k _ hn => Below.heap_setCell w ⟨p, i, none⟩ u k (by intro e; exact hn (by rw [e]))⟩ (.inr hp)
theorem own_apart {w w' : World} {base : Nat} {e : TypeId} {size n : Nat} {v v2 : Value} {xs : List Value} (h : w.ownsRow base e size v n xs) {R : Nat} (hR : ∀ k, v.ownBlock = some k → k < R) (hg : w.grownBy w' v2.ownBlock) (h2 : ∀ k, v2.ownBlock = some k → R ≤ k) : w'.ownsRow base e size v n xs :=
  h.kept hg (by
    cases hv : v.ownBlock with
    | none => exact .inl rfl
    | some k => exact .inr (by intro e; have := hR k hv; have := h2 k e.symm; omega))
theorem own_some {w : World} {base : Nat} {e : TypeId} {size n : Nat} {v : Value} {xs : List Value} (h : w.ownsRow base e size v n xs) (hn : 0 < n) : ∃ g cap, v = .slice (some ⟨g, 0, none⟩) n cap := by
  obtain ⟨h1, ⟨rfl, rfl⟩ | ⟨g, cap, cur, rfl, h2, h3⟩⟩ := h
  · omega
  · exact ⟨g, cap, rfl⟩
theorem orb_bytes (q : List Nat) (a j : Nat) : bytesV ((orbTo q a j).map letter) ++ [Value.int .u8 ((letter (it q a j)).toNat : Int)] = bytesV ((orbTo q a (j + 1)).map letter) := by
  rw [← orbTo_snoc]; simp [bytesV]
theorem byte_cell {n : Int} : ∀ u ∈ [Value.int .u8 n], u.oneCell' = true := by intro u hu; simp at hu; subst hu; rfl
theorem u8_i64 {n : Nat} (h : n < 10) : IntKind.i64.wrap (n : Int) = (n : Int) := by rw [IntKind.wrap_i64]; omega
set_option maxHeartbeats 8000000 in
set_option maxRecDepth 100000 in
theorem cycles_any (w : World) (q : List Nat) (hq : Prm q) :
    Calls Tryz.prog 33 #[.agg (pC q)] w (CycMade q w) := by
  obtain ⟨iS, hi, hz0, hz1, hz2⟩ := info_parts Tryz.infoS
  have HI := Lib.hid hi; have HZ0 := Lib.hid hz0; have HZ1 := Lib.hid hz1; have HZ2 := Lib.hid hz2
  clear hi hz0 hz1 hz2
  obtain ⟨iB, hi, hz0, hz1, hz2⟩ := info_parts Tryz.infoB
  have KI := Lib.hid hi; have KZ0 := Lib.hid hz0; have KZ1 := Lib.hid hz1; have KZ2 := Lib.hid hz2
  clear hi hz0 hz1 hz2
  have h1 : PB ((w.alloc (.cells (pC q) 52)).alloc (.cells #[.bool false, .bool false, .bool false, .bool false, .bool false, .bool false, .bool false, .bool false, .bool false, .bool false] 114)) w.heap.size q := block_kept3 (heap_alloc_new w (.cells (pC q) 52)) _
  have h2 : SB ((w.alloc (.cells (pC q) 52)).alloc (.cells #[.bool false, .bool false, .bool false, .bool false, .bool false, .bool false, .bool false, .bool false, .bool false, .bool false] 114)) (w.heap.size + 1) (bV (cycs q 0).flatten) 114 := by
    have h := SB.made (w.alloc (.cells (pC q) 52)) #[.bool false, .bool false, .bool false, .bool false, .bool false, .bool false, .bool false, .bool false, .bool false, .bool false] 114
    rw [szalloc3] at h
    exact h
  have h3 : Below w.heap.size w ((w.alloc (.cells (pC q) 52)).alloc (.cells #[.bool false, .bool false, .bool false, .bool false, .bool false, .bool false, .bool false, .bool false, .bool false, .bool false] 114)) := ((Below.refl _ _).alloc (Nat.le_refl _) _).alloc (by simp) _
  have hsz : ((w.alloc (.cells (pC q) 52)).alloc (.cells #[.bool false, .bool false, .bool false, .bool false, .bool false, .bool false, .bool false, .bool false, .bool false, .bool false] 114)).heap.size = w.heap.size + 2 := by simp
  have hrow : ((w.alloc (.cells (pC q) 52)).alloc (.cells #[.bool false, .bool false, .bool false, .bool false, .bool false, .bool false, .bool false, .bool false, .bool false, .bool false] 114)).ownsRow (w.heap.size + 2) 9 1 (.slice none 0 0) 0 (strV (cycS q 0)) := World.ownsRow_nil _ _ _ _
  obtain ⟨w0, hw0⟩ : ∃ w0, w0 = ((w.alloc (.cells (pC q) 52)).alloc (.cells #[.bool false, .bool false, .bool false, .bool false, .bool false, .bool false, .bool false, .bool false, .bool false, .bool false] 114)) := ⟨_, rfl⟩
  rw [← hw0] at h1 h2 h3 hsz hrow
  have H1 := Lib.hid h1; have H2 := Lib.hid h2; have H3 := Lib.hid h3; have HROW := Lib.hid hrow; have HQ := Lib.hid hq; have HSZ := Lib.hid hsz
  have hp2 : w.heap.size + 2 ≤ w0.heap.size := by omega
  clear h1 h2 h3 hrow hq hsz
  obtain ⟨P, hP⟩ : ∃ P, P = w.heap.size := ⟨_, rfl⟩
  go_enter Tryz.func33, Tryz.ntmps33
  go_wp2_with fail
  rw [← hw0, ← hP]
  rw [← hP] at H1 H2 HROW hp2
  have HPE := Lib.hid hP; clear hP hw0 HSZ
  go_loopw [3, 8] (fun l i wr => ∃ k : Nat, k ≤ 10 ∧ i = .int .i64 k ∧ wr.ownsRow (P + 2) 9 1 l (cycS q k).length (strV (cycS q k)) ∧ Hid (PB wr P q) ∧ Hid (SB wr (P + 1) (bV (cycs q k).flatten) 114) ∧ P + 2 ≤ wr.heap.size ∧ Below w.heap.size w wr) (fun _ i _ => 10 - (intOf i).toNat)
  case atStart => exact ⟨0, Nat.zero_le _, rfl, HROW.out, H1, H2, hp2, H3.out⟩
  case round =>
    obtain ⟨k, hk, rfl, hown, HPB, HSB, hsz, hbl⟩ := hrel
    have HO := Lib.hid hown; have HBL := Lib.hid hbl; clear hown hbl H1 H2 H3 HROW hp2
    obtain ⟨A3, c3, e3⟩ := slot_slice HO.out
    subst e3
    by_cases hlt : k < 10
    · obtain ⟨p1, p2, p3, p4⟩ := per_spec HQ.out hlt
      obtain ⟨R0, hR0⟩ : ∃ R0, R0 = wr.heap.size := ⟨_, rfl⟩
      have hlb : ∀ j, (Value.slice A3 (cycS q k).length c3).ownBlock = some j → j < R0 := fun j e => by rw [hR0]; exact (HO.out.lt j e).2
      have hRs : P + 2 ≤ R0 := by omega
      have hR1 : R0 ≤ wr.heap.size := by omega
      have HLB := Lib.hid hlb; have P3 := Lib.hid p3; have P4 := Lib.hid p4
      have HSB' := HSB
      rw [show (cycs q k).flatten = (cycs q k).flatten ++ orbTo q k 0 by simp [orbTo]] at HSB'
      have HN := Lib.hid (fun j (h : k ∉ (cycs q k).flatten) hj => next_new HQ.out hlt h (j := j) hj)
      have HOLD := Lib.hid (next_old HQ.out hlt)
      have HIL := Lib.hid (it_lt HQ.out hlt)
      have HLE := Lib.hid (cycS_le q k)
      clear hlb p3 p4 hR0
      go_wp2_with fail
      try rw [show decide ((k : Int) < 10) = true by rw [decide_eq_true_iff]; omega]
      go_loopw [6, 7] (fun c x wr => ∃ j : Nat, j ≤ per q k ∧ Hid (k ∈ (cycs q k).flatten → j = 0) ∧ x = .int .i64 (it q k j) ∧ wr.ownsRow R0 5 1 c j (bytesV ((orbTo q k j).map letter)) ∧ wr.ownsRow (P + 2) 9 1 (.slice A3 (cycS q k).length c3) (cycS q k).length (strV (cycS q k)) ∧ Hid (PB wr P q) ∧ Hid (SB wr (P + 1) (bV ((cycs q k).flatten ++ orbTo q k j)) 114) ∧ R0 ≤ wr.heap.size ∧ Below w.heap.size w wr) (fun c _ _ => per q k - slN c)
      case atStart => exact ⟨0, Nat.zero_le _, Lib.hid (fun _ => rfl), rfl, World.ownsRow_nil _ _ _ _, HO.out, HPB, HSB', hR1, HBL.out⟩
      case round =>
        obtain ⟨j, hj, HJ0, rfl, hcrow, hlrow, HPB2, HSB2, hsz2, hbl2⟩ := hrel
        have HC2 := Lib.hid hcrow; have HL2 := Lib.hid hlrow; have HBL2 := Lib.hid hbl2
        clear hcrow hlrow hbl2 HO HPB HSB HSB' HBL hsz hR1
        obtain ⟨A6, c6, e6⟩ := slot_slice HC2.out
        subst e6
        have hx := HIL.out j
        have hseen := HSB2.out.cell (it q k j) _ (bV_get hx)
        by_cases hin : it q k j ∈ (cycs q k).flatten ++ orbTo q k j
        · rw [decide_eq_true hin] at hseen
          by_cases hks : k ∈ (cycs q k).flatten
          · have hj0 := HJ0.out hks
            subst hj0
            have e1 := cycS_in hks
            have hs := HSB2.out
            rw [show (cycs q k).flatten ++ orbTo q k 0 = (cycs q (k + 1)).flatten by rw [cycs_in hks]; simp [orbTo]] at hs
            have HS3 := Lib.hid hs; have E1 := Lib.hid e1; clear hs e1 hin hks HSB2
            go_wp2_with fail
            go_roundw
            case rel => exact ⟨k + 1, by omega, by go_num, by rw [E1.out]; exact HL2.out, HPB2, HS3, by omega, HBL2.out⟩
            case measure => simp [intOf]; omega
          · have hje : j = per q k := Classical.byContradiction fun h => HN.out j hks (by omega) hin
            have hj1 : 0 < j := by omega
            have e1 := cycS_out hks
            have hs := HSB2.out
            rw [show (cycs q k).flatten ++ orbTo q k j = (cycs q (k + 1)).flatten by rw [cycs_out hks, List.flatten_append, List.flatten_singleton, hje]; rfl] at hs
            have ho : mk ((orbTo q k j).map letter) = pT (orb q k) := by rw [hje]; rfl
            obtain ⟨g, c6', e6⟩ := own_some HC2.out hj1
            simp only [Value.slice.injEq] at e6
            obtain ⟨rfl, _, rfl⟩ := e6
            have hcv := own_conv HC2.out (by rw [List.length_map, orbTo_len]) c6
            rw [ho] at hcv
            have hoz : (pT (orb q k)).size ≤ 10 := by rw [pT_size]; unfold orb; rw [orbTo_len]; omega
            have HS3 := Lib.hid hs; have E1 := Lib.hid e1
            have hbw : P + 2 ≤ wr.heap.size := by omega
            have hll := HLE.out
            clear hs e1 hin hks HSB2 ho hje
            generalize pT (orb q k) = O at hcv hoz E1
            go_wp2_with (at_builtin; refine wpList_append_own _ rfl _ _ 33 rfl (P + 2) 9 iS (.string ByteArray.empty) 1 16 Tryz.undS HI.out HZ0.out HZ1.out HZ2.out rfl (by decide) _ (cycS q k).length _ rfl (HL2.out.alloc _) ⟨wr.heap.size, 0, none⟩ 1 1 [.string O] rfl rfl (one_new wr (.string O) 9) one_cell (by unfold maxLen; omega) (by omega) (by simp; omega) ?_)
            intro v' w7 ho' hg' _
            have hel : strV (cycS q k) ++ [Value.string O] = strV (cycS q (k + 1)) := by rw [E1.out]; simp [strV]
            have hel2 : (cycS q k).length + 1 = (cycS q (k + 1)).length := by rw [E1.out]; simp
            rw [hel, hel2] at ho'
            have hb7 : Below w.heap.size w w7 := (HBL2.out.alloc HBL2.out.size _).grown hg' (Nat.le_trans HBL2.out.size (by simp)) fun k' e => by have := (HL2.out.lt k' e).1; have := HPE.out; omega
            have hp7 : PB w7 P q := SB.own (SB.below HPB2.out ((Below.refl _ _).alloc (Nat.le_refl _) _)) hg' (ownBlock_ne HL2.out (by omega))
            have hs7 : SB w7 (P + 1) (bV (cycs q (k + 1)).flatten) 114 := SB.own (SB.below HS3.out ((Below.refl _ _).alloc (Nat.le_refl _) _)) hg' (ownBlock_ne HL2.out (by omega))
            have hz7 : P + 2 ≤ w7.heap.size := by have := hg'.size; simp at this; omega
            have HO7 := Lib.hid ho'; have HB7 := Lib.hid hb7; have HP7 := Lib.hid hp7; have HS7 := Lib.hid hs7; clear ho' hg' hb7 hel hel2 hp7 hs7 hcv
            go_wp2_with fail
            go_roundw
            case rel => exact ⟨k + 1, by omega, by go_num, HO7.out, HP7, HS7, hz7, HB7.out⟩
            case measure => simp [intOf]; omega
        · rw [decide_eq_false hin] at hseen
          have hks : k ∉ (cycs q k).flatten := fun h => by
            have h0 := HJ0.out h
            subst h0
            exact hin (List.mem_append.2 (.inl h))
          have hjl : j < per q k := Classical.byContradiction fun h => by
            have h0 : j = per q k := by omega
            rw [h0] at hin
            exact hin HOLD.out
          have hfz := HSB2.out.frozen (it q k j)
          have hput := HSB2.out.put (it q k j) (.bool true)
          rw [bV_put hx, List.append_assoc, orbTo_snoc] at hput
          have hpb : PB (wr.setCell ⟨P + 1, it q k j, none⟩ (.bool true)) P q := SB.far HPB2.out (by omega) (it q k j) (.bool true)
          have hl4 := own_set HL2.out (ownBlock_ne HL2.out (show P + 1 < P + 2 by omega)) (it q k j) (.bool true)
          have hc4 := own_set HC2.out (ownBlock_ne HC2.out (show P + 1 < R0 by omega)) (it q k j) (.bool true)
          have hb4 : Below w.heap.size w (wr.setCell ⟨P + 1, it q k j, none⟩ (.bool true)) := HBL2.out.setCell (show w.heap.size ≤ P + 1 by have := HPE.out; omega) _
          have hz4 : R0 ≤ (wr.setCell ⟨P + 1, it q k j, none⟩ (.bool true)).heap.size := by simpa [World.setCell] using hsz2
          obtain ⟨w4, hw4⟩ : ∃ w4, w4 = wr.setCell ⟨P + 1, it q k j, none⟩ (.bool true) := ⟨_, rfl⟩
          rw [← hw4] at hput hpb hl4 hc4 hb4 hz4
          have HPUT := Lib.hid hput; have HPB4 := Lib.hid hpb; have HL4 := Lib.hid hl4; have HC4 := Lib.hid hc4; have HB4 := Lib.hid hb4; have HKS := Lib.hid hks
          clear hput hpb hl4 hc4 hb4 hin hks HPB2 HSB2 HL2 HC2 HBL2
          have hxn := HIL.out (j + 1)
          have hw9 : IntKind.i64.wrap (it q k (j + 1) : Int) = (it q k (j + 1) : Int) := u8_i64 hxn
          have hj10 : j ≤ 10 := by omega
          have HOB := Lib.hid (orb_bytes q k j)
          have HNT := Lib.hid (show nth q (it q k j) = it q k (j + 1) from rfl)
          obtain ⟨y, hy⟩ : ∃ y, y = it q k (j + 1) := ⟨_, rfl⟩
          rw [← hy] at hxn hw9 HNT
          have HY := Lib.hid hy; clear hy
          generalize it q k j = x at hx hseen hfz hw4 HOB HNT ⊢
          go_wp2_with fail
          rw [← hw4]
          clear hw4 hseen hfz
          refine (letter_any _ _ hx).mono ?_
          rintro _ wz ⟨rfl, rfl⟩
          go_wp2_with (at_builtin; refine wpList_append_own _ rfl _ _ 22 rfl R0 5 iB (.int .u8 0) 1 1 Tryz.underlying22 KI.out KZ0.out KZ1.out KZ2.out rfl (by decide) _ j _ rfl (HC4.out.alloc _) ⟨wz.heap.size, 0, none⟩ 1 1 [.int .u8 ((letter x).toNat : Int)] rfl rfl (one_new wz _ _) byte_cell (by unfold maxLen; omega) (by omega) (by simp; omega) ?_)
          intro v' w7 ho' hg' _
          rw [HOB.out] at ho'
          have hb7 : Below w.heap.size w w7 := (HB4.out.alloc HB4.out.size _).grown hg' (Nat.le_trans HB4.out.size (by simp)) fun k' e => by have := (HC4.out.lt k' e).1; have := HPE.out; omega
          have hp7 : PB w7 P q := SB.own (SB.below HPB4.out ((Below.refl _ _).alloc (Nat.le_refl _) _)) hg' (ownBlock_ne HC4.out (by omega))
          have hs7 := SB.own (SB.below HPUT.out ((Below.refl _ _).alloc (Nat.le_refl _) _)) hg' (ownBlock_ne HC4.out (by omega))
          have hl7 := own_apart (HL4.out.alloc _) HLB.out hg' (fun k' e => (HC4.out.lt k' e).1)
          have hz7 : R0 ≤ w7.heap.size := by have := hg'.size; simp at this; omega
          have hqx : x < q.length := by rw [HQ.out.len]; exact hx
          have c7 : w7.cell? ⟨P, x, none⟩ = some (.int .u8 (y : Int)) := by
            rw [hp7.cell hqx, ← nth_eq hqx, HNT.out]
          obtain ⟨A7, c7', e7⟩ := slot_slice ho'
          subst e7
          have HO7 := Lib.hid ho'; have HB7 := Lib.hid hb7; have HP7 := Lib.hid hp7; have HS7 := Lib.hid hs7; have HL7 := Lib.hid hl7
          clear ho' hg' hb7 hp7 hs7 hl7
          go_wp2_with fail
          go_roundw
          case rel => exact ⟨j + 1, by omega, Lib.hid (fun h => absurd h HKS.out), by rw [HY.out], HO7.out, HL7.out, HP7, HS7, hz7, HB7.out⟩
          case measure => simp [slN]; omega
    · obtain rfl : k = 10 := by omega
      go_wp2_with fail
      go_ret
      exact ⟨A3, c3, rfl, own_mono3 HO.out (by rw [← HPE.out]; omega), HBL.out⟩
def twoTo (l : List (List Nat)) (k : Nat) : List ByteArray := ((l.take k).filter fun c => c.length == 2).map pT
theorem twoTo_yes {l : List (List Nat)} {k : Nat} (hk : k < l.length) (h : l[k].length = 2) : twoTo l k ++ [pT l[k]] = twoTo l (k + 1) := by
  unfold twoTo
  rw [List.take_succ_eq_append_getElem hk, List.filter_append, List.filter_cons, if_pos (by rw [h]; rfl), List.map_append]; rfl
theorem twoTo_no {l : List (List Nat)} {k : Nat} (hk : k < l.length) (h : l[k].length ≠ 2) : twoTo l k = twoTo l (k + 1) := by
  unfold twoTo
  rw [List.take_succ_eq_append_getElem hk, List.filter_append, List.filter_cons, if_neg (by simpa using h)]; simp
theorem twoTo_len (l : List (List Nat)) (k : Nat) : (twoTo l k).length ≤ l.length := by
  unfold twoTo
  rw [List.length_map]
  exact Nat.le_trans (List.length_filter_le _ _) (by rw [List.length_take]; omega)
theorem twoTo_end (q : List Nat) (l : List (List Nat)) (hl : l = cycs q 10) : twoTo l l.length = twoS q := by
  unfold twoTo twoS twos
  rw [List.take_length, hl]
theorem twoTo_size (l : List (List Nat)) (k : Nat) : ∀ s ∈ twoTo l k, s.size = 2 := fun s hs => by
  obtain ⟨c, hc, rfl⟩ := List.mem_map.1 hs
  rw [pT_size]; simpa using (List.mem_filter.1 hc).2
theorem plugT_empty (q : List Nat) (h : twoS q = []) : (⟨#[45]⟩ : ByteArray) = mk (plugT q) := by
  unfold twoS at h
  have h2 := List.map_eq_nil_iff.1 h
  unfold plugT; rw [if_pos h2]; rfl
theorem plugT_join (q : List Nat) (h : twoS q ≠ []) : mk (Lib.join ((twoS q).map tl) (tl ⟨#[32]⟩)) = mk (plugT q) := by
  have : twos q 10 ≠ [] := fun e => h (by unfold twoS; rw [e]; rfl)
  unfold plugT; rw [if_neg this]; rfl
set_option maxHeartbeats 4000000 in
set_option maxRecDepth 100000 in
theorem formatPlugs_yes (w : World) (q : List Nat) (hq : Prm q) (hi : invP q = q) :
    Calls Tryz.prog 9 #[.string (pT q)] w fun e w' => e = .returned (.string (mk (plugT q))) ∧ Below w.heap.size w w' := by
  obtain ⟨iS, hi', hz0, hz1, hz2⟩ := info_parts Tryz.infoS
  have HI := Lib.hid hi'; have HZ0 := Lib.hid hz0; have HZ1 := Lib.hid hz1; have HZ2 := Lib.hid hz2
  clear hi' hz0 hz1 hz2
  have hpo := fun w' => plugsOf_yes w' q hq hi
  have hcy := fun w' => cycles_any w' q hq
  have hcl := cycs_len q 10
  have hall := fun c (hc : c ∈ cycs q 10) => cyc_len hq hc
  have hsl := cycS_len q 10
  have hat := cycS_at q 10
  have f0 := twoTo_end q _ rfl
  have f1 := plugT_empty q
  have f2 := plugT_join q
  unfold CycMade at hcy
  obtain ⟨R, hR⟩ : ∃ R, R = mk (plugT q) := ⟨_, rfl⟩
  rw [← hR] at f1 f2 ⊢
  generalize cycS q 10 = Y at hcy hsl hat
  generalize twoS q = Z at f0 f1 f2
  generalize cycs q 10 = l at hcl hall hsl hat f0
  obtain ⟨G, hG⟩ : ∃ G, G = twoTo l := ⟨_, rfl⟩
  have s1 : ∀ k (hk : k < l.length), l[k].length = 2 → G k ++ [pT l[k]] = G (k + 1) := fun k hk h => by rw [hG]; exact twoTo_yes hk h
  have s2 : ∀ k (hk : k < l.length), l[k].length ≠ 2 → G k = G (k + 1) := fun k hk h => by rw [hG]; exact twoTo_no hk h
  have s3 : ∀ k, (G k).length ≤ 10 := fun k => by rw [hG]; exact Nat.le_trans (twoTo_len l k) hcl
  have s4 : G 0 = [] := by rw [hG]; rfl
  have s5 : ∀ s ∈ Z, s.size = 2 := by rw [← f0]; exact twoTo_size l _
  rw [← hG] at f0
  have hzl : Z.length ≤ 10 := by rw [← f0]; exact s3 _
  have hsl1 : Y.length ≤ l.length := by omega
  have hsl2 : l.length ≤ Y.length := by omega
  have HPO := Lib.hid hpo; have HCY := Lib.hid hcy; have HALL := Lib.hid hall; have HAT := Lib.hid hat; have S1 := Lib.hid s1; have S2 := Lib.hid s2; have S3 := Lib.hid s3; have S4 := Lib.hid s4; have S5 := Lib.hid s5; have F0 := Lib.hid f0; have F1 := Lib.hid f1; have F2 := Lib.hid f2; have HQL := Lib.hid hq.len; have HZL := Lib.hid hzl
  clear hpo hcy hall hat hR hsl hq hi s1 s2 s3 s4 s5 f0 f1 f2 hG
  generalize pT q = T at HPO
  go_enter Tryz.func9, Tryz.ntmps9
  go_wp2_with fail
  refine (HPO.out _).mono ?_
  rintro _ w1 ⟨rfl, hb1⟩
  have HB1 := Lib.hid hb1; clear hb1
  have HG1 := Lib.hid (PB.made w1)
  have HS3 := Lib.hid (HG1.out.row q)
  have HB3 := Lib.hid (below_setRow (HB1.out.alloc HB1.out.size (.cells #[.int .u8 0, .int .u8 0, .int .u8 0, .int .u8 0, .int .u8 0, .int .u8 0, .int .u8 0, .int .u8 0, .int .u8 0, .int .u8 0] 52)) HB1.out.size (pC q))
  go_wp2_with (first | (refine wpList_store_row rfl 52 _ _ rfl w1.heap.size (pC q) rfl rfl _ _ HG1.out (permSize HQL.out) (by rw [pC_size, pC_size, HQL.out]; rfl) (pC_one _) ?_) | (refine wpList_load_row rfl 52 _ rfl w1.heap.size rfl _ _ _ _ HS3.out Tryz.underlying52 rfl (permSize HQL.out) ?_))
  obtain ⟨w3, hw3⟩ : ∃ w3, w3 = (w1.alloc (.cells #[.int .u8 0, .int .u8 0, .int .u8 0, .int .u8 0, .int .u8 0, .int .u8 0, .int .u8 0, .int .u8 0, .int .u8 0, .int .u8 0] 52)).setRow w1.heap.size (pC q) := ⟨_, rfl⟩
  rw [← hw3] at HB3 ⊢
  clear HS3 hw3 HG1 HB1
  refine (HCY.out w3).mono ?_
  rintro _ w4 ⟨A, cap, rfl, hown, hb4⟩
  have HRD := Lib.hid (own_rd3' hown); have HB4 := Lib.hid (HB3.out.trans (hb4.mono HB3.out.size)); clear hown hb4 HB3
  obtain ⟨B, hB⟩ : ∃ B, B = w4.heap.size := ⟨_, rfl⟩
  have hwb : w.heap.size ≤ B := by rw [hB]; exact HB4.out.size
  have HBE := Lib.hid hB
  clear hB
  go_wp2_with fail
  go_loopw [5, 18] (fun o i wr => ∃ k : Nat, k ≤ l.length ∧ i = .int .i64 k ∧ wr.ownsRow B 9 1 o (G k).length (strV (G k)) ∧ Below w4.heap.size w4 wr) (fun _ i _ => l.length - (intOf i).toNat)
  case atStart => exact ⟨0, Nat.zero_le _, rfl, by rw [S4.out]; exact World.ownsRow_nil _ _ _ _, Below.refl _ _⟩
  case round =>
    obtain ⟨k, hk, rfl, hown, hbl⟩ := hrel
    have HO := Lib.hid hown; have HBL := Lib.hid hbl; clear hown hbl
    have hbw : B ≤ wr.heap.size := by rw [HBE.out]; exact HBL.out.size
    obtain ⟨A3, c3, e3⟩ := slot_slice HO.out
    subst e3
    by_cases hlt : k < l.length
    · have hks : k < Y.length := by omega
      obtain ⟨b0, off, rfl, _, c0⟩ := (HRD.out.below HBL.out).str hks
      rw [HAT.out k hlt hks] at c0
      have hlk := (HALL.out _ (List.getElem_mem hlt)).2.1
      have hps : (pT l[k]).size = l[k].length := pT_size _
      have hz1 : (pT l[k]).size ≤ 10 := by omega
      have hgl := S3.out k
      by_cases h2 : l[k].length = 2
      · have hb : (((pT l[k]).size : Int) == 2) = true := by simp; omega
        have hst := S1.out k hlt h2
        have HST := Lib.hid hst; clear hst h2 hps hlk
        generalize pT l[k] = c at c0 hb hz1 HST
        go_wp2_with (at_builtin; refine wpList_append_own _ rfl _ _ 33 rfl B 9 iS (.string ByteArray.empty) 1 16 Tryz.undS HI.out HZ0.out HZ1.out HZ2.out rfl (by decide) _ (G k).length _ rfl (HO.out.alloc _) ⟨wr.heap.size, 0, none⟩ 1 1 [.string c] rfl rfl (one_new wr (.string c) 9) one_cell (by unfold maxLen; omega) (by omega) (by simp; omega) ?_)
        intro v' w7 ho' hg' _
        have hel : strV (G k) ++ [Value.string c] = strV (G (k + 1)) := by rw [← HST.out]; simp [strV]
        have hel2 : (G k).length + 1 = (G (k + 1)).length := by rw [← HST.out]; simp
        rw [hel, hel2] at ho'
        have hb7 : Below w4.heap.size w4 w7 := (HBL.out.alloc HBL.out.size _).grown hg' (Nat.le_trans HBL.out.size (by simp)) fun k' e => by have := (HO.out.lt k' e).1; have := HBE.out; omega
        have HO7 := Lib.hid ho'; have HB7 := Lib.hid hb7; clear ho' hg' hb7 hel hel2
        go_wp2_with fail
        go_roundw
        case rel => exact ⟨k + 1, by omega, by go_num, HO7.out, HB7.out⟩
        case measure => simp [intOf]; omega
      · have hb : (((pT l[k]).size : Int) == 2) = false := by rw [beq_eq_false_iff_ne]; omega
        have hst := S2.out k hlt h2
        have HST := Lib.hid hst; clear hst h2 hps hlk
        generalize pT l[k] = c at c0 hb hz1
        go_wp2_with fail
        go_roundw
        case rel => exact ⟨k + 1, by omega, by go_num, by rw [← HST.out]; exact HO.out, HBL.out⟩
        case measure => simp [intOf]; omega
    · obtain rfl : k = l.length := by omega
      have ho := HO.out
      rw [F0.out] at ho
      have HOZ := Lib.hid ho
      have hgz : (G l.length).length = Z.length := by rw [F0.out]
      have hg1 : (G l.length).length ≤ Z.length := by omega
      have hg2 : Z.length ≤ (G l.length).length := by omega
      have HBB := Lib.hid (HB4.out.trans (HBL.out.mono HB4.out.size))
      rw [F0.out]
      clear ho hgz HO HBL
      by_cases he : Z = []
      · have hz0 : Z.length = 0 := by rw [he]; rfl
        have hf := F1.out he
        have HF := Lib.hid hf; clear hf he
        have hz1 : ((Z.length : Int) == 0) = true := by rw [hz0]; rfl
        have hz2 : (Z.length : Int) = 0 := by omega
        clear hz0
        go_wp2_with fail
        go_ret
        exact ⟨by rw [← HF.out]; rfl, HBB.out⟩
      · have hz0 : Z.length ≠ 0 := fun e => he (List.length_eq_zero_iff.1 e)
        have hz1 : ((Z.length : Int) == 0) = false := by rw [beq_eq_false_iff_ne]; omega
        have hjl : (Lib.join (Z.map tl) (tl ⟨#[32]⟩)).length ≤ 1000000 := by
          refine Nat.le_trans (join_le _ _ 2 ?_) ?_
          · intro s hs
            obtain ⟨x, hx, rfl⟩ := List.mem_map.1 hs
            rw [length_tl]; exact Nat.le_of_eq (S5.out x hx)
          · rw [List.length_map]
            show Z.length * (2 + 1) ≤ 1000000
            have := HZL.out
            omega
        have hjn := join_own wr B A3 c3 Z ⟨#[32]⟩ HOZ.out he (by omega) hjl
        rw [F2.out he] at hjn
        have HJN := Lib.hid hjn; clear hjn hjl he hz0
        go_wp2_with fail
        refine HJN.out.mono ?_
        rintro _ w8 ⟨rfl, hb8⟩
        have HB8 := Lib.hid (HBB.out.trans (hb8.mono HBB.out.size)); clear hb8
        go_wp2_with fail
        go_ret
        exact ⟨rfl, HB8.out⟩
theorem pC_ten {q : List Nat} (h : q.length = 10) : pC q = #[.int .u8 (nth q 0 : Int), .int .u8 (nth q 1 : Int), .int .u8 (nth q 2 : Int), .int .u8 (nth q 3 : Int), .int .u8 (nth q 4 : Int), .int .u8 (nth q 5 : Int), .int .u8 (nth q 6 : Int), .int .u8 (nth q 7 : Int), .int .u8 (nth q 8 : Int), .int .u8 (nth q 9 : Int)] := by
  rcases q with _ | ⟨a0, q⟩
  · simp at h
  rcases q with _ | ⟨a1, q⟩
  · simp at h
  rcases q with _ | ⟨a2, q⟩
  · simp at h
  rcases q with _ | ⟨a3, q⟩
  · simp at h
  rcases q with _ | ⟨a4, q⟩
  · simp at h
  rcases q with _ | ⟨a5, q⟩
  · simp at h
  rcases q with _ | ⟨a6, q⟩
  · simp at h
  rcases q with _ | ⟨a7, q⟩
  · simp at h
  rcases q with _ | ⟨a8, q⟩
  · simp at h
  rcases q with _ | ⟨a9, q⟩
  · simp at h
  rcases q with _ | ⟨a, q⟩
  · rfl
  · simp at h
theorem set_ten {r q : List Nat} (hr : r.length = 10) (hq : q.length = 10) : (((((((((r.set 0 (nth q 0)).set 1 (nth q 1)).set 2 (nth q 2)).set 3 (nth q 3)).set 4 (nth q 4)).set 5 (nth q 5)).set 6 (nth q 6)).set 7 (nth q 7)).set 8 (nth q 8)).set 9 (nth q 9) = q := by
  rcases r with _ | ⟨b0, r⟩
  · simp at hr
  rcases r with _ | ⟨b1, r⟩
  · simp at hr
  rcases r with _ | ⟨b2, r⟩
  · simp at hr
  rcases r with _ | ⟨b3, r⟩
  · simp at hr
  rcases r with _ | ⟨b4, r⟩
  · simp at hr
  rcases r with _ | ⟨b5, r⟩
  · simp at hr
  rcases r with _ | ⟨b6, r⟩
  · simp at hr
  rcases r with _ | ⟨b7, r⟩
  · simp at hr
  rcases r with _ | ⟨b8, r⟩
  · simp at hr
  rcases r with _ | ⟨b9, r⟩
  · simp at hr
  obtain rfl : r = [] := List.length_eq_zero_iff.1 (by simpa using hr)
  rcases q with _ | ⟨a0, q⟩
  · simp at hq
  rcases q with _ | ⟨a1, q⟩
  · simp at hq
  rcases q with _ | ⟨a2, q⟩
  · simp at hq
  rcases q with _ | ⟨a3, q⟩
  · simp at hq
  rcases q with _ | ⟨a4, q⟩
  · simp at hq
  rcases q with _ | ⟨a5, q⟩
  · simp at hq
  rcases q with _ | ⟨a6, q⟩
  · simp at hq
  rcases q with _ | ⟨a7, q⟩
  · simp at hq
  rcases q with _ | ⟨a8, q⟩
  · simp at hq
  rcases q with _ | ⟨a9, q⟩
  · simp at hq
  rcases q with _ | ⟨a, q⟩
  · rfl
  · simp at hq
theorem PB.all {w : World} {p : Nat} {q : List Nat} (h : PB w p q) (hl : q.length = 10) : (w.cell? ⟨p, 0, none⟩ = some (.int .u8 (nth q 0 : Int)) ∧ w.cell? ⟨p, 1, none⟩ = some (.int .u8 (nth q 1 : Int)) ∧ w.cell? ⟨p, 2, none⟩ = some (.int .u8 (nth q 2 : Int)) ∧ w.cell? ⟨p, 3, none⟩ = some (.int .u8 (nth q 3 : Int)) ∧ w.cell? ⟨p, 4, none⟩ = some (.int .u8 (nth q 4 : Int)) ∧ w.cell? ⟨p, 5, none⟩ = some (.int .u8 (nth q 5 : Int)) ∧ w.cell? ⟨p, 6, none⟩ = some (.int .u8 (nth q 6 : Int)) ∧ w.cell? ⟨p, 7, none⟩ = some (.int .u8 (nth q 7 : Int)) ∧ w.cell? ⟨p, 8, none⟩ = some (.int .u8 (nth q 8 : Int)) ∧ w.cell? ⟨p, 9, none⟩ = some (.int .u8 (nth q 9 : Int))) ∧ (w.frozen? ⟨p, 0, none⟩ = false ∧ w.frozen? ⟨p, 1, none⟩ = false ∧ w.frozen? ⟨p, 2, none⟩ = false ∧ w.frozen? ⟨p, 3, none⟩ = false ∧ w.frozen? ⟨p, 4, none⟩ = false ∧ w.frozen? ⟨p, 5, none⟩ = false ∧ w.frozen? ⟨p, 6, none⟩ = false ∧ w.frozen? ⟨p, 7, none⟩ = false ∧ w.frozen? ⟨p, 8, none⟩ = false ∧ w.frozen? ⟨p, 9, none⟩ = false) := by
  have hc : ∀ k, k < 10 → w.cell? ⟨p, k, none⟩ = some (.int .u8 (nth q k : Int)) := fun k hk => by rw [nth_eq (by omega)]; exact h.cell (by omega)
  exact ⟨⟨hc 0 (by omega), hc 1 (by omega), hc 2 (by omega), hc 3 (by omega), hc 4 (by omega), hc 5 (by omega), hc 6 (by omega), hc 7 (by omega), hc 8 (by omega), hc 9 (by omega)⟩, h.frozen 0, h.frozen 1, h.frozen 2, h.frozen 3, h.frozen 4, h.frozen 5, h.frozen 6, h.frozen 7, h.frozen 8, h.frozen 9⟩
theorem PB.ten {w : World} {p : Nat} {r : List Nat} (h : PB w p r) (hr : r.length = 10) {q : List Nat} (hq : q.length = 10) : PB (((((((((((w.setCell ⟨p, 0, none⟩ (.int .u8 (nth q 0 : Int))).setCell ⟨p, 1, none⟩ (.int .u8 (nth q 1 : Int))).setCell ⟨p, 2, none⟩ (.int .u8 (nth q 2 : Int))).setCell ⟨p, 3, none⟩ (.int .u8 (nth q 3 : Int))).setCell ⟨p, 4, none⟩ (.int .u8 (nth q 4 : Int))).setCell ⟨p, 5, none⟩ (.int .u8 (nth q 5 : Int))).setCell ⟨p, 6, none⟩ (.int .u8 (nth q 6 : Int))).setCell ⟨p, 7, none⟩ (.int .u8 (nth q 7 : Int))).setCell ⟨p, 8, none⟩ (.int .u8 (nth q 8 : Int))).setCell ⟨p, 9, none⟩ (.int .u8 (nth q 9 : Int)))) p q := by
  have := (((((((((h.put 0 (nth q 0)).put 1 (nth q 1)).put 2 (nth q 2)).put 3 (nth q 3)).put 4 (nth q 4)).put 5 (nth q 5)).put 6 (nth q 6)).put 7 (nth q 7)).put 8 (nth q 8)).put 9 (nth q 9)
  rw [set_ten hr hq] at this
  exact this
theorem PB.drew {w : World} {p : Nat} {q : List Nat} (h : PB w p q) : PB w.drew p q := h
theorem below_ten {B p : Nat} {a w : World} (h : Below B a w) (hp : B ≤ p) (q : List Nat) : Below B a (((((((((((w.setCell ⟨p, 0, none⟩ (.int .u8 (nth q 0 : Int))).setCell ⟨p, 1, none⟩ (.int .u8 (nth q 1 : Int))).setCell ⟨p, 2, none⟩ (.int .u8 (nth q 2 : Int))).setCell ⟨p, 3, none⟩ (.int .u8 (nth q 3 : Int))).setCell ⟨p, 4, none⟩ (.int .u8 (nth q 4 : Int))).setCell ⟨p, 5, none⟩ (.int .u8 (nth q 5 : Int))).setCell ⟨p, 6, none⟩ (.int .u8 (nth q 6 : Int))).setCell ⟨p, 7, none⟩ (.int .u8 (nth q 7 : Int))).setCell ⟨p, 8, none⟩ (.int .u8 (nth q 8 : Int))).setCell ⟨p, 9, none⟩ (.int .u8 (nth q 9 : Int)))) := (((((((((h.setCell hp _).setCell hp _).setCell hp _).setCell hp _).setCell hp _).setCell hp _).setCell hp _).setCell hp _).setCell hp _).setCell hp _
set_option maxHeartbeats 8000000 in
set_option maxRecDepth 100000 in
theorem reflectorOf_yes (w : World) (q : List Nat) (hq : Prm q) (hi : invP q = q) (b : Bool) (hb : ((pairsP q : Int) == 5) = b) :
    Calls Tryz.prog 82 #[.string (pT q)] w fun e w' => e = .returned (.tuple #[.agg (pC q), .bool b]) ∧ Below w.heap.size w w' := by
  have hpo := fun w' => plugsOf_yes w' q hq hi
  have hpr := fun w' => pairs_any w' q hq.toTen
  rw [pC_ten hq.len] at hpr
  have HPO := Lib.hid hpo; have HPR := Lib.hid hpr; have HQL := Lib.hid hq.len
  have hb0 : Below w.heap.size w (w.alloc (.cells #[.int .u8 0, .int .u8 0, .int .u8 0, .int .u8 0, .int .u8 0, .int .u8 0, .int .u8 0, .int .u8 0, .int .u8 0, .int .u8 0] 52)) := (Below.refl _ _).alloc (Nat.le_refl _) _
  have HB0 := Lib.hid hb0; have HP0 := Lib.hid (PB.made w); have HBQ := Lib.hid hb
  clear hpo hpr hi hb0 hq hb
  generalize pT q = T at HPO
  obtain ⟨P, hP⟩ : ∃ P, P = w.heap.size := ⟨_, rfl⟩
  obtain ⟨N, hN⟩ : ∃ N, N = pairsP q := ⟨_, rfl⟩
  rw [← hN] at HPR HBQ
  clear hN
  go_enter Tryz.func82, Tryz.ntmps82
  go_wp2_with fail
  refine (HPO.out _).mono ?_
  rintro _ w1 ⟨rfl, hb1⟩
  have HP1 := Lib.hid (HP0.out.below hb1); have HB1 := Lib.hid (HB0.out.trans (hb1.mono HB0.out.size)); clear hb1 HP0 HB0 HPO
  rw [← hP] at HP1 ⊢
  have HPE := Lib.hid hP; clear hP
  have HG1 := Lib.hid (PB.made w1)
  have hpg : P ≠ w1.heap.size := by have := (Array.getElem?_eq_some_iff.1 HP1.out).1; omega
  have HP2 := Lib.hid (block_kept3 HP1.out (.cells #[.int .u8 0, .int .u8 0, .int .u8 0, .int .u8 0, .int .u8 0, .int .u8 0, .int .u8 0, .int .u8 0, .int .u8 0, .int .u8 0] 52))
  have HB2 := Lib.hid (HB1.out.alloc HB1.out.size (.cells #[.int .u8 0, .int .u8 0, .int .u8 0, .int .u8 0, .int .u8 0, .int .u8 0, .int .u8 0, .int .u8 0, .int .u8 0, .int .u8 0] 52))
  have HS3 := Lib.hid (HG1.out.row q)
  have HP3 := Lib.hid (PB.rowFar HP2.out hpg q)
  have HB3 := Lib.hid (below_setRow HB2.out HB1.out.size (pC q))
  go_wp2_with (first | (refine wpList_store_row rfl 52 _ _ rfl w1.heap.size (pC q) rfl rfl _ _ HG1.out (permSize HQL.out) (by rw [pC_size, pC_size, HQL.out]; rfl) (pC_one _) ?_))
  obtain ⟨w3, hw3⟩ : ∃ w3, w3 = (w1.alloc (.cells #[.int .u8 0, .int .u8 0, .int .u8 0, .int .u8 0, .int .u8 0, .int .u8 0, .int .u8 0, .int .u8 0, .int .u8 0, .int .u8 0] 52)).setRow w1.heap.size (pC q) := ⟨_, rfl⟩
  rw [← hw3] at HS3 HP3 HB3 ⊢
  obtain ⟨B, hB⟩ : ∃ B, B = w1.heap.size := ⟨_, rfl⟩
  rw [← hB] at HS3 ⊢
  clear hw3 HP2 HG1 HB2 HP1 hB
  obtain ⟨⟨c0, c1, c2, c3, c4, c5, c6, c7, c8, c9⟩, _⟩ := HS3.out.all HQL.out
  go_region_with (first | (go_at_call 137; refine (HPR.out _).mono ?_; rintro _ w7 ⟨rfl, hb7⟩; obtain ⟨⟨d0, d1, d2, d3, d4, d5, d6, d7, d8, d9⟩, _⟩ := (HS3.out.below (below_of_drew2 hb7)).all HQL.out; obtain ⟨⟨k0, k1, k2, k3, k4, k5, k6, k7, k8, k9⟩, ⟨f0, f1, f2, f3, f4, f5, f6, f7, f8, f9⟩⟩ := (HP3.out.below (below_of_drew2 hb7)).all zP_len) | fail)
  all_goals
    have HP7 := Lib.hid ((HP3.out.below (below_of_drew2 hb7)).ten zP_len HQL.out)
    have HB7 := Lib.hid (below_ten (p := P) (HB3.out.trans ((below_of_drew2 hb7).mono HB3.out.size)) (by rw [HPE.out]; exact Nat.le_refl _) q)
    clear hb7 c0 c1 c2 c3 c4 c5 c6 c7 c8 c9 d0 d1 d2 d3 d4 d5 d6 d7 d8 d9 k0 k1 k2 k3 k4 k5 k6 k7 k8 k9 f0 f1 f2 f3 f4 f5 f6 f7 f8 f9
    go_wp2_with fail
    refine bodyPost_ret (results_row_tmp rfl _ _ P _ (pC q) _ _ _ rfl HP7.out Tryz.underlying52 (permSize HQL.out)) rfl ⟨by rw [← HBQ.out]; rfl, HB7.out⟩
set_option maxHeartbeats 8000000 in
set_option maxRecDepth 100000 in
theorem reflectorOf_no (w : World) (s : ByteArray) (h : ¬ IsBoard s) :
    Calls Tryz.prog 82 #[.string s] w fun e w' => e = .returned (.tuple #[.agg (pC zP), .bool false]) ∧ Below w.heap.size w w' := by
  have hpo := fun w' => plugsOf_no w' s h
  have hql := zP_len
  generalize zP = q at hpo hql ⊢
  have HPO := Lib.hid hpo; have HQL := Lib.hid hql
  have hb0 : Below w.heap.size w (w.alloc (.cells #[.int .u8 0, .int .u8 0, .int .u8 0, .int .u8 0, .int .u8 0, .int .u8 0, .int .u8 0, .int .u8 0, .int .u8 0, .int .u8 0] 52)) := (Below.refl _ _).alloc (Nat.le_refl _) _
  have HB0 := Lib.hid hb0; have HP0 := Lib.hid (PB.made w)
  clear hpo hb0 h hql
  obtain ⟨P, hP⟩ : ∃ P, P = w.heap.size := ⟨_, rfl⟩
  go_enter Tryz.func82, Tryz.ntmps82
  go_wp2_with fail
  refine (HPO.out _).mono ?_
  rintro _ w1 ⟨rfl, hb1⟩
  have HP1 := Lib.hid (HP0.out.below hb1); have HB1 := Lib.hid (HB0.out.trans (hb1.mono HB0.out.size)); clear hb1 HP0 HB0 HPO
  rw [← hP] at HP1 ⊢
  have HPE := Lib.hid hP; clear hP
  have HG1 := Lib.hid (PB.made w1)
  have hpg : P ≠ w1.heap.size := by have := (Array.getElem?_eq_some_iff.1 HP1.out).1; omega
  have HP2 := Lib.hid (block_kept3 HP1.out (.cells #[.int .u8 0, .int .u8 0, .int .u8 0, .int .u8 0, .int .u8 0, .int .u8 0, .int .u8 0, .int .u8 0, .int .u8 0, .int .u8 0] 52))
  have HB2 := Lib.hid (HB1.out.alloc HB1.out.size (.cells #[.int .u8 0, .int .u8 0, .int .u8 0, .int .u8 0, .int .u8 0, .int .u8 0, .int .u8 0, .int .u8 0, .int .u8 0, .int .u8 0] 52))
  have HS3 := Lib.hid (HG1.out.row q)
  have HP3 := Lib.hid (PB.rowFar HP2.out hpg q)
  have HB3 := Lib.hid (below_setRow HB2.out HB1.out.size (pC q))
  go_wp2_with (first | (refine wpList_store_row rfl 52 _ _ rfl w1.heap.size (pC q) rfl rfl _ _ HG1.out (permSize HQL.out) (by rw [pC_size, pC_size, HQL.out]; rfl) (pC_one _) ?_))
  obtain ⟨w3, hw3⟩ : ∃ w3, w3 = (w1.alloc (.cells #[.int .u8 0, .int .u8 0, .int .u8 0, .int .u8 0, .int .u8 0, .int .u8 0, .int .u8 0, .int .u8 0, .int .u8 0, .int .u8 0] 52)).setRow w1.heap.size (pC q) := ⟨_, rfl⟩
  rw [← hw3] at HS3 HP3 HB3 ⊢
  obtain ⟨B, hB⟩ : ∃ B, B = w1.heap.size := ⟨_, rfl⟩
  rw [← hB] at HS3 ⊢
  clear hw3 HP2 HG1 HB2 HP1 hB
  obtain ⟨⟨c0, c1, c2, c3, c4, c5, c6, c7, c8, c9⟩, _⟩ := HS3.out.all HQL.out
  obtain ⟨⟨k0, k1, k2, k3, k4, k5, k6, k7, k8, k9⟩, f0, f1, f2, f3, f4, f5, f6, f7, f8, f9⟩ := HP3.out.all zP_len
  go_region_law (fail)
  all_goals
    have HP7 := Lib.hid (PB.drew (HP3.out.ten zP_len HQL.out))
    have HB7 := Lib.hid (below_ten (p := P) HB3.out (by rw [HPE.out]; exact Nat.le_refl _) q)
    clear c0 c1 c2 c3 c4 c5 c6 c7 c8 c9 k0 k1 k2 k3 k4 k5 k6 k7 k8 k9 f0 f1 f2 f3 f4 f5 f6 f7 f8 f9
    go_wp2_with fail
    go_simp
    refine bodyPost_ret (results_row_tmp rfl _ _ P _ (pC q) _ _ _ rfl HP7.out Tryz.underlying52 (permSize HQL.out)) rfl ⟨rfl, HB7.out.drew⟩
theorem refl_board {s : ByteArray} (h : IsRefl s) : IsBoard s := by obtain ⟨q, h1, h2, _, h4⟩ := h; exact ⟨q, h1, h2, h4⟩
theorem pairs_refl {q : List Nat} (hq : Prm q) : ((pairsP q : Int) == 5) = true ↔ (fixL q 10).length = 0 := by
  have := fix_moved q hq 10 (Nat.le_refl _)
  unfold pairsP
  rw [beq_iff_eq]
  generalize (fixL q 10).length = a at this ⊢
  generalize cntTo q 10 = b at this ⊢
  omega
theorem reflectorValid_any (w : World) (s : ByteArray) (b : Bool) (hb : b = true ↔ IsRefl s) :
    Calls Tryz.prog 154 #[.string s] w fun e w' => e = .returned (.bool b) ∧ Below w.heap.size w w' := by
  have hpo : ∃ q : List Nat, q.length = 10 ∧ Calls Tryz.prog 82 #[.string s] w fun e w' => e = .returned (.tuple #[.agg (pC q), .bool b]) ∧ Below w.heap.size w w' := by
    by_cases hp : IsBoard s
    · obtain ⟨q, hq, hi, rfl⟩ := hp
      refine ⟨q, hq.len, reflectorOf_yes w q hq hi b ?_⟩
      rw [Bool.eq_iff_iff, pairs_refl hq, hb]
      exact ⟨fun h0 => ⟨q, hq, hi, h0, rfl⟩, fun ⟨r, hr, _, h0, e⟩ => by rw [pT_inj hq.lt hr.lt e]; exact h0⟩
    · have hbf : b = false := by rw [Bool.eq_false_iff]; exact fun e => hp (refl_board (hb.1 e))
      subst hbf
      exact ⟨zP, rfl, reflectorOf_no w s hp⟩
  obtain ⟨q, hql, hpo⟩ := hpo
  have HPO := Lib.hid hpo; have HQL := Lib.hid hql; clear hpo hql hb
  go_enter Tryz.func154, Tryz.ntmps154
  go_wp2_with fail
  refine HPO.out.mono ?_
  rintro _ w1 ⟨rfl, hb1⟩
  have HB1 := Lib.hid hb1; clear hb1
  have HG1 := Lib.hid (PB.made w1)
  have HB3 := Lib.hid (below_setRow (HB1.out.alloc HB1.out.size (.cells #[.int .u8 0, .int .u8 0, .int .u8 0, .int .u8 0, .int .u8 0, .int .u8 0, .int .u8 0, .int .u8 0, .int .u8 0, .int .u8 0] 52)) HB1.out.size (pC q))
  go_wp2_with (first | (refine wpList_store_row rfl 52 _ _ rfl w1.heap.size (pC q) rfl rfl _ _ HG1.out (permSize HQL.out) (by rw [pC_size, pC_size, HQL.out]; rfl) (pC_one _) ?_))
  go_ret
  exact ⟨rfl, HB3.out⟩
def WheelsV (rs : List (ByteArray × ByteArray)) (p : ByteArray) : Prop := 1 ≤ rs.length ∧ rs.length ≤ 3 ∧ IsRefl p ∧ ∀ r ∈ rs, RotorV r
set_option maxHeartbeats 4000000 in
set_option maxRecDepth 100000 in
theorem wheelsValid_any (w : World) (A : Option Addr) (cap : Nat) (rs : List (ByteArray × ByteArray)) (p : ByteArray) (b : Bool) (h : Rd w w.heap.size A (rotV rs)) (hc : rs.length ≤ cap) (hl : rs.length ≤ 100) (hb : b = true ↔ WheelsV rs p) :
    Calls Tryz.prog 97 #[.agg #[.slice A rs.length cap, .string p]] w fun e w' => e = .returned (.bool b) ∧ Below w.heap.size w w' := by
  obtain ⟨w0, hw0⟩ : ∃ w0, w0 = w.alloc (.cells #[.slice A rs.length cap, .string p] 25) := ⟨_, rfl⟩
  have hb0 : Below w.heap.size w w0 := by rw [hw0]; exact (Below.refl _ _).alloc (Nat.le_refl _) _
  have h01 : w0.cell? ⟨w.heap.size, 0, none⟩ = some (.slice A rs.length cap) ∧ w0.cell? ⟨w.heap.size, 1, none⟩ = some (.string p) := by rw [hw0]; exact ⟨by simp, by simp⟩
  obtain ⟨c0, c1⟩ := h01
  obtain ⟨M, hM⟩ : ∃ M, M = rs.length := ⟨_, rfl⟩
  have HR := Lib.hid h; have HB0 := Lib.hid hb0; have HBB := Lib.hid hb; have HM := Lib.hid hM
  rw [← hM] at hc hl c0 hw0 ⊢
  clear h hb0 hb hM
  obtain ⟨P, hP⟩ : ∃ P, P = w.heap.size := ⟨_, rfl⟩
  by_cases h1 : M < 1
  · have hbf : b = false := by rw [Bool.eq_false_iff]; exact fun e => by have := (HBB.out.1 e).1; have := HM.out; omega
    subst hbf
    have h1' : (M : Int) < 1 := by omega
    go_enter Tryz.func97, Tryz.ntmps97
    go_wp2_with fail
    rw [← hw0]
    go_ret
    exact ⟨rfl, HB0.out⟩
  · by_cases h3 : 3 < M
    · have hbf : b = false := by rw [Bool.eq_false_iff]; exact fun e => by have := (HBB.out.1 e).2.1; have := HM.out; omega
      subst hbf
      have h1' : ¬ (M : Int) < 1 := by omega
      have h3' : (3 : Int) < (M : Int) := by omega
      go_enter Tryz.func97, Tryz.ntmps97
      go_wp2_with fail
      rw [← hw0]
      go_ret
      exact ⟨rfl, HB0.out⟩
    · have h1' : ¬ (M : Int) < 1 := by omega
      have h3' : ¬ (3 : Int) < (M : Int) := by omega
      by_cases hp : IsRefl p
      · have hrv := fun w' => reflectorValid_any w' p true (Iff.intro (fun _ => hp) (fun _ => rfl))
        have HRV := Lib.hid hrv; clear hrv
        have HP := Lib.hid hp; clear hp
        go_enter Tryz.func97, Tryz.ntmps97
        go_wp2_with fail
        rw [← hw0]
        rw [← hP] at c0 c1 ⊢
        clear hw0 hP
        go_wp2_with fail
        refine (HRV.out _).mono ?_
        rintro _ w1 ⟨rfl, hb1⟩
        have HB1 := Lib.hid (HB0.out.trans (hb1.mono HB0.out.size))
        obtain ⟨d0, d1⟩ := two_below hb1 ⟨c0, c1⟩
        clear hb1 HB0 c0 c1 HRV
        go_wp2_with fail
        clear d0 d1
        go_loopw [24] (fun i wr => ∃ k : Nat, k ≤ M ∧ i = .int .i64 k ∧ Hid (∀ j (hj : j < rs.length), j < k → RotorV rs[j]) ∧ Below w.heap.size w wr) (fun i _ => M - (intOf i).toNat)
        case atStart => exact ⟨0, Nat.zero_le _, rfl, Lib.hid (fun j _ h => absurd h (Nat.not_lt_zero j)), HB1.out⟩
        case round =>
          obtain ⟨k, hk, rfl, HA, hbl⟩ := hrel
          have HBL := Lib.hid hbl; clear hbl HB1
          by_cases hlt : k < M
          · have hkr : k < rs.length := by have := HM.out; omega
            obtain ⟨b0, off, rfl, _, c0, c1⟩ := (HR.out.below HBL.out).rot hkr
            have hnx : RotorV rs[k] → ∀ j (hj : j < rs.length), j < k + 1 → RotorV rs[j] := fun h j hj hjk => by
              by_cases e : j = k
              · subst e; exact h
              · exact HA.out j hj (by omega)
            have hbd : ¬ RotorV rs[k] → b = false := fun h => by
              rw [Bool.eq_false_iff]; intro e; exact h ((HBB.out.1 e).2.2.2 _ (List.getElem_mem hkr))
            generalize rs[k] = r at c0 c1 hnx hbd
            obtain ⟨a, n⟩ := r
            simp only at c0 c1
            have hb2 : Below w.heap.size w (wr.alloc (.cells #[.string a, .string n] 142)) := HBL.out.alloc HBL.out.size _
            have HB2 := Lib.hid hb2; clear hb2
            by_cases hv : RotorV (a, n)
            · have hcon := fun w' => rotorValid_any w' a n true (Iff.intro (fun _ => hv) (fun _ => rfl))
              have HCON := Lib.hid hcon; have HNX := Lib.hid (hnx hv); clear hcon hnx hbd hv hkr
              go_wp2_with fail
              refine (HCON.out _).mono ?_
              rintro _ w3 ⟨rfl, hb3⟩
              have HB3 := Lib.hid (HB2.out.trans (hb3.mono HB2.out.size)); clear hb3 c0 c1
              go_wp2_with fail
              go_roundw
              case rel => exact ⟨k + 1, by omega, by go_num, HNX, HB3.out⟩
              case measure => simp [intOf]; omega
            · have hbf := hbd hv
              subst hbf
              have hcon := fun w' => rotorValid_any w' a n false (Iff.intro (fun h => Bool.noConfusion h) (fun h => absurd h hv))
              have HCON := Lib.hid hcon; clear hcon hnx hbd hv hkr
              go_wp2_with fail
              refine (HCON.out _).mono ?_
              rintro _ w3 ⟨rfl, hb3⟩
              have HB3 := Lib.hid (HB2.out.trans (hb3.mono HB2.out.size)); clear hb3 c0 c1
              go_wp2_with fail
              go_ret
              exact ⟨rfl, HB3.out⟩
          · have hbt : b = true := HBB.out.2 ⟨by have := HM.out; omega, by have := HM.out; omega, HP.out, fun r hr => by
              obtain ⟨j, hj, rfl⟩ := List.mem_iff_getElem.1 hr
              exact HA.out j hj (by have := HM.out; omega)⟩
            subst hbt
            go_wp2_with fail
            go_ret
            exact ⟨rfl, HBL.out⟩
      · have hbf : b = false := by rw [Bool.eq_false_iff]; exact fun e => hp (HBB.out.1 e).2.2.1
        subst hbf
        have hrv := fun w' => reflectorValid_any w' p false (Iff.intro (fun h => Bool.noConfusion h) (fun h => absurd h hp))
        have HRV := Lib.hid hrv; clear hrv hp
        go_enter Tryz.func97, Tryz.ntmps97
        go_wp2_with fail
        rw [← hw0]
        rw [← hP] at c0 c1 ⊢
        clear hw0 hP
        go_wp2_with fail
        refine (HRV.out _).mono ?_
        rintro _ w1 ⟨rfl, hb1⟩
        have HB1 := Lib.hid (HB0.out.trans (hb1.mono HB0.out.size)); clear hb1 HB0 c0 c1 HRV
        go_wp2_with fail
        go_ret
        exact ⟨rfl, HB1.out⟩
set_option maxHeartbeats 4000000 in
set_option maxRecDepth 100000 in
theorem sWheelsValid_any (w : World) (A : Option Addr) (cap : Nat) (rs : List (ByteArray × ByteArray)) (p : ByteArray) (b : Bool) (h : Rd w w.heap.size A (rotV rs)) (hc : rs.length ≤ cap) (hl : rs.length ≤ 100) (hb : b = true ↔ WheelsV rs p) :
    Calls Tryz.prog 205 #[.agg #[.slice A rs.length cap, .string p]] w fun e w' => e = .returned (.bool b) ∧ Below w.heap.size w w' := by
  obtain ⟨w0, hw0⟩ : ∃ w0, w0 = w.alloc (.cells #[.slice A rs.length cap, .string p] 25) := ⟨_, rfl⟩
  have hb0 : Below w.heap.size w w0 := by rw [hw0]; exact (Below.refl _ _).alloc (Nat.le_refl _) _
  have h01 : w0.cell? ⟨w.heap.size, 0, none⟩ = some (.slice A rs.length cap) ∧ w0.cell? ⟨w.heap.size, 1, none⟩ = some (.string p) := by rw [hw0]; exact ⟨by simp, by simp⟩
  obtain ⟨M, hM⟩ : ∃ M, M = rs.length := ⟨_, rfl⟩
  have HR := Lib.hid h; have HB0 := Lib.hid hb0; have HBB := Lib.hid hb; have HM := Lib.hid hM
  rw [← hM] at hc hl h01 hw0 ⊢
  have H01 := Lib.hid h01
  clear h hb0 hb hM h01
  obtain ⟨P, hP⟩ : ∃ P, P = w.heap.size := ⟨_, rfl⟩
  go_enter Tryz.func205, Tryz.ntmps205
  go_wp2_with fail
  rw [← hw0]
  rw [← hP] at H01 ⊢
  clear hw0 hP
  go_loopw [3] (fun i wr => ∃ k : Nat, k ≤ M ∧ i = .int .i64 k ∧ Hid (∀ j (hj : j < rs.length), j < k → RotorV rs[j]) ∧ Hid (wr.cell? ⟨P, 0, none⟩ = some (.slice A M cap) ∧ wr.cell? ⟨P, 1, none⟩ = some (.string p)) ∧ Below w.heap.size w wr) (fun i _ => M - (intOf i).toNat)
  case atStart => exact ⟨0, Nat.zero_le _, rfl, Lib.hid (fun j _ h => absurd h (Nat.not_lt_zero j)), H01, HB0.out⟩
  case round =>
    obtain ⟨k, hk, rfl, HA, HC, hbl⟩ := hrel
    have HBL := Lib.hid hbl; clear hbl HB0 H01
    obtain ⟨e0, e1⟩ := HC.out
    by_cases hlt : k < M
    · have hkr : k < rs.length := by have := HM.out; omega
      obtain ⟨b0, off, rfl, _, c0, c1⟩ := (HR.out.below HBL.out).rot hkr
      have hnx : RotorV rs[k] → ∀ j (hj : j < rs.length), j < k + 1 → RotorV rs[j] := fun h j hj hjk => by
        by_cases e : j = k
        · subst e; exact h
        · exact HA.out j hj (by omega)
      have hbd : ¬ RotorV rs[k] → b = false := fun h => by
        rw [Bool.eq_false_iff]; intro e; exact h ((HBB.out.1 e).2.2.2 _ (List.getElem_mem hkr))
      generalize rs[k] = r at c0 c1 hnx hbd
      obtain ⟨a, n⟩ := r
      simp only at c0 c1
      by_cases hv : RotorV (a, n)
      · have hcon := fun w' => sRotorValid_any w' a n true (Iff.intro (fun _ => hv) (fun _ => rfl))
        have HCON := Lib.hid hcon; have HNX := Lib.hid (hnx hv); clear hcon hnx hbd hv hkr
        go_wp2_with fail
        refine (HCON.out _).mono ?_
        rintro _ w3 ⟨rfl, hb3⟩
        have HB3 := Lib.hid (HBL.out.trans (hb3.mono HBL.out.size)); have HC3 := Lib.hid (two_below hb3 HC.out); clear hb3 c0 c1 e0 e1
        go_wp2_with fail
        go_roundw
        case rel => exact ⟨k + 1, by omega, by go_num, HNX, HC3, HB3.out⟩
        case measure => simp [intOf]; omega
      · have hbf := hbd hv
        subst hbf
        have hcon := fun w' => sRotorValid_any w' a n false (Iff.intro (fun h => Bool.noConfusion h) (fun h => absurd h hv))
        have HCON := Lib.hid hcon; clear hcon hnx hbd hv hkr
        go_wp2_with fail
        refine (HCON.out _).mono ?_
        rintro _ w3 ⟨rfl, hb3⟩
        have HB3 := Lib.hid (HBL.out.trans (hb3.mono HBL.out.size)); clear hb3 c0 c1 e0 e1
        go_wp2_with fail
        go_ret
        exact ⟨rfl, HB3.out⟩
    · have hall : ∀ r ∈ rs, RotorV r := fun r hr => by
        obtain ⟨j, hj, rfl⟩ := List.mem_iff_getElem.1 hr
        exact HA.out j hj (by have := HM.out; omega)
      by_cases hr : 1 ≤ M ∧ M ≤ 3
      · have hli := fun w' => l1In_is (M : Int) 1 3 true w' (by simp; omega)
        have hrv := fun w' => sReflectorValid_any w' p b (hb := HBB.out.trans ⟨fun h => h.2.2.1, fun h => ⟨by have := HM.out; omega, by have := HM.out; omega, h, hall⟩⟩)
        have HLI := Lib.hid hli; have HRV := Lib.hid hrv; clear hli hrv hall hr
        go_wp2_with fail
        refine (HLI.out _).mono ?_
        rintro _ _ ⟨rfl, rfl⟩
        go_wp2_with fail
        refine (HRV.out _).mono ?_
        rintro _ w3 ⟨rfl, hb3⟩
        have HB3 := Lib.hid (HBL.out.trans (hb3.mono HBL.out.size)); clear hb3
        go_wp2_with fail
        go_ret
        exact ⟨rfl, HB3.out⟩
      · have hbf : b = false := by rw [Bool.eq_false_iff]; exact fun e => hr ⟨by have := (HBB.out.1 e).1; have := HM.out; omega, by have := (HBB.out.1 e).2.1; have := HM.out; omega⟩
        subst hbf
        have hli := fun w' => l1In_is (M : Int) 1 3 false w' (by simp; omega)
        have HLI := Lib.hid hli; clear hli hall hr
        go_wp2_with fail
        refine (HLI.out _).mono ?_
        rintro _ _ ⟨rfl, rfl⟩
        go_wp2_with fail
        go_ret
        exact ⟨rfl, HBL.out⟩
def rotTo (rs : List (ByteArray × ByteArray)) (k : Nat) : List UInt8 := Lib.join ((rs.take k).map rotT) [44]
def whlT (rs : List (ByteArray × ByteArray)) (p : ByteArray) : List UInt8 := rotTo rs rs.length ++ 47 :: tl p
theorem rotT_len {r : ByteArray × ByteArray} (h : RotorV r) : (rotT r).length ≤ 14 := by
  obtain ⟨⟨q, hq, e⟩, hz, _, _⟩ := h
  unfold rotT
  rw [List.length_append, length_tl, e, pT_size, hq.len, List.length_cons]
  split
  · simp
  · rw [length_tl]; omega
theorem rotTo_one (rs : List (ByteArray × ByteArray)) (h : 0 < rs.length) : rotTo rs 1 = rotT rs[0] := by
  unfold rotTo
  rw [List.take_succ_eq_append_getElem h, List.take_zero, List.nil_append, List.map_singleton, Lib.join_one]
theorem rotTo_next (rs : List (ByteArray × ByteArray)) (k : Nat) (h : k < rs.length) (hk : 0 < k) : rotTo rs (k + 1) = rotTo rs k ++ [44] ++ rotT rs[k] := by
  unfold rotTo
  rw [List.take_succ_eq_append_getElem h, List.map_append, List.map_singleton, join_snoc _ _ _ (by
    intro e
    have := congrArg List.length e
    rw [List.length_map, List.length_take, List.length_nil] at this
    omega)]
theorem rotTo_len {rs : List (ByteArray × ByteArray)} (h : ∀ r ∈ rs, RotorV r) : ∀ k, k ≤ rs.length → (rotTo rs k).length ≤ 15 * k
  | 0, _ => by simp [rotTo, Lib.join_nil]
  | k + 1, hk => by
    have ih := rotTo_len h k (by omega)
    have hr := rotT_len (h _ (List.getElem_mem (show k < rs.length by omega)))
    by_cases hk0 : 0 < k
    · rw [rotTo_next rs k (by omega) hk0]
      simp only [List.length_append, List.length_singleton]; omega
    · obtain rfl : k = 0 := by omega
      rw [rotTo_one rs (by omega)]; omega
def rotS (rs : List (ByteArray × ByteArray)) (k : Nat) : List ByteArray := (rs.take k).map fun r => mk (rotT r)
theorem rotS_next {rs : List (ByteArray × ByteArray)} {k : Nat} (h : k < rs.length) : rotS rs k ++ [mk (rotT rs[k])] = rotS rs (k + 1) := by
  unfold rotS
  rw [List.take_succ_eq_append_getElem h, List.map_append]; rfl
theorem rotS_len (rs : List (ByteArray × ByteArray)) (k : Nat) (h : k ≤ rs.length) : (rotS rs k).length = k := by
  unfold rotS; rw [List.length_map, List.length_take]; omega
theorem rotS_join (rs : List (ByteArray × ByteArray)) (k : Nat) : Lib.join ((rotS rs k).map tl) (tl ⟨#[44]⟩) = rotTo rs k := by
  unfold rotS rotTo
  rw [List.map_map, show tl (⟨#[44]⟩ : ByteArray) = [44] from rfl]
  have : (tl ∘ fun r : ByteArray × ByteArray => mk (rotT r)) = rotT := by funext r; exact tl_mk _
  rw [this]
set_option maxHeartbeats 4000000 in
set_option maxRecDepth 100000 in
theorem formatWheels_yes (w : World) (A : Option Addr) (cap : Nat) (rs : List (ByteArray × ByteArray)) (p : ByteArray) (h : Rd w w.heap.size A (rotV rs)) (hc : rs.length ≤ cap) (hv : WheelsV rs p) :
    Calls Tryz.prog 64 #[.agg #[.slice A rs.length cap, .string p]] w fun e w' => e = .returned (.string (mk (whlT rs p))) ∧ Below w.heap.size w w' := by
  obtain ⟨iS, hi', hz0, hz1, hz2⟩ := info_parts Tryz.infoS
  have HI := Lib.hid hi'; have HZ0 := Lib.hid hz0; have HZ1 := Lib.hid hz1; have HZ2 := Lib.hid hz2
  clear hi' hz0 hz1 hz2
  obtain ⟨w0, hw0⟩ : ∃ w0, w0 = w.alloc (.cells #[.slice A rs.length cap, .string p] 25) := ⟨_, rfl⟩
  have hb0 : Below w.heap.size w w0 := by rw [hw0]; exact (Below.refl _ _).alloc (Nat.le_refl _) _
  have h01 : w0.cell? ⟨w.heap.size, 0, none⟩ = some (.slice A rs.length cap) ∧ w0.cell? ⟨w.heap.size, 1, none⟩ = some (.string p) := by rw [hw0]; exact ⟨by simp, by simp⟩
  obtain ⟨hv1, hv2, hv3, hv4⟩ := hv
  have hcon := wheelsValid_any w0 A cap rs p true ((h.below hb0).mono hb0.size) hc (by omega) (Iff.intro (fun _ => ⟨hv1, hv2, hv3, hv4⟩) (fun _ => rfl))
  have hpz : p.size ≤ 10 := by obtain ⟨q, hq, _, _, rfl⟩ := hv3; rw [pT_size, hq.len]; exact Nat.le_refl _
  have hzz : (mk (rotTo rs rs.length)).size ≤ 60 := by rw [size_mk]; have := rotTo_len hv4 rs.length (Nat.le_refl _); omega
  have hend : mk (rotTo rs rs.length) ++ ⟨#[47]⟩ ++ p = mk (whlT rs p) := by
    unfold whlT
    simp only [append_tl, tl_mk]
    rw [show tl (⟨#[47]⟩ : ByteArray) = [47] from rfl]; simp
  have hfr : ∀ k (hk : k < rs.length) w', Calls Tryz.prog 98 #[.agg #[.string rs[k].1, .string rs[k].2]] w' fun e w'' => e = .returned (.string (mk (rotT rs[k]))) ∧ Below w'.heap.size w' w'' := fun k hk w' => formatRotor_yes w' _ _ (hv4 _ (List.getElem_mem hk))
  have hrz : ∀ k (hk : k < rs.length), (mk (rotT rs[k])).size ≤ 14 := fun k hk => by rw [size_mk]; exact rotT_len (hv4 _ (List.getElem_mem hk))
  have hsn : ∀ k (hk : k < rs.length), rotS rs k ++ [mk (rotT rs[k])] = rotS rs (k + 1) := fun k hk => rotS_next hk
  have hsl : ∀ k, k ≤ rs.length → (rotS rs k).length = k := rotS_len rs
  have hjn := rotS_join rs rs.length
  have hsne : rotS rs rs.length ≠ [] := fun e => by have := hsl _ (Nat.le_refl _); rw [e, List.length_nil] at this; omega
  have hjz : (Lib.join ((rotS rs rs.length).map tl) (tl ⟨#[44]⟩)).length ≤ 1000000 := by rw [hjn]; have := rotTo_len hv4 rs.length (Nat.le_refl _); omega
  obtain ⟨R, hR⟩ : ∃ R, R = mk (whlT rs p) := ⟨_, rfl⟩
  rw [← hR] at hend ⊢
  obtain ⟨G, hG⟩ : ∃ G, G = rotS rs := ⟨_, rfl⟩
  have hG0 : G 0 = [] := by rw [hG]; rfl
  rw [← hG] at hsn hsl hjn hsne hjz
  obtain ⟨M, hM⟩ : ∃ M, M = rs.length := ⟨_, rfl⟩
  have HR := Lib.hid h; have HB0 := Lib.hid hb0; have HM := Lib.hid hM
  rw [← hM] at hc hv1 hv2 h01 hw0 hcon hend hzz hjn hsne hjz ⊢
  have H01 := Lib.hid h01; have HCON := Lib.hid hcon; have HSN := Lib.hid hsn; have HSL := Lib.hid hsl; have HEND := Lib.hid hend; have HFR := Lib.hid hfr; have HRZ := Lib.hid hrz; have HG0 := Lib.hid hG0; have HJN := Lib.hid hjn; have HNE := Lib.hid hsne; have HJZ := Lib.hid hjz
  obtain ⟨c0, c1⟩ := h01
  clear h hb0 hM hcon hsn hsl hend hfr hrz hv3 hv4 hR hG hG0 hjn hsne hjz
  obtain ⟨J, hJ⟩ : ∃ J, J = mk (rotTo rs M) := ⟨_, rfl⟩
  rw [← hJ] at hzz HEND
  have HJ := Lib.hid hJ
  clear hJ
  obtain ⟨P, hP⟩ : ∃ P, P = w.heap.size := ⟨_, rfl⟩
  go_enter Tryz.func64, Tryz.ntmps64
  go_wp2_with fail
  rw [← hw0]
  rw [← hP] at H01 c0 c1 ⊢
  clear hw0 hP
  go_wp2_with fail
  refine HCON.out.mono ?_
  rintro _ w1 ⟨rfl, hb1⟩
  have HB1 := Lib.hid (HB0.out.trans (hb1.mono HB0.out.size)); have HC1 := Lib.hid (two_below hb1 H01.out); have HR1 := Lib.hid ((HR.out.below HB0.out).mono HB0.out.size |>.below hb1 |>.mono hb1.size); clear hb1 HB0 H01 c0 c1 HCON HR
  obtain ⟨B, hB⟩ : ∃ B, B = w1.heap.size := ⟨_, rfl⟩
  have HBE := Lib.hid hB
  clear hB
  obtain ⟨c0, c1⟩ := HC1.out
  go_wp2_with fail
  clear c0 c1
  go_loopw [3, 12] (fun o i wr => ∃ k : Nat, k ≤ M ∧ i = .int .i64 k ∧ wr.ownsRow B 9 1 o k (strV (G k)) ∧ Below w1.heap.size w1 wr) (fun _ i _ => M - (intOf i).toNat)
  case atStart => exact ⟨0, Nat.zero_le _, rfl, by rw [HG0.out]; exact World.ownsRow_nil _ _ _ _, Below.refl _ _⟩
  case round =>
    obtain ⟨k, hk, rfl, hown, hbl⟩ := hrel
    have HO := Lib.hid hown; have HBL := Lib.hid hbl; clear hown hbl
    obtain ⟨A3, c3, e3⟩ := slot_slice HO.out
    subst e3
    have hbw : B ≤ wr.heap.size := by rw [HBE.out]; exact HBL.out.size
    by_cases hlt : k < M
    · have hkr : k < rs.length := by have := HM.out; omega
      obtain ⟨b0, off, rfl, _, c0, c1⟩ := (HR1.out.below HBL.out).rot hkr
      have hcon := HFR.out k hkr
      have hrz := HRZ.out k hkr
      have hst := HSN.out k hkr
      generalize mk (rotT rs[k]) = T at hcon hrz hst
      generalize rs[k] = r at c0 c1 hcon
      obtain ⟨a, n⟩ := r
      simp only at c0 c1 hcon
      have HCON := Lib.hid hcon; have HST := Lib.hid hst; clear hcon hst hkr
      have hb2 : Below w1.heap.size w1 (wr.alloc (.cells #[.string a, .string n] 142)) := HBL.out.alloc HBL.out.size _
      have HB2 := Lib.hid hb2; have HO2 := Lib.hid (HO.out.alloc (.cells #[.string a, .string n] 142)); clear hb2
      go_wp2_with fail
      refine (HCON.out _).mono ?_
      rintro _ w3 ⟨rfl, hb3⟩
      have HB3 := Lib.hid (HB2.out.trans (hb3.mono HB2.out.size)); have HO3 := Lib.hid (ownsRow_below HO2.out hb3)
      have hb3w : B ≤ w3.heap.size := by rw [HBE.out]; exact HB3.out.size
      clear hb3 c0 c1 HB2 HO2 HO HBL
      go_wp2_with (at_builtin; refine wpList_append_own _ rfl _ _ 33 rfl B 9 iS (.string ByteArray.empty) 1 16 Tryz.undS HI.out HZ0.out HZ1.out HZ2.out rfl (by decide) _ k _ rfl (HO3.out.alloc _) ⟨w3.heap.size, 0, none⟩ 1 1 [.string T] rfl rfl (one_new w3 (.string T) 9) one_cell (by unfold maxLen; omega) (by omega) (by simp; omega) ?_)
      intro v' w7 ho' hg' _
      have hel : strV (G k) ++ [Value.string T] = strV (G (k + 1)) := by rw [← HST.out]; simp [strV]
      rw [hel] at ho'
      have hb7 : Below w1.heap.size w1 w7 := (HB3.out.alloc HB3.out.size _).grown hg' (Nat.le_trans HB3.out.size (by simp)) fun k' e => by have := (HO3.out.lt k' e).1; have := HBE.out; omega
      have HO7 := Lib.hid ho'; have HB7 := Lib.hid hb7; clear ho' hg' hb7 hel
      go_wp2_with fail
      go_roundw
      case rel => exact ⟨k + 1, by omega, by go_num, HO7.out, HB7.out⟩
      case measure => simp [intOf]; omega
    · obtain rfl : k = M := by omega
      obtain ⟨e0, e1⟩ := two_below HBL.out HC1.out
      have hgl := HSL.out k (by have := HM.out; omega)
      have hod := HO.out.drew
      have hjo := join_own wr.drew B A3 c3 (G k) ⟨#[44]⟩ (by rw [hgl]; exact hod) HNE.out (by rw [hgl]; omega) HJZ.out
      rw [HJN.out, hgl, ← HJ.out] at hjo
      have hbd : Below wr.heap.size wr wr.drew := (Below.refl _ _).drew
      have HJO := Lib.hid hjo; have HE := Lib.hid HEND.out
      have hs1 : ¬ 9223372036854775807 < J.size + 1 := by omega
      have hs2 : ¬ 9223372036854775807 < J.size + 1 + p.size := by omega
      clear hjo hod hgl
      go_wp2_with fail
      go_region_held3 (fun W => W.cell? ⟨P, 1, none⟩ = some (.string p) ∧ Below wr.heap.size wr W) (first | assumption | exact ⟨e1, hbd⟩ | exact one_keep2 (by assumption) (by assumption)) (first | (go_at_call 27; refine HJO.out.mono ?_; rintro _ w8 ⟨rfl, hb8⟩) | fail)
      all_goals
        have HB8 := Lib.hid (HB1.out.trans ((HBL.out.trans ((below_of_drew2 hb8).mono HBL.out.size)).mono HB1.out.size))
        clear hb8 e0 e1 hbd
        go_wp2_with fail
        go_ret
        exact ⟨by rw [← HE.out]; rfl, HB8.out⟩
def WinV (rs : List (ByteArray × ByteArray)) (p g : ByteArray) : Prop := WheelsV rs p ∧ g.size = rs.length ∧ wv (tl g) = true
def MachV (rs : List (ByteArray × ByteArray)) (p g l : ByteArray) : Prop := WinV rs p g ∧ IsBoard l
def machT (rs : List (ByteArray × ByteArray)) (p g : ByteArray) (q : List Nat) : List UInt8 := whlT rs p ++ 59 :: (tl g ++ 59 :: plugT q)
theorem machT_is (rs : List (ByteArray × ByteArray)) (p g : ByteArray) (q : List Nat) : mk (whlT rs p) ++ ⟨#[59]⟩ ++ g ++ ⟨#[59]⟩ ++ mk (plugT q) = mk (machT rs p g q) := by
  unfold machT
  simp only [append_tl, tl_mk]
  rw [show tl (⟨#[59]⟩ : ByteArray) = [59] from rfl]; simp
theorem whlT_len {rs : List (ByteArray × ByteArray)} {p : ByteArray} (h : WheelsV rs p) : (whlT rs p).length ≤ 60 := by
  obtain ⟨h1, h2, ⟨q, hq, _, _, e⟩, h4⟩ := h
  unfold whlT
  have := rotTo_len h4 rs.length (Nat.le_refl _)
  rw [List.length_append, List.length_cons, length_tl, e, pT_size, hq.len]; omega
theorem four_below {w w' : World} {a1 a2 a3 a4 : Addr} {u1 u2 u3 u4 : Value} (hb : Below w.heap.size w w') (h : w.cell? a1 = some u1 ∧ w.cell? a2 = some u2 ∧ w.cell? a3 = some u3 ∧ w.cell? a4 = some u4) : w'.cell? a1 = some u1 ∧ w'.cell? a2 = some u2 ∧ w'.cell? a3 = some u3 ∧ w'.cell? a4 = some u4 :=
  ⟨(hb.cell (World.block_lt_of_cell? _ _ h.1)).trans h.1, (hb.cell (World.block_lt_of_cell? _ _ h.2.1)).trans h.2.1, (hb.cell (World.block_lt_of_cell? _ _ h.2.2.1)).trans h.2.2.1, (hb.cell (World.block_lt_of_cell? _ _ h.2.2.2)).trans h.2.2.2⟩
set_option maxHeartbeats 4000000 in
set_option maxRecDepth 100000 in
theorem windowsValid_any (w : World) (A : Option Addr) (cap : Nat) (rs : List (ByteArray × ByteArray)) (p g : ByteArray) (b : Bool) (h : Rd w w.heap.size A (rotV rs)) (hc : rs.length ≤ cap) (hl : rs.length ≤ 100) (hb : b = true ↔ WinV rs p g) :
    Calls Tryz.prog 79 #[.agg #[.slice A rs.length cap, .string p], .string g] w fun e w' => e = .returned (.bool b) ∧ Below w.heap.size w w' := by
  obtain ⟨w0, hw0⟩ : ∃ w0, w0 = w.alloc (.cells #[.slice A rs.length cap, .string p] 25) := ⟨_, rfl⟩
  have hb0 : Below w.heap.size w w0 := by rw [hw0]; exact (Below.refl _ _).alloc (Nat.le_refl _) _
  have h01 : w0.cell? ⟨w.heap.size, 0, none⟩ = some (.slice A rs.length cap) ∧ w0.cell? ⟨w.heap.size, 1, none⟩ = some (.string p) := by rw [hw0]; exact ⟨by simp, by simp⟩
  have h0 := (h.below hb0).mono hb0.size
  obtain ⟨M, hM⟩ : ∃ M, M = rs.length := ⟨_, rfl⟩
  unfold WinV at hb
  rw [← hM] at hb
  by_cases hv : WheelsV rs p
  · have hcon := wheelsValid_any w0 A cap rs p true h0 hc hl (Iff.intro (fun _ => hv) (fun _ => rfl))
    have HB0 := Lib.hid hb0; have HCON := Lib.hid hcon; have HM := Lib.hid hM
    rw [← hM] at hc hl h01 hw0 HCON ⊢
    have H01 := Lib.hid h01
    obtain ⟨c0, c1⟩ := h01
    clear h h0 hb0 hcon hM
    obtain ⟨P, hP⟩ : ∃ P, P = w.heap.size := ⟨_, rfl⟩
    go_enter Tryz.func79, Tryz.ntmps79
    go_wp2_with fail
    rw [← hw0]
    rw [← hP] at H01 c0 c1 ⊢
    clear hw0 hP
    go_wp2_with fail
    refine HCON.out.mono ?_
    rintro _ w1 ⟨rfl, hb1⟩
    have HB1 := Lib.hid (HB0.out.trans (hb1.mono HB0.out.size))
    obtain ⟨d0, d1⟩ := two_below hb1 H01.out
    clear hb1 HB0 H01 c0 c1 HCON
    by_cases hz : g.size = M
    · have hwb : wv (tl g) = b := by
        cases b with
        | true => exact (hb.1 rfl).2.2
        | false => rw [Bool.eq_false_iff]; intro e; have := hb.2 ⟨hv, by omega, e⟩; cases this
      have hze : (((g.size : Nat) : Int) == ((M : Nat) : Int)) = true := by simp; omega
      have HWB := Lib.hid hwb; clear hwb hb hv hz
      go_wp2_with fail
      refine (wordValid_is _ b _ HWB.out).mono ?_
      rintro _ _ ⟨rfl, rfl⟩
      go_wp2_with fail
      go_ret
      exact ⟨rfl, HB1.out⟩
    · have hbf : b = false := by rw [Bool.eq_false_iff]; exact fun e => hz (by have := (hb.1 e).2.1; omega)
      subst hbf
      have hze : (((g.size : Nat) : Int) == ((M : Nat) : Int)) = false := by rw [beq_eq_false_iff_ne]; omega
      clear hb hv hz
      go_wp2_with fail
      go_ret
      exact ⟨rfl, HB1.out⟩
  · have hcon := wheelsValid_any w0 A cap rs p false h0 hc hl (Iff.intro (fun h => Bool.noConfusion h) (fun h => absurd h hv))
    have HB0 := Lib.hid hb0; have HCON := Lib.hid hcon; have HM := Lib.hid hM
    rw [← hM] at hc hl h01 hw0 HCON ⊢
    have H01 := Lib.hid h01
    obtain ⟨c0, c1⟩ := h01
    clear h h0 hb0 hcon hM
    obtain ⟨P, hP⟩ : ∃ P, P = w.heap.size := ⟨_, rfl⟩
    go_enter Tryz.func79, Tryz.ntmps79
    go_wp2_with fail
    rw [← hw0]
    rw [← hP] at H01 c0 c1 ⊢
    clear hw0 hP
    go_wp2_with fail
    refine HCON.out.mono ?_
    rintro _ w1 ⟨rfl, hb1⟩
    have HB1 := Lib.hid (HB0.out.trans (hb1.mono HB0.out.size))
    obtain ⟨d0, d1⟩ := two_below hb1 H01.out
    clear hb1 HB0 H01 c0 c1 HCON
    have hbf : b = false := by rw [Bool.eq_false_iff]; exact fun e => hv (hb.1 e).1
    subst hbf
    clear hb hv
    go_wp2_with fail
    go_ret
    exact ⟨rfl, HB1.out⟩
set_option maxHeartbeats 4000000 in
set_option maxRecDepth 100000 in
theorem machineValid_any (w : World) (A : Option Addr) (cap : Nat) (rs : List (ByteArray × ByteArray)) (p g l : ByteArray) (b : Bool) (h : Rd w w.heap.size A (rotV rs)) (hc : rs.length ≤ cap) (hl : rs.length ≤ 100) (hb : b = true ↔ MachV rs p g l) :
    Calls Tryz.prog 46 #[.agg #[.slice A rs.length cap, .string p, .string g, .string l]] w fun e w' => e = .returned (.bool b) ∧ Below w.heap.size w w' := by
  obtain ⟨w0, hw0⟩ : ∃ w0, w0 = w.alloc (.cells #[.slice A rs.length cap, .string p, .string g, .string l] 27) := ⟨_, rfl⟩
  have hb0 : Below w.heap.size w w0 := by rw [hw0]; exact (Below.refl _ _).alloc (Nat.le_refl _) _
  have h01 : w0.cell? ⟨w.heap.size, 0, none⟩ = some (.slice A rs.length cap) ∧ w0.cell? ⟨w.heap.size, 1, none⟩ = some (.string p) ∧ w0.cell? ⟨w.heap.size, 2, none⟩ = some (.string g) ∧ w0.cell? ⟨w.heap.size, 3, none⟩ = some (.string l) := by rw [hw0]; exact ⟨by simp, by simp, by simp, by simp⟩
  have h0 := (h.below hb0).mono hb0.size
  obtain ⟨M, hM⟩ : ∃ M, M = rs.length := ⟨_, rfl⟩
  by_cases hv : WinV rs p g
  · have hcon := windowsValid_any w0 A cap rs p g true h0 hc hl (Iff.intro (fun _ => hv) (fun _ => rfl))
    have hpl := fun w' => plugsValid_any w' l b (hb.trans ⟨fun h => h.2, fun h => ⟨hv, h⟩⟩)
    have HPL := Lib.hid hpl
    clear hpl h h0
    have HB0 := Lib.hid hb0; have HCON := Lib.hid hcon; have HM := Lib.hid hM
    rw [← hM] at hc hl h01 hw0 HCON ⊢
    have H01 := Lib.hid h01
    obtain ⟨c0, c1, c2, c3⟩ := h01
    clear hb0 hcon hM
    obtain ⟨P, hP⟩ : ∃ P, P = w.heap.size := ⟨_, rfl⟩
    go_enter Tryz.func46, Tryz.ntmps46
    go_wp2_with fail
    rw [← hw0]
    rw [← hP] at H01 c0 c1 c2 c3 ⊢
    clear hw0 hP
    go_wp2_with fail
    refine HCON.out.mono ?_
    rintro _ w1 ⟨rfl, hb1⟩
    have HB1 := Lib.hid (HB0.out.trans (hb1.mono HB0.out.size))
    have HB01 := Lib.hid hb1
    obtain ⟨d0, d1, d2, d3⟩ := four_below hb1 H01.out
    clear hb1 HB0 H01 c0 c1 c2 c3 HCON
    go_wp2_with fail
    refine (HPL.out _).mono ?_
    rintro _ w2 ⟨rfl, hb2⟩
    have HB2 := Lib.hid (HB1.out.trans (hb2.mono HB1.out.size)); clear hb2
    go_wp2_with fail
    go_ret
    exact ⟨rfl, HB2.out⟩
  · have hcon := windowsValid_any w0 A cap rs p g false h0 hc hl (Iff.intro (fun h => Bool.noConfusion h) (fun h => absurd h hv))
    have hbf : b = false := by rw [Bool.eq_false_iff]; exact fun e => hv (hb.1 e).1
    subst hbf
    clear h h0 hb hv
    have HB0 := Lib.hid hb0; have HCON := Lib.hid hcon; have HM := Lib.hid hM
    rw [← hM] at hc hl h01 hw0 HCON ⊢
    have H01 := Lib.hid h01
    obtain ⟨c0, c1, c2, c3⟩ := h01
    clear hb0 hcon hM
    obtain ⟨P, hP⟩ : ∃ P, P = w.heap.size := ⟨_, rfl⟩
    go_enter Tryz.func46, Tryz.ntmps46
    go_wp2_with fail
    rw [← hw0]
    rw [← hP] at H01 c0 c1 c2 c3 ⊢
    clear hw0 hP
    go_wp2_with fail
    refine HCON.out.mono ?_
    rintro _ w1 ⟨rfl, hb1⟩
    have HB1 := Lib.hid (HB0.out.trans (hb1.mono HB0.out.size))
    have HB01 := Lib.hid hb1
    obtain ⟨d0, d1, d2, d3⟩ := four_below hb1 H01.out
    clear hb1 HB0 H01 c0 c1 c2 c3 HCON
    go_wp2_with fail
    go_ret
    exact ⟨rfl, HB1.out⟩
set_option maxHeartbeats 4000000 in
set_option maxRecDepth 100000 in
theorem formatMachine_yes (w : World) (A : Option Addr) (cap : Nat) (rs : List (ByteArray × ByteArray)) (p g : ByteArray) (q : List Nat) (h : Rd w w.heap.size A (rotV rs)) (hc : rs.length ≤ cap) (hw : WinV rs p g) (hq : Prm q) (hi : invP q = q) :
    Calls Tryz.prog 34 #[.agg #[.slice A rs.length cap, .string p, .string g, .string (pT q)]] w fun e w' => e = .returned (.string (mk (machT rs p g q))) ∧ Below w.heap.size w w' := by
  have hl : rs.length ≤ 100 := by have := hw.1.2.1; omega
  obtain ⟨w0, hw0⟩ : ∃ w0, w0 = w.alloc (.cells #[.slice A rs.length cap, .string p, .string g, .string (pT q)] 27) := ⟨_, rfl⟩
  have hb0 : Below w.heap.size w w0 := by rw [hw0]; exact (Below.refl _ _).alloc (Nat.le_refl _) _
  have h01 : w0.cell? ⟨w.heap.size, 0, none⟩ = some (.slice A rs.length cap) ∧ w0.cell? ⟨w.heap.size, 1, none⟩ = some (.string p) ∧ w0.cell? ⟨w.heap.size, 2, none⟩ = some (.string g) ∧ w0.cell? ⟨w.heap.size, 3, none⟩ = some (.string (pT q)) := by rw [hw0]; exact ⟨by simp, by simp, by simp, by simp⟩
  have h0 := (h.below hb0).mono hb0.size
  obtain ⟨M, hM⟩ : ∃ M, M = rs.length := ⟨_, rfl⟩
  have hcon := machineValid_any w0 A cap rs p g (pT q) true h0 hc hl (Iff.intro (fun _ => ⟨hw, q, hq, hi, rfl⟩) (fun _ => rfl))
  have hfw := fun (w' : World) (h' : Rd w' w'.heap.size A (rotV rs)) => formatWheels_yes w' A cap rs p h' hc hw.1
  have hfp := fun w' => formatPlugs_yes w' q hq hi
  have z1 := whlT_len hw.1
  have z2 := plugT_len q
  have z3 : g.size ≤ 3 := by have := hw.2.1; have := hw.1.2.1; omega
  have hend := machT_is rs p g q
  have zw : (mk (whlT rs p)).size ≤ 60 := by rw [size_mk]; exact z1
  have zp : (mk (plugT q)).size ≤ 40 := by rw [size_mk]; exact z2
  obtain ⟨R, hR⟩ : ∃ R, R = mk (machT rs p g q) := ⟨_, rfl⟩
  rw [← hR] at hend ⊢
  generalize mk (whlT rs p) = T1 at hfw zw hend
  generalize mk (plugT q) = T2 at hfp zp hend
  rw [← hM] at hfw
  have HFW := Lib.hid hfw; have HFP := Lib.hid hfp; have HEND := Lib.hid hend; have HRD := Lib.hid h0
  clear h h0 hfw hfp hend z1 z2 hw hq hi hR
  have HB0 := Lib.hid hb0; have HCON := Lib.hid hcon; have HM := Lib.hid hM
  rw [← hM] at hc hl h01 hw0 HCON ⊢
  have H01 := Lib.hid h01
  obtain ⟨c0, c1, c2, c3⟩ := h01
  clear hb0 hcon hM
  obtain ⟨P, hP⟩ : ∃ P, P = w.heap.size := ⟨_, rfl⟩
  go_enter Tryz.func34, Tryz.ntmps34
  go_wp2_with fail
  rw [← hw0]
  rw [← hP] at H01 c0 c1 c2 c3 ⊢
  clear hw0 hP
  go_wp2_with fail
  refine HCON.out.mono ?_
  rintro _ w1 ⟨rfl, hb1⟩
  have HB1 := Lib.hid (HB0.out.trans (hb1.mono HB0.out.size))
  have HB01 := Lib.hid hb1
  obtain ⟨d0, d1, d2, d3⟩ := four_below hb1 H01.out
  clear hb1 HB0 H01 c0 c1 c2 c3 HCON
  have hcw := HFW.out w1.drew ((HRD.out.below HB01.out).mono HB01.out.size)
  have HCW := Lib.hid hcw; clear hcw
  have hbd : Below w1.heap.size w1 w1.drew := (Below.refl _ _).drew
  have y1 : ¬ 9223372036854775807 < T1.size + 1 := by omega
  have y2 : ¬ 9223372036854775807 < T1.size + 1 + g.size := by omega
  have y3 : ¬ 9223372036854775807 < T1.size + 1 + g.size + 1 := by omega
  have y4 : ¬ 9223372036854775807 < T1.size + 1 + g.size + 1 + T2.size := by omega
  go_wp2_with fail
  go_region_held3 (fun W => W.cell? ⟨P, 0, none⟩ = some (.slice A M cap) ∧ W.cell? ⟨P, 1, none⟩ = some (.string p) ∧ W.cell? ⟨P, 2, none⟩ = some (.string g) ∧ W.cell? ⟨P, 3, none⟩ = some (.string (pT q)) ∧ Below w1.heap.size w1 W) (first | assumption | exact ⟨d0, d1, d2, d3, hbd⟩ | exact quad_keep2 (by assumption) (by assumption)) (first | (go_at_call 64; refine HCW.out.mono ?_; rintro _ w8 ⟨rfl, hb8⟩) | (go_at_call 9; refine (HFP.out _).mono ?_; rintro _ w9 ⟨rfl, hb9⟩) | fail)
  all_goals
    have HB8 := Lib.hid (HB1.out.trans ((below_of_drew2 hb8).mono HB1.out.size))
    have HB9 := Lib.hid (HB8.out.trans (hb9.mono HB8.out.size))
    clear hb8 hb9 d0 d1 d2 d3 hbd
    go_wp2_with fail
    go_ret
    exact ⟨by rw [← HEND.out]; rfl, HB9.out⟩
set_option maxHeartbeats 4000000 in
set_option maxRecDepth 100000 in
theorem sWindowsValid_any (w : World) (A : Option Addr) (cap : Nat) (rs : List (ByteArray × ByteArray)) (p g : ByteArray) (b : Bool) (h : Rd w w.heap.size A (rotV rs)) (hc : rs.length ≤ cap) (hl : rs.length ≤ 100) (hb : b = true ↔ WinV rs p g) :
    Calls Tryz.prog 142 #[.agg #[.slice A rs.length cap, .string p], .string g] w fun e w' => e = .returned (.bool b) ∧ Below w.heap.size w w' := by
  obtain ⟨w0, hw0⟩ : ∃ w0, w0 = w.alloc (.cells #[.slice A rs.length cap, .string p] 25) := ⟨_, rfl⟩
  have hb0 : Below w.heap.size w w0 := by rw [hw0]; exact (Below.refl _ _).alloc (Nat.le_refl _) _
  have h01 : w0.cell? ⟨w.heap.size, 0, none⟩ = some (.slice A rs.length cap) ∧ w0.cell? ⟨w.heap.size, 1, none⟩ = some (.string p) := by rw [hw0]; exact ⟨by simp, by simp⟩
  have h0 := (h.below hb0).mono hb0.size
  obtain ⟨M, hM⟩ : ∃ M, M = rs.length := ⟨_, rfl⟩
  unfold WinV at hb
  rw [← hM] at hb
  by_cases hv : WheelsV rs p
  · have hcon := sWheelsValid_any w0 A cap rs p true h0 hc hl (Iff.intro (fun _ => hv) (fun _ => rfl))
    have HB0 := Lib.hid hb0; have HCON := Lib.hid hcon; have HM := Lib.hid hM
    rw [← hM] at hc hl h01 hw0 HCON ⊢
    have H01 := Lib.hid h01
    obtain ⟨c0, c1⟩ := h01
    clear h h0 hb0 hcon hM
    obtain ⟨P, hP⟩ : ∃ P, P = w.heap.size := ⟨_, rfl⟩
    go_enter Tryz.func142, Tryz.ntmps142
    go_wp2_with fail
    rw [← hw0]
    rw [← hP] at H01 c0 c1 ⊢
    clear hw0 hP
    go_wp2_with fail
    refine HCON.out.mono ?_
    rintro _ w1 ⟨rfl, hb1⟩
    have HB1 := Lib.hid (HB0.out.trans (hb1.mono HB0.out.size))
    obtain ⟨d0, d1⟩ := two_below hb1 H01.out
    clear hb1 HB0 H01 c0 c1 HCON
    by_cases hwv : wv (tl g) = true
    · have hbe : (((g.size : Nat) : Int) == ((M : Nat) : Int)) = b := by
        cases b with
        | true => have := (hb.1 rfl).2.1; simp; omega
        | false =>
          rw [beq_eq_false_iff_ne]; intro e
          have := hb.2 ⟨hv, by omega, hwv⟩
          cases this
      have HBE := Lib.hid hbe; have HWV := Lib.hid hwv; clear hbe hwv hb hv
      go_wp2_with fail
      refine (sWordValid_is _ true _ HWV.out).mono ?_
      rintro _ _ ⟨rfl, rfl⟩
      go_wp2_with fail
      go_ret
      exact ⟨by rw [← HBE.out]; rfl, HB1.out⟩
    · have hbf : b = false := by rw [Bool.eq_false_iff]; exact fun e => hwv (hb.1 e).2.2
      subst hbf
      have HWV := Lib.hid (Bool.eq_false_iff.2 hwv); clear hwv hb hv
      go_wp2_with fail
      refine (sWordValid_is _ false _ HWV.out).mono ?_
      rintro _ _ ⟨rfl, rfl⟩
      go_wp2_with fail
      go_ret
      exact ⟨rfl, HB1.out⟩
  · have hcon := sWheelsValid_any w0 A cap rs p false h0 hc hl (Iff.intro (fun h => Bool.noConfusion h) (fun h => absurd h hv))
    have HB0 := Lib.hid hb0; have HCON := Lib.hid hcon; have HM := Lib.hid hM
    rw [← hM] at hc hl h01 hw0 HCON ⊢
    have H01 := Lib.hid h01
    obtain ⟨c0, c1⟩ := h01
    clear h h0 hb0 hcon hM
    obtain ⟨P, hP⟩ : ∃ P, P = w.heap.size := ⟨_, rfl⟩
    go_enter Tryz.func142, Tryz.ntmps142
    go_wp2_with fail
    rw [← hw0]
    rw [← hP] at H01 c0 c1 ⊢
    clear hw0 hP
    go_wp2_with fail
    refine HCON.out.mono ?_
    rintro _ w1 ⟨rfl, hb1⟩
    have HB1 := Lib.hid (HB0.out.trans (hb1.mono HB0.out.size))
    obtain ⟨d0, d1⟩ := two_below hb1 H01.out
    clear hb1 HB0 H01 c0 c1 HCON
    have hbf : b = false := by rw [Bool.eq_false_iff]; exact fun e => hv (hb.1 e).1
    subst hbf
    clear hb hv
    go_wp2_with fail
    go_ret
    exact ⟨rfl, HB1.out⟩
set_option maxHeartbeats 4000000 in
set_option maxRecDepth 100000 in
theorem sMachineValid_any (w : World) (A : Option Addr) (cap : Nat) (rs : List (ByteArray × ByteArray)) (p g l : ByteArray) (b : Bool) (h : Rd w w.heap.size A (rotV rs)) (hc : rs.length ≤ cap) (hl : rs.length ≤ 100) (hb : b = true ↔ MachV rs p g l) :
    Calls Tryz.prog 87 #[.agg #[.slice A rs.length cap, .string p, .string g, .string l]] w fun e w' => e = .returned (.bool b) ∧ Below w.heap.size w w' := by
  obtain ⟨w0, hw0⟩ : ∃ w0, w0 = w.alloc (.cells #[.slice A rs.length cap, .string p, .string g, .string l] 27) := ⟨_, rfl⟩
  have hb0 : Below w.heap.size w w0 := by rw [hw0]; exact (Below.refl _ _).alloc (Nat.le_refl _) _
  have h01 : w0.cell? ⟨w.heap.size, 0, none⟩ = some (.slice A rs.length cap) ∧ w0.cell? ⟨w.heap.size, 1, none⟩ = some (.string p) ∧ w0.cell? ⟨w.heap.size, 2, none⟩ = some (.string g) ∧ w0.cell? ⟨w.heap.size, 3, none⟩ = some (.string l) := by rw [hw0]; exact ⟨by simp, by simp, by simp, by simp⟩
  have h0 := (h.below hb0).mono hb0.size
  obtain ⟨M, hM⟩ : ∃ M, M = rs.length := ⟨_, rfl⟩
  by_cases hv : WinV rs p g
  · have hcon := sWindowsValid_any w0 A cap rs p g true h0 hc hl (Iff.intro (fun _ => hv) (fun _ => rfl))
    have hpl := fun w' => sPlugsValid_any w' l b (hb.trans ⟨fun h => h.2, fun h => ⟨hv, h⟩⟩)
    have HPL := Lib.hid hpl
    clear hpl h h0
    have HB0 := Lib.hid hb0; have HCON := Lib.hid hcon; have HM := Lib.hid hM
    rw [← hM] at hc hl h01 hw0 HCON ⊢
    have H01 := Lib.hid h01
    obtain ⟨c0, c1, c2, c3⟩ := h01
    clear hb0 hcon hM
    obtain ⟨P, hP⟩ : ∃ P, P = w.heap.size := ⟨_, rfl⟩
    go_enter Tryz.func87, Tryz.ntmps87
    go_wp2_with fail
    rw [← hw0]
    rw [← hP] at H01 c0 c1 c2 c3 ⊢
    clear hw0 hP
    go_wp2_with fail
    refine HCON.out.mono ?_
    rintro _ w1 ⟨rfl, hb1⟩
    have HB1 := Lib.hid (HB0.out.trans (hb1.mono HB0.out.size))
    have HB01 := Lib.hid hb1
    obtain ⟨d0, d1, d2, d3⟩ := four_below hb1 H01.out
    clear hb1 HB0 H01 c0 c1 c2 c3 HCON
    go_wp2_with fail
    refine (HPL.out _).mono ?_
    rintro _ w2 ⟨rfl, hb2⟩
    have HB2 := Lib.hid (HB1.out.trans (hb2.mono HB1.out.size)); clear hb2
    go_wp2_with fail
    go_ret
    exact ⟨rfl, HB2.out⟩
  · have hcon := sWindowsValid_any w0 A cap rs p g false h0 hc hl (Iff.intro (fun h => Bool.noConfusion h) (fun h => absurd h hv))
    have hbf : b = false := by rw [Bool.eq_false_iff]; exact fun e => hv (hb.1 e).1
    subst hbf
    clear h h0 hb hv
    have HB0 := Lib.hid hb0; have HCON := Lib.hid hcon; have HM := Lib.hid hM
    rw [← hM] at hc hl h01 hw0 HCON ⊢
    have H01 := Lib.hid h01
    obtain ⟨c0, c1, c2, c3⟩ := h01
    clear hb0 hcon hM
    obtain ⟨P, hP⟩ : ∃ P, P = w.heap.size := ⟨_, rfl⟩
    go_enter Tryz.func87, Tryz.ntmps87
    go_wp2_with fail
    rw [← hw0]
    rw [← hP] at H01 c0 c1 c2 c3 ⊢
    clear hw0 hP
    go_wp2_with fail
    refine HCON.out.mono ?_
    rintro _ w1 ⟨rfl, hb1⟩
    have HB1 := Lib.hid (HB0.out.trans (hb1.mono HB0.out.size))
    have HB01 := Lib.hid hb1
    obtain ⟨d0, d1, d2, d3⟩ := four_below hb1 H01.out
    clear hb1 HB0 H01 c0 c1 c2 c3 HCON
    go_wp2_with fail
    go_ret
    exact ⟨rfl, HB1.out⟩
end Go.Proofs.YtnbdimbhklbadaaGreatDoor
