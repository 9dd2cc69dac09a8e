/-
  Contracts of KeyOrder and ColumnPlaces, of the program. Conditions: what each theorem names.
-/
import Derived.Test.YteeeaeidocalnaaGreatDoorKeyOrd
import Derived.Test.YteeeaeidocalnaaGreatDoorTrans4
namespace Go.Proofs.YteeeaeidocalnaaGreatDoor
open Go.RowKit Pl
set_option linter.unusedVariables false

theorem szalloc2 (w : World) (o : Obj) : (w.alloc o).heap.size = w.heap.size + 1 := by simp

set_option maxHeartbeats 4000000 in
set_option maxRecDepth 100000 in
theorem stableKey (k : ByteArray) (hv : keyV (tl k) = true) (B g base : Nat) (w : World) (hB : w.cell? ⟨B, 0, none⟩ = some (.string k)) (hne : B ≠ g)
    (ho : w.ownsRow base 3 1 (.slice (some ⟨g, 0, none⟩) k.size k.size) k.size (natV (List.range k.size))) :
    Calls Tryz.prog 111 #[.slice (some ⟨g, 0, none⟩) k.size k.size, .int .i64 k.size, .func (.func 70) #[] #[.pointer (some ⟨B, 0, none⟩)]] w
      fun e w' => e = .returned (.tuple #[]) ∧ w'.ownsRow base 3 1 (.slice (some ⟨g, 0, none⟩) k.size k.size) k.size (natV (kord (tl k))) ∧ w.grownBy w' (some g) := by
  have HI := Lib.hid (insKey k hv B g base w hB hne ho)
  obtain ⟨hw, h1, h2⟩ := keyV_iff.1 hv
  rw [length_tl] at h1 h2
  clear hv hB ho hw
  go_enter Tryz.func111, Tryz.ntmps111
  go_wp2_with fail
  go_loopw [7, 8] (fun a b wr => a = .int .i64 0 ∧ b = .int .i64 20 ∧ wr = w) (fun _ _ _ => 0)
  case atStart => exact ⟨rfl, rfl, rfl⟩
  case round =>
    obtain ⟨rfl, rfl, rfl⟩ := hrel
    go_wp2_with fail
    refine HI.out.mono ?_
    rintro _ w1 ⟨rfl, ho1, hg1⟩
    have HO := Lib.hid ho1; have HG := Lib.hid hg1; clear ho1 hg1 HI
    go_wp2_with fail
    go_loopw [6] (fun a wr => a = .int .i64 20 ∧ wr = w1) (fun _ _ => 0)
    case atStart => exact ⟨rfl, rfl⟩
    case round =>
      obtain ⟨rfl, rfl⟩ := hrel
      go_wp2_with fail
      go_end0
      exact ⟨rfl, HO.out, HG.out⟩

theorem sortStableKey (k : ByteArray) (hv : keyV (tl k) = true) (B g base : Nat) (w : World) (hB : w.cell? ⟨B, 0, none⟩ = some (.string k)) (hne : B ≠ g)
    (ho : w.ownsRow base 3 1 (.slice (some ⟨g, 0, none⟩) k.size k.size) k.size (natV (List.range k.size))) :
    Calls Tryz.prog 69 #[.slice (some ⟨g, 0, none⟩) k.size k.size, .func (.func 70) #[] #[.pointer (some ⟨B, 0, none⟩)]] w
      fun e w' => e = .returned (.tuple #[]) ∧ w'.ownsRow base 3 1 (.slice (some ⟨g, 0, none⟩) k.size k.size) k.size (natV (kord (tl k))) ∧ w.grownBy w' (some g) := by
  have HI := Lib.hid (stableKey k hv B g base w hB hne ho)
  clear hv hB ho
  go_enter Tryz.func69, Tryz.ntmps69
  go_wp2_with fail
  refine HI.out.mono ?_
  rintro _ w1 ⟨rfl, ho1, hg1⟩
  have HO := Lib.hid ho1; have HG := Lib.hid hg1; clear ho1 hg1 HI
  go_wp2_with fail
  go_end0
  exact ⟨rfl, HO.out, HG.out⟩

set_option maxHeartbeats 4000000 in
set_option maxRecDepth 100000 in
theorem keyOrder_any (w : World) (s : ByteArray) (hv : keyV (tl s) = true) :
    Calls Tryz.prog 50 #[.string s] w (Nums (kord (tl s)) w) := by
  obtain ⟨iI, hi, hz0, hz1, hz2⟩ := info_parts Tryz.infoI
  have HI := Lib.hid hi; have HZ0 := Lib.hid hz0; have HZ1 := Lib.hid hz1; have HZ2 := Lib.hid hz2
  clear hi hz0 hz1 hz2
  obtain ⟨hw, h1, h2⟩ := keyV_iff.1 hv
  have hkl := kord_length hw
  rw [length_tl] at h1 h2 hkl
  have HV := Lib.hid hv; have HKL := Lib.hid hkl; clear hv hw hkl
  have hb0 : Below w.heap.size w (w.alloc (.cells #[.string s] 9)) := (Below.refl _ _).alloc (Nat.le_refl _) _
  have HB0 := Lib.hid hb0; clear hb0
  go_enter Tryz.func50, Tryz.ntmps50
  go_wp2_with fail
  refine (keyValid_is _ true _ HV.out).mono ?_
  rintro _ _ ⟨rfl, rfl⟩
  have hmf : ∀ (fn : Fn) (first cap : Array Value) (w : World), (Instr.makeFunc fn first cap).run Tryz.prog w = .ok (.func fn first cap) w := fun _ _ _ _ => rfl
  go_wp2_with (at_make; refine wpList_make_full _ rfl _ _ 43 rfl (w.heap.size + 1) 3 iI (.int .i64 0) 1 Tryz.underlying43 HI.out HZ0.out HZ1.out .i64 .i64 _ _ s.size rfl rfl rfl rfl (by rw [HZ2.out]; omega) (by unfold maxLen; omega) (by simp) ?_; intro w2 ho2 hg2)
  rw [made_ints] at ho2
  rw [szalloc2] at ho2
  try rw [szalloc2]
  have hb2 : Below w.heap.size w w2 := Below.grown HB0.out hg2 (by simp) (by simp)
  have hc2 : w2.cell? ⟨w.heap.size, 0, none⟩ = some (.string s) := by
    refine (World.cell?_of_block (a := ⟨w.heap.size, 0, none⟩) (hg2.block w.heap.size (by simp) (by simp))).trans ?_
    simp
  have HO2 := Lib.hid ho2; have HB2 := Lib.hid hb2; have HC2 := Lib.hid hc2; clear ho2 hb2 hc2 hg2
  go_wp2_with fail
  go_loopw [13] (fun i wr => ∃ k : Nat, k ≤ s.size ∧ i = .int .i64 k ∧ wr.ownsRow (w.heap.size + 1) 3 1 (.slice (some ⟨w.heap.size + 1, 0, none⟩) s.size s.size) s.size (natV (List.range k ++ List.replicate (s.size - k) 0)) ∧ wr.cell? ⟨w.heap.size, 0, none⟩ = some (.string s) ∧ Below w.heap.size w wr) (fun i _ => s.size - (intOf i).toNat)
  case atStart => exact ⟨0, Nat.zero_le _, rfl, HO2.out, HC2.out, HB2.out⟩
  case round =>
    obtain ⟨k, hk, rfl, hown, hcell, hbl⟩ := hrel
    have HO := Lib.hid hown; have HC := Lib.hid hcell; have HBL := Lib.hid hbl; clear hown hcell hbl HO2 HC2 HB2
    by_cases hlt : k < s.size
    · have f0 := HO.out.frozenAt k
      have hnx : (List.range k ++ List.replicate (s.size - k) 0).set k k = List.range (k + 1) ++ List.replicate (s.size - (k + 1)) 0 := by
        have e1 : s.size - k = (s.size - (k + 1)) + 1 := by omega
        rw [List.set_append_right _ _ (by simp), List.length_range, Nat.sub_self, e1, List.replicate_succ, List.set_cons_zero, List.range_succ, List.append_assoc]
        rfl
      have hst := (HO.out.stored k (.int .i64 (k : Int))).1
      rw [natV_set, hnx] at hst
      obtain ⟨x1, c1⟩ : ∃ x, wr.cell? ⟨w.heap.size + 1, k, none⟩ = some x := ⟨_, by rw [HO.out.cellAt k (by omega), List.getElem?_eq_getElem (by rw [length_natV]; simp; omega)]⟩
      have hcs : (wr.setCell ⟨w.heap.size + 1, k, none⟩ (.int .i64 (k : Int))).cell? ⟨w.heap.size, 0, none⟩ = some (.string s) := by
        rw [World.cell?_setCell_other _ _ _ _ (by intro e; injection e with e; omega)]; exact HC.out
      have HST := Lib.hid hst; have HCS := Lib.hid hcs; clear hst hnx hcs
      go_wp2_with fail
      go_roundw
      case rel => exact ⟨k + 1, by omega, by go_num, HST.out, HCS.out, HBL.out.setCell (Nat.le_succ _) _⟩
      case measure => simp [intOf]; omega
    · have hke : List.range k ++ List.replicate (s.size - k) 0 = List.range s.size := by
        have : k = s.size := by omega
        subst this; simp
      have ho := HO.out
      rw [hke] at ho
      have hcon := sortStableKey s HV.out w.heap.size (w.heap.size + 1) (w.heap.size + 1) wr HC.out (by omega) ho
      have HCON := Lib.hid hcon; clear hcon ho hke
      go_wp2_with fail
      refine HCON.out.mono ?_
      rintro _ w5 ⟨rfl, ho5, hg5⟩
      have hb5 : Below w.heap.size w w5 := Below.grown HBL.out hg5 HBL.out.size (fun k' e => by injection e with e; omega)
      have HO5 := Lib.hid ho5; have HB5 := Lib.hid hb5; clear ho5 hg5 hb5 HCON
      go_wp2_with fail
      go_ret
      refine ⟨_, rfl, ?_, HB5.out⟩
      rw [HKL.out]
      exact own_mono3 HO5.out (Nat.le_succ _)

set_option maxHeartbeats 8000000 in
set_option maxRecDepth 100000 in
theorem columnPlaces_any (w : World) (s : ByteArray) (n : Nat) (hv : keyV (tl s) = true) (hn : n ≤ 200) :
    Calls Tryz.prog 23 #[.string s, .int .i64 n] w (Nums (cols (tl s) n) w) := by
  obtain ⟨iI, hi, hz0, hz1, hz2⟩ := info_parts Tryz.infoI
  have HI := Lib.hid hi; have HZ0 := Lib.hid hz0; have HZ1 := Lib.hid hz1; have HZ2 := Lib.hid hz2
  clear hi hz0 hz1 hz2
  obtain ⟨hw, h1, h2⟩ := keyV_iff.1 hv
  rw [length_tl] at h1 h2
  have hkl := kord_length hw
  rw [length_tl] at hkl
  have hkm : ∀ x (hx : x < (kord (tl s)).length), (kord (tl s))[x] < s.size := fun x hx => by
    have := (kord_mem hw (kord (tl s))[x]).1 (List.getElem_mem hx); rw [length_tl] at this; exact this
  obtain ⟨KO, hKO⟩ : ∃ KO, KO = kord (tl s) := ⟨_, rfl⟩
  have hks : ∀ x (hx : x < KO.length), colK (tl s) n x ++ colP KO[x] n s.size = colK (tl s) n (x + 1) := fun x hx => by
    subst hKO; rw [← colK_succ _ _ _ hx, length_tl]
  have hka := colK_all (tl s) n
  rw [← hKO] at hkl hkm hka
  have hkz := colK_le hv n
  have hkb : KO.length ≤ 12 := by omega
  have HV := Lib.hid hv; have HKL := Lib.hid hkl; have HKM := Lib.hid hkm; have HKS := Lib.hid hks; have HKA := Lib.hid hka; have HKZ := Lib.hid hkz
  have HSK := Lib.hid (fun w' => keyOrder_any w' s hv)
  rw [← hKO] at HSK
  clear hv hw hkl hkm hks hka hkz hKO
  go_enter Tryz.func23, Tryz.ntmps23
  go_wp2_with fail
  refine (keyValid_is _ true _ HV.out).mono ?_
  rintro _ _ ⟨rfl, rfl⟩
  go_wp2_with (at_make; refine wpList_make_own _ rfl _ _ 43 rfl w.heap.size 3 iI (.int .i64 0) 1 Tryz.underlying43 HI.out HZ0.out HZ1.out .i64 .i64 _ n rfl rfl rfl (by rw [HZ2.out]; omega) (by unfold maxLen; omega) (Nat.le_refl _) ?_; intro w1 ho1 hg1)
  have hb1 : Below w.heap.size w w1 := Below.grown (Below.refl _ _) hg1 (Nat.le_refl _) (by simp)
  have hw1 := (ho1.lt w.heap.size rfl).2
  have HO1 := Lib.hid ho1; have HB1 := Lib.hid hb1; have HW1 := Lib.hid hw1; clear ho1 hb1 hg1 hw1
  go_wp2_with fail
  refine (HSK.out _).mono ?_
  rintro _ w2 ⟨v2, rfl, ho2, hb2⟩
  obtain ⟨A2, c2, rfl, hc2, _, hr2⟩ := ownsRow_rd ho2
  have ho1 := ownsRow_below HO1.out hb2
  have hb0 := HB1.out.trans (hb2.mono HB1.out.size)
  have hg2 : ∀ g, (Value.slice A2 KO.length c2).ownBlock = some g → g ≠ w.heap.size := fun g e => by
    have := (ho2.lt g e).1; have := HW1.out; omega
  have HO2 := Lib.hid ho2; have HO1' := Lib.hid ho1; have HB2 := Lib.hid hb0; have HG2 := Lib.hid hg2; have HB1s := Lib.hid HB1.out.size; clear ho2 ho1 hb2 hb0 hg2 hr2 HSK HO1 HB1
  go_wp2_with fail
  go_loopw [5, 25] (fun o i wr => ∃ x : Nat, x ≤ KO.length ∧ i = .int .i64 x ∧ wr.ownsRow w.heap.size 3 1 o (colK (tl s) n x).length (natV (colK (tl s) n x)) ∧ wr.ownsRow w.heap.size 3 1 (.slice A2 KO.length c2) KO.length (natV KO) ∧ (∀ g, o.ownBlock = some g → (Value.slice A2 KO.length c2).ownBlock ≠ some g) ∧ Below w.heap.size w wr) (fun _ i _ => KO.length - (intOf i).toNat)
  case atStart => exact ⟨0, Nat.zero_le _, rfl, HO1'.out, own_mono3 HO2.out HB1s.out, fun g e e2 => HG2.out g e2 (by simp [Value.ownBlock] at e; exact e.symm), HB2.out⟩
  case round =>
    obtain ⟨x, hx, rfl, hown, hord, hap, hbl⟩ := hrel
    have HO := Lib.hid hown; have HR := Lib.hid hord; have HA := Lib.hid hap; have HBL := Lib.hid hbl; clear hown hord hap hbl HO1' HO2 HB2 HG2
    by_cases hlt : x < KO.length
    · obtain ⟨_, _, e4, _, _, hr4⟩ := ownsRow_rd HR.out
      simp only [Value.slice.injEq] at e4
      obtain ⟨rfl, _, rfl⟩ := e4
      obtain ⟨b, off, rfl, hbb, c0⟩ := hr4.nat hlt
      have hcm := HKM.out x hlt
      have hks := HKS.out x hlt
      obtain ⟨c, hc⟩ : ∃ c, KO[x] = c := ⟨_, rfl⟩
      rw [hc] at c0 hcm hks
      have HKSX := Lib.hid hks
      clear hr4 hc hks
      obtain ⟨E, hE⟩ : ∃ E, E = colK (tl s) n x := ⟨_, rfl⟩
      have hez := HKZ.out x
      rw [← hE] at HO HKSX hez
      have HE := Lib.hid hE; clear hE
      go_wp2_with fail
      go_loopw [5, 8] (fun o i wi => ∃ (j a : Nat) (L : List Nat), i = .int .i64 a ∧ Hid (ColTo c n s.size j a) ∧ a ≤ n + s.size ∧ j ≤ a ∧ Hid (L = E ++ (List.range j).map (fun i => c + i * s.size)) ∧ wi.ownsRow w.heap.size 3 1 o L.length (natV L) ∧ wi.ownsRow w.heap.size 3 1 (.slice (some ⟨b, off, none⟩) KO.length c2) KO.length (natV KO) ∧ (∀ g, o.ownBlock = some g → (Value.slice (some ⟨b, off, none⟩) KO.length c2).ownBlock ≠ some g) ∧ Below w.heap.size w wi) (fun _ i _ => n + s.size - (intOf i).toNat)
      case atStart => exact ⟨0, c, E, rfl, ⟨by omega, fun i hi => by omega⟩, by omega, by omega, Lib.hid (by simp), HO.out, HR.out, HA.out, HBL.out⟩
      case round =>
        obtain ⟨j, a, L, rfl, HC, ha, hja, HL, hown2, hord2, hap2, hbl2⟩ := hrel
        have HO2 := Lib.hid hown2; have HR2 := Lib.hid hord2; have HA2 := Lib.hid hap2; have HBL2 := Lib.hid hbl2; clear hown2 hord2 hap2 hbl2 HO HR HA HBL
        obtain ⟨A3, c3, e3⟩ := slot_slice HO2.out
        subst e3
        by_cases han : a < n
        · have hbw := HBL2.out.size
          have hnext := HC.out.next han
          have hln : L ++ [a] = E ++ (List.range (j + 1)).map (fun i => c + i * s.size) := by
            rw [HL.out, List.append_assoc, ← col_snoc, ← HC.out.1]
          have hpre := colP_upto (by omega : 0 < s.size) hcm HC.out han
          have hlz : L.length ≤ 200 := by
            have h3 := hpre.length_le
            have h4 := congrArg List.length HKSX.out
            have h5 := congrArg List.length hln
            have h6 := HKZ.out (x + 1)
            simp only [List.length_append, List.length_map, List.length_range, List.length_singleton] at h3 h4 h5
            omega
          have HN := Lib.hid hnext; have HLN := Lib.hid hln; clear hnext hln hpre
          go_wp2_with (at_builtin; refine wpList_append_apart rfl _ _ 43 rfl w.heap.size 3 iI (.int .i64 0) 1 8 Tryz.undI HI.out HZ0.out HZ1.out HZ2.out rfl (by decide) _ L.length _ rfl (HO2.out.alloc _) ⟨wr.heap.size, 0, none⟩ 1 1 [.int .i64 (a : Int)] rfl rfl (one_new wr _ _) nat_cell (by unfold maxLen; omega) (by omega) (by simp; omega) ?_)
          intro v' w6 ho' hg' hap'
          rw [natV_snoc, show L.length + 1 = (L ++ [a]).length by simp] at ho'
          have hb6 := (HBL2.out.alloc HBL2.out.size _).grown hg' (Nat.le_trans HBL2.out.size (by simp)) fun k' e => (HO2.out.lt k' e).1
          have hr6 : w6.ownsRow w.heap.size 3 1 (.slice (some ⟨b, off, none⟩) KO.length c2) KO.length (natV KO) := (HR2.out.alloc _).kept hg' (by
            cases hv : (Value.slice A3 L.length c3).ownBlock with
            | none => exact .inr (by simp [Value.ownBlock])
            | some g => exact .inr (HA2.out g hv))
          have ha6 : ∀ g, v'.ownBlock = some g → (Value.slice (some ⟨b, off, none⟩) KO.length c2).ownBlock ≠ some g := fun g e e2 => by
            rcases hap' g e with h | h
            · exact HA2.out g h e2
            · have h8 := (HR2.out.lt g e2).2; have h9 : wr.heap.size ≤ g := Nat.le_trans (by simp) h; omega
          have HO6 := Lib.hid ho'; have HB6 := Lib.hid hb6; have HR6 := Lib.hid hr6; have HA6 := Lib.hid ha6; clear ho' hg' hb6 hr6 ha6 hap'
          go_wp2_with fail
          go_roundw
          case rel => exact ⟨j + 1, a + s.size, L ++ [a], by go_num, HN, by omega, by omega, HLN, HO6.out, HR6.out, HA6.out, HB6.out⟩
          case measure => simp [intOf]; omega
        · have hle : L = colK (tl s) n (x + 1) := by
            rw [HL.out, ← HKSX.out]
            congr 1
            exact colP_split (by omega) hcm j HC.out.2 (by rw [← HC.out.1]; exact han)
          have HLE := Lib.hid hle; clear hle
          go_wp2_with fail
          go_roundw
          case rel => exact ⟨x + 1, by omega, by go_num, by rw [← HLE.out]; exact HO2.out, HR2.out, HA2.out, HBL2.out⟩
          case measure => simp [intOf]; omega
    · have hall := HKA.out x (by omega)
      have HALL := Lib.hid hall; clear hall
      go_wp2_with fail
      go_ret
      refine ⟨_, rfl, ?_, HBL.out⟩
      rw [← HALL.out]; exact HO.out

end Go.Proofs.YteeeaeidocalnaaGreatDoor
