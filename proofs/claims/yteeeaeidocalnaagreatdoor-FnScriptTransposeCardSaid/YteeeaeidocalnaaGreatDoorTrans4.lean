/-
  Contracts of the places of columns, of the program and of the reference. Conditions: what each theorem names.
-/
import Derived.Test.YteeeaeidocalnaaGreatDoorTrans3
import Derived.Test.YteeeaeidocalnaaGreatDoorApart
namespace Go.Proofs.YteeeaeidocalnaaGreatDoor
open Go.RowKit Pl
set_option linter.unusedVariables false

/-- the places of the first columns -/
def colK (k : List UInt8) (n x : Nat) : List Nat := ((kord k).take x).flatMap fun c => colP c n k.length
theorem colK_zero (k : List UInt8) (n : Nat) : colK k n 0 = [] := rfl
theorem colK_succ (k : List UInt8) (n x : Nat) (h : x < (kord k).length) : colK k n x ++ colP (kord k)[x] n k.length = colK k n (x + 1) := by
  unfold colK
  rw [List.take_succ_eq_append_getElem h, List.flatMap_append]
  simp
theorem colK_all (k : List UInt8) (n x : Nat) (h : (kord k).length ≤ x) : colK k n x = cols k n := by
  unfold colK cols
  rw [List.take_of_length_le h]
theorem colK_le {k : List UInt8} (hv : keyV k = true) (n x : Nat) : (colK k n x).length ≤ n := by
  have h : (colK k n x) <+: (cols k n) := by
    unfold colK cols
    refine ⟨((kord k).drop x).flatMap fun c => colP c n k.length, ?_⟩
    rw [← List.flatMap_append, List.take_append_drop]
  have := h.length_le
  rw [cols_length hv] at this
  exact this
/-- the place is behind a column's end, or the column goes on -/
def ColTo (c n m j at_ : Nat) : Prop := at_ = c + j * m ∧ ∀ i, i < j → c + i * m < n
theorem ColTo.next {c n m j a : Nat} (h : ColTo c n m j a) (hn : a < n) : ColTo c n m (j + 1) (a + m) := by
  refine ⟨by rw [h.1, Nat.succ_mul]; omega, fun i hi => ?_⟩
  rcases Nat.lt_or_ge i j with h2 | h2
  · exact h.2 i h2
  · have : i = j := by omega
    subst this; rw [← h.1]; exact hn
theorem colP_upto {c n m j a : Nat} (hm : 0 < m) (hc : c < m) (h : ColTo c n m j a) (hn : a < n) : (List.range (j + 1)).map (fun i => c + i * m) <+: colP c n m := by
  unfold colP
  have hle : j + 1 ≤ (n + (m - 1) - c) / m := by
    rw [Nat.le_div_iff_mul_le hm, Nat.succ_mul]
    have := h.1; omega
  obtain ⟨r, hr⟩ : ∃ r, (n + (m - 1) - c) / m = j + 1 + r := ⟨_, (Nat.add_sub_cancel' hle).symm⟩
  rw [hr, List.range_add (n := j + 1) (m := r), List.map_append]
  exact List.prefix_append _ _

set_option maxHeartbeats 8000000 in
set_option maxRecDepth 100000 in
theorem sColumnPlaces_any (w : World) (s : ByteArray) (n : Nat) (hv : keyV (tl s) = true) (hn : n ≤ 200) :
    Calls Tryz.prog 27 #[.string s, .int .i64 n] w (Nums (cols (tl s) n) w) := by
  obtain ⟨iI, hi, hz0, hz1, hz2⟩ := info_parts Tryz.infoI
  have HI := Lib.hid hi; have HZ0 := Lib.hid hz0; have HZ1 := Lib.hid hz1; have HZ2 := Lib.hid hz2
  clear hi hz0 hz1 hz2
  obtain ⟨hw, h1, h2⟩ := keyV_iff.1 hv
  rw [length_tl] at h1 h2
  have hkl := kord_length hw
  rw [length_tl] at hkl
  have hkm : ∀ x (hx : x < (kord (tl s)).length), (kord (tl s))[x] < s.size := fun x hx => by
    have := (kord_mem hw (kord (tl s))[x]).1 (List.getElem_mem hx); rw [length_tl] at this; exact this
  obtain ⟨KO, hKO⟩ : ∃ KO, KO = kord (tl s) := ⟨_, rfl⟩
  have hks : ∀ x (hx : x < KO.length), colK (tl s) n x ++ colP KO[x] n s.size = colK (tl s) n (x + 1) := fun x hx => by
    subst hKO; rw [← colK_succ _ _ _ hx, length_tl]
  have hka := colK_all (tl s) n
  rw [← hKO] at hkl hkm hka
  have hkz := colK_le hv n
  have hkb : KO.length ≤ 12 := by omega
  have HV := Lib.hid hv; have HKL := Lib.hid hkl; have HKM := Lib.hid hkm; have HKS := Lib.hid hks; have HKA := Lib.hid hka; have HKZ := Lib.hid hkz
  have HSK := Lib.hid (fun w' => sKeyOrder_any w' s hv)
  rw [← hKO] at HSK
  clear hv hw hkl hkm hks hka hkz hKO
  have OWN := Lib.hid (World.ownsRow_made (base := w.heap.size) (e := 3) (size := 1) w #[] 0 (Nat.le_refl _) (by decide) rfl)
  have HB0 := Lib.hid ((Below.refl w.heap.size w).alloc (Nat.le_refl _) (.cells #[] 3))
  go_enter Tryz.func27, Tryz.ntmps27
  go_wp2_with fail
  refine (HSK.out _).mono ?_
  rintro _ w2 ⟨v2, rfl, ho2, hb2⟩
  obtain ⟨A2, c2, rfl, hc2, _, hr2⟩ := ownsRow_rd ho2
  have hsz2 := (ho2.lt · ·)
  have ho1 := ownsRow_below OWN.out hb2
  have hb0 := HB0.out.trans (hb2.mono HB0.out.size)
  have hg2 : ∀ g, (Value.slice A2 KO.length c2).ownBlock = some g → w.heap.size < g ∧ g < w2.heap.size := fun g e => by
    have := hsz2 g e; simp at this; omega
  have HO2 := Lib.hid ho2; have HO1 := Lib.hid ho1; have HB2 := Lib.hid hb0; have HG2 := Lib.hid hg2; clear ho2 ho1 hb2 hb0 hsz2 hg2 hr2 OWN HB0 HSK
  go_wp2_with fail
  refine (l1In_is _ _ _ true _ (by simp; omega)).mono ?_
  rintro _ _ ⟨rfl, rfl⟩
  go_wp2_with fail
  go_loopw [5, 7] (fun o i wr => ∃ x : Nat, x ≤ KO.length ∧ i = .int .i64 x ∧ wr.ownsRow w.heap.size 3 1 o (colK (tl s) n x).length (natV (colK (tl s) n x)) ∧ wr.ownsRow (w.heap.size + 1) 3 1 (.slice A2 KO.length c2) KO.length (natV KO) ∧ (∀ g, o.ownBlock = some g → (Value.slice A2 KO.length c2).ownBlock ≠ some g) ∧ Below w.heap.size w wr) (fun _ i _ => KO.length - (intOf i).toNat)
  case atStart => exact ⟨0, Nat.zero_le _, rfl, HO1.out, by have := HO2.out; simpa using this, fun g e e2 => by have := HG2.out g e2; simp [Value.ownBlock] at e; omega, HB2.out⟩
  case round =>
    obtain ⟨x, hx, rfl, hown, hord, hap, hbl⟩ := hrel
    have HO := Lib.hid hown; have HR := Lib.hid hord; have HA := Lib.hid hap; have HBL := Lib.hid hbl; clear hown hord hap hbl HO1 HO2 HB2 HG2
    by_cases hlt : x < KO.length
    · obtain ⟨_, _, e4, _, _, hr4⟩ := ownsRow_rd HR.out
      simp only [Value.slice.injEq] at e4
      obtain ⟨rfl, _, rfl⟩ := e4
      obtain ⟨b, off, rfl, hbb, c0⟩ := hr4.nat hlt
      have hcm := HKM.out x hlt
      have hks := HKS.out x hlt
      obtain ⟨c, hc⟩ : ∃ c, KO[x] = c := ⟨_, rfl⟩
      rw [hc] at c0 hcm hks
      have HKSX := Lib.hid hks
      clear hr4 hc hks
      obtain ⟨E, hE⟩ : ∃ E, E = colK (tl s) n x := ⟨_, rfl⟩
      have hez := HKZ.out x
      rw [← hE] at HO HKSX hez
      have HE := Lib.hid hE; clear hE
      go_wp2_with fail
      go_loopw [5, 8] (fun o i wi => ∃ (j a : Nat) (L : List Nat), i = .int .i64 a ∧ Hid (ColTo c n s.size j a) ∧ a ≤ n + s.size ∧ j ≤ a ∧ Hid (L = E ++ (List.range j).map (fun i => c + i * s.size)) ∧ wi.ownsRow w.heap.size 3 1 o L.length (natV L) ∧ wi.ownsRow (w.heap.size + 1) 3 1 (.slice (some ⟨b, off, none⟩) KO.length c2) KO.length (natV KO) ∧ (∀ g, o.ownBlock = some g → (Value.slice (some ⟨b, off, none⟩) KO.length c2).ownBlock ≠ some g) ∧ Below w.heap.size w wi) (fun _ i _ => n + s.size - (intOf i).toNat)
      case atStart => exact ⟨0, c, E, rfl, ⟨by omega, fun i hi => by omega⟩, by omega, by omega, Lib.hid (by simp), HO.out, HR.out, HA.out, HBL.out⟩
      case round =>
        obtain ⟨j, a, L, rfl, HC, ha, hja, HL, hown2, hord2, hap2, hbl2⟩ := hrel
        have HO2 := Lib.hid hown2; have HR2 := Lib.hid hord2; have HA2 := Lib.hid hap2; have HBL2 := Lib.hid hbl2; clear hown2 hord2 hap2 hbl2 HO HR HA HBL
        obtain ⟨A3, c3, e3⟩ := slot_slice HO2.out
        subst e3
        by_cases han : a < n
        · have hbw := HBL2.out.size
          have hnext := HC.out.next han
          have hln : L ++ [a] = E ++ (List.range (j + 1)).map (fun i => c + i * s.size) := by
            rw [HL.out, List.append_assoc, ← col_snoc, ← HC.out.1]
          have hpre := colP_upto (by omega : 0 < s.size) hcm HC.out han
          have hlz : L.length ≤ 200 := by
            have h3 := hpre.length_le
            have h4 := congrArg List.length HKSX.out
            have h5 := congrArg List.length hln
            have h6 := HKZ.out (x + 1)
            simp only [List.length_append, List.length_map, List.length_range, List.length_singleton] at h3 h4 h5
            omega
          have HN := Lib.hid hnext; have HLN := Lib.hid hln; clear hnext hln hpre
          go_wp2_with (at_builtin; refine wpList_append_apart rfl _ _ 43 rfl w.heap.size 3 iI (.int .i64 0) 1 8 Tryz.undI HI.out HZ0.out HZ1.out HZ2.out rfl (by decide) _ L.length _ rfl (HO2.out.alloc _) ⟨wr.heap.size, 0, none⟩ 1 1 [.int .i64 (a : Int)] rfl rfl (one_new wr _ _) nat_cell (by unfold maxLen; omega) (by omega) (by simp; omega) ?_)
          intro v' w6 ho' hg' hap'
          rw [natV_snoc, show L.length + 1 = (L ++ [a]).length by simp] at ho'
          have hb6 := (HBL2.out.alloc HBL2.out.size _).grown hg' (Nat.le_trans HBL2.out.size (by simp)) fun k' e => (HO2.out.lt k' e).1
          have hr6 : w6.ownsRow (w.heap.size + 1) 3 1 (.slice (some ⟨b, off, none⟩) KO.length c2) KO.length (natV KO) := (HR2.out.alloc _).kept hg' (by
            cases hv : (Value.slice A3 L.length c3).ownBlock with
            | none => exact .inr (by simp [Value.ownBlock])
            | some g => exact .inr (HA2.out g hv))
          have ha6 : ∀ g, v'.ownBlock = some g → (Value.slice (some ⟨b, off, none⟩) KO.length c2).ownBlock ≠ some g := fun g e e2 => by
            rcases hap' g e with h | h
            · exact HA2.out g h e2
            · have h8 := (HR2.out.lt g e2).2; have h9 : wr.heap.size ≤ g := Nat.le_trans (by simp) h; omega
          have HO6 := Lib.hid ho'; have HB6 := Lib.hid hb6; have HR6 := Lib.hid hr6; have HA6 := Lib.hid ha6; clear ho' hg' hb6 hr6 ha6 hap'
          go_wp2_with fail
          go_roundw
          case rel => exact ⟨j + 1, a + s.size, L ++ [a], by go_num, HN, by omega, by omega, HLN, HO6.out, HR6.out, HA6.out, HB6.out⟩
          case measure => simp [intOf]; omega
        · have hle : L = colK (tl s) n (x + 1) := by
            rw [HL.out, ← HKSX.out]
            congr 1
            exact colP_split (by omega) hcm j HC.out.2 (by rw [← HC.out.1]; exact han)
          have HLE := Lib.hid hle; clear hle
          go_wp2_with fail
          go_roundw
          case rel => exact ⟨x + 1, by omega, by go_num, by rw [← HLE.out]; exact HO2.out, HR2.out, HA2.out, HBL2.out⟩
          case measure => simp [intOf]; omega
    · have hall := HKA.out x (by omega)
      have HALL := Lib.hid hall; clear hall
      go_wp2_with fail
      go_ret
      refine ⟨_, rfl, ?_, HBL.out⟩
      rw [← HALL.out]; exact HO.out

end Go.Proofs.YteeeaeidocalnaaGreatDoor
