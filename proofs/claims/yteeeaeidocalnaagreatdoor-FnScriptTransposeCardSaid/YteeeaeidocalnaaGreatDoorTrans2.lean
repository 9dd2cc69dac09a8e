/-
  Contracts of reading places. No conditions but those that each theorem names.
-/
import Derived.Test.YteeeaeidocalnaaGreatDoorTrans
import Derived.Deep.QuietTactic
import Derived.BigQuiet
namespace Go.Proofs.YteeeaeidocalnaaGreatDoor
open Go.RowKit Pl
set_option linter.unusedVariables false

set_option maxHeartbeats 4000000 in
set_option maxRecDepth 100000 in
theorem readPlaces_ok (w : World) (s : ByteArray) (A : Option Addr) (cap : Nat) (p : List Nat) (h : Rd w w.heap.size A (natV p)) (hc : p.length ≤ cap) (hp : Places p) (hw : wv (tl s) = true) (hl : p.length = s.size) :
    Calls Tryz.prog 22 #[.string s, .slice A p.length cap] w fun e w' => e = .returned (.tuple #[.string (mk (readP (tl s) p)), .bool true]) ∧ Below w.heap.size w w' := by
  obtain ⟨iB, hi, hz0, hz1, hz2⟩ := info_parts Tryz.infoB
  have hzs := wv_length hw
  rw [length_tl] at hzs
  have hne : (((s.size : Nat) : Int) != ((p.length : Nat) : Int)) = false := by simp; omega
  have hl1 : p.length ≤ s.size := by omega
  have hl2 : s.size ≤ p.length := by omega
  clear hl
  have hrl := length_readP (tl s) p
  have HR := Lib.hid h; have HP := Lib.hid hp; have HW := Lib.hid hw; have HRL := Lib.hid hrl; clear h hp hw hrl
  have HI := Lib.hid hi; have HZ0 := Lib.hid hz0; have HZ1 := Lib.hid hz1; have HZ2 := Lib.hid hz2
  clear hi hz0 hz1 hz2
  go_enter Tryz.func22, Tryz.ntmps22
  go_wp2_with fail
  refine (wordValid_is _ true _ HW.out).mono ?_
  rintro _ _ ⟨rfl, rfl⟩
  go_wp2_with fail
  refine (placesValid_true _ A cap p HR.out hc HP.out (by omega)).mono ?_
  rintro _ w1 ⟨rfl, hb1⟩
  have HB1 := Lib.hid hb1; clear hb1
  go_wp2_with (at_make; refine wpList_make_full _ rfl _ _ 22 rfl w1.heap.size 5 iB (.int .u8 0) 1 Tryz.underlying22 HI.out HZ0.out HZ1.out .i64 .i64 _ _ s.size rfl rfl rfl rfl (by rw [HZ2.out]; omega) (by unfold maxLen; omega) (Nat.le_refl _) ?_; intro w2 ho2 hg2)
  rw [made_bytes] at ho2
  have hb2 : Below w.heap.size w w2 := HB1.out.trans (Below.grown (Below.refl _ _) hg2 HB1.out.size (by simp))
  obtain ⟨G, hG⟩ : ∃ G, G = w1.heap.size := ⟨_, rfl⟩
  rw [← hG] at ho2 ⊢
  have HG := Lib.hid hG; clear hG
  have HO2 := Lib.hid ho2; have HB2 := Lib.hid hb2; clear ho2 hb2 hg2
  go_wp2_with fail
  go_loopw [29] (fun i wr => ∃ k : Nat, k ≤ p.length ∧ i = .int .i64 k ∧ wr.ownsRow G 5 1 (.slice (some ⟨G, 0, none⟩) s.size s.size) s.size (bytesV ((readP (tl s) p).take k ++ List.replicate (s.size - k) 0)) ∧ Below w.heap.size w wr) (fun i _ => p.length - (intOf i).toNat)
  case atStart => exact ⟨0, Nat.zero_le _, rfl, HO2.out, HB2.out⟩
  case round =>
    obtain ⟨k, hk, rfl, hown, hbl⟩ := hrel
    have HO := Lib.hid hown; have HBL := Lib.hid hbl; clear hown hbl HO2 HB2
    by_cases hlt : k < p.length
    · obtain ⟨b, off, rfl, hbb, c0⟩ := (HR.out.below HBL.out).nat hlt
      have hpl := HP.out.lt (List.getElem_mem hlt)
      obtain ⟨t, ht⟩ : ∃ t, p[k] = t := ⟨_, rfl⟩
      rw [ht] at c0 hpl
      have htz : t < s.size := by omega
      have hnx : ((readP (tl s) p).take k ++ List.replicate (s.size - k) 0).set k (s[t]'htz) = (readP (tl s) p).take (k + 1) ++ List.replicate (s.size - (k + 1)) 0 := by
        have hkr : k < (readP (tl s) p).length := by rw [HRL.out]; exact hlt
        have hg : (readP (tl s) p)[k]'hkr = s[t]'htz := by
          have hg := readP_get (w := tl s) hlt (by rw [length_tl, ht]; omega)
          rw [List.getElem?_eq_getElem hkr] at hg
          injection hg with hg
          rw [hg]; subst ht; rw [getElem_tl]
        have e1 : s.size - k = (s.size - (k + 1)) + 1 := by omega
        rw [List.set_append_right _ _ (by rw [List.length_take]; omega), List.length_take, Nat.min_eq_left (by omega), Nat.sub_self, e1, List.replicate_succ, List.set_cons_zero, List.take_succ_eq_append_getElem hkr, List.append_assoc, hg]
        rfl
      have HNX := Lib.hid hnx; clear hnx ht
      have f0 := HO.out.frozenAt k
      have hst := (HO.out.stored k (.int .u8 (s[t]'htz).toNat)).1
      rw [bytesV_set, HNX.out] at hst
      obtain ⟨x1, c1⟩ : ∃ x, wr.cell? ⟨G, k, none⟩ = some x := ⟨_, by rw [HO.out.cellAt k (by omega), List.getElem?_eq_getElem (by rw [length_bytesV]; simp [HRL.out]; omega)]⟩
      have HST := Lib.hid hst; clear hst
      go_wp2_with fail
      go_roundw
      case rel => exact ⟨k + 1, by omega, by go_num, HST.out, HBL.out.setCell (by rw [HG.out]; exact HB1.out.size) _⟩
      case measure => simp [intOf]; omega
    · have hkz : k = s.size := by omega
      have hcv := own_conv HO.out (by simp [HRL.out]; omega) s.size
      have er : (readP (tl s) p).take k ++ List.replicate (s.size - k) 0 = readP (tl s) p := by
        rw [List.take_of_length_le (by rw [HRL.out]; omega), hkz, Nat.sub_self]; simp
      rw [er] at hcv
      clear er hkz
      go_wp2_with fail
      go_ret2
      exact ⟨rfl, HBL.out⟩

set_option maxHeartbeats 4000000 in
set_option maxRecDepth 100000 in
theorem l17Read_any (w : World) (s : ByteArray) (A : Option Addr) (cap : Nat) (p : List Nat) (h : Rd w w.heap.size A (natV p)) (hc : p.length ≤ cap) (hp : ∀ t ∈ p, t < s.size) (hz : s.size ≤ 1000) (hl : p.length ≤ 1000) :
    Calls Tryz.prog 26 #[.string s, .slice A p.length cap] w fun e w' => e = .returned (.string (mk (readP (tl s) p))) ∧ Below w.heap.size w w' := by
  have hrl := length_readP (tl s) p
  have HR := Lib.hid h; have HP := Lib.hid hp; have HRL := Lib.hid hrl; clear h hp hrl
  go_enter Tryz.func26, Tryz.ntmps26
  go_wp2_with fail
  go_loopw [5, 6] (fun o i wr => ∃ k : Nat, k ≤ p.length ∧ i = .int .i64 k ∧ o = .string (mk ((readP (tl s) p).take k)) ∧ Below w.heap.size w wr) (fun _ i _ => p.length - (intOf i).toNat)
  case atStart => exact ⟨0, Nat.zero_le _, rfl, rfl, Below.refl _ _⟩
  case round =>
    obtain ⟨k, hk, rfl, rfl, hbl⟩ := hrel
    have HBL := Lib.hid hbl; clear hbl
    by_cases hlt : k < p.length
    · obtain ⟨b, off, rfl, hbb, c0⟩ := (HR.out.below HBL.out).nat hlt
      have hpl := HP.out _ (List.getElem_mem hlt)
      have hnx : mk ((readP (tl s) p).take k) ++ s.extract p[k] (p[k] + 1) = mk ((readP (tl s) p).take (k + 1)) := by
        have hg := readP_get (w := tl s) hlt (by rw [length_tl]; omega)
        have hkr : k < (readP (tl s) p).length := by rw [HRL.out]; exact hlt
        rw [List.getElem?_eq_getElem hkr] at hg
        injection hg with hg
        rw [List.take_succ_eq_append_getElem hkr, hg]
        rw [extract_mk', Nat.add_sub_cancel_left, List.drop_eq_getElem_cons (by rw [length_tl]; exact hpl), mk_append]
        rfl
      have HNX := Lib.hid hnx; clear hnx
      generalize p[k] = t at c0 hpl HNX
      have hsz : (mk ((readP (tl s) p).take k)).size ≤ 1000 := by rw [size_mk, List.length_take]; omega
      generalize mk ((readP (tl s) p).take k) = o at hsz HNX ⊢
      have hxz : (s.extract t (t + 1)).size ≤ 1000 := by simp [ByteArray.size_extract]; omega
      have ht3 : ((t : Int) + 1).toNat = t + 1 := by omega
      have ht4 : IntKind.i64.wrap ((t : Int) + 1) = (t : Int) + 1 := by rw [IntKind.wrap_i64]; omega
      go_wp2_with fail
      go_quiet (fail)
      go_wp2_with fail
      go_roundw
      case rel => exact ⟨k + 1, by omega, by go_num, by rw [HNX.out], below_drewN' HBL.out _⟩
      case measure => simp [intOf]; omega
    · have hke : k = p.length := by omega
      subst hke
      rw [List.take_of_length_le (by rw [HRL.out]; exact Nat.le_refl _)]
      go_wp2_with fail
      go_ret
      exact ⟨rfl, HBL.out⟩

end Go.Proofs.YteeeaeidocalnaaGreatDoor
