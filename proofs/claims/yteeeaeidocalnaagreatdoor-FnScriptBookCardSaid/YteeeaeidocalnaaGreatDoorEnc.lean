/-
  Contracts of EncodeWords and DecodeCodes, of the program and of the reference. No conditions but those that each theorem names.
-/
import Derived.Test.YteeeaeidocalnaaGreatDoorPlainK
import Derived.Test.YteeeaeidocalnaaGreatDoorTexts
import Derived.Test.YteeeaeidocalnaaGreatDoorBuild
import Derived.BigCall
namespace Go.Proofs.YteeeaeidocalnaaGreatDoor
open Go.RowKit Pl
set_option linter.unusedVariables false

theorem enc_bad {es : List (ByteArray × ByteArray)} {ws : List ByteArray} {k : Nat} (hk : k < ws.length) (h : codeOf es ws[k] = none) : encW es ws = none :=
  encW_no fun hh => by have := hh.2.2 _ (List.getElem_mem hk); rw [h] at this; cases this
theorem enc_size_le {es : List (ByteArray × ByteArray)} {ws : List ByteArray} {k : Nat} (h : ∀ j (hj : j < ws.length), j < k → (codeOf es ws[j]).isSome = true) : ((ws.take k).flatMap fun s => tl (strO (codeOf es s))).length ≤ 3 * ws.length := by
  rw [enc_length]
  · rw [List.length_take]; omega
  · intro s hs
    obtain ⟨j, hj, rfl⟩ := List.mem_iff_getElem.1 hs
    rw [List.length_take] at hj
    rw [List.getElem_take]; exact h j (by omega) (by omega)
theorem enc_all {es : List (ByteArray × ByteArray)} {ws : List ByteArray} (hv : bookV es) (hl : 3 * ws.length ≤ 200) (h : ∀ j (hj : j < ws.length), j < ws.length → (codeOf es ws[j]).isSome = true) :
    encW es ws = some (mk ((ws.take ws.length).flatMap fun s => tl (strO (codeOf es s)))) := by
  rw [List.take_of_length_le (Nat.le_refl _)]
  refine encW_ok ⟨hv, hl, fun s hs => ?_⟩
  obtain ⟨j, hj, rfl⟩ := List.mem_iff_getElem.1 hs
  exact h j hj hj

set_option maxHeartbeats 4000000 in
theorem sEncode_any (w : World) (B B' : Nat) (A A' : Option Addr) (cap cap' : Nat) (es : List (ByteArray × ByteArray)) (ws : List ByteArray) (h : Rd w B A (entV es)) (hc : es.length ≤ cap) (hm : es.length ≤ 1048576)
    (h' : Rd w B' A' (strV ws)) (hc' : ws.length ≤ cap') (hm' : ws.length ≤ 1048576) :
    Calls Tryz.prog 13 #[.slice A es.length cap, .slice A' ws.length cap'] w fun e w' => e = .returned (.tuple #[.string (strO (encW es ws)), .bool (encW es ws).isSome]) ∧ w = w' := by
  have HR := Lib.hid h; have HS := Lib.hid h'; clear h h'
  obtain ⟨r, hr⟩ : ∃ r, r = encW es ws := ⟨_, rfl⟩
  rw [← hr]
  have HRR := Lib.hid hr; clear hr
  by_cases hv : bookV es
  · have HVV := Lib.hid hv; clear hv
    by_cases hl : 200 < 3 * ws.length
    · obtain rfl : r = none := by rw [HRR.out]; exact encW_no fun hh => by have := hh.2.1; omega
      clear HRR
      go_enter Tryz.func13, Tryz.ntmps13
      go_wp2_with fail
      refine (sBookValid_is _ B _ cap es HR.out hc hm true (bkT HVV.out)).mono ?_
      rintro _ _ ⟨rfl, rfl⟩
      go_wp2_with fail
      go_ret2
      exact ⟨rfl, rfl⟩
    · go_enter Tryz.func13, Tryz.ntmps13
      go_wp2_with fail
      refine (sBookValid_is _ B _ cap es HR.out hc hm true (bkT HVV.out)).mono ?_
      rintro _ _ ⟨rfl, rfl⟩
      go_wp2_with fail
      go_loop [6, 7] (fun o i => ∃ k : Nat, k ≤ ws.length ∧ i = .int .i64 k ∧ o = .string (mk ((ws.take k).flatMap fun s => tl (strO (codeOf es s)))) ∧ ∀ j (hj : j < ws.length), j < k → (codeOf es ws[j]).isSome = true) (fun _ i => ws.length - (intOf i).toNat)
      case atStart => exact ⟨0, Nat.zero_le _, rfl, rfl, fun j _ hj => absurd hj (Nat.not_lt_zero _)⟩
      case round =>
        obtain ⟨k, hk, rfl, rfl, hall⟩ := hrel
        have hz : (mk ((ws.take k).flatMap fun s => tl (strO (codeOf es s)))).size ≤ 200 := by rw [size_mk]; have := enc_size_le hall; omega
        have HA := Lib.hid hall; clear hall
        by_cases hlt : k < ws.length
        · have hsn := enc_snoc (fun s => tl (strO (codeOf es s))) ws k hlt
          obtain ⟨b, off, rfl, hb, c0⟩ := HS.out.str hlt
          cases hco : codeOf es ws[k] with
          | none =>
            obtain rfl : r = none := by rw [HRR.out]; exact enc_bad hlt hco
            have HCO := Lib.hid hco; clear hsn HRR hco
            generalize mk ((ws.take k).flatMap fun s => tl (strO (codeOf es s))) = acc at hz ⊢
            generalize ws[k] = s at c0 HCO
            go_wp2_with fail
            refine (sCodeOf_any _ B _ cap es s HR.out hc hm).mono ?_
            rintro _ _ ⟨rfl, rfl⟩
            rw [HCO.out]
            go_wp2_with fail
            go_ret2
            exact ⟨rfl, rfl⟩
          | some c =>
            have hcs := (codeOf_size hco).1
            have hnx : mk ((ws.take (k + 1)).flatMap fun s => tl (strO (codeOf es s))) = mk ((ws.take k).flatMap fun s => tl (strO (codeOf es s))) ++ c := by
              rw [hsn, append_tl, tl_mk, hco]; rfl
            have hal : ∀ j (hj : j < ws.length), j < k + 1 → (codeOf es ws[j]).isSome = true := by
              intro j hj hjk
              by_cases e : j = k
              · subst e; rw [hco]; rfl
              · exact HA.out j hj (by omega)
            have HNX := Lib.hid hnx; have HAL := Lib.hid hal; have HCO := Lib.hid hco; clear hnx hal hsn hco
            generalize mk ((ws.take k).flatMap fun s => tl (strO (codeOf es s))) = acc at hz HNX ⊢
            generalize ws[k] = s at c0 HCO
            go_wp2_with fail
            refine (sCodeOf_any _ B _ cap es s HR.out hc hm).mono ?_
            rintro _ _ ⟨rfl, rfl⟩
            rw [HCO.out]
            simp only [strO, Option.isSome_some]
            go_wp2_with fail
            go_round
            case rel => exact ⟨k + 1, by omega, by go_num, by rw [HNX.out], HAL.out⟩
            case measure => simp [intOf]; omega
        · have hkl : k = ws.length := by omega
          subst hkl
          have he : r = some _ := HRR.out.trans (enc_all HVV.out (by omega) HA.out)
          generalize mk ((ws.take ws.length).flatMap fun s => tl (strO (codeOf es s))) = acc at hz he ⊢
          subst he
          clear HRR
          go_wp2_with fail
          go_ret2
          exact ⟨rfl, rfl⟩
  · have HNV := Lib.hid hv
    obtain rfl : r = none := by rw [HRR.out]; exact encW_no fun hh => hv hh.1
    clear HRR hv
    go_enter Tryz.func13, Tryz.ntmps13
    go_wp2_with fail
    refine (sBookValid_is _ B _ cap es HR.out hc hm false (bkF HNV.out)).mono ?_
    rintro _ _ ⟨rfl, rfl⟩
    go_wp2_with fail
    go_ret2
    exact ⟨rfl, rfl⟩

theorem byteCells_tl (s : ByteArray) : Lib.strCells s = Lib.byteCells (tl s) := Lib.strCells_eq s

set_option maxHeartbeats 4000000 in
theorem encode_any (w : World) (A A' : Option Addr) (cap cap' : Nat) (es : List (ByteArray × ByteArray)) (ws : List ByteArray) (h : Rd w w.heap.size A (entV es)) (hc : es.length ≤ cap) (hz : ∀ e ∈ es, e.1.size ≤ maxLen ∧ e.2.size ≤ maxLen)
    (h' : Rd w w.heap.size A' (strV ws)) (hc' : ws.length ≤ cap') (hm' : ws.length ≤ 1048576) (hz' : ∀ s ∈ ws, s.size ≤ maxLen) :
    Calls Tryz.prog 12 #[.slice A es.length cap, .slice A' ws.length cap'] w fun e w' => e = .returned (.tuple #[.string (strO (encW es ws)), .bool (encW es ws).isSome]) ∧ Below w.heap.size w w' := by
  have HS := Lib.hid h'; have HZ' := Lib.hid hz'; clear h' hz'
  obtain ⟨r, hr⟩ : ∃ r, r = encW es ws := ⟨_, rfl⟩
  rw [← hr]
  have HRR := Lib.hid hr; clear hr
  go_enter Tryz.func12, Tryz.ntmps12
  go_wp2_with fail
  refine (index_any w A cap es h hc hz).mono ?_
  rintro e w1 ⟨hb1, ⟨hv, rfl⟩ | ⟨hv, b1, b2, rfl, hm1, hm2⟩⟩
  · obtain rfl : r = none := by rw [HRR.out]; exact encW_no fun hh => hv hh.1
    clear hv HRR h hz
    go_wp2_with fail
    go_ret2
    exact ⟨rfl, hb1.alloc hb1.size _⟩
  · clear hm2 h hz
    by_cases hl : 66 < ws.length
    · obtain rfl : r = none := by rw [HRR.out]; exact encW_no fun hh => by have := hh.2.1; omega
      clear hv HRR hm1
      go_wp2_with fail
      go_ret2
      exact ⟨rfl, hb1.alloc hb1.size _⟩
    · have hcode : ∀ s, codeOf es s = (findE es s).map Prod.snd := fun s => by unfold codeOf; rw [if_pos hv]
      have HVV := Lib.hid hv; have HCODE := Lib.hid hcode; clear hv hcode
      obtain ⟨X, hX⟩ : ∃ X, X = w1.heap.size := ⟨_, rfl⟩
      obtain ⟨w2, hw2⟩ : ∃ w2, w2 = w1.alloc (.cells #[.map (some b1), .map (some b2)] 71) := ⟨_, rfl⟩
      have hm2 : SMap w2 b1 es := by rw [hw2]; exact hm1.alloc _
      have hb2 : Below w.heap.size w w2 := by rw [hw2]; exact hb1.alloc hb1.size _
      have hs2 : w2.heap.size = X + 1 := by rw [hw2, hX]; simp
      have hx0 : w2.cell? ⟨X, 0, none⟩ = some (.map (some b1)) := by rw [hw2, hX]; simp
      have hB0 := Lib.fresh_isBuilder 49 5 w2
      obtain ⟨Y, hY⟩ : ∃ Y, Y = w2.heap.size := ⟨_, rfl⟩
      have hYX : X < Y := by omega
      have hs2 : w2.heap.size = Y := hY.symm
      rw [hs2] at hB0
      have HM2 := Lib.hid hm2; have HB2 := Lib.hid hb2; have HS2 := Lib.hid hs2; have HX0 := Lib.hid hx0; have HB0 := Lib.hid hB0
      clear hm1 hb1 hm2 hb2 hs2 hx0 hB0
      go_wp2_with fail
      rw [← hX, ← hw2, show X + 1 = Y by omega]
      clear hw2 hX hY
      go_loopw [27] (fun i wr => ∃ k : Nat, k ≤ ws.length ∧ i = .int .i64 k ∧ Lib.IsBuilder 49 5 Y Y (Lib.byteCells ((ws.take k).flatMap fun s => tl (strO (codeOf es s)))) wr ∧ (∀ j (hj : j < ws.length), j < k → (codeOf es ws[j]).isSome = true) ∧ Below Y w2 wr) (fun i _ => ws.length - (intOf i).toNat)
      case atStart => exact ⟨0, Nat.zero_le _, rfl, HB0.out, fun j _ hj => absurd hj (Nat.not_lt_zero _), (Below.refl _ _).alloc (Nat.le_of_eq HS2.out.symm) _⟩
      case round =>
        obtain ⟨k, hk, rfl, hbl, hall, hb⟩ := hrel
        have hz := enc_size_le hall
        have HA := Lib.hid hall; have HBL := Lib.hid hbl; have HB := Lib.hid hb; clear hall hbl hb HB0
        have hxb : Y ≤ wr.heap.size := HS2.out ▸ HB.out.size
        by_cases hlt : k < ws.length
        · have hsn := enc_snoc (fun s => tl (strO (codeOf es s))) ws k hlt
          obtain ⟨b, off, rfl, hb, c0⟩ := (HS.out.below (HB2.out.trans (HB.out.mono (HS2.out ▸ HB2.out.size)))).str hlt
          have L := (HM2.out.below (HS2.out.symm ▸ HB.out)).look ws[k] (HZ'.out _ (List.getElem_mem hlt))
          rw [valE_str] at L
          have hi : (findE es ws[k]).isSome = ((findE es ws[k]).map Prod.snd).isSome := by simp
          rw [hi, ← HCODE.out] at L
          have x0 : wr.cell? ⟨X, 0, none⟩ = some (.map (some b1)) := (HB.out.cell hYX).trans HX0.out
          clear hi
          cases hco : codeOf es ws[k] with
          | none =>
            obtain rfl : r = none := by rw [HRR.out]; exact enc_bad hlt hco
            rw [hco] at L
            simp only [strO, Option.isSome_none] at L
            clear hsn HRR hco
            generalize ws[k] = s at c0 L
            go_wp2_with fail
            go_ret2
            exact ⟨rfl, HB2.out.trans (HB.out.mono (HS2.out ▸ HB2.out.size))⟩
          | some c =>
            have hcs := (codeOf_size hco).1
            have hnx : Lib.byteCells ((ws.take (k + 1)).flatMap fun s => tl (strO (codeOf es s))) = Lib.byteCells ((ws.take k).flatMap fun s => tl (strO (codeOf es s))) ++ Lib.strCells c := by
              rw [hsn, Lib.byteCells_append, byteCells_tl, hco]; rfl
            have hal : ∀ j (hj : j < ws.length), j < k + 1 → (codeOf es ws[j]).isSome = true := by
              intro j hj hjk
              by_cases e : j = k
              · subst e; rw [hco]; rfl
              · exact HA.out j hj (by omega)
            rw [hco] at L
            simp only [strO, Option.isSome_some] at L
            have HNX := Lib.hid hnx; have HAL := Lib.hid hal; have HCS := Lib.hid hcs; clear hnx hal hsn hco hcs
            generalize ws[k] = s at c0 L
            go_wp2_with fail
            refine (Tryz.Builder_WriteString Y Y _ c wr HBL.out (by rw [Lib.byteCells_length, HCS.out]; omega) hxb).mono ?_
            rintro _ w4 ⟨rfl, hbd, hb4⟩
            rw [← HNX.out] at hbd
            have HBD := Lib.hid hbd; have HB4 := Lib.hid (HB.out.trans hb4); clear hbd hb4
            go_wp2_with fail
            go_roundw
            case rel => exact ⟨k + 1, by omega, by go_num, .inr HBD.out, HAL.out, HB4.out⟩
            case measure => simp [intOf]; omega
        · have hkl : k = ws.length := by omega
          subst hkl
          have he : r = some _ := HRR.out.trans (enc_all HVV.out (by omega) HA.out)
          have hbl := HBL.out
          generalize ((ws.take ws.length).flatMap fun s => tl (strO (codeOf es s))) = acc at hz he hbl
          subst he
          have HBL2 := Lib.hid hbl; clear hbl HBL
          clear HRR
          go_wp2_with fail
          refine (Tryz.Builder_String_any Y Y acc wr HBL2.out hxb).mono ?_
          rintro _ w4 ⟨rfl, hb4⟩
          have HB4 := Lib.hid (HB.out.trans hb4); clear hb4
          go_wp2_with fail
          go_ret2
          exact ⟨rfl, HB2.out.trans (HB4.out.mono (HS2.out ▸ HB2.out.size))⟩

end Go.Proofs.YteeeaeidocalnaaGreatDoor
