/-
  The walk of the law FnEncodeFits: it returns true whatever the bytes are; nothing that was there is changed. No conditions.
-/
import Derived.Test.YtfeonbiokilmdaaDrawE
import Derived.Test.YtfeonbiokilmdaaPlainL
import Derived.Test.YtfeonbiokilmdaaMark
import Derived.Test.YtfeonbiokilmdaaCutRd
namespace Go.Proofs.Ytfeonbiokilmdaa
open Go.RowKit Pl
set_option linter.unusedVariables false

set_option maxHeartbeats 8000000 in
set_option maxRecDepth 100000 in
theorem fnEncodeFits_walk (w : World) (A : Option Addr) (cap : Nat) (bs : List UInt8) (h : Rd w w.heap.size A (bytesV bs)) (hc : bs.length ≤ cap) :
    Calls Try.prog 8 #[.slice A bs.length cap] w fun e w' => e = .returned (.bool true) ∧ Below w.heap.size w w' := by
  by_cases hlen : 1048576 < bs.length
  · go_enter Try.func8, Try.ntmps8
    go_wp2_with fail
    go_ret
    exact ⟨rfl, Below.refl _ _⟩
  · go_enter Try.func8, Try.ntmps8
    go_wp2_with fail
    refine (drawEncodeWords_any w A cap bs h hc).mono ?_
    rintro _ w1 ⟨A1, cap1, es, A2, cap2, ws, rfl, hr1, hc1, hz, hl, hr2, hc2, hz2, hl2, hm2, hb1⟩
    have HR := Lib.hid hr1; have HZ := Lib.hid hz; have HS := Lib.hid hr2; have HZ2 := Lib.hid hz2; have HB := Lib.hid hb1; clear hr1 hz hr2 hz2 hb1 h
    go_wp2_with fail
    refine (encode_any _ A1 A2 cap1 cap2 es ws HR.out hc1 HZ.out HS.out hc2 (by omega) HZ2.out).mono ?_
    rintro _ w2 ⟨rfl, hb2⟩
    replace HB := Lib.hid (HB.out.trans (hb2.mono HB.out.size))
    replace HR := Lib.hid ((HR.out.below hb2).mono hb2.size)
    replace HS := Lib.hid ((HS.out.below hb2).mono hb2.size)
    clear hb2
    go_wp2_with fail
    refine (sEncode_any _ _ _ A1 A2 cap1 cap2 es ws HR.out hc1 (by omega) HS.out hc2 (by omega)).mono ?_
    rintro _ _ ⟨rfl, rfl⟩
    obtain ⟨o, ho⟩ : ∃ o, o = encW es ws := ⟨_, rfl⟩
    rw [← ho]
    have HOE := Lib.hid ho; clear ho
    obtain ⟨bv, hbv⟩ : ∃ bv : Bool, (bookV es ↔ bv = true) := by
      by_cases hv : bookV es
      · exact ⟨true, iff_of_true hv rfl⟩
      · exact ⟨false, iff_of_false hv (by simp)⟩
    have HBV := Lib.hid hbv; clear hbv
    obtain ⟨ok, hok⟩ : ∃ ok, ok = o.isSome := ⟨_, rfl⟩
    obtain ⟨s, hs⟩ : ∃ s, s = strO o := ⟨_, rfl⟩
    rw [← hok, ← hs]
    have HOK := Lib.hid hok; have HSS := Lib.hid hs; clear hok hs
    have hoo : (ok != ok) = false := by simp
    go_wp2_with fail
    refine (bookValid_is _ A1 cap1 es HR.out hc1 HZ.out bv HBV.out).mono ?_
    rintro _ w3 ⟨rfl, hb3⟩
    replace HB := Lib.hid (HB.out.trans (hb3.mono HB.out.size))
    replace HR := Lib.hid ((HR.out.below hb3).mono hb3.size)
    replace HS := Lib.hid ((HS.out.below hb3).mono hb3.size)
    clear hb3
    cases bv
    all_goals
     go_wp2_with fail
     have hB3 : Below w3.heap.size w3 w3 := Below.refl _ _
     go_loopw [9, 10, 11] (fun g a i wr => ∃ (k : Nat) (gb : Bool) (acc : ByteArray), k ≤ ws.length ∧ i = .int .i64 k ∧ g = .bool gb ∧ a = .string acc ∧ (gb = true → bookV es ∧ 3 * ws.length ≤ 200 ∧ (∀ j (hj : j < ws.length), j < k → (codeOf es ws[j]).isSome = true) ∧ acc = mk ((ws.take k).flatMap fun s => tl (strO (codeOf es s)))) ∧ (gb = false → o = none) ∧ Below w3.heap.size w3 wr) (fun _ _ i _ => ws.length - (intOf i).toNat)
     case atStart =>
       refine ⟨0, _, _, Nat.zero_le _, rfl, rfl, rfl, fun hg => ?_, fun hg => ?_, hB3⟩
       · first
         | (cases hg; done)
         | exact ⟨HBV.out.2 trivial, by simp at hg; omega, fun j _ hj => absurd hj (Nat.not_lt_zero _), rfl⟩
       · rw [HOE.out]
         refine encW_no fun hh => ?_
         first
         | (have hf := HBV.out.1 hh.1; cases hf; done)
         | (simp at hg; have := hh.2.1; omega)
     case round =>
       obtain ⟨k, gb, acc, hk, rfl, rfl, rfl, hgt, hgf, hbl⟩ := hrel
       have HGT := Lib.hid hgt; have HGF := Lib.hid hgf; have HBL := Lib.hid hbl; clear hgt hgf hbl hB3
       cases gb with
       | false =>
         obtain rfl : o = none := HGF.out rfl
         have hokf : ok = false := HOK.out
         subst hokf
         clear HGT HGF HOE HOK HSS
         by_cases hlt : k < ws.length
         · go_wp2_with fail
           go_ret
           exact ⟨rfl, HB.out.trans (HBL.out.mono HB.out.size)⟩
         · go_wp2_with fail
           go_ret
           exact ⟨rfl, HB.out.trans (HBL.out.mono HB.out.size)⟩
       | true =>
         obtain ⟨hv, h3, hall, hacc⟩ := HGT.out rfl
         clear HGT HGF
         have hz : acc.size ≤ 200 := by rw [hacc, size_mk]; have := enc_size_le hall; omega
         have HV := Lib.hid hv; have HA := Lib.hid hall; have HACC := Lib.hid hacc; clear hv hall hacc
         by_cases hlt : k < ws.length
         · have hsn := enc_snoc (fun s => tl (strO (codeOf es s))) ws k hlt
           obtain ⟨b, off, rfl, hb, c0⟩ := (HS.out.below HBL.out).str hlt
           have hzk := HZ2.out _ (List.getElem_mem hlt)
           have HRB := Lib.hid ((HR.out.below HBL.out).mono HBL.out.size)
           cases hco : codeOf es ws[k] with
           | none =>
             have hon : o = none := by rw [HOE.out]; exact enc_bad hlt hco
             have HON := Lib.hid hon; clear hon hsn
             have HCO := Lib.hid hco; clear hco
             generalize ws[k] = t at c0 HCO hzk
             go_wp2_with fail
             refine (codeOf_any _ A1 cap1 es t HRB.out hc1 HZ.out hzk).mono ?_
             rintro _ w4 ⟨rfl, hb4⟩
             rw [HCO.out]
             simp only [strO, Option.isSome_none]
             have HB4 := Lib.hid (HBL.out.trans (hb4.mono HBL.out.size)); clear hb4
             have q0 : (mk []).size = 0 := rfl
             go_wp2_with fail
             go_roundw
             case rel => exact ⟨k + 1, false, _, by omega, by go_num, rfl, rfl, fun h => by (cases h), fun _ => HON.out, HB4.out⟩
             case measure => simp [intOf]; omega
           | some c =>
             have hcs := (codeOf_size hco).1
             have hnx : mk ((ws.take (k + 1)).flatMap fun s => tl (strO (codeOf es s))) = acc ++ c := by
               rw [hsn, append_tl, HACC.out, tl_mk, hco]; rfl
             have hal : ∀ j (hj : j < ws.length), j < k + 1 → (codeOf es ws[j]).isSome = true := by
               intro j hj hjk
               by_cases e : j = k
               · subst e; rw [hco]; rfl
               · exact HA.out j hj (by omega)
             have HNX := Lib.hid hnx; have HAL := Lib.hid hal; have HCO := Lib.hid hco; clear hnx hal hsn hco
             generalize ws[k] = t at c0 HCO hzk
             go_wp2_with fail
             refine (codeOf_any _ A1 cap1 es t HRB.out hc1 HZ.out hzk).mono ?_
             rintro _ w4 ⟨rfl, hb4⟩
             rw [HCO.out]
             simp only [strO, Option.isSome_some]
             have HB4 := Lib.hid (HBL.out.trans (hb4.mono HBL.out.size)); clear hb4
             go_wp2_with fail
             go_roundw
             case rel => exact ⟨k + 1, true, _, by omega, by go_num, rfl, rfl, fun _ => ⟨HV.out, h3, HAL.out, HNX.out.symm⟩, fun h => by (cases h), HB4.out⟩
             case measure => simp [intOf]; omega
         · have hkl : k = ws.length := by omega
           subst hkl
           have he : o = some _ := HOE.out.trans (enc_all HV.out (by omega) HA.out)
           rw [← HACC.out] at he
           subst he
           have hokt : ok = true := HOK.out
           subst hokt
           obtain rfl : s = acc := HSS.out
           clear HOE HOK HSS HACC
           go_wp2_with fail
           go_ret
           exact ⟨rfl, HB.out.trans (HBL.out.mono HB.out.size)⟩

end Go.Proofs.Ytfeonbiokilmdaa
