/-
  The walk of the law FnWordCode: it returns true whatever the bytes are; nothing that was there is changed. No conditions.
-/
import Derived.Test.YtggecpiiphjnaaaDrawD
import Derived.Test.YtggecpiiphjnaaaPlainK
namespace Go.Proofs.Ytggecpiiphjnaaa
open Go.RowKit Pl
set_option linter.unusedVariables false

def anyCode (es : List (ByteArray × ByteArray)) (s : ByteArray) : Bool := es.any fun e => decide (e.2 = s)
theorem any_snoc (es : List (ByteArray × ByteArray)) (s : ByteArray) (k : Nat) (hk : k < es.length) : anyCode (es.take (k + 1)) s = (anyCode (es.take k) s || decide (es[k].2 = s)) := by
  unfold anyCode; rw [List.take_succ_eq_append_getElem hk, List.any_append]; simp
theorem word_any (es : List (ByteArray × ByteArray)) (s : ByteArray) (b : Bool) (hb : bookV es ↔ b = true) : (wordOf es s).isSome = (anyCode es s && b) := by
  rw [Bool.eq_iff_iff, Bool.and_eq_true]
  constructor
  · intro h
    have h1 := wordOf_iff.1 (strO_word h)
    exact ⟨by unfold anyCode; rw [List.any_eq_true]; exact ⟨_, h1.2, by simp⟩, hb.1 h1.1⟩
  · rintro ⟨h1, h2⟩
    unfold anyCode at h1
    rw [List.any_eq_true] at h1
    obtain ⟨⟨x, y⟩, hm, he⟩ := h1
    simp at he
    subst he
    rw [wordOf_iff.2 ⟨hb.2 h2, hm⟩]; rfl

set_option maxHeartbeats 8000000 in
set_option maxRecDepth 100000 in
theorem fnWordCode_walk (w : World) (A : Option Addr) (cap : Nat) (bs : List UInt8) (h : Rd w w.heap.size A (bytesV bs)) (hc : bs.length ≤ cap) :
    Calls Try.prog 4 #[.slice A bs.length cap] w fun e w' => e = .returned (.bool true) ∧ Below w.heap.size w w' := by
  by_cases hlen : 1048576 < bs.length
  · go_enter Try.func4, Try.ntmps4
    go_wp2_with fail
    go_ret
    exact ⟨rfl, Below.refl _ _⟩
  · go_enter Try.func4, Try.ntmps4
    go_wp2_with fail
    refine (drawWordOf_any w A cap bs h hc).mono ?_
    rintro _ w1 ⟨v, es, s, rfl, hbk, hl, hs, hb1⟩
    obtain ⟨A1, cap1, rfl, hc1, _, hr1⟩ := hbk.rd
    have hz : ∀ e ∈ es, e.1.size ≤ maxLen ∧ e.2.size ≤ maxLen := fun e he => ⟨Nat.le_trans (hbk.2 e he).1 (by decide), Nat.le_trans (hbk.2 e he).2 (by decide)⟩
    have hsm : s.size ≤ maxLen := Nat.le_trans hs (by decide)
    have HR := Lib.hid hr1; have HZ := Lib.hid hz; have HSM := Lib.hid hsm; have HB := Lib.hid hb1; clear hr1 hz hsm hb1 hbk h
    go_wp2_with fail
    refine (wordOf_any _ A1 cap1 es s HR.out hc1 HZ.out HSM.out).mono ?_
    rintro _ w2 ⟨rfl, hb2⟩
    replace HB := Lib.hid (HB.out.trans (hb2.mono HB.out.size))
    replace HR := Lib.hid ((HR.out.below hb2).mono hb2.size)
    clear hb2
    go_wp2_with fail
    refine (sWordOf_any _ _ A1 cap1 es s HR.out hc1 (by omega)).mono ?_
    rintro _ _ ⟨rfl, rfl⟩
    obtain ⟨bv, hbv⟩ : ∃ bv : Bool, (bookV es ↔ bv = true) := by
      by_cases hv : bookV es
      · exact ⟨true, iff_of_true hv rfl⟩
      · exact ⟨false, iff_of_false hv (by simp)⟩
    have hwa := word_any es s bv hbv
    have HWA := Lib.hid hwa; have HBV := Lib.hid hbv
    have hback : ∀ x, wordOf es s = some x → codeOf es x = some s := fun x hx => word_code hx
    have HBACK := Lib.hid hback; clear hback hwa hbv
    obtain ⟨r, hr⟩ : ∃ r, r = wordOf es s := ⟨_, rfl⟩
    rw [← hr] at HWA HBACK ⊢
    have HRR := Lib.hid hr; clear hr
    obtain ⟨ok, hok⟩ : ∃ ok, ok = r.isSome := ⟨_, rfl⟩
    rw [← hok] at HWA ⊢
    obtain ⟨x, hx⟩ : ∃ x, x = strO r := ⟨_, rfl⟩
    rw [← hx]
    have HOK := Lib.hid hok; have HX := Lib.hid hx; clear hok hx
    have hoo : (ok != ok) = false := by simp
    go_wp2_with fail
    obtain ⟨w3, hw3⟩ : ∃ w3, w3 = w2 := ⟨_, rfl⟩
    go_loop [9, 10] (fun c i => ∃ k : Nat, k ≤ es.length ∧ i = .int .i64 k ∧ c = .bool (anyCode (es.take k) s)) (fun _ i => es.length - (intOf i).toNat)
    case atStart => exact ⟨0, Nat.zero_le _, rfl, rfl⟩
    case round =>
      obtain ⟨k, hk, rfl, rfl⟩ := hrel
      by_cases hlt : k < es.length
      · obtain ⟨b, off, rfl, hb, c0, c1⟩ := HR.out.ent hlt
        have hsn := any_snoc es s k hlt
        generalize anyCode (es.take k) s = a at hsn ⊢
        cases a with
        | true =>
          have HSN := Lib.hid hsn; clear hsn c0 c1
          go_wp2_with fail
          go_round
          case rel => exact ⟨k + 1, by omega, by go_num, by rw [HSN.out]; rfl⟩
          case measure => simp [intOf]; omega
        | false =>
          generalize es[k] = e at c0 c1 hsn
          by_cases he : e.2 = s
          · have hcmp : (e.2.toList == s.toList) = true := by rw [he]; simp
            rw [decide_eq_true he] at hsn
            have HSN := Lib.hid hsn; clear hsn c0 he
            go_wp2_with fail
            go_round
            case rel => exact ⟨k + 1, by omega, by go_num, by rw [HSN.out]; rfl⟩
            case measure => simp [intOf]; omega
          · have hcmp : (e.2.toList == s.toList) = false := bytes_beq he
            rw [decide_eq_false he] at hsn
            have HSN := Lib.hid hsn; clear hsn c0 he
            go_wp2_with fail
            go_round
            case rel => exact ⟨k + 1, by omega, by go_num, by rw [HSN.out]; rfl⟩
            case measure => simp [intOf]; omega
      · have hkl : k = es.length := by omega
        subst hkl
        rw [List.take_of_length_le (Nat.le_refl _)]
        have hwa := HWA.out
        generalize anyCode es s = a at hwa ⊢
        cases a with
        | false =>
          have hokf : ok = false := by rw [hwa]; rfl
          subst hokf
          clear hwa HWA
          go_wp2_with fail
          refine (codeOf_any _ A1 cap1 es x HR.out hc1 HZ.out ?_).mono ?_
          · rw [HX.out]
            cases hr : r with
            | none => decide
            | some y => rw [hr] at HOK; have := HOK.out; cases this
          rintro _ w4 ⟨rfl, hb4⟩
          replace HB := Lib.hid (HB.out.trans (hb4.mono HB.out.size))
          clear hb4
          go_wp2_with fail
          go_ret
          exact ⟨rfl, HB.out⟩
        | true =>
          rw [Bool.true_and] at hwa
          subst hwa
          go_wp2_with fail
          refine (bookValid_is _ A1 cap1 es HR.out hc1 HZ.out ok HBV.out).mono ?_
          rintro _ w4 ⟨rfl, hb4⟩
          replace HB := Lib.hid (HB.out.trans (hb4.mono HB.out.size))
          replace HR := Lib.hid ((HR.out.below hb4).mono hb4.size)
          clear hb4
          go_wp2_with fail
          cases hr : r with
          | none =>
            have hbf : ok = false := by rw [HOK.out, hr]; rfl
            subst hbf
            refine (codeOf_any _ A1 cap1 es x HR.out hc1 HZ.out (by rw [HX.out, hr]; decide)).mono ?_
            rintro _ w5 ⟨rfl, hb5⟩
            replace HB := Lib.hid (HB.out.trans (hb5.mono HB.out.size))
            clear hb5
            clear HX HOK HRR HBACK hr
            go_wp2_with fail
            go_ret
            exact ⟨rfl, HB.out⟩
          | some y =>
            have hbt : ok = true := by rw [HOK.out, hr]; rfl
            subst hbt
            have hxy : x = y := by rw [HX.out, hr]; rfl
            subst hxy
            have hcx := HBACK.out x hr
            have hxm : x.size ≤ maxLen := by
              have h1 := wordOf_iff.1 (HRR.out.symm.trans hr)
              exact Nat.le_trans (bookV_mem h1.1 h1.2).2.1 (by decide)
            refine (codeOf_any _ A1 cap1 es x HR.out hc1 HZ.out hxm).mono ?_
            rintro _ w5 ⟨rfl, hb5⟩
            replace HB := Lib.hid (HB.out.trans (hb5.mono HB.out.size))
            clear hb5
            rw [hcx]
            simp only [strO, Option.isSome_some]
            have hss : (s.toList == s.toList) = true := by simp
            clear HX HOK HRR HBACK hr hcx hxm
            go_wp2_with fail
            go_ret
            exact ⟨rfl, HB.out⟩

end Go.Proofs.Ytggecpiiphjnaaa
