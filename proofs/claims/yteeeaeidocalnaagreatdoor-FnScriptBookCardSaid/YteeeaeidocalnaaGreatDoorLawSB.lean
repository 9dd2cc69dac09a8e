/-
  The walk of the law FnScriptBook: it returns true whatever the bytes are; nothing that was there is changed. No conditions.
-/
import Derived.Test.YteeeaeidocalnaaGreatDoorScriptB
import Derived.Test.YteeeaeidocalnaaGreatDoorRcJoin
import Derived.Test.YteeeaeidocalnaaGreatDoorPlainT
import Derived.Test.YteeeaeidocalnaaGreatDoorDrawE
import Derived.Test.YteeeaeidocalnaaGreatDoorEnc
import Derived.Test.YteeeaeidocalnaaGreatDoorMark
namespace Go.Proofs.YteeeaeidocalnaaGreatDoor
open Go.RowKit Pl
set_option linter.unusedVariables false

set_option maxHeartbeats 8000000 in
set_option maxRecDepth 100000 in
theorem fnScriptBook_walk (w : World) (hml : ML w) (A : Option Addr) (cap : Nat) (bs : List UInt8) (h : Rd w w.heap.size A (bytesV bs)) (hc : bs.length ≤ cap) :
    Calls Tryz.prog 4 #[.slice A bs.length cap] w fun e w' => e = .returned (.bool true) ∧ Below w.heap.size w w' := by
  have HML := Lib.hid hml; clear hml
  by_cases hlen : 1048576 < bs.length
  · go_enter Tryz.func4, Tryz.ntmps4
    go_wp2_with fail
    go_ret
    exact ⟨rfl, Below.refl _ _⟩
  · go_enter Tryz.func4, Tryz.ntmps4
    go_wp2_with fail
    refine (drawEncodeWords_any w A cap bs h hc).mono ?_
    rintro _ w1 ⟨A1, cap1, es, A2, cap2, ws, rfl, hr1, hc1, hz, hl, hr2, hc2, hz2, hl2, hm2, hA1, hb1⟩
    have HR := Lib.hid hr1; have HZ := Lib.hid hz; have HS := Lib.hid hr2; have HZ2 := Lib.hid hz2; have HB := Lib.hid hb1; clear hr1 hz hr2 hz2 hb1 h hA1
    go_wp2_with fail
    refine (encode_any _ A1 A2 cap1 cap2 es ws HR.out hc1 HZ.out HS.out hc2 (by omega) HZ2.out).mono ?_
    rintro _ w2 ⟨rfl, hb2⟩
    replace HB := Lib.hid (HB.out.trans (hb2.mono HB.out.size))
    replace HR := Lib.hid ((HR.out.below hb2).mono hb2.size)
    replace HS := Lib.hid ((HS.out.below hb2).mono hb2.size)
    clear hb2
    go_wp2_with fail
    refine (sEncode_any _ _ _ A1 A2 cap1 cap2 es ws HR.out hc1 (by omega) HS.out hc2 (by omega)).mono ?_
    rintro _ _ ⟨rfl, rfl⟩
    cases he : encW es ws with
    | none =>
      simp only [strO, Option.isSome_none]
      clear he
      have hbq : ((mk []).toList == (mk []).toList) = true := beq_self_eq_true _
      go_wp2_with fail
      go_ret
      exact ⟨rfl, HB.out⟩
    | some r =>
      simp only [strO, Option.isSome_some]
      have hbq : (r.toList == r.toList) = true := beq_self_eq_true _
      by_cases h0 : ws.length = 0
      · have h0' : ((ws.length : Int) == 0) = true := by rw [beq_iff_eq]; omega
        clear he
        go_wp2_with fail
        go_ret
        exact ⟨rfl, HB.out⟩
      · have h0' : ((ws.length : Int) == 0) = false := by rw [beq_eq_false_iff_ne]; omega
        have hne : ws ≠ [] := by intro e; rw [e] at h0; exact h0 rfl
        obtain ⟨f1, f2, f3, f4, f5, f6⟩ := encW_some he
        have hj : (Lib.join (ws.map tl) [32]).length ≤ 1000 := by
          have := joinW_le ws [32] 8 (fun s hs => (coded_word (f3 s hs)).2.1) ws.length (Nat.le_refl _)
          rw [List.take_of_length_le (Nat.le_refl _)] at this
          simp only [List.length_singleton] at this
          omega
        have hwz : ∀ s ∈ ws, s.size ≤ 100 := fun s hs => Nat.le_trans (coded_word (f3 s hs)).2.1 (by decide)
        have hrn : tl r ≠ [] := by intro e; have := congrArg List.length e; rw [length_tl, List.length_nil] at this; omega
        have hrl : (10 : UInt8) ∉ tl r := wv_not f6 (by decide)
        have hlines := script_lines (fmtB_line f1) (words_line f3) hrl
        have hsplit := words_split f3 hne
        have hjne := words_ne f3 hne
        have hfz := fmtB_le f1
        have hpw := parseW_fmt f1
        have hd := enc_dec he
        have hrz : r.size ≤ 200 := by omega
        have hrun := fun w' hm' T hT hsp => run_book w' hm' T (fmtB es) r _ es ws hT hsp hpw rfl (Nat.le_trans hfz (by decide)) he hrn hrz hd hne rfl hjne (Nat.le_trans hj (by decide)) hsplit (by omega) HZ.out
        have HRUN := Lib.hid hrun; have HL := Lib.hid hlines; have HWZ := Lib.hid hwz
        clear hrun hlines hwz hsplit hjne hpw hd hrn hrl he hne f1 f2 f3 f4 f6
        have hfin : ∀ x : ByteArray, (x.toList == x.toList) = true := fun x => beq_self_eq_true _
        go_wp2_with fail
        refine (rcJoin_any _ A2 cap2 ws ⟨#[32]⟩ HS.out (by omega) hc2 HWZ.out (by decide)).mono ?_
        rintro _ w3 ⟨rfl, q, hq⟩
        have hb3 : Below w2.heap.size w2 w3 := hq ▸ below_drewN' (Below.refl _ _) _
        clear hq
        replace HB := Lib.hid (HB.out.trans (hb3.mono HB.out.size))
        replace HR := Lib.hid ((HR.out.below hb3).mono hb3.size)
        replace HS := Lib.hid ((HS.out.below hb3).mono hb3.size)
        clear hb3
        rw [show tl (⟨#[32]⟩ : ByteArray) = [32] from rfl]
        generalize hJL : Lib.join (List.map tl ws) [32] = jl at *
        have hjz : (mk jl).size ≤ 1000 := by rw [size_mk]; exact hj
        clear hJL hj
        go_wp2_with fail
        refine (format_any _ A1 cap1 es HR.out hc1 HZ.out).mono ?_
        rintro _ w4 ⟨rfl, hb4⟩
        replace HB := Lib.hid (HB.out.trans (hb4.mono HB.out.size))
        replace HR := Lib.hid ((HR.out.below hb4).mono hb4.size)
        replace HS := Lib.hid ((HS.out.below hb4).mono hb4.size)
        clear hb4
        generalize hFB : fmtB es = F at *
        go_wp2_with fail
        have htz : (⟨#[98, 111, 111, 107, 32]⟩ ++ F ++ ⟨#[10, 99, 111, 100, 101, 32]⟩ ++ mk jl ++ ⟨#[10, 119, 111, 114, 100, 115, 32]⟩ ++ r ++ ⟨#[10, 115, 104, 111, 119, 10]⟩ : ByteArray).size ≤ 20000 := by
          simp only [append_tl, size_mk, tl_mk, List.length_append, length_tl] at hjz ⊢
          rw [show (⟨#[98, 111, 111, 107, 32]⟩ : ByteArray).size = 5 from rfl, show (⟨#[10, 99, 111, 100, 101, 32]⟩ : ByteArray).size = 6 from rfl, show (⟨#[10, 119, 111, 114, 100, 115, 32]⟩ : ByteArray).size = 7 from rfl, show (⟨#[10, 115, 104, 111, 119, 10]⟩ : ByteArray).size = 6 from rfl]
          omega
        have htl : tl (⟨#[98, 111, 111, 107, 32]⟩ ++ F ++ ⟨#[10, 99, 111, 100, 101, 32]⟩ ++ mk jl ++ ⟨#[10, 119, 111, 114, 100, 115, 32]⟩ ++ r ++ ⟨#[10, 115, 104, 111, 119, 10]⟩ : ByteArray) = [98, 111, 111, 107, 32] ++ tl F ++ [10, 99, 111, 100, 101, 32] ++ jl ++ [10, 119, 111, 114, 100, 115, 32] ++ tl r ++ [10, 115, 104, 111, 119, 10] := by
          simp only [append_tl, tl_mk]; rfl
        have hrn2 := HRUN.out w4 (HML.out.below HB.out (Nat.le_refl _)) _ htz ((congrArg (fun x => mkl (spl 10 x)) htl).trans HL.out)
        have hout : mk (outB (tl r) jl (tl F) 4) = ⟨#[111, 107, 10]⟩ ++ r ++ ⟨#[10]⟩ ++ mk jl ++ ⟨#[10, 98, 111, 111, 107, 32]⟩ ++ F ++ ⟨#[10]⟩ := by
          simp only [append_tl, tl_mk, outB]
          rw [show tl (⟨#[111, 107, 10]⟩ : ByteArray) = [111, 107, 10] from rfl, show tl (⟨#[10]⟩ : ByteArray) = [10] from rfl, show tl (⟨#[10, 98, 111, 111, 107, 32]⟩ : ByteArray) = [10, 98, 111, 111, 107, 32] from rfl]
          simp
        rw [hout] at hrn2
        clear htz htl hout
        have HX := Lib.hid hrn2; clear hrn2
        refine HX.out.mono ?_
        rintro _ w5 ⟨rfl, hb5⟩
        replace HB := Lib.hid (HB.out.trans (hb5.mono HB.out.size))
        replace HR := Lib.hid ((HR.out.below hb5).mono hb5.size)
        clear hb5
        have hfq := hfin (⟨#[111, 107, 10]⟩ ++ r ++ ⟨#[10]⟩ ++ mk jl ++ ⟨#[10, 98, 111, 111, 107, 32]⟩ ++ F ++ ⟨#[10]⟩)
        go_wp2_with fail
        have hfm := format_any _ A1 cap1 es HR.out hc1 HZ.out
        rw [hFB] at hfm
        refine hfm.mono ?_
        rintro _ w6 ⟨rfl, hb6⟩
        replace HB := Lib.hid (HB.out.trans (hb6.mono HB.out.size))
        clear hb6
        go_wp2_with fail
        go_ret
        exact ⟨rfl, HB.out⟩

end Go.Proofs.YteeeaeidocalnaaGreatDoor
