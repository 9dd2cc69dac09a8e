/-
  The walk of the law FnEncodeJoin: it returns true whatever the bytes are; nothing that was there is changed. No conditions.
-/
import Derived.Test.YtfeonbiokilmdaaDrawE
import Derived.Test.YtfeonbiokilmdaaPlainL
import Derived.Test.YtfeonbiokilmdaaMark
import Derived.Test.YtfeonbiokilmdaaCutRd
namespace Go.Proofs.Ytfeonbiokilmdaa
open Go.RowKit Pl
set_option linter.unusedVariables false

theorem encode_is (w : World) (A A' : Option Addr) (cap cap' : Nat) (es : List (ByteArray × ByteArray)) (ws : List ByteArray) (n : Nat) (hn : n = ws.length) (h : Rd w w.heap.size A (entV es)) (hc : es.length ≤ cap) (hz : ∀ e ∈ es, e.1.size ≤ maxLen ∧ e.2.size ≤ maxLen)
    (h' : Rd w w.heap.size A' (strV ws)) (hc' : ws.length ≤ cap') (hm' : ws.length ≤ 1048576) (hz' : ∀ s ∈ ws, s.size ≤ maxLen) :
    Calls Try.prog 35 #[.slice A es.length cap, .slice A' n cap'] w fun e w' => e = .returned (.tuple #[.string (strO (encW es ws)), .bool (encW es ws).isSome]) ∧ Below w.heap.size w w' := by
  subst hn; exact encode_any w A A' cap cap' es ws h hc hz h' hc' hm' hz'

set_option maxHeartbeats 8000000 in
set_option maxRecDepth 100000 in
theorem fnEncodeJoin_walk (w : World) (A : Option Addr) (cap : Nat) (bs : List UInt8) (h : Rd w w.heap.size A (bytesV bs)) (hc : bs.length ≤ cap)
    (A' : Option Addr) (cap' : Nat) (bs2 : List UInt8) (h' : Rd w w.heap.size A' (bytesV bs2)) (hc' : bs2.length ≤ cap') :
    Calls Try.prog 6 #[.slice A bs.length cap, .slice A' bs2.length cap'] w fun e w' => e = .returned (.bool true) ∧ Below w.heap.size w w' := by
  by_cases hlen : 1048576 < bs.length
  · go_enter Try.func6, Try.ntmps6
    go_wp2_with fail
    go_ret
    exact ⟨rfl, Below.refl _ _⟩
  · by_cases hlen2 : 1048576 < bs2.length
    · go_enter Try.func6, Try.ntmps6
      go_wp2_with fail
      go_ret
      exact ⟨rfl, Below.refl _ _⟩
    go_enter Try.func6, Try.ntmps6
    go_wp2_with fail
    refine (drawEncodeWords_any w A cap bs h hc).mono ?_
    rintro _ w1 ⟨A1, cap1, es, A2, cap2, ws, rfl, hr1, hc1, hz, hl, hr2, hc2, hz2, hl2, hm2, hb1⟩
    have HR := Lib.hid hr1; have HZ := Lib.hid hz; have HS := Lib.hid hr2; have HZ2 := Lib.hid hz2; have HB := Lib.hid hb1; clear hr1 hz hr2 hz2 hb1 h
    go_wp2_with fail
    refine (encode_any _ A1 A2 cap1 cap2 es ws HR.out hc1 HZ.out HS.out hc2 (by omega) HZ2.out).mono ?_
    rintro _ w2 ⟨rfl, hb2⟩
    replace HB := Lib.hid (HB.out.trans (hb2.mono HB.out.size))
    replace HR := Lib.hid ((HR.out.below hb2).mono hb2.size)
    replace HS := Lib.hid ((HS.out.below hb2).mono hb2.size)
    clear hb2
    go_wp2_with fail
    refine (sEncode_any _ _ _ A1 A2 cap1 cap2 es ws HR.out hc1 (by omega) HS.out hc2 (by omega)).mono ?_
    rintro _ _ ⟨rfl, rfl⟩
    cases he : encW es ws with
    | none =>
      simp only [strO, Option.isSome_none]
      clear he
      go_wp2_with fail
      go_ret
      exact ⟨rfl, HB.out⟩
    | some r =>
      simp only [strO, Option.isSome_some]
      obtain ⟨k, hk⟩ : ∃ k, k = bs2.length % (ws.length + 1) := ⟨_, rfl⟩
      have hkl : k ≤ ws.length := by rw [hk]; have := Nat.mod_lt bs2.length (show 0 < ws.length + 1 by omega); omega
      have hkk : (bs2.length : Int).tmod ((ws.length : Int) + 1) = (k : Int) := by rw [hk]; rfl
      obtain ⟨x, y, hx, hy, hxy, hxz, hyz⟩ := enc_join he k
      have HX := Lib.hid hx; have HY := Lib.hid hy; clear hx hy he hk
      go_wp2_with fail
      refine (encode_is _ A1 A2 cap1 cap2 es (ws.take k) k (by rw [List.length_take]; omega) HR.out hc1 HZ.out (by rw [strV_take]; exact HS.out.take k) (by rw [List.length_take]; omega) (by rw [List.length_take]; omega) (fun s hs => HZ2.out s (List.mem_of_mem_take hs))).mono ?_
      rintro _ w3 ⟨rfl, hb3⟩
      replace HB := Lib.hid (HB.out.trans (hb3.mono HB.out.size))
      replace HR := Lib.hid ((HR.out.below hb3).mono hb3.size)
      replace HS := Lib.hid ((HS.out.below hb3).mono hb3.size)
      clear hb3
      rw [HX.out]
      simp only [strO, Option.isSome_some]
      go_wp2_with fail
      all_goals
        refine (encode_is _ A1 _ cap1 _ es (ws.drop k) (ws.length - k) (by rw [List.length_drop]) HR.out hc1 HZ.out ?_ ?_ (by rw [List.length_drop]; omega) (fun s hs => HZ2.out s (List.mem_of_mem_drop hs))).mono ?_
        · first
          | (rw [strV_drop]; exact HS.out.dropO k)
          | (rw [show ws.drop k = [] from List.drop_eq_nil_of_le (by omega)]; exact Rd.nil)
        · rw [List.length_drop]; omega
        rintro _ w4 ⟨rfl, hb4⟩
        replace HB := Lib.hid (HB.out.trans (hb4.mono HB.out.size))
        clear hb4
        rw [HY.out]
        simp only [strO, Option.isSome_some]
        have hxs : ((x ++ y).toList == r.toList) = true := by rw [hxy]; simp
        go_wp2_with fail
        go_ret
        exact ⟨rfl, HB.out⟩

end Go.Proofs.Ytfeonbiokilmdaa
