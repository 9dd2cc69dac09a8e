/-
  The walk of the law FnExactMergeBooks: it returns true whatever the entries and the string are; nothing that was there is changed. No conditions.
-/
import Derived.Test.YtpkkplpaefogmaaMergeB
import Derived.Test.YtpkkplpaefogmaaMark
import Derived.Test.YtpkkplpaefogmaaDrawG
namespace Go.Proofs.Ytpkkplpaefogmaa
open Go.RowKit Pl
set_option linter.unusedVariables false

theorem merge_len (a b : List Ent) : ((mergeW a b).getD []).length ≤ 1048576 := by
  cases h : mergeW a b with
  | none => simp
  | some l => obtain ⟨h1, rfl⟩ := mergeW_some h; have := h1.2.2.1; rw [Option.getD_some]; omega

set_option maxHeartbeats 8000000 in
theorem fnExactMergeBooks_walk (w : World) (A : Option Addr) (cap : Nat) (es : List (ByteArray × ByteArray)) (h : Rd w w.heap.size A (entV es)) (hc : es.length ≤ cap) (hm : cap ≤ maxLen) (hz : ∀ e ∈ es, e.1.size ≤ maxLen ∧ e.2.size ≤ maxLen)
    (Ab : Option Addr) (capb : Nat) (fs : List (ByteArray × ByteArray)) (hb' : Rd w w.heap.size Ab (entV fs)) (hcb : fs.length ≤ capb) (hmb : capb ≤ maxLen) (hzb : ∀ e ∈ fs, e.1.size ≤ maxLen ∧ e.2.size ≤ maxLen) :
    Calls Try.prog 4 #[.slice A es.length cap, .slice Ab fs.length capb] w fun e w' => e = .returned (.bool true) ∧ Below w.heap.size w w' := by
  have HR0 := Lib.hid h; have HZ := Lib.hid hz; have HQ0 := Lib.hid hb'; have HZb := Lib.hid hzb; clear hb' hzb; have HB := Lib.hid (Below.refl w.heap.size w); clear h hz
  go_enter Try.func4, Try.ntmps4
  go_wp2_with fail
  refine (szEntryS_any w A cap es 1048576 HR0.out hc hm HZ.out (by omega) (by omega)).mono ?_
  rintro _ w1 ⟨m, rfl, hm1, hb1⟩
  replace HB := Lib.hid (HB.out.trans (hb1.mono HB.out.size))
  clear hb1
  rcases hm1 with rfl | ⟨m0, m1, hl, hsz⟩
  · go_wp2_with fail
    go_ret
    exact ⟨rfl, HB.out⟩
  clear hsz
  go_wp2_with fail
  refine (szEntryS_any _ Ab capb fs m ((HQ0.out.below HB.out).mono HB.out.size) hcb hmb HZb.out (by omega) (by omega)).mono ?_
  rintro _ w1b ⟨mb, rfl, hm1b, hb1b⟩
  replace HB := Lib.hid (HB.out.trans (hb1b.mono HB.out.size))
  clear hb1b
  rcases hm1b with rfl | ⟨m0b, m1b, hlb, hszb⟩
  · go_wp2_with fail
    go_ret
    exact ⟨rfl, HB.out⟩
  clear hszb
  go_wp2_with fail
  refine (toEntryS_any _ A cap es ((HR0.out.below HB.out).mono HB.out.size) hc hl).mono ?_
  rintro _ w2 ⟨v2, rfl, ho2, hb2⟩
  obtain ⟨A2, cap2, rfl, hc2, _, hr2⟩ := ownsRow_rd ho2
  replace HB := Lib.hid (HB.out.trans (hb2.mono HB.out.size))
  clear hb2
  have HX := Lib.hid ho2; clear ho2 hr2
  go_wp2_with fail
  refine (toEntryS_any _ Ab capb fs ((HQ0.out.below HB.out).mono HB.out.size) hcb hlb).mono ?_
  rintro _ w2b ⟨v2b, rfl, ho2b, hb2b⟩
  obtain ⟨A2b, cap2b, rfl⟩ := slot_slice ho2b
  replace HB := Lib.hid (HB.out.trans (hb2b.mono HB.out.size))
  replace HX := Lib.hid (ownsRow_below HX.out hb2b)
  clear hb2b
  have HY := Lib.hid ho2b; clear ho2b
  go_wp2_with fail
  refine (sMerge_any w2b A2 A2b cap2 cap2b es fs (own_rd HX.out) (own_le HX.out) (own_none HX.out) hl (own_rd HY.out) (own_le HY.out) hlb).mono ?_
  rintro _ w3 ⟨v3, rfl, ho3, hb3⟩
  obtain ⟨r, hr⟩ : ∃ r, r = mergeW es fs := ⟨_, rfl⟩
  rw [← hr] at ho3 ⊢
  have HRR := Lib.hid hr; clear hr
  have hrl : (r.getD []).length ≤ 1048576 := by rw [HRR.out]; exact merge_len es fs
  replace HB := Lib.hid (HB.out.trans (hb3.mono HB.out.size))
  clear hb3
  obtain ⟨A3, cap3, rfl⟩ := slot_slice ho3
  have HW := Lib.hid ho3; clear HX HY ho3
  go_wp2_with fail
  refine (toEntryS_any _ A cap es ((HR0.out.below HB.out).mono HB.out.size) hc hl).mono ?_
  have HB3S := Lib.hid HB.out.size
  rintro _ w4 ⟨v4, rfl, ho4, hb4⟩
  have AP1 := Lib.hid (own_apart HW.out ho4 (Nat.le_refl _))
  replace HB := Lib.hid (HB.out.trans (hb4.mono HB.out.size))
  replace HW := Lib.hid (ownsRow_below HW.out hb4)
  clear hb4
  obtain ⟨A4, cap4, rfl⟩ := slot_slice ho4
  have AT4 := Lib.hid (HB3S.out); have HX := Lib.hid ho4; clear ho4
  go_wp2_with fail
  refine (toEntryS_any _ Ab capb fs ((HQ0.out.below HB.out).mono HB.out.size) hcb hlb).mono ?_
  have AT4b := Lib.hid HB.out.size
  rintro _ w4b ⟨v4b, rfl, ho4b, hb4b⟩
  have AP1b := Lib.hid (own_apart HW.out ho4b (Nat.le_refl _))
  have APX := Lib.hid (own_apart HX.out ho4b (Nat.le_refl _))
  replace HB := Lib.hid (HB.out.trans (hb4b.mono HB.out.size))
  replace HW := Lib.hid (ownsRow_below HW.out hb4b)
  replace HX := Lib.hid (ownsRow_below HX.out hb4b)
  clear hb4b
  obtain ⟨A4b, cap4b, rfl⟩ := slot_slice ho4b
  have HY := Lib.hid ho4b; clear ho4b
  go_wp2_with fail
  refine (merge_any w4b A4 A4b cap4 cap4b es fs (own_rd HX.out) (own_le HX.out) (own_none HX.out) HZ.out (own_rd HY.out) (own_le HY.out) HZb.out).mono ?_
  have AT5 := Lib.hid HB.out.size
  rintro _ w5 ⟨v5, rfl, ho5, hb5⟩
  rw [← HRR.out] at ho5 ⊢
  have AP2 := Lib.hid (own_apart HW.out ho5 (Nat.le_refl _))
  have AP3 := Lib.hid (own_apart HX.out ho5 (Nat.le_refl _))
  have AP3b := Lib.hid (own_apart HY.out ho5 (Nat.le_refl _))
  replace HB := Lib.hid (HB.out.trans (hb5.mono HB.out.size))
  replace HW := Lib.hid (ownsRow_below HW.out hb5)
  replace HX := Lib.hid (ownsRow_below HX.out hb5)
  replace HY := Lib.hid (ownsRow_below HY.out hb5)
  clear hb5
  obtain ⟨A5, cap5, rfl⟩ := slot_slice ho5
  have HG := Lib.hid ho5; clear ho5
  obtain ⟨b, hb⟩ : ∃ b, b = r.isSome := ⟨_, rfl⟩
  rw [← hb]
  have HBB := Lib.hid hb; clear hb
  have hbb : (b != b) = false := by simp
  obtain ⟨l, hll⟩ : ∃ l, l = r.getD [] := ⟨_, rfl⟩
  rw [← hll] at HW HG hrl AP1 AP2 AP3 AP1b AP3b
  rw [← hll]
  have HLL := Lib.hid hll; clear hll
  go_wp2_with fail
  refine (eqEntryS_same _ A5 A3 cap5 cap3 l (own_rd HG.out) (own_rd HW.out) hrl (own_le HG.out) (own_le HW.out)).mono ?_
  rintro _ w6 ⟨rfl, hb6⟩
  replace HB := Lib.hid (HB.out.trans (hb6.mono HB.out.size))
  replace HW := Lib.hid (ownsRow_below HW.out hb6)
  replace HX := Lib.hid (ownsRow_below HX.out hb6)
  replace HY := Lib.hid (ownsRow_below HY.out hb6)
  replace HG := Lib.hid (ownsRow_below HG.out hb6)
  clear hb6
  go_wp2_with fail
  refine (toEntryS_any _ A cap es ((HR0.out.below HB.out).mono HB.out.size) hc hl).mono ?_
  rintro _ w7 ⟨v7, rfl, ho7, hb7⟩
  obtain ⟨A7, cap7, rfl⟩ := slot_slice ho7
  replace HB := Lib.hid (HB.out.trans (hb7.mono HB.out.size))
  replace HW := Lib.hid (ownsRow_below HW.out hb7)
  replace HX := Lib.hid (ownsRow_below HX.out hb7)
  replace HY := Lib.hid (ownsRow_below HY.out hb7)
  replace HG := Lib.hid (ownsRow_below HG.out hb7)
  clear hb7
  have HU := Lib.hid ho7; clear ho7
  go_wp2_with fail
  refine (eqEntryS_same _ A4 A7 cap4 cap7 es (own_rd HX.out) (own_rd HU.out) hl (own_le HX.out) (own_le HU.out)).mono ?_
  rintro _ w8 ⟨rfl, hb8⟩
  replace HB := Lib.hid (HB.out.trans (hb8.mono HB.out.size))
  replace HW := Lib.hid (ownsRow_below HW.out hb8)
  replace HX := Lib.hid (ownsRow_below HX.out hb8)
  replace HY := Lib.hid (ownsRow_below HY.out hb8)
  replace HG := Lib.hid (ownsRow_below HG.out hb8)
  clear hb8
  clear HU
  go_wp2_with fail
  refine (toEntryS_any _ Ab capb fs ((HQ0.out.below HB.out).mono HB.out.size) hcb hlb).mono ?_
  rintro _ w7b ⟨v7b, rfl, ho7b, hb7b⟩
  obtain ⟨A7b, cap7b, rfl⟩ := slot_slice ho7b
  replace HB := Lib.hid (HB.out.trans (hb7b.mono HB.out.size))
  replace HW := Lib.hid (ownsRow_below HW.out hb7b)
  replace HX := Lib.hid (ownsRow_below HX.out hb7b)
  replace HY := Lib.hid (ownsRow_below HY.out hb7b)
  replace HG := Lib.hid (ownsRow_below HG.out hb7b)
  clear hb7b
  have HU := Lib.hid ho7b; clear ho7b
  go_wp2_with fail
  refine (eqEntryS_same _ A4b A7b cap4b cap7b fs (own_rd HY.out) (own_rd HU.out) hlb (own_le HY.out) (own_le HU.out)).mono ?_
  rintro _ w8b ⟨rfl, hb8b⟩
  replace HB := Lib.hid (HB.out.trans (hb8b.mono HB.out.size))
  replace HW := Lib.hid (ownsRow_below HW.out hb8b)
  replace HX := Lib.hid (ownsRow_below HX.out hb8b)
  replace HY := Lib.hid (ownsRow_below HY.out hb8b)
  replace HG := Lib.hid (ownsRow_below HG.out hb8b)
  clear hb8b
  clear HU
  go_wp2_with fail
  refine (markEntryS_any _ _ _ es.length 1 _ HX.out hl (by omega) (by omega)).mono ?_
  rintro _ w9 ⟨rfl, ho9, hg9⟩
  replace HB := Lib.hid (HB.out.grown hg9 HB.out.size fun k hk => Nat.le_trans (AT4.out) (HX.out.lt k hk).1)
  replace HW := Lib.hid (HW.out.kept hg9 AP1.out)
  replace HG := Lib.hid (HG.out.kept hg9 (own_apart' AP3.out))
  replace HY := Lib.hid (HY.out.kept hg9 (own_apart' APX.out))
  clear ho9 hg9 HX AP1 AP3 APX
  go_wp2_with fail
  refine (markEntryS_any _ _ _ fs.length (1 + 2 * es.length) _ HY.out hlb (by omega) (by omega)).mono ?_
  rintro _ w9b ⟨rfl, ho9b, hg9b⟩
  replace HB := Lib.hid (HB.out.grown hg9b HB.out.size fun k hk => Nat.le_trans (AT4b.out) (HY.out.lt k hk).1)
  replace HW := Lib.hid (HW.out.kept hg9b AP1b.out)
  replace HG := Lib.hid (HG.out.kept hg9b (own_apart' AP3b.out))
  clear ho9b hg9b HY AP1b AP3b
  go_wp2_with fail
  refine (eqEntryS_same _ A5 A3 cap5 cap3 l (own_rd HG.out) (own_rd HW.out) hrl (own_le HG.out) (own_le HW.out)).mono ?_
  rintro _ w10 ⟨rfl, hb10⟩
  replace HB := Lib.hid (HB.out.trans (hb10.mono HB.out.size))
  replace HW := Lib.hid (ownsRow_below HW.out hb10)
  replace HG := Lib.hid (ownsRow_below HG.out hb10)
  clear hb10
  go_wp2_with fail
  refine (markEntryS_any _ _ _ l.length 1 _ HG.out hrl (by omega) (by omega)).mono ?_
  rintro _ w11 ⟨rfl, ho11, hg11⟩
  replace HB := Lib.hid (HB.out.grown hg11 HB.out.size fun k hk => Nat.le_trans (AT5.out) (HG.out.lt k hk).1)
  replace HW := Lib.hid (HW.out.kept hg11 AP2.out)
  replace HG := Lib.hid ho11
  clear ho11 hg11 AP2
  go_wp2_with fail
  refine (heldEntryS_any _ A5 cap5 l.length 1 (own_rd HG.out) (own_le HG.out) hrl (by omega) (by omega)).mono ?_
  rintro _ w12 ⟨rfl, hb12⟩
  replace HB := Lib.hid (HB.out.trans (hb12.mono HB.out.size))
  replace HW := Lib.hid (ownsRow_below HW.out hb12)
  replace HG := Lib.hid (ownsRow_below HG.out hb12)
  clear hb12
  go_wp2_with fail
  refine (toEntryS_any _ A cap es ((HR0.out.below HB.out).mono HB.out.size) hc hl).mono ?_
  rintro _ w13 ⟨v13, rfl, ho13, hb13⟩
  obtain ⟨A13, cap13, rfl⟩ := slot_slice ho13
  replace HB := Lib.hid (HB.out.trans (hb13.mono HB.out.size))
  replace HW := Lib.hid (ownsRow_below HW.out hb13)
  replace HG := Lib.hid (ownsRow_below HG.out hb13)
  clear hb13
  have HX := Lib.hid ho13; clear ho13
  go_wp2_with fail
  refine (toEntryS_any _ Ab capb fs ((HQ0.out.below HB.out).mono HB.out.size) hcb hlb).mono ?_
  rintro _ w13b ⟨v13b, rfl, ho13b, hb13b⟩
  obtain ⟨A13b, cap13b, rfl⟩ := slot_slice ho13b
  replace HB := Lib.hid (HB.out.trans (hb13b.mono HB.out.size))
  replace HW := Lib.hid (ownsRow_below HW.out hb13b)
  replace HG := Lib.hid (ownsRow_below HG.out hb13b)
  replace HX := Lib.hid (ownsRow_below HX.out hb13b)
  clear hb13b
  have HY := Lib.hid ho13b; clear ho13b
  go_wp2_with fail
  refine (merge_any w13b A13 A13b cap13 cap13b es fs (own_rd HX.out) (own_le HX.out) (own_none HX.out) HZ.out (own_rd HY.out) (own_le HY.out) HZb.out).mono ?_
  rintro _ w14 ⟨v14, rfl, ho14, hb14⟩
  rw [← HRR.out] at ho14 ⊢
  rw [← HBB.out]
  rw [← HLL.out] at ho14
  replace HB := Lib.hid (HB.out.trans (hb14.mono HB.out.size))
  replace HW := Lib.hid (ownsRow_below HW.out hb14)
  replace HG := Lib.hid (ownsRow_below HG.out hb14)
  clear hb14
  obtain ⟨A14, cap14, rfl⟩ := slot_slice ho14
  have HH := Lib.hid ho14; clear ho14
  go_wp2_with fail
  refine (eqEntryS_same _ A14 A3 cap14 cap3 l (own_rd HH.out) (own_rd HW.out) hrl (own_le HH.out) (own_le HW.out)).mono ?_
  rintro _ w15 ⟨rfl, hb15⟩
  replace HB := Lib.hid (HB.out.trans (hb15.mono HB.out.size))
  replace HG := Lib.hid (ownsRow_below HG.out hb15)
  clear hb15
  go_wp2_with fail
  refine (heldEntryS_any _ A5 cap5 l.length 1 (own_rd HG.out) (own_le HG.out) hrl (by omega) (by omega)).mono ?_
  rintro _ w16 ⟨rfl, hb16⟩
  replace HB := Lib.hid (HB.out.trans (hb16.mono HB.out.size))
  clear hb16
  go_wp2_with fail
  go_ret
  exact ⟨rfl, HB.out⟩

end Go.Proofs.Ytpkkplpaefogmaa
