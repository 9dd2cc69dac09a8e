/-
  Contracts of Transpose and Untranspose. Conditions: what each theorem names.
-/
import Derived.Test.YteeeaeidocalnaaGreatDoorKeyOrd2
namespace Go.Proofs.YteeeaeidocalnaaGreatDoor
open Go.RowKit Pl
set_option linter.unusedVariables false

/-- what a word becomes, read by columns -/
def trP (s k : ByteArray) : List UInt8 := readP (tl s) (cols (tl k) s.size)
theorem length_trP (s k : ByteArray) (hk : keyV (tl k) = true) : (trP s k).length = s.size := by
  unfold trP; rw [length_readP, cols_length hk]
theorem wv_trP {s k : ByteArray} (hs : wv (tl s) = true) (hk : keyV (tl k) = true) : wv (trP s k) = true :=
  readP_wv hs (places_cols hk _) (by rw [cols_length hk, length_tl])

theorem transpose_some (w : World) (s k : ByteArray) (hs : wv (tl s) = true) (hk : keyV (tl k) = true) :
    Calls Tryz.prog 6 #[.string s, .string k] w fun e w' => e = .returned (.tuple #[.string (mk (trP s k)), .bool true]) ∧ Below w.heap.size w w' := by
  have hz := wv_length hs
  rw [length_tl] at hz
  have hcl := cols_length hk s.size
  have hpl := places_cols hk s.size
  have HS := Lib.hid hs; have HK := Lib.hid hk; have HCL := Lib.hid hcl; have HPL := Lib.hid hpl; clear hs hk hcl hpl
  go_enter Tryz.func6, Tryz.ntmps6
  go_wp2_with fail
  refine (wordValid_is _ true _ HS.out).mono ?_
  rintro _ _ ⟨rfl, rfl⟩
  go_wp2_with fail
  refine (keyValid_is _ true _ HK.out).mono ?_
  rintro _ _ ⟨rfl, rfl⟩
  go_wp2_with fail
  refine (columnPlaces_any _ k s.size HK.out hz).mono ?_
  rintro _ w1 ⟨v1, rfl, ho1, hb1⟩
  obtain ⟨A1, c1, rfl, hc1, _, hr1⟩ := ownsRow_rd ho1
  have HR1 := Lib.hid hr1; have HB1 := Lib.hid hb1; clear ho1 hr1 hb1
  go_wp2_with fail
  refine (readPlaces_ok _ s A1 c1 _ HR1.out hc1 HPL.out HS.out HCL.out).mono ?_
  rintro _ w2 ⟨rfl, hb2⟩
  have HB2 := Lib.hid (HB1.out.trans (hb2.mono HB1.out.size)); clear hb2
  go_wp2_with fail
  go_ret2
  exact ⟨rfl, HB2.out⟩
theorem transpose_none (w : World) (s k : ByteArray) (h : ¬ (wv (tl s) = true ∧ keyV (tl k) = true)) :
    Calls Tryz.prog 6 #[.string s, .string k] w fun e w' => e = .returned (.tuple #[.string (mk []), .bool false]) ∧ w = w' := by
  by_cases hs : wv (tl s) = true
  · have hk : keyV (tl k) = false := Bool.eq_false_iff.2 fun hk => h ⟨hs, hk⟩
    have HS := Lib.hid hs; have HK := Lib.hid hk; clear hs hk h
    go_enter Tryz.func6, Tryz.ntmps6
    go_wp2_with fail
    refine (wordValid_is _ true _ HS.out).mono ?_
    rintro _ _ ⟨rfl, rfl⟩
    go_wp2_with fail
    refine (keyValid_is _ false _ HK.out).mono ?_
    rintro _ _ ⟨rfl, rfl⟩
    go_wp2_with fail
    go_ret2
    exact ⟨rfl, rfl⟩
  · have HS := Lib.hid (Bool.eq_false_iff.2 hs); clear hs h
    go_enter Tryz.func6, Tryz.ntmps6
    go_wp2_with fail
    refine (wordValid_is _ false _ HS.out).mono ?_
    rintro _ _ ⟨rfl, rfl⟩
    go_wp2_with fail
    go_ret2
    exact ⟨rfl, rfl⟩
theorem sTranspose_some (w : World) (s k : ByteArray) (hs : wv (tl s) = true) (hk : keyV (tl k) = true) :
    Calls Tryz.prog 7 #[.string s, .string k] w fun e w' => e = .returned (.tuple #[.string (mk (trP s k)), .bool true]) ∧ Below w.heap.size w w' := by
  have hz := wv_length hs
  rw [length_tl] at hz
  have hcl := cols_length hk s.size
  have hmem : ∀ t ∈ cols (tl k) s.size, t < s.size := fun t ht => (cols_mem hk s.size t).1 ht
  have HS := Lib.hid hs; have HK := Lib.hid hk; have HCL := Lib.hid hcl; have HM := Lib.hid hmem; clear hs hk hcl hmem
  go_enter Tryz.func7, Tryz.ntmps7
  go_wp2_with fail
  refine (sWordValid_is _ true _ HS.out).mono ?_
  rintro _ _ ⟨rfl, rfl⟩
  go_wp2_with fail
  refine (l17Key_is _ true _ HK.out).mono ?_
  rintro _ _ ⟨rfl, rfl⟩
  go_wp2_with fail
  refine (sColumnPlaces_any _ k s.size HK.out hz).mono ?_
  rintro _ w1 ⟨v1, rfl, ho1, hb1⟩
  obtain ⟨A1, c1, rfl, hc1, _, hr1⟩ := ownsRow_rd ho1
  have HR1 := Lib.hid hr1; have HB1 := Lib.hid hb1; clear ho1 hr1 hb1
  go_wp2_with fail
  refine (l17Read_any _ s A1 c1 _ HR1.out hc1 HM.out (by omega) (by rw [HCL.out]; omega)).mono ?_
  rintro _ w2 ⟨rfl, hb2⟩
  have HB2 := Lib.hid (HB1.out.trans (hb2.mono HB1.out.size)); clear hb2
  go_wp2_with fail
  go_ret2
  exact ⟨rfl, HB2.out⟩
theorem sTranspose_none (w : World) (s k : ByteArray) (h : ¬ (wv (tl s) = true ∧ keyV (tl k) = true)) :
    Calls Tryz.prog 7 #[.string s, .string k] w fun e w' => e = .returned (.tuple #[.string (mk []), .bool false]) ∧ w = w' := by
  by_cases hs : wv (tl s) = true
  · have hk : keyV (tl k) = false := Bool.eq_false_iff.2 fun hk => h ⟨hs, hk⟩
    have HS := Lib.hid hs; have HK := Lib.hid hk; clear hs hk h
    go_enter Tryz.func7, Tryz.ntmps7
    go_wp2_with fail
    refine (sWordValid_is _ true _ HS.out).mono ?_
    rintro _ _ ⟨rfl, rfl⟩
    go_wp2_with fail
    refine (l17Key_is _ false _ HK.out).mono ?_
    rintro _ _ ⟨rfl, rfl⟩
    go_wp2_with fail
    go_ret2
    exact ⟨rfl, rfl⟩
  · have HS := Lib.hid (Bool.eq_false_iff.2 hs); clear hs h
    go_enter Tryz.func7, Tryz.ntmps7
    go_wp2_with fail
    refine (sWordValid_is _ false _ HS.out).mono ?_
    rintro _ _ ⟨rfl, rfl⟩
    go_wp2_with fail
    go_ret2
    exact ⟨rfl, rfl⟩
theorem untranspose_ok (w : World) (s k t : ByteArray) (hs : wv (tl s) = true) (hk : keyV (tl k) = true) (ht : tl t = trP s k) :
    Calls Tryz.prog 103 #[.string t, .string k] w fun e w' => e = .returned (.tuple #[.string s, .bool true]) ∧ Below w.heap.size w w' := by
  have hz := wv_length hs
  rw [length_tl] at hz
  have htz : t.size = s.size := by rw [← length_tl, ht, length_trP s k hk]
  have htw : wv (tl t) = true := by rw [ht]; exact wv_trP hs hk
  have hcl := cols_length hk t.size
  have hpl := places_cols hk t.size
  have hback : ∀ u, Undoes (cols (tl k) t.size) u → mk (readP (tl t) u) = s := fun u hu => by
    rw [ht]; unfold trP; rw [← htz, hu.read hpl (by rw [hcl, length_tl]; exact htz.symm), mk_tl]
  have HS := Lib.hid htw; have HK := Lib.hid hk; have HCL := Lib.hid hcl; have HPL := Lib.hid hpl; have HBK := Lib.hid hback
  have htz2 : t.size ≤ 200 := by omega
  clear hs hk hcl hpl hback htw ht htz hz
  go_enter Tryz.func103, Tryz.ntmps103
  go_wp2_with fail
  refine (wordValid_is _ true _ HS.out).mono ?_
  rintro _ _ ⟨rfl, rfl⟩
  go_wp2_with fail
  refine (keyValid_is _ true _ HK.out).mono ?_
  rintro _ _ ⟨rfl, rfl⟩
  go_wp2_with fail
  refine (columnPlaces_any _ k t.size HK.out htz2).mono ?_
  rintro _ w1 ⟨v1, rfl, ho1, hb1⟩
  obtain ⟨A1, c1, rfl, hc1, _, hr1⟩ := ownsRow_rd ho1
  have HR1 := Lib.hid hr1; have HB1 := Lib.hid hb1; clear ho1 hr1 hb1
  go_wp2_with fail
  refine (undoPlaces_ok _ A1 c1 _ HR1.out hc1 HPL.out (by rw [HCL.out]; exact htz2)).mono ?_
  rintro _ w2 ⟨v2, u, rfl, hun, ho2, hb2⟩
  obtain ⟨A2, c2, rfl, hc2, _, hr2⟩ := ownsRow_rd ho2
  have hpu := hun.places HPL.out
  have hul : u.length = t.size := by rw [hun.1]; exact HCL.out
  have hbu := HBK.out u hun
  have HR2 := Lib.hid hr2; have HB2 := Lib.hid (HB1.out.trans (hb2.mono HB1.out.size)); have HPU := Lib.hid hpu; have HUL := Lib.hid hul; have HBU := Lib.hid hbu; clear ho2 hr2 hb2 hpu hul hbu hun
  go_wp2_with fail
  refine (readPlaces_ok _ t A2 c2 u HR2.out hc2 HPU.out HS.out HUL.out).mono ?_
  rintro _ w3 ⟨rfl, hb3⟩
  rw [HBU.out]
  have HB3 := Lib.hid (HB2.out.trans (hb3.mono HB2.out.size)); clear hb3
  go_wp2_with fail
  go_ret2
  exact ⟨rfl, HB3.out⟩

end Go.Proofs.YteeeaeidocalnaaGreatDoor
