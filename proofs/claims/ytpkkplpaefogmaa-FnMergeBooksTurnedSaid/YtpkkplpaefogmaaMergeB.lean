/-
  Contracts of MergeBooks, of the program and of the reference. No conditions but those that each theorem names.
-/
import Derived.Test.YtpkkplpaefogmaaHasE
import Derived.Test.YtpkkplpaefogmaaCopyE
import Derived.BigCall
namespace Go.Proofs.Ytpkkplpaefogmaa
open Go.RowKit Pl
set_option linter.unusedVariables false

/-- the callee has made the merged book -/
def Merged (a b : List Ent) (w : World) (e : Ending) (w' : World) : Prop :=
  ∃ v, e = .returned (.tuple #[v, .bool (mergeW a b).isSome]) ∧ w'.ownsRow w.heap.size 27 2 v ((mergeW a b).getD []).length (entV ((mergeW a b).getD [])) ∧ Below w.heap.size w w'
theorem Merged.no {a b : List Ent} (hn : mergeW a b = none) {w w' : World} (hb : Below w.heap.size w w') : Merged a b w (.returned (.tuple #[.slice none 0 0, .bool false])) w' :=
  ⟨.slice none 0 0, by rw [hn]; rfl, by rw [hn]; exact World.ownsRow_nil _ _ _ _, hb⟩
theorem Merged.yes {a b l : List Ent} (hn : mergeW a b = some l) {w w' : World} {v : Value} (ho : w'.ownsRow w.heap.size 27 2 v l.length (entV l)) (hb : Below w.heap.size w w') : Merged a b w (.returned (.tuple #[v, .bool true])) w' :=
  ⟨v, by rw [hn]; rfl, by rw [hn]; exact ho, hb⟩
theorem two_cellE {s t : ByteArray} : ∀ u ∈ [Value.string s, Value.string t], u.oneCell' = true := by
  intro u hu; simp at hu; rcases hu with rfl | rfl <;> rfl
theorem entV_snoc (l : List Ent) (e : Ent) : entV l ++ [.string e.1, .string e.2] = entV (l ++ [e]) := by simp [entV]
theorem sizes_merge {a b : List Ent} (hz : ∀ e ∈ a, e.1.size ≤ maxLen ∧ e.2.size ≤ maxLen) (hz' : ∀ e ∈ b, e.1.size ≤ maxLen ∧ e.2.size ≤ maxLen) : ∀ e ∈ mergeL a b, e.1.size ≤ maxLen ∧ e.2.size ≤ maxLen := fun e he => by
  rw [mem_mergeL] at he
  rcases he with he | he
  · exact hz e he
  · exact hz' e he

set_option maxHeartbeats 4000000 in
set_option maxRecDepth 100000 in
theorem merge_any (w : World) (A A' : Option Addr) (cap cap' : Nat) (a b : List Ent) (h : Rd w w.heap.size A (entV a)) (hc : a.length ≤ cap) (hA : A = none → cap = 0) (hz : ∀ e ∈ a, e.1.size ≤ maxLen ∧ e.2.size ≤ maxLen)
    (h' : Rd w w.heap.size A' (entV b)) (hc' : b.length ≤ cap') (hz' : ∀ e ∈ b, e.1.size ≤ maxLen ∧ e.2.size ≤ maxLen) :
    Calls Try.prog 18 #[.slice A a.length cap, .slice A' b.length cap'] w (Merged a b w) := by
  obtain ⟨iE, hi, hz0, hz1, hz2⟩ := info_parts Try.infoE
  have HI := Lib.hid hi; have HZ0 := Lib.hid hz0; have HZ1 := Lib.hid hz1; have HZ2 := Lib.hid hz2
  clear hi hz0 hz1 hz2
  have HB := Lib.hid (Below.refl w.heap.size w)
  have HR := Lib.hid h; have HS := Lib.hid h'; have HZ := Lib.hid hz; have HZ' := Lib.hid hz'; have HA := Lib.hid hA; clear h h' hz hz' hA
  by_cases ha : bookV a
  · by_cases hb : bookV b
    · have hla : a.length ≤ 20 := ha.1
      have hlb : b.length ≤ 20 := hb.1
      have HVA := Lib.hid ha; have HVB := Lib.hid hb; clear ha hb
      go_enter Try.func18, Try.ntmps18
      go_wp2_with fail
      refine (bookValid_is _ A cap a HR.out hc HZ.out true (bkT HVA.out)).mono ?_
      rintro _ w1 ⟨rfl, hb1⟩
      replace HB := Lib.hid (HB.out.trans (hb1.mono HB.out.size))
      replace HR := Lib.hid ((HR.out.below hb1).mono hb1.size)
      replace HS := Lib.hid ((HS.out.below hb1).mono hb1.size)
      clear hb1
      go_wp2_with fail
      refine (bookValid_is _ A' cap' b HS.out hc' HZ'.out true (bkT HVB.out)).mono ?_
      rintro _ w2 ⟨rfl, hb2⟩
      replace HB := Lib.hid (HB.out.trans (hb2.mono HB.out.size))
      replace HR := Lib.hid ((HR.out.below hb2).mono hb2.size)
      replace HS := Lib.hid ((HS.out.below hb2).mono hb2.size)
      clear hb2
      have hm0 : (w2.alloc (.cells #[] 27)).ownsRow w2.heap.size 27 2 (.slice (some ⟨w2.heap.size, 0, none⟩) 0 0) 0 [] := World.ownsRow_made w2 #[] 0 (Nat.le_refl _) (by decide) rfl
      have hr0 : Rd (w2.alloc (.cells #[] 27)) w2.heap.size A (entV a) := HR.out.below ((Below.refl _ _).alloc (Nat.le_refl _) _)
      have hs0 : (w2.alloc (.cells #[] 27)).heap.size = w2.heap.size + 1 := by simp
      have HM0 := Lib.hid hm0; have HR0 := Lib.hid hr0; have HS0 := Lib.hid hs0; clear hm0 hr0 hs0
      go_wp2_with (at_builtin; refine wpList_copyE rfl _ _ rfl iE HI.out HZ0.out HZ1.out HZ2.out w2.heap.size w2.heap.size rfl HM0.out A cap a w2.heap.size rfl HR0.out HA.out (by omega) (by have := HS0.out; omega) ?_)
      intro v3 w3 ho3 hg3
      have hb3 : Below w2.heap.size w2 w3 := ((Below.refl w2.heap.size w2).alloc (Nat.le_refl _) _).grown hg3 (by have := HS0.out; omega) fun k e => by injection e with e; omega
      have HB3 := Lib.hid hb3; clear hb3 hg3 HM0 HR0 HS0
      obtain ⟨A3, cap3, e3, _⟩ := ownsRow_rd ho3
      subst e3
      have HO := Lib.hid ho3; clear ho3
      go_wp2_with fail
      go_loopw [6, 22] (fun v i wr => ∃ k : Nat, k ≤ b.length ∧ i = .int .i64 k ∧ wr.ownsRow w2.heap.size 27 2 v (mergeL a (b.take k)).length (entV (mergeL a (b.take k))) ∧ Below w2.heap.size w2 wr) (fun _ i _ => b.length - (intOf i).toNat)
      case atStart => exact ⟨0, Nat.zero_le _, rfl, by rw [List.take_zero]; unfold mergeL; rw [List.filter_nil, List.append_nil]; exact HO.out, HB3.out⟩
      case round =>
        obtain ⟨k, hk, rfl, hown, hb3r⟩ := hrel
        clear HB3
        have HOW := Lib.hid hown; have HB3 := Lib.hid hb3r; clear hown hb3r HO
        have HRr := Lib.hid ((HR.out.below HB3.out).mono HB3.out.size)
        obtain ⟨A4, cap4, e4, hc4, _, hr4⟩ := ownsRow_rd HOW.out
        subst e4
        have HR4 := Lib.hid hr4; clear hr4
        by_cases hlt : k < b.length
        · obtain ⟨b0, off, rfl, hb0, c0, c1⟩ := (HS.out.below HB3.out).ent hlt
          have hms := merge_snoc a b k hlt
          have hml := merge_length a (b.take k)
          rw [List.length_take] at hml
          generalize b[k] = e at c0 c1 hms
          have HMS := Lib.hid hms; clear hms
          have hrn : Rd (wr.alloc (.cells #[.string e.1, .string e.2] 27)) (wr.alloc (.cells #[.string e.1, .string e.2] 27)).heap.size A (entV a) := (HRr.out.below ((Below.refl _ _).alloc (Nat.le_refl _) _)).mono (by simp)
          have hon := HOW.out.alloc (.cells #[.string e.1, .string e.2] 27)
          have hbn : Below w2.heap.size w2 (wr.alloc (.cells #[.string e.1, .string e.2] 27)) := HB3.out.alloc HB3.out.size _
          have HRN := Lib.hid hrn; have HON := Lib.hid hon; have HBN := Lib.hid hbn; clear hrn hon hbn HRr HR4
          by_cases hmem : e ∈ a
          · have hmn := HMS.out
            rw [if_pos hmem] at hmn
            have HMN := Lib.hid hmn; have HME := Lib.hid hmem; clear hmn hmem HMS
            go_wp2_with fail
            refine (contains_any _ A cap a e true (by simp [HME.out]) HRN.out (by omega)).mono ?_
            rintro _ w5 ⟨rfl, hb5⟩
            have HO5 := Lib.hid (ownsRow_below HON.out hb5)
            have HB5 := Lib.hid (HBN.out.trans (hb5.mono HBN.out.size)); clear hb5 c0 c1
            go_wp2_with fail
            go_roundw
            case rel => exact ⟨k + 1, by omega, by go_num, by rw [HMN.out]; exact HO5.out, HB5.out⟩
            case measure => simp [intOf]; omega
          · have hmn := HMS.out
            rw [if_neg hmem] at hmn
            have HMN := Lib.hid hmn; have HME := Lib.hid hmem; clear hmn hmem HMS
            have k0 : (wr.alloc (.cells #[.string e.1, .string e.2] 27)).cell? ⟨wr.heap.size, 0, none⟩ = some (.string e.1) := by simp
            have k1 : (wr.alloc (.cells #[.string e.1, .string e.2] 27)).cell? ⟨wr.heap.size, 1, none⟩ = some (.string e.2) := by simp
            have K0 := Lib.hid k0; have K1 := Lib.hid k1; clear k0 k1
            go_wp2_with fail
            refine (contains_any _ A cap a e false (by simp [HME.out]) HRN.out (by omega)).mono ?_
            rintro _ w5 ⟨rfl, hb5⟩
            have d0 := (hb5.cell (World.block_lt_of_cell? _ _ K0.out)).trans K0.out
            have d1 := (hb5.cell (World.block_lt_of_cell? _ _ K1.out)).trans K1.out
            have HO5 := Lib.hid (ownsRow_below HON.out hb5)
            have HB5 := Lib.hid (HBN.out.trans (hb5.mono HBN.out.size)); clear hb5 c0 c1
            go_wp2_with (at_builtin; refine wpList_append_own _ rfl _ _ 23 rfl w2.heap.size 27 iE (.agg #[.string ByteArray.empty, .string ByteArray.empty]) 2 32 Try.undE HI.out HZ0.out HZ1.out HZ2.out rfl (by decide) _ (mergeL a (b.take k)).length _ rfl (HO5.out.alloc _) ⟨w5.heap.size, 0, none⟩ 1 1 [.string e.1, .string e.2] rfl rfl (cell_two_new w5 (.string e.1) (.string e.2) 27) two_cellE (by unfold maxLen; omega) (by omega) (by have := HB5.out.size; rw [heapsize_alloc]; omega) ?_)
            intro v' w6 ho' hg' _
            have hln : (mergeL a (b.take k)).length + 1 = (mergeL a (b.take (k + 1))).length := by rw [HMN.out, List.length_append]; rfl
            rw [entV_snoc, ← HMN.out, hln] at ho'
            clear hln
            have hb6 : Below w2.heap.size w2 w6 := (HB5.out.alloc HB5.out.size _).grown hg' (by have := HB5.out.size; rw [heapsize_alloc]; omega) fun j ej => (HO5.out.lt j ej).1
            have HO6 := Lib.hid ho'; have HB6 := Lib.hid hb6; clear ho' hg' hb6
            obtain ⟨A6, cap6, e6, _⟩ := ownsRow_rd HO6.out
            subst e6
            go_wp2_with fail
            go_roundw
            case rel => exact ⟨k + 1, by omega, by go_num, HO6.out, HB6.out⟩
            case measure => simp [intOf]; omega
        · have hkl : k = b.length := by omega
          subst hkl
          rw [List.take_of_length_le (Nat.le_refl _)] at HOW HR4 hc4 ⊢
          cases hv : mergeW a b with
          | none =>
            have hnb : ¬ bookV (mergeL a b) := fun hh => by rw [mergeW_ok ⟨HVA.out, HVB.out, hh⟩] at hv; cases hv
            have HNB := Lib.hid hnb; have HV := Lib.hid hv; clear hnb hv
            go_wp2_with fail
            refine (bookValid_is _ A4 cap4 (mergeL a b) HR4.out hc4 (sizes_merge HZ.out HZ'.out) false (bkF HNB.out)).mono ?_
            rintro _ w5 ⟨rfl, hb5⟩
            have HB5 := Lib.hid (HB3.out.trans (hb5.mono HB3.out.size)); clear hb5
            go_wp2_with fail
            go_ret2
            exact Merged.no HV.out (HB.out.trans (HB5.out.mono HB.out.size))
          | some l =>
            have hs := mergeW_some hv
            obtain ⟨hs1, rfl⟩ := hs
            have HNB := Lib.hid hs1.2.2; have HV := Lib.hid hv; clear hs1 hv
            go_wp2_with fail
            refine (bookValid_is _ A4 cap4 (mergeL a b) HR4.out hc4 (sizes_merge HZ.out HZ'.out) true (bkT HNB.out)).mono ?_
            rintro _ w5 ⟨rfl, hb5⟩
            have HO5 := Lib.hid (ownsRow_below HOW.out hb5)
            have HB5 := Lib.hid (HB3.out.trans (hb5.mono HB3.out.size)); clear hb5
            go_wp2_with fail
            go_ret2
            exact Merged.yes HV.out (own_mono HO5.out HB.out.size) (HB.out.trans (HB5.out.mono HB.out.size))
    · have hn : mergeW a b = none := mergeW_no fun hh => hb hh.2.1
      have HN := Lib.hid hn; have HVA := Lib.hid ha; have HVB := Lib.hid hb; clear hn ha hb
      go_enter Try.func18, Try.ntmps18
      go_wp2_with fail
      refine (bookValid_is _ A cap a HR.out hc HZ.out true (bkT HVA.out)).mono ?_
      rintro _ w1 ⟨rfl, hb1⟩
      replace HB := Lib.hid (HB.out.trans (hb1.mono HB.out.size))
      replace HR := Lib.hid ((HR.out.below hb1).mono hb1.size)
      replace HS := Lib.hid ((HS.out.below hb1).mono hb1.size)
      clear hb1
      go_wp2_with fail
      refine (bookValid_is _ A' cap' b HS.out hc' HZ'.out false (bkF HVB.out)).mono ?_
      rintro _ w2 ⟨rfl, hb2⟩
      replace HB := Lib.hid (HB.out.trans (hb2.mono HB.out.size))
      replace HR := Lib.hid ((HR.out.below hb2).mono hb2.size)
      replace HS := Lib.hid ((HS.out.below hb2).mono hb2.size)
      clear hb2
      go_wp2_with fail
      go_ret2
      exact Merged.no HN.out HB.out
  · have hn : mergeW a b = none := mergeW_no fun hh => ha hh.1
    have HN := Lib.hid hn; have HVA := Lib.hid ha; clear hn ha
    go_enter Try.func18, Try.ntmps18
    go_wp2_with fail
    refine (bookValid_is _ A cap a HR.out hc HZ.out false (bkF HVA.out)).mono ?_
    rintro _ w1 ⟨rfl, hb1⟩
    replace HB := Lib.hid (HB.out.trans (hb1.mono HB.out.size))
    replace HR := Lib.hid ((HR.out.below hb1).mono hb1.size)
    replace HS := Lib.hid ((HS.out.below hb1).mono hb1.size)
    clear hb1
    go_wp2_with fail
    go_ret2
    exact Merged.no HN.out HB.out

theorem first_some {a : List Ent} {e : Ent} {j : Nat} (ha : bookP a) (hj : firstOf (fun x : Ent => decide (x.1 = e.1)) a = (j : Int)) : ∃ hl : j < a.length, (a[j].2 = e.2 ↔ e ∈ a) := by
  unfold firstOf at hj
  cases hx : a.findIdx? (fun x : Ent => decide (x.1 = e.1)) with
  | none => rw [hx] at hj; simp at hj
  | some m =>
    rw [hx] at hj
    have hm : m = j := by have : (m : Int) = (j : Int) := hj
                          omega
    subst hm
    rw [List.findIdx?_eq_some_iff_getElem] at hx
    obtain ⟨hl, hp, _⟩ := hx
    have hp' : a[m].1 = e.1 := by simpa using hp
    refine ⟨hl, fun h2 => ?_, fun he => ?_⟩
    · have : a[m] = e := Prod.ext hp' h2
      rw [← this]; exact List.getElem_mem hl
    · rw [bookP_uniq1 ha (List.getElem_mem hl) he hp']
theorem first_none {a : List Ent} {e : Ent} (hj : firstOf (fun x : Ent => decide (x.1 = e.1)) a < 0) : e ∉ a := by
  intro he
  unfold firstOf at hj
  cases hx : a.findIdx? (fun x : Ent => decide (x.1 = e.1)) with
  | none =>
    rw [List.findIdx?_eq_none_iff] at hx
    have := hx e he
    simp at this
  | some m => rw [hx] at hj; have : (m : Int) < 0 := hj; omega

/-- the reference has made the merged book, or an empty one -/
theorem Merged.made {a b : List Ent} (hn : mergeW a b = none) {w w' : World} (hb : Below w.heap.size w w') : Merged a b w (.returned (.tuple #[.slice (some ⟨w'.heap.size, 0, none⟩) 0 0, .bool false])) (w'.alloc (.cells #[] 27)) :=
  ⟨_, by rw [hn]; rfl, by rw [hn]; exact World.ownsRow_made w' #[] 0 hb.size (by decide) rfl, hb.alloc hb.size _⟩

set_option maxHeartbeats 4000000 in
set_option maxRecDepth 100000 in
theorem sMerge_any (w : World) (A A' : Option Addr) (cap cap' : Nat) (a b : List Ent) (h : Rd w w.heap.size A (entV a)) (hc : a.length ≤ cap) (hA : A = none → cap = 0) (hl : a.length ≤ 1048576)
    (h' : Rd w w.heap.size A' (entV b)) (hc' : b.length ≤ cap') (hl' : b.length ≤ 1048576) :
    Calls Try.prog 16 #[.slice A a.length cap, .slice A' b.length cap'] w (Merged a b w) := by
  obtain ⟨iE, hi, hz0, hz1, hz2⟩ := info_parts Try.infoE
  have HI := Lib.hid hi; have HZ0 := Lib.hid hz0; have HZ1 := Lib.hid hz1; have HZ2 := Lib.hid hz2
  clear hi hz0 hz1 hz2
  have HR := Lib.hid h; have HS := Lib.hid h'; have HA := Lib.hid hA; clear h h' hA
  have hm0 : (w.alloc (.cells #[] 27)).ownsRow w.heap.size 27 2 (.slice (some ⟨w.heap.size, 0, none⟩) 0 0) 0 [] := World.ownsRow_made w #[] 0 (Nat.le_refl _) (by decide) rfl
  have hr0 : Rd (w.alloc (.cells #[] 27)) w.heap.size A (entV a) := HR.out.below ((Below.refl _ _).alloc (Nat.le_refl _) _)
  have hs0 : (w.alloc (.cells #[] 27)).heap.size = w.heap.size + 1 := by simp
  have HM0 := Lib.hid hm0; have HR0 := Lib.hid hr0; have HS0 := Lib.hid hs0; clear hm0 hr0 hs0
  go_enter Try.func16, Try.ntmps16
  go_wp2_with (at_builtin; refine wpList_copyE rfl _ _ rfl iE HI.out HZ0.out HZ1.out HZ2.out w.heap.size w.heap.size rfl HM0.out A cap a w.heap.size rfl HR0.out HA.out (by omega) (by have := HS0.out; omega) ?_)
  intro v1 w1 ho1 hg1
  have hb1 : Below w.heap.size w w1 := ((Below.refl w.heap.size w).alloc (Nat.le_refl _) _).grown hg1 (by have := HS0.out; omega) fun k e => by injection e with e; omega
  have HB1 := Lib.hid hb1; clear hb1 hg1 HM0 HR0 HS0
  obtain ⟨A1, cap1, e1, _⟩ := ownsRow_rd ho1
  subst e1
  have HO := Lib.hid ho1; clear ho1
  by_cases ha : bookV a
  · by_cases hb : bookV b
    · have hla : a.length ≤ 20 := ha.1
      have hlb : b.length ≤ 20 := hb.1
      have HVA := Lib.hid ha; have HVB := Lib.hid hb; clear ha hb
      go_wp2_with fail
      refine (sBookValid_is _ w.heap.size A cap a (HR.out.below HB1.out) hc hl true (bkT HVA.out)).mono ?_
      rintro _ _ ⟨rfl, rfl⟩
      go_wp2_with fail
      refine (sBookValid_is _ w.heap.size A' cap' b (HS.out.below HB1.out) hc' hl' true (bkT HVB.out)).mono ?_
      rintro _ _ ⟨rfl, rfl⟩
      go_wp2_with fail
      go_loopw [6, 7] (fun v i wr => ∃ k : Nat, k ≤ b.length ∧ i = .int .i64 k ∧ wr.ownsRow w.heap.size 27 2 v (mergeL a (b.take k)).length (entV (mergeL a (b.take k))) ∧ Below w.heap.size w wr) (fun _ i _ => b.length - (intOf i).toNat)
      case atStart => exact ⟨0, Nat.zero_le _, rfl, by rw [List.take_zero]; unfold mergeL; rw [List.filter_nil, List.append_nil]; exact HO.out, HB1.out⟩
      case round =>
        obtain ⟨k, hk, rfl, hown, hbr⟩ := hrel
        have HOW := Lib.hid hown; have HBR := Lib.hid hbr; clear hown hbr HO HB1
        obtain ⟨A4, cap4, e4, hc4, _, hr4⟩ := ownsRow_rd HOW.out
        subst e4
        have HR4 := Lib.hid hr4; clear hr4
        by_cases hlt : k < b.length
        · obtain ⟨b0, off, rfl, hb0, c0, c1⟩ := (HS.out.below HBR.out).ent hlt
          have hms := merge_snoc a b k hlt
          have hml := merge_length a (b.take k)
          rw [List.length_take] at hml
          generalize b[k] = e at c0 c1 hms
          have HMS := Lib.hid hms; clear hms HR4
          obtain ⟨f, hf⟩ : ∃ f, f = firstOf (fun x : Ent => decide (x.1 = e.1)) a := ⟨_, rfl⟩
          have HF := Lib.hid hf; clear hf
          by_cases hfn : f < 0
          · have hno : e ∉ a := first_none (by rw [← HF.out]; exact hfn)
            have hmn := HMS.out
            rw [if_neg hno] at hmn
            have HMN := Lib.hid hmn; clear hmn HMS hno
            go_wp2_with fail
            refine (l19Index_any _ w.heap.size A cap a e.1 (HR.out.below HBR.out) hc hl).mono ?_
            rintro _ _ ⟨rfl, rfl⟩
            rw [← HF.out]
            go_wp2_with fail
            go_quiet (fail)
            go_wp2_with (at_builtin; refine wpList_append_own _ rfl _ _ 23 rfl w.heap.size 27 iE (.agg #[.string ByteArray.empty, .string ByteArray.empty]) 2 32 Try.undE HI.out HZ0.out HZ1.out HZ2.out rfl (by decide) _ (mergeL a (b.take k)).length _ rfl ((show World.ownsRow (World.drewN wr _) _ _ _ _ _ _ from HOW.out).alloc _) ⟨wr.heap.size, 0, none⟩ 1 1 [.string e.1, .string e.2] rfl rfl (cell_two_new (World.drewN wr _) (.string e.1) (.string e.2) 27) two_cellE (by unfold maxLen; omega) (by omega) (by have := HBR.out.size; rw [heapsize_alloc]; show w.heap.size ≤ wr.heap.size + 1; omega) ?_)
            intro v' w6 ho' hg' _
            have hln : (mergeL a (b.take k)).length + 1 = (mergeL a (b.take (k + 1))).length := by rw [HMN.out, List.length_append]; rfl
            rw [entV_snoc, ← HMN.out, hln] at ho'
            clear hln
            have hb6 : Below w.heap.size w w6 := ((below_drewN' HBR.out _).alloc HBR.out.size _).grown hg' (by have := HBR.out.size; rw [heapsize_alloc]; show w.heap.size ≤ wr.heap.size + 1; omega) fun j ej => (HOW.out.lt j ej).1
            have HO6 := Lib.hid ho'; have HB6 := Lib.hid hb6; clear ho' hg' hb6
            obtain ⟨A6, cap6, e6, _⟩ := ownsRow_rd HO6.out
            subst e6
            go_wp2_with fail
            go_roundw
            case rel => exact ⟨k + 1, by omega, by go_num, HO6.out, HB6.out⟩
            case measure => simp [intOf]; omega
          · obtain ⟨j, rfl⟩ : ∃ j : Nat, f = (j : Int) := ⟨f.toNat, by omega⟩
            obtain ⟨hja, hj2⟩ := first_some HVA.out.2 HF.out.symm
            obtain ⟨a0, oa, hAe, hab, p0, p1⟩ := (HR.out.below HBR.out).ent hja
            generalize a[j].2 = x at p1 hj2
            subst hAe
            clear p0 hfn
            have HJ2 := Lib.hid hj2; clear hj2
            by_cases hx : x = e.2
            · have hno : e ∈ a := HJ2.out.1 hx
              have hmn := HMS.out
              rw [if_pos hno] at hmn
              have hcmp : (x.toList == e.2.toList) = true := by rw [hx]; simp
              have HMN := Lib.hid hmn; clear hmn HMS hno hx
              go_wp2_with fail
              refine (l19Index_any _ w.heap.size _ cap a e.1 (HR.out.below HBR.out) hc hl).mono ?_
              rintro _ _ ⟨rfl, rfl⟩
              rw [← HF.out]
              go_wp2_with fail
              go_quiet (fail)
              go_wp2_with fail
              go_roundw
              case rel => exact ⟨k + 1, by omega, by go_num, by rw [HMN.out]; exact HOW.out, below_drewN' HBR.out _⟩
              case measure => simp [intOf]; omega
            · have hno : ¬ e ∈ a := fun hh => hx (HJ2.out.2 hh)
              have hmn := HMS.out
              rw [if_neg hno] at hmn
              have hcmp : (x.toList == e.2.toList) = false := bytes_beq hx
              have HMN := Lib.hid hmn; clear hmn HMS hno hx
              go_wp2_with fail
              refine (l19Index_any _ w.heap.size _ cap a e.1 (HR.out.below HBR.out) hc hl).mono ?_
              rintro _ _ ⟨rfl, rfl⟩
              rw [← HF.out]
              go_wp2_with fail
              go_quiet (fail)
              clear hcmp
              go_wp2_with (at_builtin; refine wpList_append_own _ rfl _ _ 23 rfl w.heap.size 27 iE (.agg #[.string ByteArray.empty, .string ByteArray.empty]) 2 32 Try.undE HI.out HZ0.out HZ1.out HZ2.out rfl (by decide) _ (mergeL a (b.take k)).length _ rfl ((show World.ownsRow (World.drewN wr _) _ _ _ _ _ _ from HOW.out).alloc _) ⟨wr.heap.size, 0, none⟩ 1 1 [.string e.1, .string e.2] rfl rfl (cell_two_new (World.drewN wr _) (.string e.1) (.string e.2) 27) two_cellE (by unfold maxLen; omega) (by omega) (by have := HBR.out.size; rw [heapsize_alloc]; show w.heap.size ≤ wr.heap.size + 1; omega) ?_)
              intro v' w6 ho' hg' _
              have hln : (mergeL a (b.take k)).length + 1 = (mergeL a (b.take (k + 1))).length := by rw [HMN.out, List.length_append]; rfl
              rw [entV_snoc, ← HMN.out, hln] at ho'
              clear hln
              have hb6 : Below w.heap.size w w6 := ((below_drewN' HBR.out _).alloc HBR.out.size _).grown hg' (by have := HBR.out.size; rw [heapsize_alloc]; show w.heap.size ≤ wr.heap.size + 1; omega) fun j ej => (HOW.out.lt j ej).1
              have HO6 := Lib.hid ho'; have HB6 := Lib.hid hb6; clear ho' hg' hb6
              obtain ⟨A6, cap6, e6, _⟩ := ownsRow_rd HO6.out
              subst e6
              go_wp2_with fail
              go_roundw
              case rel => exact ⟨k + 1, by omega, by go_num, HO6.out, HB6.out⟩
              case measure => simp [intOf]; omega
        · have hkl : k = b.length := by omega
          subst hkl
          rw [List.take_of_length_le (Nat.le_refl _)] at HOW HR4 hc4 ⊢
          have hml := merge_length a b
          cases hv : mergeW a b with
          | none =>
            have hnb : ¬ bookV (mergeL a b) := fun hh => by rw [mergeW_ok ⟨HVA.out, HVB.out, hh⟩] at hv; cases hv
            have HNB := Lib.hid hnb; have HV := Lib.hid hv; clear hnb hv
            go_wp2_with fail
            refine (sBookValid_is _ _ A4 cap4 (mergeL a b) HR4.out hc4 (by omega) false (bkF HNB.out)).mono ?_
            rintro _ _ ⟨rfl, rfl⟩
            go_wp2_with fail
            go_ret2
            exact Merged.made HV.out HBR.out
          | some l =>
            have hs := mergeW_some hv
            obtain ⟨hs1, rfl⟩ := hs
            have HNB := Lib.hid hs1.2.2; have HV := Lib.hid hv; clear hs1 hv
            go_wp2_with fail
            refine (sBookValid_is _ _ A4 cap4 (mergeL a b) HR4.out hc4 (by omega) true (bkT HNB.out)).mono ?_
            rintro _ _ ⟨rfl, rfl⟩
            go_wp2_with fail
            go_ret2
            exact Merged.yes HV.out HOW.out HBR.out
    · have hn : mergeW a b = none := mergeW_no fun hh => hb hh.2.1
      have HN := Lib.hid hn; have HVA := Lib.hid ha; have HVB := Lib.hid hb; clear hn ha hb
      go_wp2_with fail
      refine (sBookValid_is _ w.heap.size A cap a (HR.out.below HB1.out) hc hl true (bkT HVA.out)).mono ?_
      rintro _ _ ⟨rfl, rfl⟩
      go_wp2_with fail
      refine (sBookValid_is _ w.heap.size A' cap' b (HS.out.below HB1.out) hc' hl' false (bkF HVB.out)).mono ?_
      rintro _ _ ⟨rfl, rfl⟩
      go_wp2_with fail
      go_ret2
      exact Merged.made HN.out HB1.out
  · have hn : mergeW a b = none := mergeW_no fun hh => ha hh.1
    have HN := Lib.hid hn; have HVA := Lib.hid ha; clear hn ha
    go_wp2_with fail
    refine (sBookValid_is _ w.heap.size A cap a (HR.out.below HB1.out) hc hl false (bkF HVA.out)).mono ?_
    rintro _ _ ⟨rfl, rfl⟩
    go_wp2_with fail
    go_ret2
    exact Merged.made HN.out HB1.out

end Go.Proofs.Ytpkkplpaefogmaa
