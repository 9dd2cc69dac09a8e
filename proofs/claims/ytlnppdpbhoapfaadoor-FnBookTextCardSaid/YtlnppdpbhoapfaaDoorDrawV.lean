/-
  The contract of l19Some once more: the drawn book is valid. No conditions but those that each theorem names.
-/
import Derived.Test.YtlnppdpbhoapfaaDoorDrawC
import Derived.Test.YtlnppdpbhoapfaaDoorPlainK
namespace Go.Proofs.YtlnppdpbhoapfaaDoor
open Go.RowKit Pl
set_option linter.unusedVariables false

/-- a valid book was drawn -/
def BookDrawnV (w : World) (R N n : Nat) (e : Ending) (w' : World) : Prop :=
  ∃ v es, e = .returned v ∧ EBk w' R v es ∧ es.length ≤ n ∧ Rdr w' R N ∧ Below R w w' ∧ bookV es
theorem bookV_nil' : bookV [] := ⟨by simp, by simp, by simp⟩
theorem entOk_drawn {l3 l4 : List UInt8} {n : Nat} (h1 : l3.length = 1 + n) (hn : n ≤ 2) (h2 : l3.all isL = true) (h3 : l4.length = 3) (h4 : l4.all isL = true) : entOk (mk l3, mk l4) = true := by
  have w3 : wv l3 = true := by rw [wv_all (by omega)]; exact h2
  have w4 : wv l4 = true := by rw [wv_all (by omega)]; exact h4
  simp [entOk, size_mk, tl_mk, w3, w4, h1, h3]; omega
theorem firstOf_neg {p : ByteArray × ByteArray → Bool} {es : List (ByteArray × ByteArray)} (h : firstOf p es < 0) : ∀ e ∈ es, p e = false := by
  intro e he
  cases hp : p e with
  | false => rfl
  | true =>
    have hs : (es.findIdx? p).isSome = true := by rw [List.findIdx?_isSome, List.any_eq_true]; exact ⟨e, he, hp⟩
    unfold firstOf at h
    obtain ⟨k, hk⟩ := Option.isSome_iff_exists.1 hs
    rw [hk] at h
    simp only at h
    omega
theorem bookV_snoc {es : List (ByteArray × ByteArray)} {s c : ByteArray} (h : bookV es) (hl : es.length ≤ 8) (ho : entOk (s, c) = true) (h1 : ∀ e ∈ es, decide (e.1 = s) = false) (h2 : ∀ e ∈ es, decide (e.2 = c) = false) : bookV (es ++ [(s, c)]) := by
  refine ⟨by simp; omega, fun e he => ?_, ?_⟩
  · rcases List.mem_append.1 he with he | he
    · exact h.2.1 e he
    · simp at he; subst he; exact ho
  · rw [List.pairwise_append]
    refine ⟨h.2.2, by simp, fun a ha b hb => ?_⟩
    simp at hb; subst hb
    have h3 := h1 a ha; have h4 := h2 a ha
    simp at h3 h4
    exact ⟨h3, h4⟩
/-- the entry number i of a book with plain words -/
def lab (i : Nat) : ByteArray × ByteArray := (mk [letter i], mk [97, letter (i / 3), letter (i % 3)])
theorem lab_one {j : Nat} (h : j < 8) : mk [letter ((j : Int) % 10).toNat] = (lab j).1 := by
  have : ((j : Int) % 10).toNat = j := by omega
  rw [this]; rfl
theorem lab_two {j : Nat} (h : j < 8) : mk [97] ++ mk [letter ((j : Int) / 3 % 10).toNat] ++ mk [letter ((j : Int) % 3 % 10).toNat] = (lab j).2 := by
  have h1 : ((j : Int) / 3 % 10).toNat = j / 3 := by omega
  have h2 : ((j : Int) % 3 % 10).toNat = j % 3 := by omega
  rw [h1, h2, mk_append, mk_append]; rfl
theorem bookV_lab {fs : List (ByteArray × ByteArray)} (hl : fs.length ≤ 8) (h : ∀ i (hi : i < fs.length), fs[i] = lab i) : bookV fs := by
  have ok : ∀ i, i < 8 → entOk (lab i) = true := by
    intro i hi
    have e1 : isL (letter i) = true := isL_letter (by omega)
    have e2 : isL (letter (i / 3)) = true := isL_letter (by omega)
    have e3 : isL (letter (i % 3)) = true := isL_letter (by omega)
    have e4 : isL 97 = true := by decide
    have w3 : wv [letter i] = true := by rw [wv_all (by simp)]; simp [e1]
    have w4 : wv [97, letter (i / 3), letter (i % 3)] = true := by rw [wv_all (by simp)]; simp [e2, e3, e4]
    simp [entOk, lab, size_mk, tl_mk, w3, w4]
  refine ⟨by omega, fun e he => ?_, ?_⟩
  · obtain ⟨i, hi, rfl⟩ := List.mem_iff_getElem.1 he
    rw [h i hi]; exact ok i (by omega)
  · rw [List.pairwise_iff_getElem]
    intro i j hi hj hij
    rw [h i hi, h j hj]
    have li : (letter i).toNat = 97 + i := toNat_letter (by omega)
    have lj : (letter j).toNat = 97 + j := toNat_letter (by omega)
    have l1 : (letter (i / 3)).toNat = 97 + i / 3 := toNat_letter (by omega)
    have l2 : (letter (j / 3)).toNat = 97 + j / 3 := toNat_letter (by omega)
    have l3 : (letter (i % 3)).toNat = 97 + i % 3 := toNat_letter (by omega)
    have l4 : (letter (j % 3)).toNat = 97 + j % 3 := toNat_letter (by omega)
    refine ⟨fun e => ?_, fun e => ?_⟩
    · have := congrArg tl e
      simp [lab, tl_mk] at this
      rw [this] at li; omega
    · have := congrArg tl e
      simp [lab, tl_mk] at this
      rw [this.1] at l1; rw [this.2] at l3; omega

set_option maxHeartbeats 4000000 in
set_option maxRecDepth 100000 in
theorem l19Some_valid (w : World) (R N : Nat) (h : Rdr w R N) (hN : N ≤ 100000) :
    Calls Tryd.prog 28 #[.pointer (some ⟨R, 0, none⟩)] w (BookDrawnV w R (N + 100) 8) := by
  obtain ⟨iE, hi, hz0, hz1, hz2⟩ := info_parts Tryd.infoE
  have HI := Lib.hid hi; have HZ0 := Lib.hid hz0; have HZ1 := Lib.hid hz1; have HZ2 := Lib.hid hz2
  clear hi hz0 hz1 hz2
  have hlt := h.lt
  have h0 : DS w R N (.slice (some ⟨w.heap.size, 0, none⟩) 0 0) [] (w.alloc (.cells #[] 38)) :=
    ⟨h.alloc _, ⟨World.ownsRow_made w #[] 0 (by omega) (by decide) rfl, by simp⟩, (Below.refl _ _).alloc (by omega) _⟩
  have H0 := Lib.hid h0; clear h0 h
  go_enter Tryd.func28, Tryd.ntmps28
  go_wp2_with fail
  refine (pick_pos _ R N _ H0.out.rdr (by omega) (by omega) (by omega)).mono ?_
  rintro e w1 ⟨x, rfl, hx, hr1, ho1⟩
  have H1 := Lib.hid (H0.out.only hr1 ho1); clear hr1 ho1 H0
  go_wp2_with fail
  go_loopw [3, 4] (fun v i wr => ∃ (k : Nat) (es : List (ByteArray × ByteArray)), k ≤ 8 ∧ i = .int .i64 k ∧ es.length + k ≤ 8 ∧ bookV es ∧ DS w R (N + 1 + 7 * (8 - k)) v es wr) (fun _ i _ => (intOf i).toNat)
  case atStart => exact ⟨x, [], by omega, rfl, by simp; omega, bookV_nil', H1.out.mono (by omega)⟩
  case round =>
    obtain ⟨k, es, hk, rfl, hes, hbv, hds⟩ := hrel
    have HD := Lib.hid hds; have HBV := Lib.hid hbv; clear hds hbv H1
    obtain ⟨A, cap, rfl, hcap, hcm, hrd⟩ := HD.out.bk.rd
    clear hrd
    by_cases hpos : 0 < k
    · go_wp2_with fail
      refine (pick_pos _ R _ _ HD.out.rdr (by omega) (by omega) (by omega)).mono ?_
      rintro e w2 ⟨y, rfl, hy, hr2, ho2⟩
      have H2 := Lib.hid (HD.out.only hr2 ho2); clear hr2 ho2
      go_wp2_with fail
      refine (l1Some_is _ R _ (1 + y) _ (by omega) H2.out.rdr (by omega) (by omega)).mono ?_
      rintro e w3 ⟨l3, rfl, hl3, ha3, hr3, ho3⟩
      have H3 := Lib.hid (H2.out.only hr3 ho3); clear hr3 ho3 H2
      go_wp2_with fail
      refine (l1Some_is _ R _ 3 _ rfl H3.out.rdr (by omega) (by omega)).mono ?_
      rintro e w4 ⟨l4, rfl, hl4, ha4, hr4, ho4⟩
      have H4 := Lib.hid ((H3.out.only hr4 ho4).alloc (.cells #[.string (mk l3), .string (mk l4)] 38)); clear hr4 ho4 H3
      have hs3 : (mk l3).size ≤ 100 := by rw [size_mk]; omega
      have hs4 : (mk l4).size ≤ 100 := by rw [size_mk]; omega
      have HOK := Lib.hid (entOk_drawn hl3 (by omega) ha3 hl4 ha4)
      clear hl3 hl4 ha3 ha4
      generalize mk l3 = s3 at *
      generalize mk l4 = s4 at *
      obtain ⟨A', cap', hA', hcap', hcm', hrd'⟩ := H4.out.bk.rd
      simp only [Value.slice.injEq] at hA'
      obtain ⟨rfl, _, rfl⟩ := hA'
      have HRD := Lib.hid hrd'; clear hrd' hcap' hcm'
      obtain ⟨f1, hf1⟩ : ∃ f, f = firstOf (fun e : ByteArray × ByteArray => decide (e.1 = s3)) es := ⟨_, rfl⟩
      obtain ⟨f2, hf2⟩ : ∃ f, f = firstOf (fun e : ByteArray × ByteArray => decide (e.2 = s4)) es := ⟨_, rfl⟩
      have HF1 := Lib.hid hf1; have HF2 := Lib.hid hf2; clear hf1 hf2
      by_cases h1 : f1 < 0
      · have h1b : decide (f1 < 0) = true := decide_eq_true h1
        have HN1 := Lib.hid (firstOf_neg (HF1.out ▸ h1))
        clear h1
        by_cases h2 : f2 < 0
        · have h2b : decide (f2 < 0) = true := decide_eq_true h2
          have hbn : bookV (es ++ [(s3, s4)]) := bookV_snoc HBV.out (by omega) HOK.out HN1.out (firstOf_neg (HF2.out ▸ h2))
          have HBN := Lib.hid hbn
          clear h2 hbn
          go_wp2_with fail
          refine (l19Index_any _ _ _ cap es s3 HRD.out hcap (by omega)).mono ?_
          rintro _ _ ⟨rfl, rfl⟩
          rw [← HF1.out]
          go_wp2_with fail
          refine (l19Coded_any _ _ _ cap es s4 HRD.out hcap (by omega)).mono ?_
          rintro _ _ ⟨rfl, rfl⟩
          rw [← HF2.out]
          clear HF1 HF2
          go_wp2_with (at_builtin; refine wpList_append_own _ rfl _ _ 22 rfl (R + 1) 38 iE (.agg #[.string ByteArray.empty, .string ByteArray.empty]) 2 32 Tryd.undE HI.out HZ0.out HZ1.out HZ2.out rfl (by decide) _ es.length _ rfl (H4.out.alloc _).bk.1 ⟨w4.heap.size + 1, 0, none⟩ 1 1 [.string s3, .string s4] rfl rfl (by have := cell_two_new (w4.alloc (.cells #[.string s3, .string s4] 38)) (.string s3) (.string s4) 38; simpa using this) two_cell (by unfold maxLen; omega) (by omega) (by have := H4.out.lt; rw [heapsize_alloc] at this ⊢; rw [heapsize_alloc]; omega) ?_)
          intro v' w6 ho' hg' _
          have H6 := Lib.hid ((H4.out.alloc _).app (s3, s4) hs3 hs4 ho' hg'); clear ho' hg' H4 HRD
          go_wp2_with fail
          go_roundw
          case rel => exact ⟨k - 1, es ++ [(s3, s4)], by omega, by go_num, by simp; omega, HBN.out, H6.out.mono (by omega)⟩
          case measure => simp [intOf]; omega
        · have h2b : decide (f2 < 0) = false := decide_eq_false h2
          clear h2
          go_wp2_with fail
          refine (l19Index_any _ _ _ cap es s3 HRD.out hcap (by omega)).mono ?_
          rintro _ _ ⟨rfl, rfl⟩
          rw [← HF1.out]
          go_wp2_with fail
          refine (l19Coded_any _ _ _ cap es s4 HRD.out hcap (by omega)).mono ?_
          rintro _ _ ⟨rfl, rfl⟩
          rw [← HF2.out]
          clear HF1 HF2
          go_wp2_with fail
          go_roundw
          case rel => exact ⟨k - 1, es, by omega, by go_num, by omega, HBV.out, H4.out.mono (by omega)⟩
          case measure => simp [intOf]; omega
      · have h1b : decide (f1 < 0) = false := decide_eq_false h1
        clear h1
        go_wp2_with fail
        refine (l19Index_any _ _ _ cap es s3 HRD.out hcap (by omega)).mono ?_
        rintro _ _ ⟨rfl, rfl⟩
        rw [← HF1.out]
        clear HF1 HF2
        go_wp2_with fail
        go_roundw
        case rel => exact ⟨k - 1, es, by omega, by go_num, by omega, HBV.out, H4.out.mono (by omega)⟩
        case measure => simp [intOf]; omega
    · have hk0 : k = 0 := by omega
      subst hk0
      clear hpos
      go_wp2_with fail
      refine (pick_pos _ R _ _ HD.out.rdr (by omega) (by omega) (by omega)).mono ?_
      rintro e w2 ⟨y, rfl, hy, hr2, ho2⟩
      have H2 := Lib.hid (HD.out.only hr2 ho2); clear hr2 ho2 HD
      by_cases hy0 : y = 0
      · subst hy0
        go_wp2_with fail
        obtain ⟨M, hM, HM⟩ : ∃ M, M ≤ N + 100 ∧ Hid (DS w R M (.slice A es.length cap) es w2) := ⟨_, by omega, H2⟩
        clear H2
        go_loopw [6] (fun i wr => ∃ (k : Nat) (fs : List (ByteArray × ByteArray)), k ≤ es.length ∧ i = .int .i64 k ∧ fs.length = es.length ∧ (∀ i (hi : i < fs.length), i < k → fs[i] = lab i) ∧ DS w R M (.slice A es.length cap) fs wr) (fun i _ => es.length - (intOf i).toNat)
        case atStart => exact ⟨0, es, Nat.zero_le _, rfl, rfl, fun i _ hi => absurd hi (Nat.not_lt_zero _), HM.out⟩
        case round =>
          obtain ⟨j, fs, hj, rfl, hfs, hlab, hds⟩ := hrel
          have HD := Lib.hid hds; have HLAB := Lib.hid hlab; clear hds hlab HM
          by_cases hlt2 : j < es.length
          · go_wp2_with fail
            refine (l1Letter_any _ _ (by omega)).mono ?_
            rintro e w3 ⟨rfl, hb3⟩
            have H3 := Lib.hid (HD.out.below hb3); clear hb3 HD
            have hjf : j < fs.length := by omega
            obtain ⟨g, cap', hv, hRg, hcl, c0, c1, f0, f1, k0, k1⟩ := H3.out.bk.at hjf
            rw [hfs] at hv
            simp only [Value.slice.injEq] at hv
            obtain ⟨rfl, _, rfl⟩ := hv
            have q1 := k0 (mk [letter ((j : Int) % 10).toNat]) (by rw [size_mk]; simp)
            have Q1 := Lib.hid (H3.out.own (v' := .slice (some ⟨g, 0, none⟩) es.length cap) (by exact q1.2) q1.1); clear q1 k0 k1 c1 f1
            have hj8 : j < 8 := by omega
            have hs1e : mk [letter ((j : Int) % 10).toNat] = (lab j).1 := lab_one hj8
            rw [hs1e] at Q1 ⊢
            generalize hs1 : (lab j).1 = s1 at Q1 ⊢
            have HS1 := Lib.hid hs1; clear hs1 hs1e
            generalize hfj0 : fs[j] = e0 at c0 Q1
            clear hfj0
            have HFS := Lib.hid hfs; clear hjf hcl hfs
            go_wp2_with fail
            obtain ⟨w4, hw4⟩ : ∃ w4, w4 = w3.setCell ⟨g, j * 2, none⟩ (.string s1) := ⟨_, rfl⟩
            rw [← hw4] at Q1 ⊢
            clear hw4 c0 f0 H3
            refine (l1Letter_any _ _ (by omega)).mono ?_
            rintro e w5 ⟨rfl, hb5⟩
            have Q5 := Lib.hid (Q1.out.below hb5); clear hb5 Q1
            generalize hA1 : mk [letter ((j : Int) / 3 % 10).toNat] = a1
            have HA1 := Lib.hid hA1
            have ha1 : a1.size ≤ 1 := by rw [← hA1, size_mk]; simp
            clear hA1
            go_wp2_with fail
            refine (l1Letter_any _ _ (by omega)).mono ?_
            rintro e w6 ⟨rfl, hb6⟩
            have Q6 := Lib.hid (Q5.out.below hb6); clear hb6 Q5
            generalize hA2 : mk [letter ((j : Int) % 3 % 10).toNat] = a2
            have HA2 := Lib.hid hA2
            have ha2 : a2.size ≤ 1 := by rw [← hA2, size_mk]; simp
            clear hA2
            have hjf : j < (fs.set j (s1, e0.2)).length := by rw [List.length_set, HFS.out]; exact hlt2
            obtain ⟨g', cap', hv, hRg', hcl, c0, c1, f0, f1, k0, k1⟩ := Q6.out.bk.at hjf
            rw [List.length_set, HFS.out] at hv
            simp only [Value.slice.injEq] at hv
            obtain ⟨hg', _, rfl⟩ := hv
            obtain rfl : g = g' := by injection hg' with hg'; injection hg'
            have hz3 : (mk [97]).size = 1 := rfl
            have q1 := k1 (mk [97] ++ a1 ++ a2) (by simp [ByteArray.size_append]; omega)
            have Q7 := Lib.hid (Q6.out.own (v' := .slice (some ⟨g, 0, none⟩) es.length cap) (by exact q1.2) q1.1); clear q1 k0 k1 c0 f0 Q6
            have he1 : (fs.set j (s1, e0.2))[j].1 = s1 := by simp
            generalize (fs.set j (s1, e0.2))[j] = e1 at c1 Q7 he1
            have hcode : mk [97] ++ a1 ++ a2 = (lab j).2 := by rw [← HA1.out, ← HA2.out]; exact lab_two hj8
            have hlab2 : ∀ i (hi : i < ((fs.set j (s1, e0.2)).set j (e1.1, mk [97] ++ a1 ++ a2)).length), i < j + 1 → ((fs.set j (s1, e0.2)).set j (e1.1, mk [97] ++ a1 ++ a2))[i] = lab i := by
              intro i hi hij
              rw [List.length_set, List.length_set] at hi
              by_cases hije : i = j
              · subst hije
                rw [List.getElem_set_self, he1, hcode, ← HS1.out]
              · rw [List.getElem_set_ne (by omega), List.getElem_set_ne (by omega)]
                exact HLAB.out i hi (by omega)
            clear he1 hcode
            have hfl : ((fs.set j (s1, e0.2)).set j (e1.1, mk [97] ++ a1 ++ a2)).length = es.length := by rw [List.length_set, List.length_set, HFS.out]
            generalize (fs.set j (s1, e0.2)).set j (e1.1, mk [97] ++ a1 ++ a2) = fs' at Q7 hfl hlab2
            have HLAB2 := Lib.hid hlab2; clear hlab2
            have HFL := Lib.hid hfl; clear hfl hjf hcl hg'
            go_wp2_with fail
            go_roundw
            case rel => exact ⟨j + 1, fs', by omega, by go_num, HFL.out, HLAB2.out, Q7.out⟩
            case measure => simp [intOf]; omega
          · go_wp2_with fail
            go_ret
            exact ⟨_, fs, rfl, HD.out.bk, by omega, HD.out.rdr.mono hM, HD.out.bel, bookV_lab (by omega) fun i hi => HLAB.out i hi (by omega)⟩
      · have hyb : ((y : Int) == 0) = false := by rw [beq_eq_false_iff_ne]; omega
        go_wp2_with fail
        go_ret
        exact ⟨_, es, rfl, H2.out.bk, by omega, H2.out.rdr.mono (by omega), H2.out.bel, HBV.out⟩

end Go.Proofs.YtlnppdpbhoapfaaDoor
