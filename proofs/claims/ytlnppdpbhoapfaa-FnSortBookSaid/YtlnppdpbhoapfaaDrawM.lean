/-
  Contracts of the drawing of a book beside another one: l19Some and l19Bad change nothing but the reader, the book and what is new. No conditions but those that each theorem names.
-/
import Derived.Test.YtlnppdpbhoapfaaDrawC
import Derived.Test.YtlnppdpbhoapfaaDrawD
import Derived.Deep.AppendLies
namespace Go.Proofs.Ytlnppdpbhoapfaa
open Go.RowKit Pl
set_option linter.unusedVariables false

/-- the blocks of K are unchanged -/
structure Fr (K : Nat → Prop) (a b : World) : Prop where
  os : b.os = a.os
  tape : b.tape = a.tape
  output : b.output = a.output
  size : a.heap.size ≤ b.heap.size
  block : ∀ i, K i → b.heap[i]? = a.heap[i]?
theorem Fr.refl (K : Nat → Prop) (a : World) : Fr K a a := ⟨rfl, rfl, rfl, Nat.le_refl _, fun _ _ => rfl⟩
theorem Fr.trans {K : Nat → Prop} {a b c : World} (h : Fr K a b) (k : Fr K b c) : Fr K a c := ⟨k.os.trans h.os, k.tape.trans h.tape, k.output.trans h.output, Nat.le_trans h.size k.size, fun i hi => (k.block i hi).trans (h.block i hi)⟩
theorem Fr.of_below {K : Nat → Prop} {B : Nat} {a b : World} (h : Below B a b) (hK : ∀ i, K i → i < B) : Fr K a b := ⟨h.os, h.tape, h.output, h.size, fun i hi => h.block i (hK i hi)⟩
theorem Fr.of_only {K : Nat → Prop} {g : Option Nat} {a b : World} (h : a.grownBy b g) (hK : ∀ i, K i → i < a.heap.size) (hR : ∀ i, K i → some i ≠ g) : Fr K a b := ⟨h.os, h.tape, h.output, h.size, fun i hi => h.block i (hK i hi) (hR i hi)⟩
theorem Fr.below {K : Nat → Prop} {B : Nat} {a b : World} (h : Fr K a b) (hK : ∀ i, i < B → K i) : Below B a b := ⟨h.os, h.tape, h.output, h.size, fun i hi => h.block i (hK i hi)⟩
/-- a slice that lies in K -/
theorem Fr.owns {K : Nat → Prop} {a b : World} (h : Fr K a b) {base : Nat} {e : TypeId} {size : Nat} {v : Value} {n : Nat} {xs : List Value} (ho : a.ownsRow base e size v n xs) (hK : ∀ k, v.ownBlock = some k → K k) : b.ownsRow base e size v n xs := by
  obtain ⟨h1, h2 | ⟨g, cap, cur, h2, h3, h4, h5⟩⟩ := ho
  · exact ⟨h1, .inl h2⟩
  · refine ⟨h1, .inr ⟨g, cap, cur, h2, h3, ?_, h5⟩⟩
    rw [h.block g (hK g (by rw [h2]; rfl))]; exact h4

/-- the state of a drawing: the reader in block R, a book behind it that does not lie in K -/
structure DM (w0 : World) (R : Nat) (K : Nat → Prop) (N : Nat) (v : Value) (es : List (ByteArray × ByteArray)) (w : World) : Prop where
  rdr : Rdr w R N
  bk : EBk w R v es
  far : ∀ k, v.ownBlock = some k → ¬ K k
  nR : ¬ K R
  old : ∀ i, K i → i < w.heap.size
  fr : Fr K w0 w
section
variable {w0 w w' : World} {R N N' : Nat} {K : Nat → Prop} {v v' : Value} {es es' : List (ByteArray × ByteArray)}
theorem DM.lt (h : DM w0 R K N v es w) : R < w.heap.size := h.rdr.lt
theorem DM.only (h : DM w0 R K N v es w) (hr : Rdr w' R N') (hg : w.grownBy w' (some R)) : DM w0 R K N' v es w' :=
  ⟨hr, h.bk.only hg, h.far, h.nR, fun i hi => Nat.lt_of_lt_of_le (h.old i hi) hg.size, h.fr.trans (Fr.of_only hg h.old fun i hi e => by injection e with e; subst e; exact h.nR hi)⟩
theorem DM.below (h : DM w0 R K N v es w) (hb : Below w.heap.size w w') : DM w0 R K N v es w' :=
  ⟨h.rdr.below hb, h.bk.below hb, h.far, h.nR, fun i hi => Nat.lt_of_lt_of_le (h.old i hi) hb.size, h.fr.trans (Fr.of_below hb h.old)⟩
theorem DM.alloc (h : DM w0 R K N v es w) (o : Obj) : DM w0 R K N v es (w.alloc o) := h.below ((Below.refl _ _).alloc (Nat.le_refl _) o)
theorem DM.drew (h : DM w0 R K N v es w) : DM w0 R K N v es w.drew := h.below (Below.refl _ _).drew
theorem DM.mono (h : DM w0 R K N v es w) (hN : N ≤ N') : DM w0 R K N' v es w := ⟨h.rdr.mono hN, h.bk, h.far, h.nR, h.old, h.fr⟩
theorem DM.set {g n cap j : Nat} {u : Value} (h : DM w0 R K N (.slice (some ⟨g, 0, none⟩) n cap) es w) (hb : Below (R + 1) w (w.setCell ⟨g, j, none⟩ u)) (hk : EBk (w.setCell ⟨g, j, none⟩ u) R (.slice (some ⟨g, 0, none⟩) n cap) es') : DM w0 R K N (.slice (some ⟨g, 0, none⟩) n cap) es' (w.setCell ⟨g, j, none⟩ u) :=
  ⟨h.rdr.keep hb, hk, h.far, h.nR, fun i hi => Nat.lt_of_lt_of_le (h.old i hi) hb.size, h.fr.trans ⟨hb.os, hb.tape, hb.output, hb.size, fun i hi => Below.heap_setCell w ⟨g, j, none⟩ u i (by intro e; have e : i = g := e; exact h.far g rfl (e ▸ hi))⟩⟩
theorem DM.app {g n cap : Nat} (h : DM w0 R K N v es w) (e : ByteArray × ByteArray) (h1 : e.1.size ≤ 100) (h2 : e.2.size ≤ 100)
    (ho : w'.ownsRow (R + 1) 27 2 (.slice (some ⟨g, 0, none⟩) n cap) (es.length + 1) (entV es ++ [.string e.1, .string e.2])) (hg : w.grownBy w' v.ownBlock) (hl : v.ownBlock = some g ∨ w.heap.size ≤ g) : DM w0 R K N (.slice (some ⟨g, 0, none⟩) n cap) (es ++ [e]) w' :=
  ⟨h.rdr.keep ((Below.refl _ _).grown hg h.lt fun k e => (h.bk.1.lt k e).1), h.bk.put e h1 h2 ho, fun k hk hK => by
    injection hk with hk
    have hk : g = k := hk
    subst hk
    rcases hl with hl | hl
    · exact h.far g hl hK
    · have := h.old g hK; omega, h.nR, fun i hi => Nat.lt_of_lt_of_le (h.old i hi) hg.size, h.fr.trans (Fr.of_only hg h.old fun i hi e => h.far i e.symm hi)⟩
theorem DM.at (h : DM w0 R K N v es w) {k : Nat} (hk : k < es.length) :
    ∃ g cap, v = .slice (some ⟨g, 0, none⟩) es.length cap ∧ es.length ≤ cap ∧ w.cell? ⟨g, k * 2, none⟩ = some (.string es[k].1) ∧ w.cell? ⟨g, k * 2 + 1, none⟩ = some (.string es[k].2) ∧
      w.frozen? ⟨g, k * 2, none⟩ = false ∧ w.frozen? ⟨g, k * 2 + 1, none⟩ = false ∧
      (∀ s : ByteArray, s.size ≤ 100 → DM w0 R K N v (es.set k (s, es[k].2)) (w.setCell ⟨g, k * 2, none⟩ (.string s))) ∧
      (∀ s : ByteArray, s.size ≤ 100 → DM w0 R K N v (es.set k (es[k].1, s)) (w.setCell ⟨g, k * 2 + 1, none⟩ (.string s))) := by
  obtain ⟨g, cap, hv, hRg, hcl, c0, c1, f0, f1, k0, k1⟩ := h.bk.at hk
  subst hv
  exact ⟨g, cap, rfl, hcl, c0, c1, f0, f1, fun s hs => h.set (k0 s hs).2 (k0 s hs).1, fun s hs => h.set (k1 s hs).2 (k1 s hs).1⟩
end
def DrawnM (w0 : World) (R : Nat) (K : Nat → Prop) (N n : Nat) (e : Ending) (w' : World) : Prop := ∃ v es, e = .returned v ∧ DM w0 R K N v es w' ∧ es.length ≤ n

set_option maxHeartbeats 4000000 in
set_option maxRecDepth 100000 in
theorem l19Some_at (w : World) (R : Nat) (K : Nat → Prop) (N : Nat) (h : Rdr w R N) (hKR : ¬ K R) (hK : ∀ i, K i → i < w.heap.size) (hN : N ≤ 100000) :
    Calls Try.prog 37 #[.pointer (some ⟨R, 0, none⟩)] w (DrawnM w R K (N + 100) 8) := by
  obtain ⟨iE, hi, hz0, hz1, hz2⟩ := info_parts Try.infoE
  have HI := Lib.hid hi; have HZ0 := Lib.hid hz0; have HZ1 := Lib.hid hz1; have HZ2 := Lib.hid hz2
  clear hi hz0 hz1 hz2
  have hlt := h.lt
  have h0 : DM w R K N (.slice (some ⟨w.heap.size, 0, none⟩) 0 0) [] (w.alloc (.cells #[] 27)) :=
    ⟨h.alloc _, ⟨World.ownsRow_made w #[] 0 (by omega) (by decide) rfl, by simp⟩, (fun k hk hKk => by have := hK k hKk; injection hk with hk; have hk : w.heap.size = k := hk; omega), hKR, (fun i hi => by have := hK i hi; rw [heapsize_alloc]; omega), Fr.of_below ((Below.refl w.heap.size w).alloc (Nat.le_refl _) _) hK⟩
  have H0 := Lib.hid h0; clear h0 h
  go_enter Try.func37, Try.ntmps37
  go_wp2_with fail
  refine (pick_pos _ R N _ H0.out.rdr (by omega) (by omega) (by omega)).mono ?_
  rintro e w1 ⟨x, rfl, hx, hr1, ho1⟩
  have H1 := Lib.hid (H0.out.only hr1 ho1); clear hr1 ho1 H0
  go_wp2_with fail
  go_loopw [3, 4] (fun v i wr => ∃ (k : Nat) (es : List (ByteArray × ByteArray)), k ≤ 8 ∧ i = .int .i64 k ∧ es.length + k ≤ 8 ∧ DM w R K (N + 1 + 7 * (8 - k)) v es wr) (fun _ i _ => (intOf i).toNat)
  case atStart => exact ⟨x, [], by omega, rfl, by simp; omega, H1.out.mono (by omega)⟩
  case round =>
    obtain ⟨k, es, hk, rfl, hes, hds⟩ := hrel
    have HD := Lib.hid hds; clear hds H1
    obtain ⟨A, cap, rfl, hcap, hcm, hrd⟩ := HD.out.bk.rd
    clear hrd
    by_cases hpos : 0 < k
    · go_wp2_with fail
      refine (pick_pos _ R _ _ HD.out.rdr (by omega) (by omega) (by omega)).mono ?_
      rintro e w2 ⟨y, rfl, hy, hr2, ho2⟩
      have H2 := Lib.hid (HD.out.only hr2 ho2); clear hr2 ho2
      go_wp2_with fail
      refine (l1Some_is _ R _ (1 + y) _ (by omega) H2.out.rdr (by omega) (by omega)).mono ?_
      rintro e w3 ⟨l3, rfl, hl3, _, hr3, ho3⟩
      have H3 := Lib.hid (H2.out.only hr3 ho3); clear hr3 ho3 H2
      go_wp2_with fail
      refine (l1Some_is _ R _ 3 _ rfl H3.out.rdr (by omega) (by omega)).mono ?_
      rintro e w4 ⟨l4, rfl, hl4, _, hr4, ho4⟩
      have H4 := Lib.hid ((H3.out.only hr4 ho4).alloc (.cells #[.string (mk l3), .string (mk l4)] 27)); clear hr4 ho4 H3
      have hs3 : (mk l3).size ≤ 100 := by rw [size_mk]; omega
      have hs4 : (mk l4).size ≤ 100 := by rw [size_mk]; omega
      clear hl3 hl4
      generalize mk l3 = s3 at *
      generalize mk l4 = s4 at *
      obtain ⟨A', cap', hA', hcap', hcm', hrd'⟩ := H4.out.bk.rd
      simp only [Value.slice.injEq] at hA'
      obtain ⟨rfl, _, rfl⟩ := hA'
      have HRD := Lib.hid hrd'; clear hrd' hcap' hcm'
      obtain ⟨f1, hf1⟩ : ∃ f, f = firstOf (fun e : ByteArray × ByteArray => decide (e.1 = s3)) es := ⟨_, rfl⟩
      obtain ⟨f2, hf2⟩ : ∃ f, f = firstOf (fun e : ByteArray × ByteArray => decide (e.2 = s4)) es := ⟨_, rfl⟩
      have HF1 := Lib.hid hf1; have HF2 := Lib.hid hf2; clear hf1 hf2
      by_cases h1 : f1 < 0
      · have h1b : decide (f1 < 0) = true := decide_eq_true h1
        clear h1
        by_cases h2 : f2 < 0
        · have h2b : decide (f2 < 0) = true := decide_eq_true h2
          clear h2
          go_wp2_with fail
          refine (l19Index_any _ _ _ cap es s3 HRD.out hcap (by omega)).mono ?_
          rintro _ _ ⟨rfl, rfl⟩
          rw [← HF1.out]
          go_wp2_with fail
          refine (l19Coded_any _ _ _ cap es s4 HRD.out hcap (by omega)).mono ?_
          rintro _ _ ⟨rfl, rfl⟩
          rw [← HF2.out]
          clear HF1 HF2
          go_wp2_with (at_builtin; refine wpList_append_lies _ rfl _ _ 23 rfl (R + 1) 27 iE (.agg #[.string ByteArray.empty, .string ByteArray.empty]) 2 32 Try.undE HI.out HZ0.out HZ1.out HZ2.out rfl (by decide) _ es.length _ rfl (H4.out.alloc _).bk.1 ⟨w4.heap.size + 1, 0, none⟩ 1 1 [.string s3, .string s4] rfl rfl (by have := cell_two_new (w4.alloc (.cells #[.string s3, .string s4] 27)) (.string s3) (.string s4) 27; simpa using this) two_cell (by decide) (by unfold maxLen; omega) (by omega) (by have := H4.out.lt; rw [heapsize_alloc] at this ⊢; rw [heapsize_alloc]; omega) _ rfl ?_)
          intro g6 cap6 w6 ho' hg' hl' _
          have H6 := Lib.hid ((H4.out.alloc _).app (s3, s4) hs3 hs4 ho' hg' (hl'.imp id fun h => by rw [h]; simp)); clear ho' hg' hl' H4 HRD
          go_wp2_with fail
          go_roundw
          case rel => exact ⟨k - 1, es ++ [(s3, s4)], by omega, by go_num, by simp; omega, H6.out.mono (by omega)⟩
          case measure => simp [intOf]; omega
        · have h2b : decide (f2 < 0) = false := decide_eq_false h2
          clear h2
          go_wp2_with fail
          refine (l19Index_any _ _ _ cap es s3 HRD.out hcap (by omega)).mono ?_
          rintro _ _ ⟨rfl, rfl⟩
          rw [← HF1.out]
          go_wp2_with fail
          refine (l19Coded_any _ _ _ cap es s4 HRD.out hcap (by omega)).mono ?_
          rintro _ _ ⟨rfl, rfl⟩
          rw [← HF2.out]
          clear HF1 HF2
          go_wp2_with fail
          go_roundw
          case rel => exact ⟨k - 1, es, by omega, by go_num, by omega, H4.out.mono (by omega)⟩
          case measure => simp [intOf]; omega
      · have h1b : decide (f1 < 0) = false := decide_eq_false h1
        clear h1
        go_wp2_with fail
        refine (l19Index_any _ _ _ cap es s3 HRD.out hcap (by omega)).mono ?_
        rintro _ _ ⟨rfl, rfl⟩
        rw [← HF1.out]
        clear HF1 HF2
        go_wp2_with fail
        go_roundw
        case rel => exact ⟨k - 1, es, by omega, by go_num, by omega, H4.out.mono (by omega)⟩
        case measure => simp [intOf]; omega
    · have hk0 : k = 0 := by omega
      subst hk0
      clear hpos
      go_wp2_with fail
      refine (pick_pos _ R _ _ HD.out.rdr (by omega) (by omega) (by omega)).mono ?_
      rintro e w2 ⟨y, rfl, hy, hr2, ho2⟩
      have H2 := Lib.hid (HD.out.only hr2 ho2); clear hr2 ho2 HD
      by_cases hy0 : y = 0
      · subst hy0
        go_wp2_with fail
        obtain ⟨M, hM, HM⟩ : ∃ M, M ≤ N + 100 ∧ Hid (DM w R K M (.slice A es.length cap) es w2) := ⟨_, by omega, H2⟩
        clear H2
        go_loopw [6] (fun i wr => ∃ (k : Nat) (fs : List (ByteArray × ByteArray)), k ≤ es.length ∧ i = .int .i64 k ∧ fs.length = es.length ∧ DM w R K M (.slice A es.length cap) fs wr) (fun i _ => es.length - (intOf i).toNat)
        case atStart => exact ⟨0, es, Nat.zero_le _, rfl, rfl, HM.out⟩
        case round =>
          obtain ⟨j, fs, hj, rfl, hfs, hds⟩ := hrel
          have HD := Lib.hid hds; clear hds HM
          by_cases hlt2 : j < es.length
          · go_wp2_with fail
            refine (l1Letter_any _ _ (by omega)).mono ?_
            rintro e w3 ⟨rfl, hb3⟩
            have H3 := Lib.hid (HD.out.below hb3); clear hb3 HD
            have hjf : j < fs.length := by omega
            obtain ⟨g, cap', hv, hRg, hcl, c0, c1, f0, f1, k0, k1⟩ := H3.out.bk.at hjf
            rw [hfs] at hv
            simp only [Value.slice.injEq] at hv
            obtain ⟨rfl, _, rfl⟩ := hv
            have q1 := k0 (mk [letter ((j : Int) % 10).toNat]) (by rw [size_mk]; simp)
            have Q1 := Lib.hid (H3.out.set (by exact q1.2) q1.1); clear q1 k0 k1 c1 f1
            generalize mk [letter ((j : Int) % 10).toNat] = s1 at Q1 ⊢
            generalize fs[j] = e0 at c0 Q1
            have HFS := Lib.hid hfs; clear hjf hcl hfs
            go_wp2_with fail
            obtain ⟨w4, hw4⟩ : ∃ w4, w4 = w3.setCell ⟨g, j * 2, none⟩ (.string s1) := ⟨_, rfl⟩
            rw [← hw4] at Q1 ⊢
            clear hw4 c0 f0 H3
            refine (l1Letter_any _ _ (by omega)).mono ?_
            rintro e w5 ⟨rfl, hb5⟩
            have Q5 := Lib.hid (Q1.out.below hb5); clear hb5 Q1
            generalize hA1 : mk [letter ((j : Int) / 3 % 10).toNat] = a1
            have ha1 : a1.size ≤ 1 := by rw [← hA1, size_mk]; simp
            clear hA1
            go_wp2_with fail
            refine (l1Letter_any _ _ (by omega)).mono ?_
            rintro e w6 ⟨rfl, hb6⟩
            have Q6 := Lib.hid (Q5.out.below hb6); clear hb6 Q5
            generalize hA2 : mk [letter ((j : Int) % 3 % 10).toNat] = a2
            have ha2 : a2.size ≤ 1 := by rw [← hA2, size_mk]; simp
            clear hA2
            have hjf : j < (fs.set j (s1, e0.2)).length := by rw [List.length_set, HFS.out]; exact hlt2
            obtain ⟨g', cap', hv, hRg', hcl, c0, c1, f0, f1, k0, k1⟩ := Q6.out.bk.at hjf
            rw [List.length_set, HFS.out] at hv
            simp only [Value.slice.injEq] at hv
            obtain ⟨hg', _, rfl⟩ := hv
            obtain rfl : g = g' := by injection hg' with hg'; injection hg'
            have hz3 : (mk [97]).size = 1 := rfl
            have q1 := k1 (mk [97] ++ a1 ++ a2) (by simp [ByteArray.size_append]; omega)
            have Q7 := Lib.hid (Q6.out.set (by exact q1.2) q1.1); clear q1 k0 k1 c0 f0 Q6
            generalize (fs.set j (s1, e0.2))[j] = e1 at c1 Q7
            have hfl : ((fs.set j (s1, e0.2)).set j (e1.1, mk [97] ++ a1 ++ a2)).length = es.length := by rw [List.length_set, List.length_set, HFS.out]
            generalize (fs.set j (s1, e0.2)).set j (e1.1, mk [97] ++ a1 ++ a2) = fs' at Q7 hfl
            have HFL := Lib.hid hfl; clear hfl hjf hcl hg'
            go_wp2_with fail
            go_roundw
            case rel => exact ⟨j + 1, fs', by omega, by go_num, HFL.out, Q7.out⟩
            case measure => simp [intOf]; omega
          · go_wp2_with fail
            go_ret
            exact ⟨_, fs, rfl, HD.out.mono hM, by omega⟩
      · have hyb : ((y : Int) == 0) = false := by rw [beq_eq_false_iff_ne]; omega
        go_wp2_with fail
        go_ret
        exact ⟨_, es, rfl, H2.out.mono (by omega), by omega⟩


set_option maxHeartbeats 4000000 in
set_option maxRecDepth 100000 in
theorem l19Bad_at (w0 w : World) (R : Nat) (K : Nat → Prop) (N : Nat) (v : Value) (es : List (ByteArray × ByteArray)) (h : DM w0 R K N v es w) (hN : N ≤ 200000) (hl : es.length ≤ 100) :
    Calls Try.prog 36 #[.pointer (some ⟨R, 0, none⟩), v] w (DrawnM w0 R K (N + 3) (es.length + 1)) := by
  obtain ⟨iE, hi, hz0, hz1, hz2⟩ := info_parts Try.infoE
  have HI := Lib.hid hi; have HZ0 := Lib.hid hz0; have HZ1 := Lib.hid hz1; have HZ2 := Lib.hid hz2
  clear hi hz0 hz1 hz2
  obtain ⟨A, cap, rfl, hcap, _, _⟩ := h.bk.rd
  have HD := Lib.hid h; clear h
  by_cases he : es.length = 0
  · have hb : ((es.length : Int) == 0) = true := by rw [he]; rfl
    have fin : DrawnM w0 R K (N + 3) (es.length + 1) (.returned (.slice A es.length cap)) w := ⟨_, es, rfl, HD.out.mono (by omega), by omega⟩
    have FIN := Lib.hid fin; clear fin he
    go_enter Try.func36, Try.ntmps36
    go_wp2_with fail
    go_ret
    exact FIN.out
  · have hb : ((es.length : Int) == 0) = false := by rw [beq_eq_false_iff_ne]; omega
    have hpos : 0 < es.length := by omega
    clear he
    go_enter Try.func36, Try.ntmps36
    go_wp2_with fail
    refine (pick_pos _ R _ _ HD.out.rdr (by omega) (by omega) (by omega)).mono ?_
    rintro e w1 ⟨k, rfl, hk, hr1, ho1⟩
    have H1 := Lib.hid (HD.out.only hr1 ho1); clear hr1 ho1 HD
    have hke : k < es.length := by omega
    clear hk
    go_wp2_with fail
    refine (pick_pos _ R _ _ H1.out.rdr (by omega) (by omega) (by omega)).mono ?_
    rintro e w2 ⟨y, rfl, hy, hr2, ho2⟩
    have H2 := Lib.hid (H1.out.only hr2 ho2); clear hr2 ho2 H1
    obtain ⟨g, cap', hv, hcl, c0, c1, f0, f1, k0, k1⟩ := H2.out.at hke
    simp only [Value.slice.injEq] at hv
    obtain ⟨rfl, _, rfl⟩ := hv
    have K0 := Lib.hid k0; have K1 := Lib.hid k1; clear k0 k1
    have hsz := H2.out.bk.2 _ (List.getElem_mem hke)
    by_cases y0 : y = 0
    · subst y0
      generalize es[k] = e at c0 c1 hsz
      clear f0 f1 K0 K1
      go_wp2_with (at_builtin; refine wpList_append_lies _ rfl _ _ 23 rfl (R + 1) 27 iE (.agg #[.string ByteArray.empty, .string ByteArray.empty]) 2 32 Try.undE HI.out HZ0.out HZ1.out HZ2.out rfl (by decide) _ es.length _ rfl (H2.out.alloc _).bk.1 ⟨w2.heap.size, 0, none⟩ 1 1 [.string e.1, .string e.2] rfl rfl (cell_two_new w2 (.string e.1) (.string e.2) 27) two_cell (by decide) (by unfold maxLen; omega) (by omega) (by have := H2.out.lt; rw [heapsize_alloc]; omega) _ rfl ?_)
      intro g6 cap6 w6 ho' hg' hl' _
      have H6 := Lib.hid ((H2.out.alloc _).app e hsz.1 hsz.2 ho' hg' (hl'.imp id fun h => by rw [h]; simp))
      clear ho' hg' hl'
      go_wp2_with fail
      go_ret
      exact ⟨_, _, rfl, H6.out.mono (by omega), by simp⟩
    · have hb0 : ((y : Int) == 0) = false := by rw [beq_eq_false_iff_ne]; omega
      by_cases y1 : y = 1
      · subst y1
        clear hb0 y0
        go_wp2_with fail
        refine (of_any _ R _ w2.heap.size 4 [mk [], mk [97, 98], mk [97, 98, 107], mk [97, 98, 99, 100]] (H2.out.rdr.alloc _) (by omega) (by simp) (by simp) (heap_alloc_new _ _)).mono ?_
        rintro e w3 ⟨t, ht, rfl, hr3, ho3⟩
        have htz : t.size ≤ 100 := by
          simp at ht; rcases ht with rfl | rfl | rfl | rfl <;> simp [size_mk]
        have H3 := Lib.hid ((H2.out.alloc (.cells #[.string (mk []), .string (mk [97, 98]), .string (mk [97, 98, 107]), .string (mk [97, 98, 99, 100])] 9)).only hr3 ho3); clear hr3 ho3 ht c0 c1 f0 f1 K0 K1
        obtain ⟨g', cap', hv, hcl', c0, c1, f0, f1, k0, k1⟩ := H3.out.at hke
        simp only [Value.slice.injEq, Option.some.injEq, Addr.mk.injEq] at hv
        obtain ⟨⟨rfl, _⟩, _, rfl⟩ := hv
        have Q := Lib.hid (k1 t htz); clear k0 k1 c0 f0
        generalize es[k] = e0 at c1 Q hsz
        go_wp2_with fail
        go_ret
        exact ⟨_, _, rfl, Q.out.mono (by omega), by simp⟩
      · have hb1 : ((y : Int) == 1) = false := by rw [beq_eq_false_iff_ne]; omega
        by_cases y2 : y = 2
        · subst y2
          clear hb0 y0 hb1 y1
          go_wp2_with fail
          refine (of_any _ R _ w2.heap.size 3 [mk [], mk [107], mk [97, 98, 99, 100, 101, 102, 103, 104, 105]] (H2.out.rdr.alloc _) (by omega) (by simp) (by simp) (heap_alloc_new _ _)).mono ?_
          rintro e w3 ⟨t, ht, rfl, hr3, ho3⟩
          have htz : t.size ≤ 100 := by
            simp at ht; rcases ht with rfl | rfl | rfl <;> simp [size_mk]
          have H3 := Lib.hid ((H2.out.alloc (.cells #[.string (mk []), .string (mk [107]), .string (mk [97, 98, 99, 100, 101, 102, 103, 104, 105])] 9)).only hr3 ho3); clear hr3 ho3 ht c0 c1 f0 f1 K0 K1
          obtain ⟨g', cap', hv, hcl', c0, c1, f0, f1, k0, k1⟩ := H3.out.at hke
          simp only [Value.slice.injEq, Option.some.injEq, Addr.mk.injEq] at hv
          obtain ⟨⟨rfl, _⟩, _, rfl⟩ := hv
          have Q := Lib.hid (k0 t htz); clear k0 k1 c1 f1
          generalize es[k] = e0 at c0 Q hsz
          go_wp2_with fail
          go_ret
          exact ⟨_, _, rfl, Q.out.mono (by omega), by simp⟩
        · have hb2 : ((y : Int) == 2) = false := by rw [beq_eq_false_iff_ne]; omega
          by_cases y3 : y = 3
          · subst y3
            clear hb0 y0 hb1 y1 hb2 y2
            obtain ⟨g', cap', hv, hcl', _, c9, _⟩ := H2.out.at hpos
            simp only [Value.slice.injEq, Option.some.injEq, Addr.mk.injEq] at hv
            obtain ⟨⟨rfl, _⟩, _, rfl⟩ := hv
            have hs0 := (H2.out.bk.2 _ (List.getElem_mem hpos)).2
            rw [Nat.zero_mul, Nat.zero_add] at c9
            have Q := Lib.hid (K1.out _ hs0); clear K0 K1 c0 f0
            generalize es[k] = e0 at c1 Q hsz
            generalize es[0] = e1 at c9 Q hs0
            go_wp2_with fail
            go_ret
            exact ⟨_, _, rfl, Q.out.mono (by omega), by simp⟩
          · have hb3 : ((y : Int) == 3) = false := by rw [beq_eq_false_iff_ne]; omega
            clear c0 c1 f0 f1 K0 K1
            go_wp2_with fail
            go_ret
            exact ⟨_, es, rfl, H2.out.mono (by omega), by omega⟩


end Go.Proofs.Ytlnppdpbhoapfaa
