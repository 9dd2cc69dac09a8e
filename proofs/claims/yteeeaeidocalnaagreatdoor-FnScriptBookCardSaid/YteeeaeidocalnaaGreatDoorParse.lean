/-
  Contracts of ParseBook, of the program and of the reference, and of the library's functions that it calls. Conditions: what each theorem names.
-/
import Derived.Test.YteeeaeidocalnaaGreatDoorCutS
import Derived.Test.YteeeaeidocalnaaGreatDoorDoor
import Derived.Test.YteeeaeidocalnaaGreatDoorFmt
import Derived.Test.YteeeaeidocalnaaGreatDoorMark
import Derived.Deep.AppendLies
namespace Go.Proofs.YteeeaeidocalnaaGreatDoor
open Go.RowKit Pl
set_option linter.unusedVariables false

theorem split_any (w : World) (s : ByteArray) (c : UInt8) (hml : ML w) (hs : s.size ≤ 1048576) :
    Calls Tryz.prog 30 #[.string s, .string (mk [c])] w fun e w' => e = .returned (.slice (some ⟨w.heap.size, 0, none⟩) (spl c (tl s)).length (spl c (tl s)).length) ∧ w' = w.alloc (.cells (strV (mkl (spl c (tl s)))).toArray 9) := by
  obtain ⟨m, hm⟩ := hml
  have e1 : mkl (spl c (tl s)) = Lib.splitB (mk [c]) 0 (Lib.countB s (mk [c])) s := by
    unfold mkl
    rw [← splitB_spl c _ s rfl, List.map_map]
    conv => rhs; rw [← List.map_id (Lib.splitB (mk [c]) 0 (Lib.countB s (mk [c])) s)]
    rfl
  have e2 : (spl c (tl s)).length = Lib.countB s (mk [c]) + 1 := by
    rw [← length_mkl, e1, Lib.splitB_all (mk [c]) (Nat.le_refl 1) 0 _ s rfl]
  rw [e2, e1]
  exact Tryz.strings_Split s (mk [c]) m w (by omega) hm (Nat.le_refl 1)

theorem cut_any (w : World) (s : ByteArray) (c : UInt8) (hml : ML w) (hs : s.size ≤ 1048576) :
    Calls Tryz.prog 59 #[.string s, .string (mk [c])] w fun e w' => e = .returned (.tuple #[.string (mk (bef c (tl s))), .string (mk (aft c (tl s))), .bool (decide (c ∈ tl s))]) ∧ ∃ n, w' = w.drewN n := by
  obtain ⟨m, hm⟩ := hml
  have h := Tryz.strings_Cut s (mk [c]) m w (by omega) hm
  have e : Lib.cut s.data.toList (mk [c]).data.toList = (bef c (tl s), aft c (tl s), decide (c ∈ tl s)) := cut_bef c (tl s)
  rw [e] at h
  exact h

theorem count_any (w : World) (s : ByteArray) (c : UInt8) :
    Calls Tryz.prog 77 #[.string s, .string (mk [c])] w fun e w' => e = .returned (.int .i64 ((tl s).count c : Nat)) ∧ w = w' := by
  have h := Tryz.strings_Count_one s c w
  exact h.mono fun e w' ⟨h1, h2⟩ => ⟨h1, h2.symm⟩

theorem split_rd (w : World) (l : List ByteArray) : Rd (w.alloc (.cells (strV l).toArray 9)) (w.heap.size + 1) (some ⟨w.heap.size, 0, none⟩) (strV l) := fun _ =>
  ⟨w.heap.size, 0, rfl, by omega, fun j hj => by
    rw [Nat.zero_add, cell_of_row _ _ _ _ _ _ (heap_alloc_new w _)]
    simp [hj]⟩

theorem cell_two (w : World) (a b : ByteArray) (t : TypeId) : ∀ (j : Nat) u, [Value.string a, Value.string b][j]? = some u → (w.alloc (.cells #[.string a, .string b] t)).cell? ((⟨w.heap.size, 0, none⟩ : Addr).add j) = some u :=
  World.news_of_block (cs := #[.string a, .string b]) (t := t) (fr := (0, 0)) (heap_alloc_new w _)
theorem two_one (a b : ByteArray) : ∀ u ∈ [Value.string a, Value.string b], u.oneCell' = true := by
  intro u hu
  simp at hu
  rcases hu with rfl | rfl <;> rfl

/-- the callee has made a book, or none -/
def BookP (o : Option (List Ent)) (w : World) (e : Ending) (w' : World) : Prop :=
  ∃ v, e = .returned (.tuple #[v, .bool o.isSome]) ∧ w'.ownsRow w.heap.size 77 2 v (o.getD []).length (entV (o.getD [])) ∧ Below w.heap.size w w'
theorem BookP.no {o : Option (List Ent)} (hn : o = none) {w w' : World} (hb : Below w.heap.size w w') : BookP o w (.returned (.tuple #[.slice none 0 0, .bool false])) w' :=
  ⟨.slice none 0 0, by rw [hn]; rfl, by rw [hn]; exact World.ownsRow_nil _ _ _ _, hb⟩
theorem BookP.made {o : Option (List Ent)} (hn : o.getD [] = []) {w w' : World} {b : Bool} (hs : b = o.isSome) (hb : Below w.heap.size w w') : BookP o w (.returned (.tuple #[.slice (some ⟨w'.heap.size, 0, none⟩) 0 0, .bool b])) (w'.alloc (.cells #[] 77)) :=
  ⟨_, by rw [hs], by rw [hn]; exact World.ownsRow_made w' #[] 0 hb.size (by decide) rfl, hb.alloc hb.size _⟩
theorem BookP.yes {o : Option (List Ent)} {l : List Ent} (hn : o = some l) {w w' : World} {v : Value} (ho : w'.ownsRow w.heap.size 77 2 v l.length (entV l)) (hb : Below w.heap.size w w') : BookP o w (.returned (.tuple #[v, .bool true])) w' :=
  ⟨v, by rw [hn]; rfl, by rw [hn]; exact ho, hb⟩
theorem entV_snoc2 (l : List Ent) (e : Ent) : entV l ++ [.string e.1, .string e.2] = entV (l ++ [e]) := by simp [entV]
theorem own_mono2 {w : World} {base base' : Nat} {e : TypeId} {size : Nat} {v : Value} {n : Nat} {xs : List Value} (h : w.ownsRow base e size v n xs) (hb : base' ≤ base) : w.ownsRow base' e size v n xs := by
  obtain ⟨h1, h2 | ⟨g, cap, cur, h2, h3, h4⟩⟩ := h
  · exact ⟨h1, .inl h2⟩
  · exact ⟨h1, .inr ⟨g, cap, cur, h2, by omega, h4⟩⟩

set_option maxHeartbeats 4000000 in
set_option maxRecDepth 100000 in
theorem parse_any (w : World) (s : ByteArray) (hml : ML w) (hs : s.size ≤ 1048576) :
    Calls Tryz.prog 159 #[.string s] w (BookP (parseW s) w) := by
  obtain ⟨r, hr⟩ : ∃ r, r = parseW s := ⟨_, rfl⟩
  rw [← hr]
  have HRR := Lib.hid hr; clear hr
  have HML := Lib.hid hml; clear hml
  obtain ⟨iE, hi, hz0, hz1, hz2⟩ := info_parts Tryz.infoE
  have HI := Lib.hid hi; have HZ0 := Lib.hid hz0; have HZ1 := Lib.hid hz1; have HZ2 := Lib.hid hz2
  clear hi hz0 hz1 hz2
  by_cases hd : tl s = [45]
  · have hsd : s = mk [45] := tl_inj hd
    subst hsd
    have hn : r = some [] := by rw [HRR.out]; exact parseW_dash hd
    have hq : ((mk [45]).toList == [45]) = true := by rw [toList_tl]; rfl
    have HN := Lib.hid hn; clear hn hd
    go_enter Tryz.func159, Tryz.ntmps159
    go_wp2_with fail
    go_ret2
    exact BookP.yes HN.out (World.ownsRow_nil _ _ _ _) (Below.refl _ _)
  · have hdb : (s.toList == [45]) = false := by rw [beq_eq_false_iff_ne, toList_tl]; exact hd
    have HD := Lib.hid hd; clear hd
    by_cases hmany : 20 ≤ (tl s).count 32
    · have hn : r = none := by rw [HRR.out]; exact parseW_many HD.out hmany
      have HN := Lib.hid hn; clear hn
      obtain ⟨c, hc⟩ : ∃ c, c = (tl s).count 32 := ⟨_, rfl⟩
      rw [← hc] at hmany
      have HC := Lib.hid hc; clear hc
      go_enter Tryz.func159, Tryz.ntmps159
      go_wp2_with fail
      refine (count_any w s 32).mono ?_
      rintro _ _ ⟨rfl, rfl⟩
      rw [← HC.out]
      go_wp2_with fail
      go_ret2
      exact BookP.no HN.out (Below.refl _ _)
    · have hpl := length_spl 32 (tl s)
      have hel := length_entsOf s
      obtain ⟨c, hc⟩ : ∃ c, c = (tl s).count 32 := ⟨_, rfl⟩
      rw [← hc] at hmany hpl hel
      have HC := Lib.hid hc; clear hc
      have HPL := Lib.hid hpl; have HEL := Lib.hid hel; clear hpl hel
      have hcl : c < 20 := by omega
      clear hmany
      go_enter Tryz.func159, Tryz.ntmps159
      go_wp2_with fail
      refine (count_any w s 32).mono ?_
      rintro _ _ ⟨rfl, rfl⟩
      rw [← HC.out]
      go_wp2_with fail
      refine (split_any _ s 32 HML.out hs).mono ?_
      rintro _ w1 ⟨rfl, rfl⟩
      obtain ⟨ps, hps⟩ : ∃ ps, ps = mkl (spl 32 (tl s)) := ⟨_, rfl⟩
      obtain ⟨es, hes⟩ : ∃ es, es = entsOf s := ⟨_, rfl⟩
      have hpn : (spl 32 (tl s)).length = ps.length := by rw [hps, length_mkl]
      have hen : es.length = ps.length := by rw [hes, ← hpn, HEL.out, HPL.out]
      have hget : ∀ (k : Nat) (h1 : k < ps.length) (h2 : k < es.length), es[k] = (mk (bef 61 (tl ps[k])), mk (aft 61 (tl ps[k]))) ∧ ps[k].size ≤ s.size := by
        intro k h1 h2
        have hk : k < (spl 32 (tl s)).length := by rw [hpn]; exact h1
        have e1 : ps[k] = mk (spl 32 (tl s))[k] := by simp [hps, mkl]
        refine ⟨by rw [e1]; simp [hes, entsOf, entOf, tl_mk], ?_⟩
        rw [e1, size_mk, ← length_tl]
        exact (spl_mem (List.getElem_mem hk)).2.1
      have hez : ∀ e ∈ es, e.1.size ≤ maxLen ∧ e.2.size ≤ maxLen := fun e he => by
        have := mem_entsOf (hes ▸ he)
        unfold maxLen
        omega
      have hsp := split_rd w ps
      have hbb : Below w.heap.size w (w.alloc (.cells (strV ps).toArray 9)) := (Below.refl _ _).alloc (Nat.le_refl _) _
      rw [← hps, hpn]
      have hpl20 : ps.length ≤ 20 := by rw [← hpn, HPL.out]; omega
      have hp0 : 0 < ps.length := by rw [← hpn, HPL.out]; omega
      have HPS := Lib.hid hps; have HES := Lib.hid hes; have HPN := Lib.hid hpn; have HGET := Lib.hid hget; have HEZ := Lib.hid hez; have HSP := Lib.hid hsp; have HBB := Lib.hid hbb; have HEN := Lib.hid hen
      clear hps hes hpn hget hez hsp hbb hen
      obtain ⟨w1, hw1⟩ : ∃ w1, w1 = w.alloc (.cells (strV ps).toArray 9) := ⟨_, rfl⟩
      rw [← hw1] at HSP HBB ⊢
      have HW1 := Lib.hid hw1; clear hw1
      obtain ⟨b1, hb1⟩ : ∃ b1, b1 = w.heap.size := ⟨_, rfl⟩
      rw [← hb1] at HSP ⊢
      have HB1 := Lib.hid hb1; clear hb1
      go_wp2_with fail
      go_loopw [4, 18] (fun v i wr => ∃ k : Nat, k ≤ ps.length ∧ i = .int .i64 k ∧ wr.ownsRow w1.heap.size 77 2 v k (entV (es.take k)) ∧ Below w1.heap.size w1 wr) (fun _ i _ => ps.length - (intOf i).toNat)
      case atStart => exact ⟨0, Nat.zero_le _, rfl, World.ownsRow_nil _ _ _ _, Below.refl _ _⟩
      case round =>
        obtain ⟨k, hk, rfl, hown, hbl⟩ := hrel
        have HO := Lib.hid hown; have HBL := Lib.hid hbl; clear hown hbl
        obtain ⟨A5, cap5, e5⟩ := slot_slice HO.out
        subst e5
        have hbw := HBB.out.size
        have hbw2 := HBL.out.size
        by_cases hlt : k < ps.length
        · have hke : k < es.length := by rw [HEN.out]; exact hlt
          obtain ⟨b, off, hA, _, c0⟩ := ((HSP.out.mono (show b1 + 1 ≤ w1.heap.size by have h1 := HW1.out; have h2 := HB1.out; rw [h1, h2]; simp)).below HBL.out).str hlt
          simp only [Option.some.injEq, Addr.mk.injEq, and_true] at hA
          obtain ⟨rfl, rfl⟩ := hA
          rw [Nat.zero_add] at c0
          have hg := HGET.out k hlt hke
          have hsn : entV (es.take k) ++ [.string es[k].1, .string es[k].2] = entV (es.take (k + 1)) := by rw [entV_snoc2, List.take_succ_eq_append_getElem hke]
          have hml2 := (HML.out.below (HBB.out.trans (HBL.out.mono HBB.out.size)) (Nat.le_refl _))
          have hgz := hg.2
          rw [hg.1] at hsn
          have HSN := Lib.hid hsn; have HML2 := Lib.hid hml2; clear hg hsn hml2
          generalize ps[k] = p at c0 hgz HSN
          have hpz : p.size ≤ 1048576 := by omega
          go_wp2_with fail
          refine (cut_any _ p 61 HML2.out hpz).mono ?_
          rintro _ w3 ⟨rfl, n3, rfl⟩
          obtain ⟨x, hx⟩ : ∃ x, x = mk (bef 61 (tl p)) := ⟨_, rfl⟩
          obtain ⟨y, hy⟩ : ∃ y, y = mk (aft 61 (tl p)) := ⟨_, rfl⟩
          obtain ⟨fd, hfd⟩ : ∃ fd, fd = decide (61 ∈ tl p) := ⟨_, rfl⟩
          rw [← hx, ← hy] at HSN
          rw [← hx, ← hy, ← hfd]
          clear hx hy hfd c0 hgz hpz
          have HOW := Lib.hid (show (wr.drewN n3).ownsRow w1.heap.size 77 2 (.slice A5 k cap5) k (entV (es.take k)) from HO.out)
          have HBW := Lib.hid (below_drewN' HBL.out n3)
          clear HO HBL
          obtain ⟨w3, hw3⟩ : ∃ w3, w3 = wr.drewN n3 := ⟨_, rfl⟩
          rw [← hw3] at HOW HBW ⊢
          clear hw3
          have hbw3 := HBW.out.size
          go_wp2_with (at_builtin; refine wpList_append_own _ rfl _ _ 29 rfl w1.heap.size 77 iE (.agg #[.string ByteArray.empty, .string ByteArray.empty]) 2 32 Tryz.undE HI.out HZ0.out HZ1.out HZ2.out rfl (by decide) _ k _ rfl (HOW.out.alloc _) ⟨w3.heap.size, 0, none⟩ 1 1 [.string x, .string y] rfl rfl (cell_two w3 x y _) (two_one x y) (by unfold maxLen; omega) (by omega) (by simp; omega) ?_)
          intro v' w6 ho' hg' _
          rw [HSN.out] at ho'
          have hb6 : Below w1.heap.size w1 w6 := (HBW.out.alloc hbw3 _).grown hg' (by simp; omega) fun k' e' => (HOW.out.lt k' e').1
          have HO6 := Lib.hid ho'; have HB6 := Lib.hid hb6; clear ho' hg' hb6
          go_wp2_with fail
          go_roundw
          case rel => exact ⟨k + 1, by omega, by go_num, HO6.out, HB6.out⟩
          case measure => simp [intOf]; omega
        · obtain rfl : k = ps.length := by omega
          have htk : es.take ps.length = es := List.take_of_length_le (by rw [HEN.out]; exact Nat.le_refl _)
          rw [htk] at HO
          clear htk
          have HBL2 := Lib.hid (HBB.out.trans (HBL.out.mono HBB.out.size))
          by_cases h0 : tl s = []
          · have hn : r = none := by rw [HRR.out]; exact parseW_no HD.out (Or.inl h0)
            have hse : s = mk [] := tl_inj h0
            subst hse
            have HN := Lib.hid hn; clear hn h0
            have hq : (mk []).toList.isEmpty = true := by rw [toList_tl]; rfl
            go_wp2_with fail
            go_ret2
            exact BookP.no HN.out HBL2.out
          · have hq : s.toList.isEmpty = false := by rw [List.isEmpty_eq_false_iff, toList_tl]; exact h0
            have H0 := Lib.hid h0; clear h0
            have hfm := format_any wr A5 cap5 es (own_rd HO.out) (by rw [HEN.out]; exact own_le HO.out) HEZ.out
            rw [HEN.out] at hfm
            obtain ⟨tx, htx⟩ : ∃ tx, tx = fmtB es := ⟨_, rfl⟩
            rw [← htx] at hfm
            have HFM := Lib.hid hfm; have HTX := Lib.hid htx; clear hfm htx
            by_cases hf : tx = s
            · have hn : r = some es := by rw [HRR.out, HES.out]; exact parseW_ok HD.out H0.out (by rw [← HES.out, ← HTX.out]; exact hf)
              have hq2 : (tx.toList == s.toList) = true := by rw [hf]; simp
              have HN := Lib.hid hn; have HF := Lib.hid hf; clear hn hf
              go_wp2_with fail
              refine HFM.out.mono ?_
              rintro _ w7 ⟨rfl, hb7⟩
              have HO7 := Lib.hid (ownsRow_below HO.out hb7)
              have HB7 := Lib.hid (HBL2.out.trans (hb7.mono HBL2.out.size))
              clear hb7 HO HBL HBL2
              go_wp2_with fail
              go_ret2
              exact BookP.yes HN.out (by rw [HEN.out]; exact own_mono2 HO7.out hbw) HB7.out
            · have hn : r = none := by rw [HRR.out]; exact parseW_no HD.out (Or.inr (by rw [← HES.out, ← HTX.out]; exact hf))
              have hq2 : (tx.toList == s.toList) = false := by
                rw [beq_eq_false_iff_ne]; intro e; rw [toList_tl, toList_tl] at e; exact hf (tl_inj e)
              have HN := Lib.hid hn; clear hn hf
              go_wp2_with fail
              refine HFM.out.mono ?_
              rintro _ w7 ⟨rfl, hb7⟩
              have HB7 := Lib.hid (HBL2.out.trans (hb7.mono HBL2.out.size))
              clear hb7 HO HBL HBL2
              go_wp2_with fail
              go_ret2
              exact BookP.no HN.out HB7.out

theorem cell_alloc2 {w : World} {a : Addr} {u : Value} (h : w.cell? a = some u) (o : Obj) : (w.alloc o).cell? a = some u := by
  rw [World.cell?_alloc_lt _ _ _ (World.block_lt_of_cell? w a h)]; exact h
theorem cell_grown2 {w w' : World} {row : Option Nat} {a : Addr} {u : Value} (hg : w.grownBy w' row) (h : w.cell? a = some u) (hne : some a.block ≠ row) : w'.cell? a = some u :=
  (hg.cell_far _ (World.block_lt_of_cell? _ _ h) hne).trans h
theorem szalloc (w : World) (o : Obj) : (w.alloc o).heap.size = w.heap.size + 1 := by simp
theorem entOf_bef {p : ByteArray} {q : Nat} (hq : (tl p).idxOf 61 = q) : entOf (tl p) = (p.extract 0 q, p.extract (q + 1) p.size) := by
  unfold entOf bef aft
  rw [hq, extract_mk', extract_mk', List.drop_zero, Nat.sub_zero, List.take_of_length_le (l := (tl p).drop (q + 1)) (by rw [List.length_drop, length_tl]; exact Nat.le_refl _)]














































































































































































































































end Go.Proofs.YteeeaeidocalnaaGreatDoor
