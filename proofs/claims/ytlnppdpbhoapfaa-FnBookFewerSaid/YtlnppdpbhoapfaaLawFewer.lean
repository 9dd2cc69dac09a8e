/-
  The walk of the law FnBookFewer: it returns true whatever the bytes are; nothing that was there is changed. No conditions.
-/
import Derived.Test.YtlnppdpbhoapfaaDrawG
import Derived.Test.YtlnppdpbhoapfaaCutRd
import Derived.Test.YtlnppdpbhoapfaaCopyE
import Derived.Test.YtlnppdpbhoapfaaPlainL
import Derived.Test.YtlnppdpbhoapfaaMark
import Derived.Deep.AppendLies
namespace Go.Proofs.Ytlnppdpbhoapfaa
open Go.RowKit Pl
set_option linter.unusedVariables false

theorem bookValid_at (w : World) (A : Option Addr) (cap n : Nat) (es : List (ByteArray × ByteArray)) (hn : n = es.length) (h : Rd w w.heap.size A (entV es)) (hc : es.length ≤ cap) (hz : ∀ e ∈ es, e.1.size ≤ maxLen ∧ e.2.size ≤ maxLen) (b : Bool) (hb : bookV es ↔ b = true) :
    Calls Try.prog 7 #[.slice A n cap] w fun e w' => e = .returned (.bool b) ∧ Below w.heap.size w w' := by
  subst hn; exact bookValid_is w A cap es h hc hz b hb

theorem two_cells (w : World) (e : ByteArray × ByteArray) (t : TypeId) : ∀ (j : Nat) u, [Value.string e.1, Value.string e.2][j]? = some u → (w.alloc (.cells #[.string e.1, .string e.2] t)).cell? ((⟨w.heap.size, 0, none⟩ : Addr).add j) = some u :=
  World.news_of_block (cs := #[.string e.1, .string e.2]) (t := t) (fr := (0, 0)) (heap_alloc_new w _)

theorem three_alloc {wr W : World} {a1 a2 : Addr} {u1 u2 : Value} (h : W.cell? a1 = some u1 ∧ W.cell? a2 = some u2 ∧ Below wr.heap.size wr W) (o : Obj) :
    (W.alloc o).cell? a1 = some u1 ∧ (W.alloc o).cell? a2 = some u2 ∧ Below wr.heap.size wr (W.alloc o) := by
  obtain ⟨h1, h2, h5⟩ := h
  have hb : Below W.heap.size W (W.alloc o) := (Below.refl _ _).alloc (Nat.le_refl _) o
  exact ⟨(hb.cell (World.block_lt_of_cell? _ _ h1)).trans h1, (hb.cell (World.block_lt_of_cell? _ _ h2)).trans h2, h5.trans (hb.mono h5.size)⟩

theorem three_below {wr W W' : World} {a1 a2 : Addr} {u1 u2 : Value} (hb : Below W.heap.size W W') (h : W.cell? a1 = some u1 ∧ W.cell? a2 = some u2 ∧ Below wr.heap.size wr W) :
    W'.cell? a1 = some u1 ∧ W'.cell? a2 = some u2 ∧ Below wr.heap.size wr W' := by
  obtain ⟨h1, h2, h5⟩ := h
  exact ⟨(hb.cell (World.block_lt_of_cell? _ _ h1)).trans h1, (hb.cell (World.block_lt_of_cell? _ _ h2)).trans h2, h5.trans (hb.mono h5.size)⟩
theorem three_grown {wr W W' : World} {row : Option Nat} {a1 a2 : Addr} {u1 u2 : Value} (hg : W.grownBy W' row) (h : W.cell? a1 = some u1 ∧ W.cell? a2 = some u2 ∧ Below wr.heap.size wr W) (hr : ∀ k, row = some k → wr.heap.size ≤ k)
    (l1 : a1.block < wr.heap.size) (l2 : a2.block < wr.heap.size) : W'.cell? a1 = some u1 ∧ W'.cell? a2 = some u2 ∧ Below wr.heap.size wr W' := by
  obtain ⟨h1, h2, h5⟩ := h
  have hs := h5.size
  have hb : Below wr.heap.size W W' := (Below.refl _ W).grown hg hs hr
  exact ⟨(hb.cell l1).trans h1, (hb.cell l2).trans h2, h5.trans hb⟩
theorem three_alloc2 {w : World} {a : Addr} {u : Value} {o : Obj} (h : w.cell? a = some u) : (w.alloc o).cell? a = some u := by
  rw [World.cell?_alloc_lt _ _ _ (World.block_lt_of_cell? w a h)]; exact h

theorem sz_alloc' (w : World) (o : Obj) : (w.alloc o).heap.size = w.heap.size + 1 := by simp
theorem bookV_nil : bookV [] := ⟨by simp, by simp, by simp⟩
theorem two_far {W W' : World} {row : Option Nat} {B : Nat} {news : List Value} (hg : W.grownBy W' row) (hB : B < W.heap.size) (hne : some B ≠ row) (h : ∀ (j : Nat) u, news[j]? = some u → W.cell? ((⟨B, 0, none⟩ : Addr).add j) = some u) :
    ∀ (j : Nat) u, news[j]? = some u → W'.cell? ((⟨B, 0, none⟩ : Addr).add j) = some u := fun j u hj => by
  have h2 := h j u hj
  rw [add_none] at h2 ⊢
  rw [hg.cell_far _ hB hne]; exact h2

set_option maxHeartbeats 8000000 in
set_option maxRecDepth 100000 in
theorem fnBookFewer_walk (w : World) (A : Option Addr) (cap : Nat) (bs : List UInt8) (h : Rd w w.heap.size A (bytesV bs)) (hc : bs.length ≤ cap) :
    Calls Try.prog 3 #[.slice A bs.length cap] w fun e w' => e = .returned (.bool true) ∧ Below w.heap.size w w' := by
  by_cases hlen : 1048576 < bs.length
  · go_enter Try.func3, Try.ntmps3
    go_wp2_with fail
    go_ret
    exact ⟨rfl, Below.refl _ _⟩
  · obtain ⟨iE, hi, hz0, hz1, hz2⟩ := info_parts Try.infoE
    have HI := Lib.hid hi; have HZ0 := Lib.hid hz0; have HZ1 := Lib.hid hz1; have HZ2 := Lib.hid hz2
    clear hi hz0 hz1 hz2
    go_enter Try.func3, Try.ntmps3
    go_wp2_with fail
    refine (drawBookValid_any w A cap bs h hc).mono ?_
    rintro _ w1 ⟨A1, cap1, es, rfl, hr1, hc1, hz, hl, hm1, hA1, hb1⟩
    have HR := Lib.hid hr1; have HZ := Lib.hid hz; have HA := Lib.hid hA1; have HB := Lib.hid hb1; clear hr1 hz hA1 hb1 h
    by_cases hv : bookV es
    · have hl20 : es.length ≤ 20 := hv.1
      have HV := Lib.hid hv; clear hv
      go_wp2_with fail
      refine (bookValid_is _ A1 cap1 es HR.out hc1 HZ.out true (bkT HV.out)).mono ?_
      rintro _ w2 ⟨rfl, hb2⟩
      replace HB := Lib.hid (HB.out.trans (hb2.mono HB.out.size))
      replace HR := Lib.hid ((HR.out.below hb2).mono hb2.size)
      clear hb2
      go_wp2_with fail
      refine (sBookValid_is _ _ A1 cap1 es HR.out hc1 (by omega) true (bkT HV.out)).mono ?_
      rintro _ _ ⟨rfl, rfl⟩
      go_wp2_with fail
      have hcm : cap1 ≤ 9223372036854775807 := hm1
      have HCM := Lib.hid hcm
      go_loopw [5] (fun i wr => ∃ k : Nat, k ≤ es.length + 1 ∧ i = .int .i64 k ∧ Below w2.heap.size w2 wr) (fun i _ => es.length + 1 - (intOf i).toNat)
      case atStart => exact ⟨0, Nat.zero_le _, rfl, Below.refl _ _⟩
      case round =>
        obtain ⟨k, hk, rfl, hbr⟩ := hrel
        have HBR := Lib.hid hbr; clear hbr
        have HRR := Lib.hid ((HR.out.below HBR.out).mono HBR.out.size)
        by_cases hle : k ≤ es.length
        · have htz : ∀ e ∈ es.take k, e.1.size ≤ maxLen ∧ e.2.size ≤ maxLen := fun e he => HZ.out e (List.mem_of_mem_take he)
          have hdz : ∀ e ∈ es.drop k, e.1.size ≤ maxLen ∧ e.2.size ≤ maxLen := fun e he => HZ.out e (List.mem_of_mem_drop he)
          have HTZ := Lib.hid htz; have HDZ := Lib.hid hdz; clear htz hdz
          by_cases hlt : k < es.length
          · have hlt2 : k < cap1 := by omega
            go_wp2_with fail
            refine (bookValid_at _ A1 cap1 k (es.take k) (by rw [List.length_take]; omega) (by rw [entV_take]; exact HRR.out.take _) (by rw [List.length_take]; omega) HTZ.out true (bkT (bookV_take HV.out k))).mono ?_
            rintro _ w3 ⟨rfl, hb3⟩
            replace HBR := Lib.hid (HBR.out.trans (hb3.mono HBR.out.size))
            replace HRR := Lib.hid ((HRR.out.below hb3).mono hb3.size)
            clear hb3
            go_wp2_with fail
            refine (bookValid_at _ _ (cap1 - k) (es.length - k) (es.drop k) (by rw [List.length_drop]) (by rw [entV_drop, Nat.mul_comm]; exact HRR.out.dropO _) (by rw [List.length_drop]; omega) HDZ.out true (bkT (bookV_drop HV.out k))).mono ?_
            rintro _ w4 ⟨rfl, hb4⟩
            replace HBR := Lib.hid (HBR.out.trans (hb4.mono HBR.out.size))
            replace HRR := Lib.hid ((HRR.out.below hb4).mono hb4.size)
            clear hb4
            obtain ⟨b1, o1, hA1, hb1lt, x0, x1⟩ := HRR.out.ent hlt
            have hcell := (HRR.out (by intro e; have := congrArg List.length e; rw [length_entV, List.length_nil] at this; omega))
            subst hA1
            have hmem : es[k] ∈ es := List.getElem_mem hlt
            have htw := bookV_twice hmem
            have hzz := HZ.out _ hmem
            have hsplit : entV es ++ [.string es[k].1, .string es[k].2] = entV (es ++ [es[k]]) := by simp [entV]
            have hall : ∀ j u, (entV es)[j]? = some u → w4.cell? ((⟨b1, o1, none⟩ : Addr).add j) = some u := by
              obtain ⟨b', o', e', _, hc'⟩ := hcell
              simp only [Option.some.injEq, Addr.mk.injEq, and_true] at e'
              obtain ⟨rfl, rfl⟩ := e'
              exact ent_cells (B := w4.heap.size) hc'
            have hz2 : ∀ e ∈ es ++ [es[k]], e.1.size ≤ maxLen ∧ e.2.size ≤ maxLen := by
              intro e he
              rcases List.mem_append.1 he with he | he
              · exact HZ.out e he
              · simp only [List.mem_singleton] at he; subst he; exact hzz
            have HTW := Lib.hid htw; have HSP := Lib.hid hsplit; have HALL := Lib.hid hall; have HZ2' := Lib.hid hz2
            clear htw hsplit hall hz2 hcell hmem hzz
            generalize es[k] = x at x0 x1 HTW HSP HZ2'
            have hl0 : 0 < es.length := by omega
            have hkz : (0 : Int) ≤ (k : Int) := by omega
            have hkl : (k : Int) < (es.length : Int) := by omega
            go_wp2_with fail
            have EMP := Lib.hid (World.ownsRow_made (base := w4.heap.size) (e := 27) (size := 2) w4 #[] 0 (Nat.le_refl _) (by decide) rfl)
            have empc := World.ownsRow_made (base := w4.heap.size) (e := 27) (size := 2) (w4.alloc (.cells #[.string x.1, .string x.2] 27)) #[] 0 (by simp) (by decide) rfl
            rw [sz_alloc'] at empc
            have EMC := Lib.hid empc; clear empc
            have EMB := Lib.hid (EMP.out.alloc (.cells #[.string x.1, .string x.2] 27))
            have xb := two_cells (w4.alloc (.cells #[] 27)) x 27
            rw [sz_alloc'] at xb
            have XB := Lib.hid xb; clear xb
            have XC := Lib.hid (fun j u hj => three_alloc2 (o := .cells #[] 27) (two_cells w4 x 27 j u hj))
            have hbv := fun (W : World) (g cap : Nat) (hW : W.ownsRow w4.heap.size 27 2 (.slice (some ⟨g, 0, none⟩) (es.length + 1) cap) (es.length + 1) (entV es ++ [.string x.1, .string x.2])) =>
              bookValid_at W _ cap (es.length + 1) (es ++ [x]) (by simp) (by rw [← HSP.out]; exact own_rd hW) (by rw [List.length_append]; exact own_le hW) HZ2'.out false (bkF HTW.out)
            have HBV := Lib.hid hbv; clear hbv
            have lt1 : b1 < w4.heap.size := World.block_lt_of_cell? _ _ x0
            go_region_held3 (fun W => W.cell? ⟨b1, o1 + k * 2, none⟩ = some (.string x.1) ∧ W.cell? ⟨b1, o1 + k * 2 + 1, none⟩ = some (.string x.2) ∧ Below w4.heap.size w4 W) (first | assumption | exact ⟨x0, x1, (Below.refl _ _).drew⟩ | exact three_alloc (by assumption) _ | exact three_alloc (W := w4.drew) ⟨x0, x1, (Below.refl _ _).drew⟩ _ | exact three_below hb7 (by assumption) | exact three_grown hg6 (by assumption) (fun k' e' => (ho5.lt k' e').1) lt1 lt1 | exact three_grown hg5 (by assumption) (fun k' e' => (EMP.out.lt k' e').1) lt1 lt1 | exact three_grown hg5 (by assumption) (fun k' e' => (EMB.out.lt k' e').1) lt1 lt1 | exact three_grown hg5 (by assumption) (fun k' e' => (EMC.out.lt k' e').1) lt1 lt1) (first | (rw [if_pos (by rfl)]; refine wp_append_lies _ (.tmp 48) (.tmp 49) 23 (by rfl) w4.heap.size 27 iE _ 2 32 Try.undE HI.out HZ0.out HZ1.out HZ2.out rfl (by decide) _ 0 [] (by rfl) EMP.out ⟨b1, o1, none⟩ es.length cap1 (entV es) (by rfl) (by rw [length_entV]; omega) (fun j u hj => ((three_alloc2 (HALL.out j u hj)))) (ent_one es) hl0 (by unfold maxLen; omega) (by omega) (by simp) _ rfl ?_; intro g1 c1 w5 ho5 hg5 hat5 hlt5; simp only [Nat.zero_add, List.nil_append] at ho5 ⊢) | (rw [if_pos (by rfl)]; refine wp_append_lies _ (.tmp 48) (.tmp 49) 23 (by rfl) w4.heap.size 27 iE _ 2 32 Try.undE HI.out HZ0.out HZ1.out HZ2.out rfl (by decide) _ 0 [] (by rfl) EMB.out ⟨b1, o1, none⟩ es.length cap1 (entV es) (by rfl) (by rw [length_entV]; omega) (fun j u hj => ((three_alloc2 (three_alloc2 (HALL.out j u hj))))) (ent_one es) hl0 (by unfold maxLen; omega) (by omega) (by simp <;> omega) _ rfl ?_; intro g1 c1 w5 ho5 hg5 hat5 hlt5; simp only [Nat.zero_add, List.nil_append] at ho5 ⊢; have HX5 := Lib.hid (two_far hg5 (by simp <;> omega) (by simp [Value.ownBlock]) XB.out)) | (rw [if_pos (by rfl)]; refine wp_append_lies _ (.tmp 48) (.tmp 49) 23 (by rfl) w4.heap.size 27 iE _ 2 32 Try.undE HI.out HZ0.out HZ1.out HZ2.out rfl (by decide) _ 0 [] (by rfl) EMC.out ⟨b1, o1, none⟩ es.length cap1 (entV es) (by rfl) (by rw [length_entV]; omega) (fun j u hj => ((three_alloc2 (three_alloc2 (HALL.out j u hj))))) (ent_one es) hl0 (by unfold maxLen; omega) (by omega) (by simp <;> omega) _ rfl ?_; intro g1 c1 w5 ho5 hg5 hat5 hlt5; simp only [Nat.zero_add, List.nil_append] at ho5 ⊢; have HX5 := Lib.hid (two_far hg5 (by simp <;> omega) (by simp [Value.ownBlock]) XC.out)) | (go_at_call 7; refine (HBV.out w6 g2 c2 (by simpa using ho6)).mono ?_; rintro _ w7 ⟨rfl, hb7⟩) | (rw [if_pos (by rfl)]; refine wp_append_lies _ (.tmp 50) (.tmp 55) 23 (by rfl) w4.heap.size 27 iE _ 2 32 Try.undE HI.out HZ0.out HZ1.out HZ2.out rfl (by decide) _ _ _ (by rfl) ho5 ⟨w4.heap.size, 0, none⟩ 1 1 [.string x.1, .string x.2] (by rfl) rfl HX5.out (ent_one [x]) (by decide) (by unfold maxLen; omega) (by omega) (by have := hg5.size; simp at this; (try simp); omega) _ rfl ?_; intro g2 c2 w6 ho6 hg6 hat6 hlt6) | (rw [if_pos (by rfl)]; refine wp_append_lies _ (.tmp 50) (.tmp 55) 23 (by rfl) w4.heap.size 27 iE _ 2 32 Try.undE HI.out HZ0.out HZ1.out HZ2.out rfl (by decide) _ _ _ (by rfl) (ho5.alloc _) ⟨w5.heap.size, 0, none⟩ 1 1 [.string x.1, .string x.2] (by rfl) rfl (two_cells _ x _) (ent_one [x]) (by decide) (by unfold maxLen; omega) (by omega) (by have := hg5.size; simp at this; (try simp); omega) _ rfl ?_; intro g2 c2 w6 ho6 hg6 hat6 hlt6) | (rw [if_pos (by rfl)]; refine wp_append_lies _ (.tmp 50) (.tmp 55) 23 (by rfl) w4.heap.size 27 iE _ 2 32 Try.undE HI.out HZ0.out HZ1.out HZ2.out rfl (by decide) _ _ _ (by rfl) ho5 ⟨w4.heap.size + 1, 0, none⟩ 1 1 [.string x.1, .string x.2] (by rfl) rfl HX5.out (ent_one [x]) (by decide) (by unfold maxLen; omega) (by omega) (by have := hg5.size; simp at this; (try simp); omega) _ rfl ?_; intro g2 c2 w6 ho6 hg6 hat6 hlt6))
            all_goals
              rename_i hS
              have HB2 := Lib.hid (HBR.out.trans (hS.2.2.mono HBR.out.size))
              clear hS x0 x1
              go_wp2_with fail
              go_roundw
              case rel => exact ⟨k + 1, by omega, by go_num, HB2.out⟩
              case measure => simp [intOf]; omega
          · obtain rfl : k = es.length := by omega
            clear HTZ HDZ
            have hpart : es.length = cap1 ∨ es.length < cap1 := by omega
            rcases hpart with hpart | hpart
            · subst hpart
              go_wp2_with fail
              refine (bookValid_is _ A1 _ es HRR.out hc1 HZ.out true (bkT HV.out)).mono ?_
              rintro _ w3 ⟨rfl, hb3⟩
              replace HBR := Lib.hid (HBR.out.trans (hb3.mono HBR.out.size))
              replace HRR := Lib.hid ((HRR.out.below hb3).mono hb3.size)
              clear hb3
              go_wp2_with fail
              refine (bookValid_at _ _ _ _ [] (by simp) Rd.nil (Nat.zero_le _) (by simp) true (bkT bookV_nil)).mono ?_
              rintro _ w4 ⟨rfl, hb4⟩
              replace HBR := Lib.hid (HBR.out.trans (hb4.mono HBR.out.size))
              clear hb4
              have hnl : decide ((es.length : Int) < (es.length : Int)) = false := by simp
              go_wp2_with fail
              go_quiet (fail)
              clear hnl
              go_wp2_with fail
              go_roundw
              case rel => exact ⟨es.length + 1, by omega, by go_num, below_drewN' HBR.out _⟩
              case measure => simp [intOf]
            · have hne2 : ¬ cap1 = es.length := by omega
              go_wp2_with fail
              refine (bookValid_is _ A1 _ es HRR.out hc1 HZ.out true (bkT HV.out)).mono ?_
              rintro _ w3 ⟨rfl, hb3⟩
              replace HBR := Lib.hid (HBR.out.trans (hb3.mono HBR.out.size))
              replace HRR := Lib.hid ((HRR.out.below hb3).mono hb3.size)
              clear hb3
              go_wp2_with fail
              refine (bookValid_at _ _ _ _ [] (by simp) Rd.nil (Nat.zero_le _) (by simp) true (bkT bookV_nil)).mono ?_
              rintro _ w4 ⟨rfl, hb4⟩
              replace HBR := Lib.hid (HBR.out.trans (hb4.mono HBR.out.size))
              clear hb4
              have hnl : decide ((es.length : Int) < (es.length : Int)) = false := by simp
              go_wp2_with fail
              go_quiet (fail)
              clear hnl
              go_wp2_with fail
              go_roundw
              case rel => exact ⟨es.length + 1, by omega, by go_num, below_drewN' HBR.out _⟩
              case measure => simp [intOf]
        · obtain rfl : k = es.length + 1 := by omega
          have hd20 : decide ((es.length : Int) ≤ 20) = true := by simp; omega
          go_wp2_with fail
          go_ret
          exact ⟨rfl, HB.out.trans (HBR.out.mono HB.out.size)⟩
    · have HV := Lib.hid hv; clear hv
      go_wp2_with fail
      refine (bookValid_is _ A1 cap1 es HR.out hc1 HZ.out false (bkF HV.out)).mono ?_
      rintro _ w2 ⟨rfl, hb2⟩
      replace HB := Lib.hid (HB.out.trans (hb2.mono HB.out.size))
      replace HR := Lib.hid ((HR.out.below hb2).mono hb2.size)
      clear hb2
      go_wp2_with fail
      refine (sBookValid_is _ _ A1 cap1 es HR.out hc1 (by omega) false (bkF HV.out)).mono ?_
      rintro _ _ ⟨rfl, rfl⟩
      go_wp2_with fail
      refine (sBookValid_is _ _ A1 cap1 es HR.out hc1 (by omega) false (bkF HV.out)).mono ?_
      rintro _ _ ⟨rfl, rfl⟩
      go_wp2_with fail
      go_ret
      exact ⟨rfl, HB.out⟩

end Go.Proofs.Ytlnppdpbhoapfaa
