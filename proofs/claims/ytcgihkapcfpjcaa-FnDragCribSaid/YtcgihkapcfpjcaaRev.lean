/-
  Contracts of slices.Reverse over bytes, of ReverseWord and of ShiftWord. No conditions but those that each theorem names.
-/
import Derived.Test.YtcgihkapcfpjcaaComb
import Derived.BigRegion
namespace Go.Proofs.Ytcgihkapcfpjcaa
open Go.RowKit Pl
set_option linter.unusedVariables false

/-- a list whose first and last k elements are exchanged -/
def rv (k : Nat) (l : List UInt8) : List UInt8 := (List.range l.length).map fun i => if i < k ∨ l.length - k ≤ i then l.getD (l.length - 1 - i) 0 else l.getD i 0
theorem length_rv (k : Nat) (l : List UInt8) : (rv k l).length = l.length := by simp [rv]
theorem rv_get (k : Nat) (l : List UInt8) (i : Nat) (h : i < l.length) : (rv k l)[i]'(by rw [length_rv]; exact h) = if i < k ∨ l.length - k ≤ i then l.getD (l.length - 1 - i) 0 else l.getD i 0 := by simp [rv]
theorem rv_zero (l : List UInt8) : rv 0 l = l := by
  apply List.ext_getElem (length_rv _ _)
  intro i h1 h2
  rw [rv_get 0 l i h2, if_neg (by omega)]
  simp [List.getD, h2]
theorem rv_end (k : Nat) (l : List UInt8) (h : l.length ≤ 2 * k + 1) (hk : 2 * k ≤ l.length) : rv k l = l.reverse := by
  apply List.ext_getElem (by rw [length_rv]; simp)
  intro i h1 h2
  rw [length_rv] at h1
  rw [rv_get k l i h1, List.getElem_reverse]
  by_cases hc : i < k ∨ l.length - k ≤ i
  · rw [if_pos hc]; simp [List.getD, List.getElem?_eq_getElem (show l.length - 1 - i < l.length by omega)]
  · rw [if_neg hc]
    have e : l.length - 1 - i = i := by omega
    simp [List.getD, List.getElem?_eq_getElem h1, e]
theorem rv_step (k : Nat) (l : List UInt8) (h : 2 * k + 1 < l.length) :
    ((rv k l).set k ((rv k l)[l.length - 1 - k]'(by rw [length_rv]; omega))).set (l.length - 1 - k) ((rv k l)[k]'(by rw [length_rv]; omega)) = rv (k + 1) l := by
  apply List.ext_getElem (by simp [length_rv])
  intro i h1 h2
  rw [length_rv] at h2
  rw [List.getElem_set, List.getElem_set, rv_get (k + 1) l i h2]
  by_cases e1 : l.length - 1 - k = i
  · rw [if_pos e1, if_pos (by omega), rv_get k l k (by omega), if_neg (by omega)]
    congr 1; omega
  · rw [if_neg e1]
    by_cases e2 : k = i
    · rw [if_pos e2, if_pos (by omega), rv_get k l _ (by omega), if_neg (by omega)]
      congr 1; omega
    · rw [if_neg e2, rv_get k l i h2]
      by_cases hc : i < k ∨ l.length - k ≤ i
      · rw [if_pos hc, if_pos (by omega)]
      · rw [if_neg hc, if_neg (by omega)]

set_option maxHeartbeats 4000000 in
set_option maxRecDepth 100000 in
theorem reverse_any (w : World) (g cap : Nat) (l : List UInt8) (h : Buf w g l) (hl : l.length ≤ 1000000) :
    Calls Try.prog 73 #[.slice (some ⟨g, 0, none⟩) l.length cap] w fun e w' => e = .returned (.tuple #[]) ∧ Buf w' g l.reverse ∧ Below g w w' := by
  have H := Lib.hid h; clear h
  go_enter Try.func73, Try.ntmps73
  go_wp2_with fail
  go_loopw [2, 3] (fun i j wr => ∃ k : Nat, 2 * k ≤ l.length ∧ i = .int .i64 k ∧ j = .int .i64 ((l.length : Int) - 1 - k) ∧ Buf wr g (rv k l) ∧ Below g w wr) (fun i _ _ => l.length - (intOf i).toNat)
  case atStart => exact ⟨0, by omega, rfl, by go_num, by rw [rv_zero]; exact H.out, Below.refl _ _⟩
  case round =>
    obtain ⟨k, hk, rfl, rfl, hB, hbl⟩ := hrel
    have HBL := Lib.hid hbl; clear hbl
    by_cases hlt : 2 * k + 1 < l.length
    · obtain ⟨jn, hjn⟩ : ∃ jn : Nat, jn = l.length - 1 - k := ⟨_, rfl⟩
      have hji : (l.length : Int) - 1 - (k : Int) = (jn : Int) := by omega
      rw [hji]
      have hkj : (k : Int) < (jn : Int) := by omega
      have hkj' : k < jn := by omega
      have hkne : k ≠ jn := by omega
      have hik : (k : Int) < (l.length : Int) := by omega
      have hij : (jn : Int) < (l.length : Int) := by omega
      have hc1 : wr.cell? ⟨g, k, none⟩ = some (.int .u8 ((rv k l)[k]'(by rw [length_rv]; omega)).toNat) := hB.cell (by rw [length_rv]; omega)
      have hc2 : wr.cell? ⟨g, jn, none⟩ = some (.int .u8 ((rv k l)[jn]'(by rw [length_rv]; omega)).toNat) := hB.cell (by rw [length_rv]; omega)
      have hf1 : wr.frozen? ⟨g, k, none⟩ = false := hB.frozen (by rw [length_rv]; omega)
      have hf2 : wr.frozen? ⟨g, jn, none⟩ = false := hB.frozen (by rw [length_rv]; omega)
      have hst := rv_step k l hlt
      simp only [← hjn] at hst
      obtain ⟨c1, hcc1⟩ : ∃ c1, c1 = ((rv k l)[k]'(by rw [length_rv]; omega)) := ⟨_, rfl⟩
      obtain ⟨c2, hcc2⟩ : ∃ c2, c2 = ((rv k l)[jn]'(by rw [length_rv]; omega)) := ⟨_, rfl⟩
      rw [← hcc1] at hc1 hst
      rw [← hcc2] at hc2 hst
      have HST := Lib.hid hst; clear hst hcc1 hcc2
      have HJN := Lib.hid hjn; clear hjn
      have HJI := Lib.hid hji; clear hji
      have HB' := Lib.hid hB; clear hB
      go_wp2_with fail
      go_region
      go_wp2_with fail
      go_roundw
      case rel => exact ⟨k + 1, by omega, by go_num, by have := HJI.out; go_num, by rw [← HST.out]; exact ((HB'.out.set_ c2).set_ c1).drew, ((HBL.out.setCell (Nat.le_refl _) _).setCell (Nat.le_refl _) _).drew⟩
      case measure => simp [intOf]; omega
    · have hkj : (l.length : Int) - 1 - (k : Int) ≤ (k : Int) := by omega
      go_wp2_with fail
      go_end0
      exact ⟨rfl, by rw [← rv_end k l (by omega) hk]; exact hB, HBL.out⟩

set_option maxHeartbeats 1000000 in
theorem reverseWord_some (s : ByteArray) (w : World) (h : wv (tl s) = true) :
    Calls Try.prog 37 #[.string s] w fun e w' => e = .returned (.string (mk (tl s).reverse)) ∧ Below w.heap.size w w' := by
  have hl := wv_length h
  rw [length_tl] at hl
  have H1 := Lib.hid h; clear h
  have hcv := Lib.run_convert_string_bytes (P := Try.prog) w 9 24 5 s Try.underlying9 Try.underlying24 Try.underlying5
  have hbuf := Buf.made w s
  have hbel := below_made w s
  have hsz := Lib.bytesWorld_size w 5 s
  obtain ⟨w0, hw0⟩ : ∃ w0, w0 = Lib.bytesWorld w 5 s := ⟨_, rfl⟩
  obtain ⟨cap, hcap⟩ : ∃ cap, cap = grownCap w s.size 0 5 := ⟨_, rfl⟩
  rw [← hw0] at hcv hbuf hbel hsz
  rw [← hcap] at hcv
  clear hw0 hcap hsz
  have HBUF := Lib.hid hbuf; clear hbuf
  have HBEL := Lib.hid hbel; clear hbel
  go_enter Try.func37, Try.ntmps37
  go_wp2_with fail
  refine (wordValid_is _ true _ H1.out).mono ?_
  rintro e w' ⟨rfl, rfl⟩
  go_wp2_with fail
  refine (reverse_any w0 w.heap.size cap (tl s) HBUF.out (by rw [length_tl]; omega)).mono ?_
  rintro e w1 ⟨rfl, hb1, hbl1⟩
  have hcv2 := hb1.conv cap
  rw [List.length_reverse, length_tl] at hcv2
  clear hcv
  have HBL := Lib.hid (HBEL.out.trans hbl1); clear hbl1
  go_wp2_with fail
  go_ret
  exact ⟨rfl, HBL.out⟩
theorem reverseWord_none (s : ByteArray) (w : World) (h : wv (tl s) = false) :
    Calls Try.prog 37 #[.string s] w fun e w' => e = .returned (.string (mk [])) ∧ Below w.heap.size w w' := by
  have H1 := Lib.hid h; clear h
  go_enter Try.func37, Try.ntmps37
  go_wp2_with fail
  refine (wordValid_is _ false _ H1.out).mono ?_
  rintro e w' ⟨rfl, rfl⟩
  go_wp2_with fail
  go_ret
  exact ⟨rfl, Below.refl _ _⟩

/-- a number added to all letters -/
def shiftL (n : Nat) (l : List UInt8) : List UInt8 := l.map fun c => letter ((dg c + n) % 10)
theorem shift_take (n : Nat) (l : List UInt8) (k : Nat) (h : k < l.length) :
    ((shiftL n l).take k ++ l.drop k).set k (letter ((dg l[k] + n) % 10)) = (shiftL n l).take (k + 1) ++ l.drop (k + 1) := by
  have hl : k < (shiftL n l).length := by simp [shiftL]; omega
  have ht : ((shiftL n l).take k).length = k := by simp; omega
  rw [List.set_append_right _ _ (by omega), ht, Nat.sub_self, List.drop_eq_getElem_cons h, List.set_cons_zero, List.take_succ_eq_append_getElem hl, List.append_assoc]
  congr 2
  simp [shiftL]
set_option maxHeartbeats 2000000 in
set_option maxRecDepth 100000 in
theorem shiftWord_some (s : ByteArray) (n : Nat) (w : World) (h : wv (tl s) = true) (hn : n < 10) :
    Calls Try.prog 38 #[.string s, .int .i64 n] w fun e w' => e = .returned (.string (mk (shiftL n (tl s)))) ∧ Below w.heap.size w w' := by
  have hl := wv_length h
  rw [length_tl] at hl
  have H1 := Lib.hid h; clear h
  have hn0 : ¬ ((n : Int) < 0) := by omega
  have hcv := Lib.run_convert_string_bytes (P := Try.prog) w 9 24 5 s Try.underlying9 Try.underlying24 Try.underlying5
  have hbuf := Buf.made w s
  have hbel := below_made w s
  obtain ⟨w0, hw0⟩ : ∃ w0, w0 = Lib.bytesWorld w 5 s := ⟨_, rfl⟩
  obtain ⟨cap, hcap⟩ : ∃ cap, cap = grownCap w s.size 0 5 := ⟨_, rfl⟩
  rw [← hw0] at hcv hbuf hbel
  rw [← hcap] at hcv
  clear hw0 hcap
  go_enter Try.func38, Try.ntmps38
  go_wp2_with fail
  refine (wordValid_is _ true _ H1.out).mono ?_
  rintro e w' ⟨rfl, rfl⟩
  go_wp2_with fail
  go_loopw [22] (fun i wr => ∃ k : Nat, k ≤ s.size ∧ i = .int .i64 k ∧ Buf wr w.heap.size ((shiftL n (tl s)).take k ++ (tl s).drop k) ∧ Below w.heap.size w wr) (fun i _ => s.size - (intOf i).toNat)
  case atStart => exact ⟨0, Nat.zero_le _, rfl, by simpa using hbuf, hbel⟩
  case round =>
    obtain ⟨k, hk, rfl, hB, hbl⟩ := hrel
    clear hbuf hbel hcv
    have hlen : ((shiftL n (tl s)).take k ++ (tl s).drop k).length = s.size := by
      simp [shiftL, length_tl]; omega
    have HL := Lib.hid hlen; clear hlen
    have HBL := Lib.hid hbl; clear hbl
    by_cases hlt : k < s.size
    · have lv : isL s[k] = true := wv_mem H1.out (by rw [getElem_tl]; exact List.getElem_mem _)
      have hc : wr.cell? ⟨w.heap.size, k, none⟩ = some (.int .u8 s[k].toNat) := by
        rw [hB.cell (by rw [HL.out]; exact hlt)]
        have ht : ((shiftL n (tl s)).take k).length = k := by simp [shiftL, length_tl]; omega
        rw [List.getElem_append_right (by omega)]
        simp [ht, getElem_tl]
      have hf : wr.frozen? ⟨w.heap.size, k, none⟩ = false := hB.frozen (by rw [HL.out]; exact hlt)
      have HB' := Lib.hid hB; clear hB
      have LV := Lib.hid lv; clear lv
      go_wp2_with fail
      refine (shifted_any _ n _ LV.out (by omega)).mono ?_
      rintro e w2 ⟨rfl, hw2⟩
      subst hw2
      go_wp2_with fail
      go_roundw
      case rel =>
        have e' : ((shiftL n (tl s)).take k ++ (tl s).drop k).set k (letter ((dg s[k] + n) % 10)) = (shiftL n (tl s)).take (k + 1) ++ (tl s).drop (k + 1) := shift_take n (tl s) k (by rw [length_tl]; exact hlt)
        exact ⟨k + 1, by omega, by go_num, by rw [← e']; exact HB'.out.set_ _, HBL.out.setCell (Nat.le_refl _) _⟩
      case measure => simp [intOf]; omega
    · have e : k = s.size := by omega
      subst e
      have hcv2 := hB.conv cap
      rw [HL.out] at hcv2
      have er : (shiftL n (tl s)).take s.size ++ (tl s).drop s.size = shiftL n (tl s) := by
        rw [List.take_of_length_le (by simp [shiftL, length_tl]), List.drop_of_length_le (by rw [length_tl]; omega), List.append_nil]
      rw [er] at hcv2
      clear hB er
      go_wp2_with fail
      go_ret
      exact ⟨rfl, HBL.out⟩

end Go.Proofs.Ytcgihkapcfpjcaa
