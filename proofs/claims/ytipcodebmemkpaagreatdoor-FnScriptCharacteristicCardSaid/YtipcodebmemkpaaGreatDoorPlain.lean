/-
  Plain functions on lists of bytes and what is true of them; nothing of the program. No conditions.
-/
import Derived.Laws.Strings
import Derived.Laws.Strings2
import Derived.Laws.Concat
namespace Go.Proofs.YtipcodebmemkpaaGreatDoor
namespace Pl

/-- a word and its code -/
abbrev Ent := ByteArray × ByteArray
/-- the bytes of a string -/
def tl (s : ByteArray) : List UInt8 := s.data.toList
/-- the string of bytes -/
def mk (l : List UInt8) : ByteArray := ⟨l.toArray⟩

theorem tl_mk (l : List UInt8) : tl (mk l) = l := rfl
theorem mk_tl (s : ByteArray) : mk (tl s) = s := rfl
theorem size_mk (l : List UInt8) : (mk l).size = l.length := rfl
theorem length_tl (s : ByteArray) : (tl s).length = s.size := rfl
theorem toList_tl (s : ByteArray) : s.toList = tl s := ByteArray.toList_eq s
theorem tl_inj {s t : ByteArray} (h : tl s = tl t) : s = t := by rw [← mk_tl s, ← mk_tl t, h]
theorem getElem_tl (s : ByteArray) (i : Nat) (h : i < s.size) : s[i] = (tl s)[i]'(by rw [length_tl]; exact h) := rfl
theorem take_succ_tl (s : ByteArray) (k : Nat) (h : k < s.size) : (tl s).take (k + 1) = (tl s).take k ++ [s[k]] := by
  rw [List.take_succ_eq_append_getElem (by rw [length_tl]; exact h)]; rfl

theorem mk_append (a b : List UInt8) : mk a ++ mk b = mk (a ++ b) := ByteArray.mk_append_mk a b
theorem append_tl (a b : ByteArray) : a ++ b = mk (tl a ++ tl b) := by rw [← mk_append, mk_tl, mk_tl]

/-- a letter of the alphabet -/
def isL (c : UInt8) : Bool := decide (97 ≤ c.toNat) && decide (c.toNat < 107)
/-- a word -/
def wv (l : List UInt8) : Bool := decide (l.length ≤ 200) && l.all isL

theorem wv_long {l : List UInt8} (h : 200 < l.length) : wv l = false := by
  unfold wv; have : ¬ l.length ≤ 200 := by omega
  simp [this]
theorem wv_all {l : List UInt8} (h : l.length ≤ 200) : wv l = l.all isL := by simp [wv, h]
theorem wv_bad {l : List UInt8} {c : UInt8} (h : c ∈ l) (hc : isL c = false) : wv l = false := by
  unfold wv
  have : l.all isL = false := by
    rw [List.all_eq_false]; exact ⟨c, h, by simp [hc]⟩
  simp [this]
theorem wv_length {l : List UInt8} (h : wv l = true) : l.length ≤ 200 := by simp [wv] at h; exact h.1
theorem wv_mem {l : List UInt8} (h : wv l = true) {c : UInt8} (hc : c ∈ l) : isL c = true := by simp [wv] at h; exact h.2 c hc
theorem isL_bounds {c : UInt8} (h : isL c = true) : 97 ≤ c.toNat ∧ c.toNat < 107 := by simpa [isL] using h

/-- the letter with a number -/
def letter (n : Nat) : UInt8 := UInt8.ofNat (97 + n)
theorem toNat_letter {n : Nat} (h : n < 10) : (letter n).toNat = 97 + n := by simp [letter, UInt8.toNat_ofNat']; omega
theorem isL_letter {n : Nat} (h : n < 10) : isL (letter n) = true := by simp [isL, toNat_letter h]; omega

/-- the number of a letter -/
def dg (c : UInt8) : Nat := c.toNat - 97
theorem dg_lt {c : UInt8} (h : isL c = true) : dg c < 10 := by have := isL_bounds h; unfold dg; omega
theorem dg_letter {n : Nat} (h : n < 10) : dg (letter n) = n := by unfold dg; rw [toNat_letter h]; omega
theorem letter_dg {c : UInt8} (h : isL c = true) : letter (dg c) = c := by
  have := isL_bounds h
  apply UInt8.toNat_inj.1
  rw [toNat_letter (dg_lt h)]; unfold dg; omega

/-- a multiple of the letters of w added to those of v -/
def combine (t : Nat) (v w : List UInt8) : List UInt8 := List.zipWith (fun a b => letter ((dg a + t * dg b) % 10)) v w
def combineW (t : Nat) (v w : List UInt8) : Option (List UInt8) := if wv v = true ∧ wv w = true ∧ v.length = w.length then some (combine t v w) else none

/-- a gapped word -/
def isP (c : UInt8) : Bool := (c.toNat == 45) || isL c
def pv (l : List UInt8) : Bool := decide (l.length ≤ 200) && l.all isP
theorem pv_long {l : List UInt8} (h : 200 < l.length) : pv l = false := by
  unfold pv; have : ¬ l.length ≤ 200 := by omega
  simp [this]
theorem pv_all {l : List UInt8} (h : l.length ≤ 200) : pv l = l.all isP := by simp [pv, h]
theorem pv_bad {l : List UInt8} {c : UInt8} (h : c ∈ l) (hc : isP c = false) : pv l = false := by
  unfold pv
  have : l.all isP = false := by
    rw [List.all_eq_false]; exact ⟨c, h, by simp [hc]⟩
  simp [this]
theorem pv_length {l : List UInt8} (h : pv l = true) : l.length ≤ 200 := by simp [pv] at h; exact h.1
theorem pv_mem {l : List UInt8} (h : pv l = true) {c : UInt8} (hc : c ∈ l) : isP c = true := by simp [pv] at h; exact h.2 c hc
theorem isP_of_isL {c : UInt8} (h : isL c = true) : isP c = true := by simp [isP, h]
theorem pv_of_wv {l : List UInt8} (h : wv l = true) : pv l = true := by
  have h1 := wv_length h
  rw [pv_all h1, List.all_eq_true]
  exact fun c hc => isP_of_isL (wv_mem h hc)
theorem isL_of_isP {c : UInt8} (h : isP c = true) (hn : c.toNat ≠ 45) : isL c = true := by simpa [isP, hn] using h
theorem isL_ne {c : UInt8} (h : isL c = true) : c.toNat ≠ 45 := by have := isL_bounds h; omega

/-- the letters of a gapped word subtracted from those of a word -/
def minusC (c p : UInt8) : UInt8 := if p.toNat = 45 then 45 else letter ((dg c + (10 - dg p)) % 10)
def minusL (w p : List UInt8) : List UInt8 := List.zipWith minusC w p
def minusW (w p : List UInt8) : Option (List UInt8) := if wv w = true ∧ pv p = true ∧ w.length = p.length then some (minusL w p) else none
theorem length_minusL (w p : List UInt8) (h : p.length ≤ w.length) : (minusL w p).length = p.length := by simp [minusL]; omega

/-- a part of a sheet -/
def sheetPart (l : List UInt8) (st n : Int) : Option (List UInt8) :=
  if wv l = true ∧ 0 ≤ st ∧ 0 ≤ n ∧ st ≤ l.length ∧ n ≤ l.length - st then some ((l.drop st.toNat).take n.toNat) else none

theorem extract_mk' (s : ByteArray) (a b : Nat) : s.extract a b = mk (((tl s).drop a).take (b - a)) := by
  conv => lhs; rw [← mk_tl s]
  exact ByteArray.extract_mk _ _ _

theorem sheetPart_some_iff {l : List UInt8} {st n : Int} {r : List UInt8} (h : sheetPart l st n = some r) :
    wv l = true ∧ 0 ≤ st ∧ 0 ≤ n ∧ st ≤ l.length ∧ n ≤ l.length - st ∧ r = (l.drop st.toNat).take n.toNat := by
  unfold sheetPart at h
  split at h
  · rename_i hc
    injection h with h
    exact ⟨hc.1, hc.2.1, hc.2.2.1, hc.2.2.2.1, hc.2.2.2.2, h.symm⟩
  · cases h
theorem sheetPart_none_iff {l : List UInt8} {st n : Int} (h : sheetPart l st n = none) :
    ¬ (wv l = true ∧ 0 ≤ st ∧ 0 ≤ n ∧ st ≤ l.length ∧ n ≤ l.length - st) := by
  unfold sheetPart at h
  split at h
  · cases h
  · assumption
theorem sheetPart_ok {l : List UInt8} {st n : Int} (h : wv l = true ∧ 0 ≤ st ∧ 0 ≤ n ∧ st ≤ l.length ∧ n ≤ l.length - st) :
    sheetPart l st n = some ((l.drop st.toNat).take n.toNat) := by
  unfold sheetPart; rw [if_pos h]
theorem sheet_three (l : List UInt8) (a b : Nat) (h : a + b ≤ l.length) : l.take a ++ (l.drop a).take b ++ (l.drop (a + b)).take (l.length - a - b) = l := by
  rw [List.take_of_length_le (l := l.drop (a + b)) (by simp; omega), ← List.drop_drop, List.append_assoc, List.take_append_drop, List.take_append_drop]

end Pl
end Go.Proofs.YtipcodebmemkpaaGreatDoor
