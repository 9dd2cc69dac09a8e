/-
  Contracts of functions and plain laws that the law's proof uses (parts: Mem, Frame, Words, Comb, Own, Pick, Draw, Ints, Texts). Conditions: what each theorem names.
-/
import Derived.WalkKit
import Derived.WalkSpells
import Derived.WalkLawsBesides
import Derived.Lib.Hide
import Derived.IntWalk
import Derived.Deep.Draws
import Derived.Laws.BytesString
import Derived.Laws.Cells
import Derived.Lib.ConvBytes
import Derived.Test.YtnbdimbhklbadaaGreatDoorRows
import Derived.Test.YtnbdimbhklbadaaGreatDoorQPlA
import Derived.ProofKit
import Derived.OpenShut
import Derived.ShutString
import Derived.ChangeOld
import Derived.Below
import Derived.SliceStrings
import Derived.Deep.Slices
import Derived.Deep.Fields
import Derived.ChangeSame
import Derived.StillTailTactics
import Derived.Laws.AppendOwn
import Derived.Laws.OwnMore
import Derived.Deep.QuietTactic
import Derived.BigQuiet
import Derived.OwnWalk
import Derived.BigRegion
import Derived.Deep.RegionHeld3
namespace Go.Proofs.YtnbdimbhklbadaaGreatDoor
open Go.RowKit Pl
set_option linter.unusedVariables false
def Rd (w : World) (B : Nat) (A : Option Addr) (xs : List Value) : Prop :=
  xs ≠ [] → ∃ b off, A = some ⟨b, off, none⟩ ∧ b < B ∧ ∀ (j : Nat) (h : j < xs.length), w.cell? ⟨b, off + j, none⟩ = some xs[j]
section
variable {w w' : World} {B B' : Nat} {A : Option Addr} {xs : List Value}
theorem Rd.nil : Rd w B A [] := fun h => absurd rfl h
theorem Rd.keep (h : Rd w B A xs) (hk : ∀ k, k < B → w'.heap[k]? = w.heap[k]?) : Rd w' B A xs := fun hn => by
  obtain ⟨b, off, e, hb, hc⟩ := h hn
  exact ⟨b, off, e, hb, fun j hj => (World.cell?_of_block (a := ⟨b, off + j, none⟩) (hk b hb)).trans (hc j hj)⟩
theorem Rd.below (h : Rd w B A xs) (hb : Below B w w') : Rd w' B A xs := h.keep hb.block
theorem Rd.mono (h : Rd w B A xs) (hB : B ≤ B') : Rd w B' A xs := fun hn => by
  obtain ⟨b, off, e, hb, hc⟩ := h hn
  exact ⟨b, off, e, by omega, hc⟩
theorem Rd.only (h : Rd w B A xs) {R : Nat} (hg : w.grownBy w' (some R)) (hB : B ≤ w.heap.size) (hR : B ≤ R) : Rd w' B A xs :=
  h.keep fun k hk => hg.block k (by omega) (by intro e; injection e; omega)
end
def bytesV (l : List UInt8) : List Value := l.map fun c => .int .u8 c.toNat
theorem length_bytesV (l : List UInt8) : (bytesV l).length = l.length := by simp [bytesV]
def Rdr (w : World) (R N : Nat) : Prop :=
  ∃ (A : Option Addr) (cap : Nat) (p : Nat) (bs : List UInt8), w.heap[R]? = some (.cells #[.slice A bs.length cap, .int .i64 p] 83 (0, 0)) ∧ p ≤ N ∧ bs.length ≤ 2000 ∧ bs.length ≤ cap ∧ Rd w R A (bytesV bs)
theorem only_refl (w : World) (r : Option Nat) : w.grownBy w r := ⟨rfl, rfl, rfl, Nat.le_refl _, fun _ _ _ => rfl⟩
theorem only_trans {a b c : World} {r : Option Nat} (h : a.grownBy b r) (k : b.grownBy c r) : a.grownBy c r :=
  ⟨k.os.trans h.os, k.tape.trans h.tape, k.output.trans h.output, Nat.le_trans h.size k.size, fun i hi hn => (k.block i (Nat.lt_of_lt_of_le hi h.size) hn).trans (h.block i hi hn)⟩
theorem only_of_below {a b : World} (h : Below a.heap.size a b) (r : Option Nat) : a.grownBy b r := ⟨h.os, h.tape, h.output, h.size, fun i hi _ => h.block i hi⟩
theorem below_of_only {B R : Nat} {a b : World} (h : a.grownBy b (some R)) (hB : B ≤ a.heap.size) (hR : B ≤ R) : Below B a b :=
  ⟨h.os, h.tape, h.output, h.size, fun i hi => h.block i (by omega) (by intro e; injection e; omega)⟩
theorem only_drewN {a b : World} {r : Option Nat} (h : a.grownBy b r) (n : Nat) : a.grownBy (b.drewN n) r := ⟨h.os, h.tape, h.output, h.size, h.block⟩
theorem only_of_drew {a b : World} {r : Option Nat} (h : a.drew.grownBy b r) : a.grownBy b r := ⟨h.os, h.tape, h.output, h.size, h.block⟩
theorem below_of_drew {B : Nat} {a b : World} (h : Below B a.drew b) : Below B a b := ⟨h.os, h.tape, h.output, h.size, h.block⟩
theorem only_setCell {a b : World} {R : Nat} (h : a.grownBy b (some R)) (i : Nat) (u : Value) : a.grownBy (b.setCell ⟨R, i, none⟩ u) (some R) :=
  ⟨h.os, h.tape, h.output, by simpa [World.setCell] using h.size, fun k hk hn => (Below.heap_setCell b ⟨R, i, none⟩ u k (by intro e; exact hn (by rw [e]))).trans (h.block k hk hn)⟩
theorem below_drewN' {B : Nat} {a w : World} (h : Below B a w) (n : Nat) : Below B a (w.drewN n) := ⟨h.os, h.tape, h.output, h.size, h.block⟩
theorem Rdr.lt {w : World} {R N : Nat} (h : Rdr w R N) : R < w.heap.size := by
  obtain ⟨A, cap, p, bs, hb, _⟩ := h
  exact (Array.getElem?_eq_some_iff.1 hb).1
theorem Rdr.mono {w : World} {R N N' : Nat} (h : Rdr w R N) (hN : N ≤ N') : Rdr w R N' := by
  obtain ⟨A, cap, p, bs, hb, hp, h1, h2, h3⟩ := h
  exact ⟨A, cap, p, bs, hb, by omega, h1, h2, h3⟩
theorem Rdr.below {w w' : World} {R N : Nat} (h : Rdr w R N) (hb : Below w.heap.size w w') : Rdr w' R N := by
  have hl := h.lt
  obtain ⟨A, cap, p, bs, hb', hp, h1, h2, h3⟩ := h
  exact ⟨A, cap, p, bs, (hb.block R hl).trans hb', hp, h1, h2, h3.keep fun k hk => hb.block k (by omega)⟩
theorem Rdr.alloc {w : World} {R N : Nat} (h : Rdr w R N) (o : Obj) : Rdr (w.alloc o) R N := h.below ((Below.refl _ _).alloc (Nat.le_refl _) o)
theorem Rdr.drewN {w : World} {R N : Nat} (h : Rdr w R N) (n : Nat) : Rdr (w.drewN n) R N := h
theorem add_none (b off j : Nat) : (⟨b, off, none⟩ : Addr).add j = ⟨b, off + j, none⟩ := by
  unfold Addr.add; split <;> simp_all
theorem push_fold (l : List UInt8) (r : ByteArray) : (l.map fun c : UInt8 => (c.toNat : Int)).foldl (fun r n => r.push (UInt8.ofNat n.toNat)) r = ⟨(tl r ++ l).toArray⟩ := by
  induction l generalizing r with
  | nil => simp [tl]
  | cons c l ih =>
    rw [List.map_cons, List.foldl_cons, ih]
    congr 1
    simp [tl, ByteArray.push]
theorem conv_string {P : Program} (w : World) (src dst e : TypeId) (b off c : Nat) (l : List UInt8)
    (hs : P.underlying src = some (.slice e)) (he : P.underlying e = some (.int .u8)) (hd : P.underlying dst = some .string)
    (hc : ∀ (j : Nat) (h : j < l.length), w.cell? ⟨b, off + j, none⟩ = some (.int .u8 l[j].toNat)) :
    (convert src dst (.slice (some ⟨b, off, none⟩) l.length c)).run P w = .ok (.string (mk l)) w := by
  rw [run_convert_bytes_string w src dst e _ _ _ hs he hd]
  rw [run_bytesToString w _ _ _ (l.map fun c : UInt8 => (c.toNat : Int)) ?_]
  · rw [push_fold]; rfl
  · have h := run_loadCells_list (P := P) (w := w) ⟨b, off, none⟩ (bytesV l) (fun j v hv => by
      rw [add_none]
      have hj : j < l.length := by
        have := (List.getElem?_eq_some_iff.1 hv).1
        rwa [length_bytesV] at this
      rw [hc j hj]
      rw [← hv]
      simp [bytesV, hj])
    rw [length_bytesV] at h
    rw [h]
    simp [bytesV]
theorem conv_one {P : Program} (src dst e : TypeId) (hs : P.underlying src = some (.slice e)) (he : P.underlying e = some (.int .u8)) (hd : P.underlying dst = some .string)
    (v : Int) (h0 : 0 ≤ v) (h1 : v < 256) (w : World) :
    (convert src dst (.slice (some ⟨w.heap.size, 0, none⟩) 1 1)).run P (w.alloc (.cells #[.int .u8 v] e)) = .ok (.string (mk [UInt8.ofNat v.toNat])) (w.alloc (.cells #[.int .u8 v] e)) := by
  refine conv_string (w.alloc _) src dst e w.heap.size 0 1 [UInt8.ofNat v.toNat] hs he hd fun j hj => ?_
  have : j = 0 := by simpa using hj
  subst this
  rw [cell_of_row _ _ _ _ _ _ (heap_alloc_new w _)]
  have : v.toNat % 256 = v.toNat := Nat.mod_eq_of_lt (by omega)
  simp [UInt8.toNat_ofNat', this, Int.toNat_of_nonneg h0]
end Go.Proofs.YtnbdimbhklbadaaGreatDoor
namespace Go.Proofs.YtnbdimbhklbadaaGreatDoor
open Go.RowKit Pl
open Go.ChangeShapes Go.WideShapes Go.ChangeAt Go.Deep
set_option linter.unusedVariables false
theorem own : ownKnob Tryz.prog.godebug = none := by kernel_rfl
theorem laidOut : laidOutB Tryz.prog = true := by kernel_rfl
def strV (l : List ByteArray) : List Value := l.map Value.string
theorem length_strV (l : List ByteArray) : (strV l).length = l.length := by simp [strV]
def entV (l : List (ByteArray × ByteArray)) : List Value := l.flatMap fun e => [.string e.1, .string e.2]
section
variable {H : Type} {enc : TypeId × Value → H} {P : Program} {W : World}
theorem spot_none {a : Addr} {v : Value} (h : W.cell? a = some v) : a = ⟨a.block, a.off, none⟩ := by
  have := World.cell?_spot h
  cases a; simp_all
theorem open_bytes {t e : TypeId} {a : Option Addr} {len cap : Nat} {d : DataW H} {p : List MemPlace} (ht : P.underlying t = some (.slice e)) (he : P.underlying e = some (.int .u8)) (hC : P.cellsOf e = 1)
    (h : DataW.Trod enc P W 0 (fun _ => true) true t (.slice a len cap) d p) : ∃ bs : List UInt8, bs.length = len ∧ len ≤ cap ∧ cap ≤ maxLen ∧ Rd W W.heap.size a (bytesV bs) := by
  obtain ⟨fuel, hf⟩ := h
  rcases open_ints ht he hC hf with ⟨hcs, _⟩ | ⟨x, l, c, zs, hcs, _, hl, hm, hz, _, hcell, hwz⟩
  · simp [Value.cells] at hcs
    obtain ⟨rfl, rfl, rfl⟩ := hcs
    exact ⟨[], rfl, Nat.le_refl _, Nat.zero_le _, Rd.nil⟩
  · simp [Value.cells] at hcs
    obtain ⟨rfl, rfl, rfl⟩ := hcs
    simp at hz
    refine ⟨(zs.take len).map fun z => UInt8.ofNat z.toNat, by simp; omega, hl, hm, fun hn => ?_⟩
    have hpos : 0 < len := by
      rcases Nat.eq_zero_or_pos len with h0 | h0
      · subst h0; exact absurd (by simp [bytesV]) hn
      · exact h0
    have h0 := hcell 0 (by omega)
    have hx : x = ⟨x.block, x.off, none⟩ := spot_none (by simpa [Addr.add] using h0)
    refine ⟨x.block, x.off, by rw [← hx], ?_, fun j hj => ?_⟩
    · exact World.block_lt_of_cell? W x (by simpa [Addr.add] using h0)
    · have hj' : j < len := by rw [length_bytesV] at hj; simp at hj; omega
      have hc := hcell j (by omega)
      rw [hx, add_none] at hc
      rw [hc]
      have hb := bounds_u8 (hwz (zs[j]'(by omega)) (List.getElem_mem _))
      have hmod : (zs[j]'(by omega)).toNat % 256 = (zs[j]'(by omega)).toNat := Nat.mod_eq_of_lt (by omega)
      simp [bytesV, UInt8.toNat_ofNat', List.getD, List.getElem?_eq_getElem (show j < zs.length by omega), hmod]
      omega
end
end Go.Proofs.YtnbdimbhklbadaaGreatDoor
namespace Go.Proofs.YtnbdimbhklbadaaGreatDoor
open Go.RowKit Pl
set_option linter.unusedVariables false
theorem ret_bool {a b : Bool} (h : a = b) : Ending.returned (.bool a) = .returned (.bool b) := by rw [h]
theorem isLetter_any (c : UInt8) (w : World) :
    Calls Tryz.prog 81 #[.int .u8 c.toNat] w fun e w' => e = .returned (.bool (isL c)) ∧ w = w' := by
  have hc := c.toNat_lt
  by_cases h1 : 97 ≤ c.toNat <;> by_cases h2 : c.toNat < 107
  all_goals first
    | omega
    | (go_enter Tryz.func81, Tryz.ntmps81
       go_wp2
       go_ret
       exact ⟨by simp [isL, h1, h2]; try omega, rfl⟩)
theorem isLetter_is (c : UInt8) (b : Bool) (w : World) (h : isL c = b) :
    Calls Tryz.prog 81 #[.int .u8 c.toNat] w fun e w' => e = .returned (.bool b) ∧ w = w' := h ▸ isLetter_any c w
theorem l1Digit_any (s : ByteArray) (i : Nat) (w : World) (h : i < s.size) (hs : s.size ≤ 9223372036854775807) :
    Calls Tryz.prog 25 #[.string s, .int .i64 i] w fun e w' => e = .returned (.int .i64 ((s[i].toNat : Int) - 97)) ∧ w = w' := by
  have hc := s[i].toNat_lt
  go_enter Tryz.func25, Tryz.ntmps25
  go_wp2
  go_ret
  exact ⟨by simp, rfl⟩
theorem l1In_any (n lo hi : Int) (w : World) :
    Calls Tryz.prog 90 #[.int .i64 n, .int .i64 lo, .int .i64 hi] w fun e w' => e = .returned (.bool (decide (lo ≤ n) && decide (n ≤ hi))) ∧ w = w' := by
  by_cases h1 : lo ≤ n <;> by_cases h2 : n ≤ hi
  all_goals
    go_enter Tryz.func90, Tryz.ntmps90
    go_wp2
    go_ret
    exact ⟨by simp [h1, h2], rfl⟩
theorem l1In_is (n lo hi : Int) (b : Bool) (w : World) (h : (decide (lo ≤ n) && decide (n ≤ hi)) = b) :
    Calls Tryz.prog 90 #[.int .i64 n, .int .i64 lo, .int .i64 hi] w fun e w' => e = .returned (.bool b) ∧ w = w' := h ▸ l1In_any n lo hi w
theorem wordValid_any (s : ByteArray) (w : World) :
    Calls Tryz.prog 47 #[.string s] w fun e w' => e = .returned (.bool (wv (tl s))) ∧ w = w' := by
  by_cases hl : 200 < s.size
  · have hw : wv (tl s) = false := wv_long (by rw [length_tl]; exact hl)
    rw [hw]
    go_enter Tryz.func47, Tryz.ntmps47
    go_wp2
    go_ret
    exact ⟨rfl, rfl⟩
  · go_enter Tryz.func47, Tryz.ntmps47
    go_wp2
    go_loop [9] (fun i => ∃ k : Nat, k ≤ s.size ∧ i = .int .i64 k ∧ ((tl s).take k).all isL = true) (fun i => s.size - (intOf i).toNat)
    case atStart => exact ⟨0, Nat.zero_le _, rfl, rfl⟩
    case round =>
      obtain ⟨k, hk, rfl, hall⟩ := hrel
      have H := Lib.hid hall; clear hall
      by_cases hlt : k < s.size
      · by_cases hc : isL s[k] = true
        · have HC := Lib.hid hc; clear hc
          go_wp2_with (go_at_call 81; refine (isLetter_is _ true _ HC.out).mono ?_; rintro e w' ⟨rfl, rfl⟩)
          go_round
          case rel => exact ⟨k + 1, by omega, by go_num, by rw [take_succ_tl s k hlt, List.all_append, H.out]; simp [HC.out]⟩
          case measure => simp [intOf]; omega
        · have HC := Lib.hid (show isL s[k] = false by simpa using hc); clear hc
          go_wp2_with (go_at_call 81; refine (isLetter_is _ false _ HC.out).mono ?_; rintro e w' ⟨rfl, rfl⟩)
          go_ret
          exact ⟨ret_bool (wv_bad (c := s[k]) (by rw [getElem_tl]; exact List.getElem_mem _) HC.out).symm, rfl⟩
      · go_wp2
        go_ret
        refine ⟨ret_bool ?_, rfl⟩
        have := H.out
        rw [List.take_of_length_le (by rw [length_tl]; omega)] at this
        rw [wv_all (by rw [length_tl]; omega), this]
theorem wordValid_is (s : ByteArray) (b : Bool) (w : World) (h : wv (tl s) = b) :
    Calls Tryz.prog 47 #[.string s] w fun e w' => e = .returned (.bool b) ∧ w = w' := h ▸ wordValid_any s w
theorem sWordValid_any (s : ByteArray) (w : World) :
    Calls Tryz.prog 88 #[.string s] w fun e w' => e = .returned (.bool (wv (tl s))) ∧ w = w' := by
  by_cases hl : 200 < s.size
  · have hw : wv (tl s) = false := wv_long (by rw [length_tl]; exact hl)
    rw [hw]
    go_enter Tryz.func88, Tryz.ntmps88
    go_wp2
    go_ret
    exact ⟨rfl, rfl⟩
  · go_enter Tryz.func88, Tryz.ntmps88
    go_wp2
    go_loop [3] (fun i => ∃ k : Nat, k ≤ s.size ∧ i = .int .i64 k ∧ ((tl s).take k).all isL = true) (fun i => s.size - (intOf i).toNat)
    case atStart => exact ⟨0, Nat.zero_le _, rfl, rfl⟩
    case round =>
      obtain ⟨k, hk, rfl, hall⟩ := hrel
      have H := Lib.hid hall; clear hall
      by_cases hlt : k < s.size
      · by_cases hc : isL s[k] = true
        · have hb := isL_bounds hc
          have HC := Lib.hid hc; clear hc
          go_wp2_with (first | (go_at_call 25; refine (l1Digit_any _ _ _ hlt (by omega)).mono ?_; rintro e w' ⟨rfl, rfl⟩) | (go_at_call 90; refine (l1In_is _ _ _ true _ (by simp; omega)).mono ?_; rintro e w' ⟨rfl, rfl⟩))
          go_round
          case rel => exact ⟨k + 1, by omega, by go_num, by rw [take_succ_tl s k hlt, List.all_append, H.out]; simp [HC.out]⟩
          case measure => simp [intOf]; omega
        · have hn : ¬ (97 ≤ s[k].toNat ∧ s[k].toNat < 107) := by simpa [isL] using hc
          have HC := Lib.hid (show isL s[k] = false by simpa using hc); clear hc
          go_wp2_with (first | (go_at_call 25; refine (l1Digit_any _ _ _ hlt (by omega)).mono ?_; rintro e w' ⟨rfl, rfl⟩) | (go_at_call 90; refine (l1In_is _ _ _ false _ (by simp; omega)).mono ?_; rintro e w' ⟨rfl, rfl⟩))
          go_ret
          exact ⟨ret_bool (wv_bad (c := s[k]) (by rw [getElem_tl]; exact List.getElem_mem _) HC.out).symm, rfl⟩
      · go_wp2
        go_ret
        refine ⟨ret_bool ?_, rfl⟩
        have := H.out
        rw [List.take_of_length_le (by rw [length_tl]; omega)] at this
        rw [wv_all (by rw [length_tl]; omega), this]
theorem sWordValid_is (s : ByteArray) (b : Bool) (w : World) (h : wv (tl s) = b) :
    Calls Tryz.prog 88 #[.string s] w fun e w' => e = .returned (.bool b) ∧ w = w' := h ▸ sWordValid_any s w
end Go.Proofs.YtnbdimbhklbadaaGreatDoor
namespace Go.Proofs.YtnbdimbhklbadaaGreatDoor
open Go.RowKit Pl
set_option linter.unusedVariables false
def Buf (w : World) (g : Nat) (l : List UInt8) : Prop :=
  ∃ (cs : Array Value) (m : Nat), w.heap[g]? = some (.cells cs 5 (m, m + 1)) ∧ cs.size = m ∧ l.length ≤ m ∧ ∀ (j : Nat) (h : j < l.length), cs[j]? = some (.int .u8 l[j].toNat)
section
variable {w w' : World} {g : Nat} {l : List UInt8}
theorem Buf.lt (h : Buf w g l) : g < w.heap.size := by
  obtain ⟨cs, m, hb, _⟩ := h
  exact (Array.getElem?_eq_some_iff.1 hb).1
theorem Buf.cell (h : Buf w g l) {j : Nat} (hj : j < l.length) : w.cell? ⟨g, j, none⟩ = some (.int .u8 l[j].toNat) := by
  obtain ⟨cs, m, hb, _, _, hc⟩ := h
  rw [cell_of_row w g j cs _ _ hb]; exact hc j hj
theorem Buf.frozen (h : Buf w g l) {j : Nat} (hj : j < l.length) : w.frozen? ⟨g, j, none⟩ = false := by
  obtain ⟨cs, m, hb, _, hm, hc⟩ := h
  simp [World.frozen?, hb]; omega
theorem Buf.set_ (h : Buf w g l) {j : Nat} (c : UInt8) : Buf (w.setCell ⟨g, j, none⟩ (.int .u8 c.toNat)) g (l.set j c) := by
  obtain ⟨cs, m, hb, hs, hm, hc⟩ := h
  refine ⟨cs.setIfInBounds j (.int .u8 c.toNat), m, ?_, by simpa using hs, by simpa using hm, fun i hi => ?_⟩
  · simp [World.setCell, Array.getElem?_modify, hb]
  · have hi' : i < l.length := by simpa using hi
    rw [Array.getElem?_setIfInBounds]
    by_cases e : j = i
    · subst e
      have : j < cs.size := by omega
      simp [this]
    · simp [e, hc i hi']
theorem Buf.drewN (h : Buf w g l) (n : Nat) : Buf (w.drewN n) g l := h
theorem Buf.drew (h : Buf w g l) : Buf w.drew g l := h
theorem Buf.made (w : World) (s : ByteArray) : Buf (Lib.bytesWorld w 5 s) w.heap.size (tl s) := by
  refine ⟨_, _, Lib.bytesWorld_at_new w _ s, rfl, ?_, fun j hj => ?_⟩
  · simp [Lib.bytesCells, length_tl]
  · rw [length_tl] at hj
    simp [Lib.bytesCells, Array.getElem?_append, hj, tl]
theorem below_made (w : World) (s : ByteArray) : Below w.heap.size w (Lib.bytesWorld w 5 s) :=
  ⟨rfl, rfl, rfl, by rw [Lib.bytesWorld_size]; omega, fun k hk => Lib.bytesWorld_at_old w _ s k hk⟩
theorem Buf.conv (h : Buf w g l) (c : Nat) : (convert 22 9 (.slice (some ⟨g, 0, none⟩) l.length c)).run Tryz.prog w = .ok (.string (mk l)) w :=
  conv_string w 22 9 5 g 0 c l Tryz.underlying22 Tryz.underlying5 Tryz.underlying9 fun j hj => by rw [Nat.zero_add]; exact h.cell hj
end
theorem number_any (c : UInt8) (w : World) (h : isL c = true) :
    Calls Tryz.prog 21 #[.int .u8 c.toNat] w fun e w' => e = .returned (.int .i64 (dg c)) ∧ w' = w := by
  have hb := isL_bounds h
  have e : ((dg c : Nat) : Int) = (c.toNat : Int) - 97 := by unfold dg; omega
  rw [e]
  clear e h
  go_enter Tryz.func21, Tryz.ntmps21
  go_wp2
  go_ret
  exact ⟨rfl, rfl⟩
theorem letter_any (n : Nat) (w : World) (h : n < 10) :
    Calls Tryz.prog 40 #[.int .i64 n] w fun e w' => e = .returned (.int .u8 (letter n).toNat) ∧ w' = w := by
  have e : (((letter n).toNat : Nat) : Int) = 97 + (n : Int) := by rw [toNat_letter h]; omega
  rw [e]
  clear e
  go_enter Tryz.func40, Tryz.ntmps40
  go_wp2
  go_ret
  exact ⟨rfl, rfl⟩
theorem shifted_any (c : UInt8) (n : Nat) (w : World) (h : isL c = true) (hn : n ≤ 1000000) :
    Calls Tryz.prog 139 #[.int .u8 c.toNat, .int .i64 n] w fun e w' => e = .returned (.int .u8 (letter ((dg c + n) % 10)).toNat) ∧ w' = w := by
  have hd := dg_lt h
  have H := Lib.hid h; clear h
  go_enter Tryz.func139, Tryz.ntmps139
  go_wp2_with fail
  refine (number_any _ _ H.out).mono ?_
  rintro e w' ⟨rfl, rfl⟩
  go_wp2_with fail
  rw [show (((dg c : Nat) : Int) + (n : Int)) % 10 = (((dg c + n) % 10 : Nat) : Int) by omega]
  refine (letter_any ((dg c + n) % 10) _ (by omega)).mono ?_
  rintro e w' ⟨rfl, rfl⟩
  go_wp2_with fail
  go_ret
  exact ⟨rfl, rfl⟩
end Go.Proofs.YtnbdimbhklbadaaGreatDoor
namespace Go.Proofs.YtnbdimbhklbadaaGreatDoor
open Go.RowKit Pl
set_option linter.unusedVariables false
theorem one_new (w : World) (u : Value) (t : TypeId) : ∀ j x, [u][j]? = some x → (w.alloc (.cells #[u] t)).cell? ((⟨w.heap.size, 0, none⟩ : Addr).add j) = some x := by
  intro j x hj
  match j, hj with
  | 0, hj => simp at hj; subst hj; simp [Addr.add]
  | j + 1, hj => simp at hj
theorem one_cell {s : ByteArray} : ∀ u ∈ [Value.string s], u.oneCell' = true := by intro u hu; simp at hu; subst hu; rfl
theorem ownsRow_below {w w' : World} {base : Nat} {e : TypeId} {size : Nat} {v : Value} {n : Nat} {xs : List Value} (h : w.ownsRow base e size v n xs) (hb : Below w.heap.size w w') : w'.ownsRow base e size v n xs :=
  h.kept (only_of_below hb none) (by cases hv : v.ownBlock <;> simp)
theorem ownsRow_rd {w : World} {base : Nat} {e : TypeId} {size : Nat} {v : Value} {n : Nat} {xs : List Value} (h : w.ownsRow base e size v n xs) :
    ∃ A cap, v = .slice A n cap ∧ n ≤ cap ∧ cap ≤ maxLen ∧ Rd w w.heap.size A xs := by
  have h0 := h
  obtain ⟨h1, ⟨rfl, rfl⟩ | ⟨g, cap, cur, rfl, h2, h3, h4, h5, h6⟩⟩ := h
  · refine ⟨none, 0, rfl, Nat.le_refl _, Nat.zero_le _, ?_⟩
    intro hn; exact absurd (List.length_eq_zero_iff.1 (by simpa using h1)) hn
  · refine ⟨some ⟨g, 0, none⟩, cap, rfl, h4, h5, fun _ => ⟨g, 0, rfl, (Array.getElem?_eq_some_iff.1 h3).1, fun j hj => ?_⟩⟩
    have := h0.cells (g := g) rfl j xs[j] (by simp [hj])
    rw [add_none] at this; exact this
theorem slot_slice {v : Value} {w : World} {base : Nat} {e : TypeId} {size n : Nat} {xs : List Value} (h : w.ownsRow base e size v n xs) : ∃ A cap, v = .slice A n cap := by
  obtain ⟨h1, ⟨rfl, rfl⟩ | ⟨g, cap, cur, rfl, h2, h3⟩⟩ := h
  · exact ⟨_, _, rfl⟩
  · exact ⟨_, _, rfl⟩
theorem Rd.str {w : World} {B : Nat} {A : Option Addr} {l : List ByteArray} (h : Rd w B A (strV l)) {k : Nat} (hk : k < l.length) :
    ∃ b off, A = some ⟨b, off, none⟩ ∧ b < B ∧ w.cell? ⟨b, off + k, none⟩ = some (.string l[k]) := by
  have hn : strV l ≠ [] := by intro e; have := congrArg List.length e; rw [length_strV, List.length_nil] at this; omega
  obtain ⟨b, off, e, hb, hcell⟩ := h hn
  exact ⟨b, off, e, hb, by rw [hcell k (by rw [length_strV]; exact hk)]; simp [strV]⟩
end Go.Proofs.YtnbdimbhklbadaaGreatDoor
namespace Go.Proofs.YtnbdimbhklbadaaGreatDoor
open Go.RowKit Pl
set_option linter.unusedVariables false
def Picked (w : World) (R N : Nat) (n : Int) (e : Ending) (w' : World) : Prop :=
  ∃ x : Int, e = .returned (.int .i64 x) ∧ 0 ≤ x ∧ (1 ≤ n → x < n) ∧ (n < 1 → x = 0) ∧ Rdr w' R (N + 1) ∧ w.grownBy w' (some R)
theorem rdr_store {w : World} {R N : Nat} {A : Option Addr} {cap p : Nat} {bs : List UInt8} (hb : w.heap[R]? = some (.cells #[.slice A bs.length cap, .int .i64 p] 83 (0, 0)))
    (hp : p ≤ N) (hl : bs.length ≤ 2000) (hc : bs.length ≤ cap) (hr : Rd w R A (bytesV bs)) : Rdr (w.setCell ⟨R, 1, none⟩ (.int .i64 ((p : Int) + 1))) R (N + 1) := by
  refine ⟨A, cap, p + 1, bs, ?_, by omega, hl, hc, hr.keep fun k hk => Below.heap_setCell _ _ _ _ (by show k ≠ R; omega)⟩
  simp [World.setCell, Array.getElem?_modify, hb]
theorem xor_nonneg (a b : Int) (ha : 0 ≤ a) (hb : 0 ≤ b) (ha' : a ≤ 1000000000000) (hb' : b ≤ 1000000000000) : 0 ≤ bits .xor .i64 a b ∧ bits .xor .i64 a b < 9223372036854775808 := by
  obtain ⟨x, rfl⟩ := Int.eq_ofNat_of_zero_le ha
  obtain ⟨y, rfl⟩ := Int.eq_ofNat_of_zero_le hb
  have ex : (BitVec.ofInt 64 (x : Int)).toNat = x := by rw [BitVec.ofInt_natCast, BitVec.toNat_ofNat]; exact Nat.mod_eq_of_lt (by omega)
  have ey : (BitVec.ofInt 64 (y : Int)).toNat = y := by rw [BitVec.ofInt_natCast, BitVec.toNat_ofNat]; exact Nat.mod_eq_of_lt (by omega)
  have hx : x ^^^ y < 2 ^ 63 := Nat.xor_lt_two_pow (by omega) (by omega)
  have e : bits .xor .i64 (x : Int) (y : Int) = ((x ^^^ y : Nat) : Int) := by
    show IntKind.i64.wrap ((BitVec.ofInt 64 (x : Int) ^^^ BitVec.ofInt 64 (y : Int)).toNat : Int) = _
    rw [BitVec.toNat_xor, ex, ey, IntKind.wrap_i64]
    omega
  rw [e]
  omega
set_option maxHeartbeats 2000000 in
theorem pick_any (w : World) (R N : Nat) (n : Int) (h : Rdr w R N) (hN : N ≤ 1000000000) (hn : n ≤ 1000000000) :
    Calls Tryz.prog 16 #[.pointer (some ⟨R, 0, none⟩), .int .i64 n] w (Picked w R N n) := by
  obtain ⟨A, cap, p, bs, hb, hp, hl, hc, hr⟩ := h
  have c0 : w.cell? ⟨R, 0, none⟩ = some (.slice A bs.length cap) := cell_of_row w R 0 _ _ (0, 0) hb
  have c1 : w.cell? ⟨R, 1, none⟩ = some (.int .i64 p) := cell_of_row w R 1 _ _ (0, 0) hb
  have f1 : w.frozen? ⟨R, 1, none⟩ = false := by simp [World.frozen?, hb]
  have HS := Lib.hid (rdr_store hb hp hl hc hr)
  have HO := Lib.hid (only_setCell (only_refl w (some R)) 1 (.int .i64 ((p : Int) + 1)))
  clear hb
  by_cases h1 : n < 1
  · go_enter Tryz.func16, Tryz.ntmps16
    go_wp2
    go_ret
    exact ⟨0, rfl, by omega, by omega, by omega, HS.out, HO.out⟩
  · by_cases h2 : bs = []
    · subst h2
      have h3 : (([] : List UInt8).length : Int) = 0 := rfl
      go_enter Tryz.func16, Tryz.ntmps16
      go_wp2
      go_ret
      exact ⟨0, rfl, by omega, by omega, by omega, HS.out, HO.out⟩
    · have hpos : 0 < bs.length := List.length_pos_iff.2 h2
      have hz : ((bs.length : Int) == 0) = false := by simp; omega
      obtain ⟨b, off, rfl, hbR, hcell⟩ := hr (by intro e; apply h2; simpa [bytesV] using e)
      have hne : b ≠ R := by omega
      have hcells : ∀ j, j < bs.length → ∃ c : UInt8, (w.setCell ⟨R, 1, none⟩ (.int .i64 ((p : Int) + 1))).cell? ⟨b, off + j, none⟩ = some (.int .u8 c.toNat) := fun j hj => by
        refine ⟨bs[j], ?_⟩
        rw [World.cell?_setCell_other _ _ _ _ (by intro e; injection e with e; omega), hcell j (by rw [length_bytesV]; exact hj)]
        simp [bytesV]
      have HCL := Lib.hid hcells; clear hcells hcell hr
      by_cases h4 : p < bs.length
      · obtain ⟨c, hcp⟩ := HCL.out p h4
        have hcb := c.toNat_lt
        go_enter Tryz.func16, Tryz.ntmps16
        go_wp2
        go_ret
        have e0 := Int.emod_nonneg (c.toNat : Int) (show n ≠ 0 by omega)
        have e1 := Int.emod_lt_of_pos (c.toNat : Int) (show 0 < n by omega)
        exact ⟨_, rfl, by omega, by intro _; omega, by omega, HS.out, HO.out⟩
      · have i1 := Nat.mod_lt p hpos
        have i2 := Nat.mod_lt (p * 7 + 3) hpos
        have i3 := Nat.div_le_self p bs.length
        obtain ⟨c, hcp⟩ := HCL.out _ i1
        obtain ⟨c', hcp'⟩ := HCL.out _ i2
        have hcb := c.toNat_lt
        have hcb' := c'.toNat_lt
        have j1 : (0 : Int) ≤ (p : Int) % (bs.length : Int) := by omega
        have j2 : (p : Int) % (bs.length : Int) < (bs.length : Int) := by omega
        have j3 : (0 : Int) ≤ ((p : Int) * 7 + 3) % (bs.length : Int) := Int.emod_nonneg _ (by omega)
        have j4 : ((p : Int) * 7 + 3) % (bs.length : Int) < (bs.length : Int) := Int.emod_lt_of_pos _ (by omega)
        have j5 : (0 : Int) ≤ (p : Int) / (bs.length : Int) := Int.ediv_nonneg (by omega) (by omega)
        have j6 : (p : Int) / (bs.length : Int) ≤ (p : Int) := by omega
        go_enter Tryz.func16, Tryz.ntmps16
        go_wp2
        go_quiet (fail)
        go_wp2
        go_ret
        have hx := xor_nonneg ((c.toNat : Int) * 131 + (c'.toNat : Int) * 1117 + (p : Int) * 29 + (p : Int) / (bs.length : Int) * 53)
          (((c.toNat : Int) * 131 + (c'.toNat : Int) * 1117 + (p : Int) * 29 + (p : Int) / (bs.length : Int) * 53) / 64) (by omega) (by omega) (by omega) (by omega)
        refine ⟨_, rfl, ?_, ?_, by omega, HS.out.drewN _, only_drewN HO.out _⟩
        · rw [Int.tmod_eq_emod_of_nonneg hx.1]; exact Int.emod_nonneg _ (by omega)
        · intro _; rw [Int.tmod_eq_emod_of_nonneg hx.1]; exact Int.emod_lt_of_pos _ (by omega)
theorem pick_pos (w : World) (R N : Nat) (n : Int) (h : Rdr w R N) (hN : N ≤ 1000000000) (h1 : 1 ≤ n) (hn : n ≤ 1000000000) :
    Calls Tryz.prog 16 #[.pointer (some ⟨R, 0, none⟩), .int .i64 n] w fun e w' => ∃ x : Nat, e = .returned (.int .i64 x) ∧ (x : Int) < n ∧ Rdr w' R (N + 1) ∧ w.grownBy w' (some R) :=
  (pick_any w R N n h hN hn).mono fun e w' ⟨x, he, h0, hx, _, hr, ho⟩ => ⟨x.toNat, by rw [he, Int.toNat_of_nonneg h0], by rw [Int.toNat_of_nonneg h0]; exact hx h1, hr, ho⟩
end Go.Proofs.YtnbdimbhklbadaaGreatDoor
namespace Go.Proofs.YtnbdimbhklbadaaGreatDoor
open Go.RowKit Pl
set_option linter.unusedVariables false
theorem l1Letter_any (n : Int) (w : World) (hn : -1000000000000 ≤ n ∧ n ≤ 1000000000000) :
    Calls Tryz.prog 73 #[.int .i64 n] w fun e w' => e = .returned (.string (mk [letter (n % 10).toNat])) ∧ Below w.heap.size w w' := by
  have hm := Int.tmod_lt_of_pos n (show (0 : Int) < 10 by omega)
  have hm' : -10 < n.tmod 10 := by
    rcases Int.le_total 0 n with h | h
    · have := Int.tmod_nonneg 10 h; omega
    · have := Int.neg_tmod n 10 ▸ Int.tmod_lt_of_pos (-n) (show (0 : Int) < 10 by omega); omega
  have hv : (97 + n.tmod 10 % 10).toNat = 97 + (n % 10).toNat := by
    have h1 : n.tmod 10 % 10 = n % 10 := by
      have := Int.tmod_eq_emod (a := n) (b := 10); split at this <;> omega
    omega
  have HV := Lib.hid hv; clear hv
  have k0 : 0 ≤ (n.tmod 10 + 10) % 10 := Int.emod_nonneg _ (by omega)
  have k1 : (n.tmod 10 + 10) % 10 < 10 := Int.emod_lt_of_pos _ (by omega)
  have hcv := conv_one (P := Tryz.prog) 22 9 5 Tryz.underlying22 Tryz.underlying5 Tryz.underlying9 (97 + n.tmod 10 % 10) (by omega) (by omega)
  go_enter Tryz.func73, Tryz.ntmps73
  go_wp2
  go_ret
  refine ⟨?_, (Below.refl _ _).alloc (Nat.le_refl _) _⟩
  rw [HV.out]; rfl
set_option maxHeartbeats 1000000 in
theorem l1Some_any (w : World) (R N n : Nat) (h : Rdr w R N) (hN : N + n ≤ 1000000000) (hn : n ≤ 1000000) :
    Calls Tryz.prog 71 #[.pointer (some ⟨R, 0, none⟩), .int .i64 n] w fun e w' => ∃ l : List UInt8, e = .returned (.string (mk l)) ∧ l.length = n ∧ l.all isL = true ∧ Rdr w' R (N + n) ∧ w.grownBy w' (some R) := by
  go_enter Tryz.func71, Tryz.ntmps71
  go_wp2
  go_loopw [5, 6] (fun s i wr => ∃ (k : Nat) (l : List UInt8), k ≤ n ∧ i = .int .i64 k ∧ s = .string (mk l) ∧ l.length = k ∧ l.all isL = true ∧ Rdr wr R (N + k) ∧ w.grownBy wr (some R)) (fun _ i _ => n - (intOf i).toNat)
  case atStart => exact ⟨0, [], Nat.zero_le _, rfl, rfl, rfl, rfl, h, only_refl _ _⟩
  case round =>
    obtain ⟨k, l, hk, rfl, rfl, hlk, hall, hr, ho⟩ := hrel
    have HL := Lib.hid hlk; clear hlk
    have HA := Lib.hid hall; clear hall
    have HO := Lib.hid ho; clear ho
    by_cases hlt : k < n
    · go_wp2_with fail
      refine (pick_pos _ R (N + k) _ hr (by omega) (by omega) (by omega)).mono ?_
      rintro e w1 ⟨x, rfl, hx, hr1, ho1⟩
      go_wp2_with fail
      refine (l1Letter_any _ _ (by omega)).mono ?_
      rintro e w2 ⟨rfl, hb2⟩
      have hz : (mk l).size ≤ 1000000 := by rw [size_mk, HL.out]; omega
      have hz1 : (mk [letter ((x : Int) % 10).toNat]).size ≤ 1 := by rw [size_mk]; simp
      go_wp2
      go_roundw
      case rel => exact ⟨k + 1, _, by omega, by go_num, by rw [mk_append], by simp [HL.out], by simp [HA.out]; exact isL_letter (by omega), (hr1.below hb2), only_trans HO.out (only_trans ho1 (only_of_below hb2 _))⟩
      case measure => simp [intOf]; omega
    · go_wp2
      go_ret
      have : k = n := by omega
      subst this
      exact ⟨l, rfl, HL.out, HA.out, hr, HO.out⟩
theorem many_step (o m n n0 : Nat) (h : o + m * n = n0) : (n % 2 = 1 → o + m + 2 * m * (n / 2) = n0) ∧ (n % 2 = 0 → o + 2 * m * (n / 2) = n0) := by
  have e : m * n = 2 * m * (n / 2) + m * (n % 2) := by
    conv => lhs; rw [← Nat.div_add_mod n 2]
    rw [Nat.mul_add, ← Nat.mul_assoc, Nat.mul_comm m 2]
  constructor
  · intro hr; rw [hr] at e; omega
  · intro hr; rw [hr] at e; omega
set_option maxHeartbeats 1000000 in
theorem l21Many_one (w : World) (c : UInt8) (n0 : Nat) (hn0 : n0 ≤ 1000000) :
    Calls Tryz.prog 72 #[.string (mk [c]), .int .i64 n0] w fun e w' => e = .returned (.string (mk (List.replicate n0 c))) ∧ w = w' := by
  go_enter Tryz.func72, Tryz.ntmps72
  go_wp2
  go_loop [0, 1, 5] (fun s i out => ∃ n m o : Nat, i = .int .i64 n ∧ s = .string (mk (List.replicate m c)) ∧ out = .string (mk (List.replicate o c)) ∧ o + m * n = n0 ∧ m ≤ 2 * n0 + 1 ∧ n ≤ n0 ∧ 1 ≤ m) (fun _ i _ => (intOf i).toNat)
  case atStart => exact ⟨n0, 1, 0, rfl, rfl, rfl, by omega, by omega, by omega, by omega⟩
  case round =>
    obtain ⟨n, m, o, rfl, rfl, rfl, ho, hm, hnn, hm1⟩ := hrel
    have hst := many_step o m n n0 ho
    have HO := Lib.hid ho
    have ho' : o ≤ n0 := by omega
    have hmn : 0 < n → m ≤ n0 := fun hn => by have := Nat.le_mul_of_pos_right m hn; omega
    have HS := Lib.hid hst; clear hst ho
    have hz : (mk (List.replicate m c)).size ≤ 1000000000 := by rw [size_mk, List.length_replicate]; omega
    have hz1 : (mk (List.replicate o c)).size ≤ 1000000000 := by rw [size_mk, List.length_replicate]; omega
    by_cases hlt : 0 < n
    · have hmn' := hmn hlt
      clear hmn
      by_cases hr : n % 2 = 1
      · have hb : ((n : Int) % 2 == 1) = true := by simp; omega
        have HR := Lib.hid hr; clear hr
        go_wp2
        go_round
        case rel => exact ⟨n / 2, 2 * m, o + m, by go_num, by rw [mk_append, ← List.replicate_append_replicate.symm]; congr 3; omega, by rw [mk_append, ← List.replicate_append_replicate.symm], HS.out.1 HR.out, by omega, by omega, by omega⟩
        case measure => simp [intOf]; omega
      · have hb : ((n : Int) % 2 == 1) = false := by simp; omega
        have HR := Lib.hid hr; clear hr
        go_wp2
        go_round
        case rel => exact ⟨n / 2, 2 * m, o, by go_num, by rw [mk_append, ← List.replicate_append_replicate.symm]; congr 3; omega, rfl, HS.out.2 (by have := HR.out; omega), by omega, by omega, by omega⟩
        case measure => simp [intOf]; omega
    · have hn0' : n = 0 := by omega
      subst hn0'
      clear hmn
      go_wp2
      go_ret
      have : o = n0 := by have := HO.out; omega
      subst this
      exact ⟨rfl, rfl⟩
theorem rdr_ne {w : World} {R N b : Nat} {cs : Array Value} {T : TypeId} {f : Nat × Nat} (h : Rdr w R N) (hb : w.heap[b]? = some (.cells cs T f)) (hT : T ≠ 83) : b ≠ R := by
  obtain ⟨A, cap, p, bs, hR, _⟩ := h
  rintro rfl
  rw [hR] at hb
  injection hb with hb
  injection hb with _ hb
  exact hT hb.symm
set_option maxHeartbeats 1000000 in
theorem of_any (w : World) (R N b cap : Nat) (ss : List ByteArray) (h : Rdr w R N) (hN : N ≤ 1000000000) (h1 : 1 ≤ ss.length) (h2 : ss.length ≤ 1000)
    (hb : w.heap[b]? = some (.cells (ss.map Value.string).toArray 9 (0, 0))) :
    Calls Tryz.prog 77 #[.pointer (some ⟨R, 0, none⟩), .slice (some ⟨b, 0, none⟩) ss.length cap] w fun e w' => ∃ s ∈ ss, e = .returned (.string s) ∧ Rdr w' R (N + 1) ∧ w.grownBy w' (some R) := by
  have hne := rdr_ne h hb (by decide)
  have HB := Lib.hid hb; clear hb
  go_enter Tryz.func77, Tryz.ntmps77
  go_wp2_with fail
  refine (pick_pos _ R N _ h (by omega) (by omega) (by omega)).mono ?_
  rintro e w1 ⟨x, rfl, hx, hr1, ho1⟩
  have hx' : x < ss.length := by omega
  have hc : w1.cell? ⟨b, x, none⟩ = some (.string ss[x]) := by
    rw [cell_of_row w1 b x _ _ _ ((ho1.block b (Array.getElem?_eq_some_iff.1 HB.out).1 (by intro e; injection e; omega)).trans HB.out)]
    simp [hx']
  have HO := Lib.hid ho1; clear ho1
  go_wp2
  go_ret
  exact ⟨ss[x], List.getElem_mem _, rfl, hr1, HO.out⟩
set_option maxHeartbeats 1000000 in
theorem num_any (w : World) (R N b cap : Nat) (ns : List Int) (h : Rdr w R N) (hN : N ≤ 1000000000) (h1 : 1 ≤ ns.length) (h2 : ns.length ≤ 1000)
    (hb : w.heap[b]? = some (.cells (ns.map (Value.int .i64)).toArray 3 (0, 0))) :
    Calls Tryz.prog 76 #[.pointer (some ⟨R, 0, none⟩), .slice (some ⟨b, 0, none⟩) ns.length cap] w fun e w' => ∃ s ∈ ns, e = .returned (.int .i64 s) ∧ Rdr w' R (N + 1) ∧ w.grownBy w' (some R) := by
  have hne := rdr_ne h hb (by decide)
  have HB := Lib.hid hb; clear hb
  go_enter Tryz.func76, Tryz.ntmps76
  go_wp2_with fail
  refine (pick_pos _ R N _ h (by omega) (by omega) (by omega)).mono ?_
  rintro e w1 ⟨x, rfl, hx, hr1, ho1⟩
  have hx' : x < ns.length := by omega
  have hc : w1.cell? ⟨b, x, none⟩ = some (.int .i64 ns[x]) := by
    rw [cell_of_row w1 b x _ _ _ ((ho1.block b (Array.getElem?_eq_some_iff.1 HB.out).1 (by intro e; injection e; omega)).trans HB.out)]
    simp [hx']
  have HO := Lib.hid ho1; clear ho1
  go_wp2
  go_ret
  exact ⟨ns[x], List.getElem_mem _, rfl, hr1, HO.out⟩
theorem l21Open_any (w : World) (A : Option Addr) (cap : Nat) (bs : List UInt8) (h : Rd w w.heap.size A (bytesV bs)) (hc : bs.length ≤ cap) :
    Calls Tryz.prog 14 #[.slice A bs.length cap] w fun e w' => e = .returned (.pointer (some ⟨w.heap.size, 0, none⟩)) ∧ Rdr w' w.heap.size 0 ∧ Below w.heap.size w w' ∧ w'.heap.size = w.heap.size + 1 := by
  by_cases hl : 2000 < bs.length
  · have h2 : Rd w w.heap.size A (bytesV (bs.take 2000)) := fun hn => by
      obtain ⟨b, off, e, hb, hcell⟩ := h (by intro e; apply hn; simp [bytesV] at e ⊢; simp [e])
      refine ⟨b, off, e, hb, fun j hj => ?_⟩
      have hj' : j < 2000 ∧ j < bs.length := by simp [bytesV] at hj; omega
      rw [hcell j (by rw [length_bytesV]; omega)]
      simp [bytesV]
    obtain ⟨b, off, rfl, _, _⟩ := h (by intro e; have : bs.length = 0 := by simpa [bytesV] using congrArg List.length e
                                        omega)
    have ht : (bs.take 2000).length = 2000 := by simp; omega
    have HT := Lib.hid ht; clear ht
    have HH := Lib.hid h2; clear h2 h
    have hcc : (2000 : Int) ≤ (cap : Int) := by omega
    go_enter Tryz.func14, Tryz.ntmps14
    go_wp2_with fail
    go_ret
    refine ⟨rfl, ⟨_, cap, 0, bs.take 2000, ?_, by omega, by rw [HT.out]; omega, by rw [HT.out]; omega, HH.out.keep fun k hk => Below.heap_alloc _ _ _ hk⟩, (Below.refl _ _).alloc (Nat.le_refl _) _, by simp⟩
    rw [HT.out]
    exact heap_alloc_new _ _
  · have HH := Lib.hid h; clear h
    go_enter Tryz.func14, Tryz.ntmps14
    go_wp2_with fail
    go_ret
    refine ⟨rfl, ⟨A, cap, 0, bs, heap_alloc_new _ _, by omega, by omega, hc, HH.out.keep fun k hk => Below.heap_alloc _ _ _ hk⟩, (Below.refl _ _).alloc (Nat.le_refl _) _, by simp⟩
end Go.Proofs.YtnbdimbhklbadaaGreatDoor
namespace Go.Proofs.YtnbdimbhklbadaaGreatDoor
open Go.RowKit Pl
set_option linter.unusedVariables false
def natV (l : List Nat) : List Value := l.map fun n : Nat => .int .i64 (n : Int)
theorem length_natV (l : List Nat) : (natV l).length = l.length := by simp [natV]
theorem natV_snoc (l : List Nat) (n : Nat) : natV l ++ [Value.int .i64 n] = natV (l ++ [n]) := by simp [natV]
theorem Rd.nat {w : World} {B : Nat} {A : Option Addr} {l : List Nat} (h : Rd w B A (natV l)) {k : Nat} (hk : k < l.length) :
    ∃ b off, A = some ⟨b, off, none⟩ ∧ b < B ∧ w.cell? ⟨b, off + k, none⟩ = some (.int .i64 l[k]) := by
  have hn : natV l ≠ [] := by intro e; have := congrArg List.length e; rw [length_natV, List.length_nil] at this; omega
  obtain ⟨b, off, e, hb, hcell⟩ := h hn
  exact ⟨b, off, e, hb, by rw [hcell k (by rw [length_natV]; exact hk)]; simp [natV]⟩
theorem nat_cell {n : Nat} : ∀ u ∈ [Value.int .i64 n], u.oneCell' = true := by intro u hu; simp at hu; subst hu; rfl
def Ints (w : World) (g : Nat) (l : List Nat) : Prop := w.heap[g]? = some (.cells (natV l).toArray 3 (0, 0))
section
variable {w w' : World} {g : Nat} {l : List Nat}
theorem Ints.lt (h : Ints w g l) : g < w.heap.size := (Array.getElem?_eq_some_iff.1 h).1
theorem Ints.cell (h : Ints w g l) {j : Nat} (hj : j < l.length) : w.cell? ⟨g, j, none⟩ = some (.int .i64 l[j]) := by
  rw [cell_of_row w g j _ _ _ h]; simp [natV, hj]
theorem Ints.frozen (h : Ints w g l) (j : Nat) : w.frozen? ⟨g, j, none⟩ = false := by
  have h2 : w.heap[g]? = some (.cells (natV l).toArray 3 (0, 0)) := h
  simp [World.frozen?, h2]
theorem Ints.set_ (h : Ints w g l) (j n : Nat) : Ints (w.setCell ⟨g, j, none⟩ (.int .i64 n)) g (l.set j n) := by
  have h2 : w.heap[g]? = some (.cells (natV l).toArray 3 (0, 0)) := h
  unfold Ints
  simp [World.setCell, Array.getElem?_modify, h2, natV, List.map_set]
theorem Ints.kept {row : Option Nat} (h : Ints w g l) (hg : w.grownBy w' row) (hne : some g ≠ row) : Ints w' g l := (hg.block g h.lt hne).trans h
theorem Ints.below (h : Ints w g l) (hb : Below w.heap.size w w') : Ints w' g l := (hb.block g h.lt).trans h
theorem Ints.drewN (h : Ints w g l) (n : Nat) : Ints (w.drewN n) g l := h
theorem Ints.rd (h : Ints w g l) : Rd w w.heap.size (some ⟨g, 0, none⟩) (natV l) := fun _ =>
  ⟨g, 0, rfl, h.lt, fun j hj => by rw [Nat.zero_add, cell_of_row w g j _ _ _ h]; simp [hj]⟩
theorem Ints.own (h : Ints w g l) {base : Nat} (hb : base ≤ g) (hm : l.length ≤ maxLen) : w.ownsRow base 3 1 (.slice (some ⟨g, 0, none⟩) l.length l.length) l.length (natV l) :=
  ⟨by rw [length_natV]; omega, .inr ⟨g, l.length, (natV l).toArray, rfl, hb, h, Nat.le_refl _, hm, by simp [natV], by rw [List.take_of_length_le (by rw [Nat.mul_one, length_natV]; exact Nat.le_refl _)]⟩⟩
end
theorem Ints.made (w : World) (l : List Nat) : Ints (w.alloc (.cells (natV l).toArray 3)) w.heap.size l := heap_alloc_new w _
theorem Tryz.infoI : (Tryz.prog.info? 3).map (fun i => (i.zero, i.size, i.bytes)) = some (some (.int .i64 0), 1, 8) := by kernel_rfl
theorem Tryz.undI : Tryz.prog.underlying 132 = some (.slice 3) := by kernel_rfl
theorem set_block2 {w : World} {p : Nat} {cs : Array Value} {T : TypeId} {fr : Nat × Nat} (h : w.heap[p]? = some (.cells cs T fr)) (i : Nat) (u : Value) : (w.setCell ⟨p, i, none⟩ u).heap[p]? = some (.cells (cs.setIfInBounds i u) T fr) := by
  rw [setCell_eq_setRow w p i cs T fr u h]
  exact setRow_heap w p cs _ T fr h
theorem own_mono3 {w : World} {base base' : Nat} {e : TypeId} {size : Nat} {v : Value} {n : Nat} {xs : List Value} (h : w.ownsRow base e size v n xs) (hb : base' ≤ base) : w.ownsRow base' e size v n xs := by
  obtain ⟨h1, h2 | ⟨g, cap, cur, hv, hg, h3⟩⟩ := h
  · exact ⟨h1, .inl h2⟩
  · exact ⟨h1, .inr ⟨g, cap, cur, hv, Nat.le_trans hb hg, h3⟩⟩
theorem Tryz.infoB : (Tryz.prog.info? 5).map (fun i => (i.zero, i.size, i.bytes)) = some (some (.int .u8 0), 1, 1) := by kernel_rfl
theorem made_bytes (n : Nat) : (madeCells (Value.int .u8 0).cells (n * 1)).toList = bytesV (List.replicate n 0) := by
  rw [Nat.mul_one]
  simp only [madeCells, Value.cells, bytesV, List.map_replicate]
  apply List.ext_getElem <;> simp [Nat.mod_one]
theorem made_ints (n : Nat) : (madeCells (Value.int .i64 0).cells (n * 1)).toList = natV (List.replicate n 0) := by
  rw [Nat.mul_one]
  simp only [madeCells, Value.cells, natV, List.map_replicate]
  apply List.ext_getElem <;> simp [Nat.mod_one]
theorem bytesV_set (l : List UInt8) (j : Nat) (c : UInt8) : (bytesV l).set j (.int .u8 c.toNat) = bytesV (l.set j c) := by simp [bytesV, List.map_set]
theorem natV_set (l : List Nat) (j n : Nat) : (natV l).set j (.int .i64 (n : Int)) = natV (l.set j n) := by simp [natV, List.map_set]
theorem own_conv {w : World} {base g n cap : Nat} {l : List UInt8} (h : w.ownsRow base 5 1 (.slice (some ⟨g, 0, none⟩) n cap) n (bytesV l)) (hl : l.length = n) (c : Nat) : (convert 22 9 (.slice (some ⟨g, 0, none⟩) n c)).run Tryz.prog w = .ok (.string (mk l)) w := by
  subst hl
  exact conv_string w 22 9 5 g 0 c l Tryz.underlying22 Tryz.underlying5 Tryz.underlying9 fun j hj => by rw [Nat.zero_add, h.cellAt j (by omega)]; simp [bytesV, hj]
end Go.Proofs.YtnbdimbhklbadaaGreatDoor
namespace Go.Proofs.YtnbdimbhklbadaaGreatDoor
open Go.RowKit Pl
set_option linter.unusedVariables false
theorem Tryz.infoS : (Tryz.prog.info? 9).map (fun i => (i.zero, i.size, i.bytes)) = some (some (.string ByteArray.empty), 1, 16) := by kernel_rfl
theorem Tryz.undS : Tryz.prog.underlying 33 = some (.slice 9) := by kernel_rfl
end Go.Proofs.YtnbdimbhklbadaaGreatDoor
