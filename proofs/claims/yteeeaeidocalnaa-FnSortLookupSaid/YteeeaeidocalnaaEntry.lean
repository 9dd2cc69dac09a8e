/-
  Contracts of the laws' own helpers on entries: their sizes, copies and comparisons. No conditions but those that each theorem names.
-/
import Derived.Test.YteeeaeidocalnaaIndex
import Derived.Test.YteeeaeidocalnaaOwn
import Derived.Laws.AppendOwn
import Derived.Laws.OwnMore
import Derived.OwnWalk
import Derived.BigQuiet
namespace Go.Proofs.Yteeeaeidocalnaa
open Go.RowKit Pl
set_option linter.unusedVariables false

theorem Rd.ent {w : World} {B : Nat} {A : Option Addr} {es : List (ByteArray × ByteArray)} (h : Rd w B A (entV es)) {k : Nat} (hk : k < es.length) :
    ∃ b off, A = some ⟨b, off, none⟩ ∧ b < B ∧ w.cell? ⟨b, off + k * 2, none⟩ = some (.string es[k].1) ∧ w.cell? ⟨b, off + k * 2 + 1, none⟩ = some (.string es[k].2) := by
  have hn : entV es ≠ [] := by intro e; have := congrArg List.length e; rw [length_entV, List.length_nil] at this; omega
  obtain ⟨b, off, e, hb, hcell⟩ := h hn
  refine ⟨b, off, e, hb, ?_, ?_⟩
  · rw [Nat.mul_comm k 2, hcell (2 * k) (by rw [length_entV]; omega), ← List.getElem?_eq_getElem, (entV_at es k hk).1]
  · rw [Nat.mul_comm k 2, Nat.add_assoc, hcell (2 * k + 1) (by rw [length_entV]; omega), ← List.getElem?_eq_getElem, (entV_at es k hk).2]

theorem szEntry_any (w : World) (s t : ByteArray) (n : Int) (h0 : 0 ≤ n) (h1 : n ≤ 1048576) (hs : s.size ≤ maxLen) (ht : t.size ≤ maxLen) :
    Calls Try.prog 16 #[.agg #[.string s, .string t], .int .i64 n] w fun e w' => ∃ m : Int, e = .returned (.int .i64 m) ∧ (m = -1 ∨ (0 ≤ m ∧ m ≤ n ∧ m = n - s.size - t.size)) ∧ Below w.heap.size w w' := by
  have hs' : s.size ≤ 9223372036854775807 := hs
  have ht' : t.size ≤ 9223372036854775807 := ht
  clear hs ht
  by_cases h2 : n - (s.size : Int) < 0
  · go_enter Try.func16, Try.ntmps16
    go_wp2_with fail
    go_ret
    exact ⟨_, rfl, .inl rfl, (Below.refl _ _).alloc (Nat.le_refl _) _⟩
  · by_cases h3 : n - (s.size : Int) - (t.size : Int) < 0
    · go_enter Try.func16, Try.ntmps16
      go_wp2_with fail
      go_ret
      exact ⟨_, rfl, .inl rfl, (Below.refl _ _).alloc (Nat.le_refl _) _⟩
    · go_enter Try.func16, Try.ntmps16
      go_wp2_with fail
      go_ret
      exact ⟨_, rfl, .inr ⟨by omega, by omega, rfl⟩, (Below.refl _ _).alloc (Nat.le_refl _) _⟩

theorem toEntry_any (w : World) (s t : ByteArray) :
    Calls Try.prog 18 #[.agg #[.string s, .string t]] w fun e w' => e = .returned (.agg #[.string s, .string t]) ∧ Below w.heap.size w w' := by
  go_enter Try.func18, Try.ntmps18
  go_wp2_with fail
  refine bodyPost_ret (v := .agg #[.string s, .string t]) (by simp [results, Try.results18, go_sem, *]) rfl ⟨rfl, (((Below.refl _ _).alloc (Nat.le_refl _) _).alloc (by simp) _).alloc (by simp; omega) _⟩

theorem eqEntry_same (w : World) (s t : ByteArray) :
    Calls Try.prog 20 #[.agg #[.string s, .string t], .agg #[.string s, .string t]] w fun e w' => e = .returned (.bool true) ∧ Below w.heap.size w w' := by
  go_enter Try.func20, Try.ntmps20
  go_wp2_with fail
  go_ret
  exact ⟨rfl, ((Below.refl _ _).alloc (Nat.le_refl _) _).alloc (by simp) _⟩

set_option maxHeartbeats 2000000 in
theorem szEntryS_any (w : World) (A : Option Addr) (cap : Nat) (es : List (ByteArray × ByteArray)) (n : Int) (h : Rd w w.heap.size A (entV es)) (hc : es.length ≤ cap) (hm : cap ≤ maxLen) (hz : ∀ e ∈ es, e.1.size ≤ maxLen ∧ e.2.size ≤ maxLen) (h0 : 0 ≤ n) (h1 : n ≤ 1048576) :
    Calls Try.prog 5 #[.slice A es.length cap, .int .i64 n] w fun e w' => ∃ m : Int, e = .returned (.int .i64 m) ∧ (m = -1 ∨ (0 ≤ m ∧ m ≤ n ∧ es.length ≤ 1048576 ∧ ∀ e ∈ es, e.1.size ≤ 1048576 ∧ e.2.size ≤ 1048576)) ∧ Below w.heap.size w w' := by
  have hlm : es.length ≤ 9223372036854775807 := Nat.le_trans hc hm
  have HR := Lib.hid h; have HZ := Lib.hid hz; clear h hz hm
  by_cases h2 : n - (es.length : Int) < 0
  · go_enter Try.func5, Try.ntmps5
    go_wp2_with fail
    go_ret
    exact ⟨_, rfl, .inl rfl, Below.refl _ _⟩
  · go_enter Try.func5, Try.ntmps5
    go_wp2_with fail
    go_loopw [1, 5] (fun l i wr => ∃ (k : Nat) (m : Int), k ≤ es.length ∧ i = .int .i64 k ∧ l = .int .i64 m ∧ 0 ≤ m ∧ m ≤ n ∧ (∀ j (hj : j < es.length), j < k → es[j].1.size ≤ 1048576 ∧ es[j].2.size ≤ 1048576) ∧ Below w.heap.size w wr) (fun _ i _ => es.length - (intOf i).toNat)
    case atStart => exact ⟨0, _, Nat.zero_le _, rfl, rfl, by omega, by omega, fun j _ hj => absurd hj (Nat.not_lt_zero _), Below.refl _ _⟩
    case round =>
      obtain ⟨k, m, hk, rfl, rfl, m0, m1, hall, hbl⟩ := hrel
      have HA := Lib.hid hall; have HBL := Lib.hid hbl; clear hall hbl
      by_cases hlt : k < es.length
      · obtain ⟨b, off, rfl, hb, c0, c1⟩ := (HR.out.below HBL.out).ent hlt
        have z := HZ.out _ (List.getElem_mem hlt)
        obtain ⟨e, he⟩ : ∃ e, e = es[k] := ⟨_, rfl⟩
        rw [← he] at c0 c1 z
        have HE := Lib.hid he; have Z := Lib.hid z; clear he z
        go_wp2_with fail
        refine (szEntry_any _ e.1 e.2 m m0 (by omega) Z.out.1 Z.out.2).mono ?_
        rintro _ w2 ⟨m2, rfl, hm2, hb2⟩
        have HB2 := Lib.hid (HBL.out.trans (hb2.mono HBL.out.size)); clear hb2 c0 c1
        rcases hm2 with rfl | ⟨m20, m21, m22⟩
        · go_wp2_with fail
          go_ret
          exact ⟨_, rfl, .inl rfl, HB2.out⟩
        · have M22 := Lib.hid m22; clear m22
          go_wp2_with fail
          go_roundw
          case rel =>
            refine ⟨k + 1, m2, by omega, by go_num, rfl, m20, by omega, fun j hj hjk => ?_, HB2.out⟩
            rcases Nat.lt_or_ge j k with hjk' | hjk'
            · exact HA.out j hj hjk'
            · have hje : j = k := by omega
              subst hje
              have := M22.out
              rw [HE.out] at this
              exact ⟨by omega, by omega⟩
          case measure => simp [intOf]; omega
      · go_wp2_with fail
        go_ret
        refine ⟨m, rfl, .inr ⟨m0, m1, by omega, fun e he => ?_⟩, HBL.out⟩
        obtain ⟨j, hj, rfl⟩ := List.mem_iff_getElem.1 he
        exact HA.out j hj (by omega)

theorem four_keep {wr W W' : World} {a1 a2 a3 a4 : Addr} {u1 u2 u3 u4 : Value} (h : W.cell? a1 = some u1 ∧ W.cell? a2 = some u2 ∧ W.cell? a3 = some u3 ∧ W.cell? a4 = some u4 ∧ Below wr.heap.size wr W) (hb : Below W.heap.size W W') :
    W'.cell? a1 = some u1 ∧ W'.cell? a2 = some u2 ∧ W'.cell? a3 = some u3 ∧ W'.cell? a4 = some u4 ∧ Below wr.heap.size wr W' := by
  obtain ⟨h1, h2, h3, h4, h5⟩ := h
  exact ⟨(hb.cell (World.block_lt_of_cell? _ _ h1)).trans h1, (hb.cell (World.block_lt_of_cell? _ _ h2)).trans h2, (hb.cell (World.block_lt_of_cell? _ _ h3)).trans h3, (hb.cell (World.block_lt_of_cell? _ _ h4)).trans h4, h5.trans (hb.mono h5.size)⟩

set_option maxHeartbeats 2000000 in
theorem eqEntryS_same (w : World) (A1 A2 : Option Addr) (c1 c2 : Nat) (es : List (ByteArray × ByteArray)) (h1 : Rd w w.heap.size A1 (entV es)) (h2 : Rd w w.heap.size A2 (entV es)) (hl : es.length ≤ 1048576) (k1 : es.length ≤ c1) (k2 : es.length ≤ c2) :
    Calls Try.prog 9 #[.slice A1 es.length c1, .slice A2 es.length c2] w fun e w' => e = .returned (.bool true) ∧ Below w.heap.size w w' := by
  have R1 := Lib.hid h1; have R2 := Lib.hid h2; clear h1 h2
  go_enter Try.func9, Try.ntmps9
  go_wp2_with fail
  go_loopw [5] (fun i wr => ∃ k : Nat, k ≤ es.length ∧ i = .int .i64 k ∧ Below w.heap.size w wr) (fun i _ => es.length - (intOf i).toNat)
  case atStart => exact ⟨0, Nat.zero_le _, rfl, Below.refl _ _⟩
  case round =>
    obtain ⟨k, hk, rfl, hbl⟩ := hrel
    have HBL := Lib.hid hbl; clear hbl
    by_cases hlt : k < es.length
    · obtain ⟨b1, o1, rfl, _, x0, x1⟩ := (R1.out.below HBL.out).ent hlt
      obtain ⟨b2, o2, rfl, _, y0, y1⟩ := (R2.out.below HBL.out).ent hlt
      generalize es[k] = e at x0 x1 y0 y1
      go_wp2_with fail
      go_region_held3 (fun W => W.cell? ⟨b1, o1 + k * 2, none⟩ = some (.string e.1) ∧ W.cell? ⟨b1, o1 + k * 2 + 1, none⟩ = some (.string e.2) ∧ W.cell? ⟨b2, o2 + k * 2, none⟩ = some (.string e.1) ∧ W.cell? ⟨b2, o2 + k * 2 + 1, none⟩ = some (.string e.2) ∧ Below wr.heap.size wr W) (first | assumption | exact ⟨x0, x1, y0, y1, (Below.refl _ _).drew⟩ | exact four_keep (by assumption) (by assumption)) ((go_at_call 20; refine (eqEntry_same _ e.1 e.2).mono ?_; rintro _ w7 ⟨rfl, hb7⟩))
      go_wp2_with fail
      go_roundw
      case rel =>
        rename_i hS
        exact ⟨k + 1, by omega, by go_num, HBL.out.trans (hS.2.2.2.2.mono HBL.out.size)⟩
      case measure => simp [intOf]; omega
    · go_wp2_with fail
      go_ret
      exact ⟨rfl, HBL.out⟩

theorem Try.infoE : (Try.prog.info? 42).map (fun i => (i.zero, i.size, i.bytes)) = some (some (.agg #[.string ByteArray.empty, .string ByteArray.empty]), 2, 32) := by kernel_rfl
theorem Try.undE : Try.prog.underlying 25 = some (.slice 42) := by kernel_rfl

theorem entV_of {xs : List Value} {es : List (ByteArray × ByteArray)} (hl : xs.length = es.length * 2) (h : ∀ j (hj : j < es.length), xs[2 * j]? = some (.string es[j].1) ∧ xs[2 * j + 1]? = some (.string es[j].2)) : xs = entV es := by
  apply List.ext_getElem?
  intro i
  by_cases hi : i < xs.length
  · rcases Nat.mod_two_eq_zero_or_one i with he | ho
    · obtain ⟨j, rfl⟩ : ∃ j, i = 2 * j := ⟨i / 2, by omega⟩
      rw [(h j (by omega)).1, (entV_at es j (by omega)).1]
    · obtain ⟨j, rfl⟩ : ∃ j, i = 2 * j + 1 := ⟨i / 2, by omega⟩
      rw [(h j (by omega)).2, (entV_at es j (by omega)).2]
  · rw [List.getElem?_eq_none (by omega), List.getElem?_eq_none (by rw [length_entV]; omega)]

/-- the callee has made the entries es -/
def Entries (es : List (ByteArray × ByteArray)) (w : World) (e : Ending) (w' : World) : Prop := ∃ v, e = .returned v ∧ w'.ownsRow w.heap.size 42 2 v es.length (entV es) ∧ Below w.heap.size w w'

theorem ent_more {w wr : World} {n k : Nat} {xs : List Value} {es : List (ByteArray × ByteArray)} (hk : k < es.length) (hown : wr.ownsRow w.heap.size 42 2 (.slice (some ⟨w.heap.size, 0, none⟩) es.length es.length) es.length xs)
    (hall : ∀ j (hj : j < es.length), j < k → xs[2 * j]? = some (.string es[j].1) ∧ xs[2 * j + 1]? = some (.string es[j].2)) (hb : Below w.heap.size w wr) :
    ∃ ys, ((wr.setCell ⟨w.heap.size, k * 2, none⟩ (.string es[k].1)).setCell ⟨w.heap.size, k * 2 + 1, none⟩ (.string es[k].2)).ownsRow w.heap.size 42 2 (.slice (some ⟨w.heap.size, 0, none⟩) es.length es.length) es.length ys ∧
      (∀ j (hj : j < es.length), j < k + 1 → ys[2 * j]? = some (.string es[j].1) ∧ ys[2 * j + 1]? = some (.string es[j].2)) ∧ Below w.heap.size w ((wr.setCell ⟨w.heap.size, k * 2, none⟩ (.string es[k].1)).setCell ⟨w.heap.size, k * 2 + 1, none⟩ (.string es[k].2)) := by
  have hlen := hown.1
  obtain ⟨o1, _⟩ := hown.stored (k * 2) (.string es[k].1)
  obtain ⟨o2, _⟩ := o1.stored (k * 2 + 1) (.string es[k].2)
  refine ⟨_, o2, fun j hj hjk => ?_, (hb.setCell (Nat.le_refl _) _).setCell (Nat.le_refl _) _⟩
  rcases Nat.lt_or_ge j k with hjk' | hjk'
  · rw [List.getElem?_set_ne (by omega), List.getElem?_set_ne (by omega), List.getElem?_set_ne (by omega), List.getElem?_set_ne (by omega)]
    exact hall j hj hjk'
  · have : j = k := by omega
    subst this
    rw [Nat.mul_comm j 2, List.getElem?_set_ne (by omega), List.getElem?_set_self (by omega), List.getElem?_set_self (by simp; omega)]
    exact ⟨rfl, rfl⟩

set_option maxHeartbeats 2000000 in
theorem toEntryS_any (w : World) (A : Option Addr) (cap : Nat) (es : List (ByteArray × ByteArray)) (h : Rd w w.heap.size A (entV es)) (hc : es.length ≤ cap) (hl : es.length ≤ 1048576) :
    Calls Try.prog 7 #[.slice A es.length cap] w (Entries es w) := by
  have HR := Lib.hid h; clear h
  obtain ⟨iE, hi, hz0, hz1, hz2⟩ := info_parts Try.infoE
  have HI := Lib.hid hi; have HZ0 := Lib.hid hz0; have HZ1 := Lib.hid hz1; have hby : iE.bytes * es.length ≤ 281474976710656 := by rw [hz2]; omega
  have HBY := Lib.hid hby
  clear hi hz0 hz1 hz2 hby
  go_enter Try.func7, Try.ntmps7
  go_wp2_with (at_make; refine wpList_make_full _ rfl _ _ 25 rfl w.heap.size 42 iE (.agg #[.string ByteArray.empty, .string ByteArray.empty]) 2 Try.undE HI.out HZ0.out HZ1.out _ _ _ _ es.length rfl rfl rfl rfl HBY.out (by unfold maxLen; omega) (Nat.le_refl _) ?_)
  intro w1 hown hgr
  have OWN := Lib.hid hown
  have HB1 := Lib.hid ((Below.refl w.heap.size w).grown hgr (Nat.le_refl _) (by simp)); clear hown hgr
  go_wp2_with fail
  go_loopw [4] (fun i wr => ∃ (k : Nat) (xs : List Value), k ≤ es.length ∧ i = .int .i64 k ∧ wr.ownsRow w.heap.size 42 2 (.slice (some ⟨w.heap.size, 0, none⟩) es.length es.length) es.length xs ∧
      (∀ j (hj : j < es.length), j < k → xs[2 * j]? = some (.string es[j].1) ∧ xs[2 * j + 1]? = some (.string es[j].2)) ∧ Below w.heap.size w wr) (fun i _ => es.length - (intOf i).toNat)
  case atStart => exact ⟨0, _, Nat.zero_le _, rfl, OWN.out, fun j _ hj => absurd hj (Nat.not_lt_zero _), HB1.out⟩
  case round =>
    obtain ⟨k, xs, hk, rfl, hown, hall, hbl⟩ := hrel
    have HA := Lib.hid hall; have HBL := Lib.hid hbl; have HO := Lib.hid hown; clear hall hbl hown OWN HB1
    by_cases hlt : k < es.length
    · obtain ⟨b, off, rfl, hb, c0, c1⟩ := (HR.out.below HBL.out).ent hlt
      obtain ⟨e, he⟩ : ∃ e, e = es[k] := ⟨_, rfl⟩
      rw [← he] at c0 c1
      have HE := Lib.hid he; clear he
      go_wp2_with fail
      refine (toEntry_any _ e.1 e.2).mono ?_
      rintro _ w2 ⟨rfl, hb2⟩
      have HO2 := Lib.hid (ownsRow_below HO.out hb2)
      have HB2 := Lib.hid (HBL.out.trans (hb2.mono HBL.out.size)); clear hb2 c0 c1
      have hlen := HO2.out.1
      have d0 : w2.cell? ⟨w.heap.size, k * 2, none⟩ = some xs[k * 2] := by rw [HO2.out.cellAt _ (by omega), List.getElem?_eq_getElem (by omega)]
      have d1 : w2.cell? ⟨w.heap.size, k * 2 + 1, none⟩ = some xs[k * 2 + 1] := by rw [HO2.out.cellAt _ (by omega), List.getElem?_eq_getElem (by omega)]
      have f0 : w2.frozen? ⟨w.heap.size, k * 2, none⟩ = false := HO2.out.frozenAt _
      have f1 : w2.frozen? ⟨w.heap.size, k * 2 + 1, none⟩ = false := HO2.out.frozenAt _
      obtain ⟨ys, q1, q2, q3⟩ := ent_more (n := 0) hlt HO2.out HA.out HB2.out
      rw [← HE.out] at q1 q3
      have Q1 := Lib.hid q1; have Q2 := Lib.hid q2; have Q3 := Lib.hid q3; clear q1 q2 q3
      generalize xs[k * 2] = z0 at d0
      generalize xs[k * 2 + 1] = z1 at d1
      clear hlen
      go_wp2_with fail
      go_roundw
      case rel => exact ⟨k + 1, ys, by omega, by go_num, Q1.out, Q2.out, Q3.out⟩
      case measure => simp [intOf]; omega
    · go_wp2_with fail
      go_ret
      have hx : xs = entV es := entV_of HO.out.1 fun j hj => HA.out j hj (by omega)
      refine ⟨_, rfl, ?_, HBL.out⟩
      rw [← hx]; exact HO.out

end Go.Proofs.Yteeeaeidocalnaa
