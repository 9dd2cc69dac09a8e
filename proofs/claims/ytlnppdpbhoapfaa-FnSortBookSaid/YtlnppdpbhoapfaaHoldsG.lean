/-
  The contract of rcHolds with the world behind it written out. No conditions but those that each theorem names.
-/
import Derived.Test.YtlnppdpbhoapfaaHolds
import Derived.Shelf.SlSortCmp.QuietGrown
namespace Go.Proofs.Ytlnppdpbhoapfaa
open Go.RowKit Pl Go.Sort
set_option linter.unusedVariables false

theorem grow_more {w wr : World} (h : ∃ q os', wr = grow (w.drewN q) os') (n : Nat) : ∃ q os', wr.drewN n = grow (w.drewN q) os' := by
  obtain ⟨q, os', rfl⟩ := h
  exact ⟨q + n, os', by show grow ((w.drewN q).drewN n) os' = _; rw [World.drewN_drewN]⟩
theorem below_grow (w : World) (os : Array Obj) : Below w.heap.size w (grow w os) :=
  ⟨rfl, rfl, rfl, by simp [grow], fun i hi => by simp only [grow]; rw [Array.getElem?_append_left hi]⟩
theorem below_grown (w : World) (n : Nat) (os : Array Obj) : Below w.heap.size w (grow (w.drewN n) os) := (below_drewN' (Below.refl w.heap.size w) n).trans (below_grow (w.drewN n) os)
/-- rcHolds in a world that has grown -/
theorem Rd.grown {w : World} {A : Option Addr} {xs : List Value} (h : Rd w w.heap.size A xs) (n : Nat) (os : Array Obj) : Rd (grow (w.drewN n) os) (grow (w.drewN n) os).heap.size A xs := (h.below (below_grown w n os)).mono (below_grown w n os).size

set_option maxHeartbeats 4000000 in
theorem rcHolds_grow (w : World) (A : Option Addr) (cap : Nat) (es : List (ByteArray × ByteArray)) (e : ByteArray × ByteArray) (r : Bool) (hr : e ∈ es ↔ r = true) (h : Rd w w.heap.size A (entV es)) (hc : es.length ≤ cap) (hl : es.length ≤ 1000000) :
    Calls Try.prog 13 #[.slice A es.length cap, .agg #[.string e.1, .string e.2]] w fun x w' => x = .returned (.bool r) ∧ ∃ q os', w' = grow (w.drewN q) os' := by
  have HR := Lib.hid h; have HRR := Lib.hid hr; clear h hr
  go_enter Try.func13, Try.ntmps13
  go_wp2_with fail
  go_loopw [5] (fun i wr => ∃ k : Nat, k ≤ es.length ∧ i = .int .i64 k ∧ (∀ j (hj : j < es.length), j < k → es[j] ≠ e) ∧ wr.cell? ⟨w.heap.size, 0, none⟩ = some (.string e.1) ∧ wr.cell? ⟨w.heap.size, 1, none⟩ = some (.string e.2) ∧ Below w.heap.size w wr ∧ ∃ q os', wr = grow (w.drewN q) os') (fun i _ => es.length - (intOf i).toNat)
  case atStart => exact ⟨0, Nat.zero_le _, rfl, fun j _ hj => absurd hj (Nat.not_lt_zero _), by simp, by simp, (Below.refl _ _).alloc (Nat.le_refl _) _, 0, #[_], alloc_eq_grow w _⟩
  case round =>
    obtain ⟨k, hk, rfl, hall, x0, x1, hbl, hgr⟩ := hrel
    have HGR := Lib.hid hgr; clear hgr
    have HA := Lib.hid hall; have HBL := Lib.hid hbl; clear hall hbl
    by_cases hlt : k < es.length
    · obtain ⟨b, off, rfl, hb, c0, c1⟩ := (HR.out.below HBL.out).ent hlt
      have hpb := pair_beq es[k].1 es[k].2 e.1 e.2
      have hmem := List.getElem_mem hlt
      have hnx : es[k] ≠ e → ∀ j (hj : j < es.length), j < k + 1 → es[j] ≠ e := fun hne j hj hjk => by
        by_cases hje : j = k
        · subst hje; exact hne
        · exact HA.out j hj (by omega)
      have HNX := Lib.hid hnx; clear hnx
      generalize es[k] = f at c0 c1 hpb hmem HNX
      have HPB := Lib.hid hpb; have HMEM := Lib.hid hmem; clear hpb hmem
      by_cases h1 : f.1.toList = e.1.toList
      · by_cases h2 : f.2.toList = e.2.toList
        · have hrt : r = true := HRR.out.1 (by have h3 : f = e := HPB.out.1 (by rw [h1, h2]; simp); rw [← h3]; exact HMEM.out)
          subst hrt
          go_wp2_with fail
          go_quiet (fail)
          clear h1 h2
          go_wp2_with fail
          go_ret
          exact ⟨rfl, grow_more HGR.out _⟩
        · have HN := Lib.hid (HNX.out fun h3 => h2 (by rw [h3]))
          clear HNX
          go_wp2_with fail
          go_quiet (fail)
          clear h1 h2
          go_wp2_with fail
          go_roundw
          case rel => exact ⟨k + 1, by omega, by go_num, HN.out, x0, x1, below_drewN' HBL.out _, grow_more HGR.out _⟩
          case measure => simp [intOf]; omega
      · have HN := Lib.hid (HNX.out fun h3 => h1 (by rw [h3]))
        clear HNX
        go_wp2_with fail
        go_quiet (fail)
        clear h1
        go_wp2_with fail
        go_roundw
        case rel => exact ⟨k + 1, by omega, by go_num, HN.out, x0, x1, below_drewN' HBL.out _, grow_more HGR.out _⟩
        case measure => simp [intOf]; omega
    · have hrf : r = false := by
        cases hr : r with
        | false => rfl
        | true =>
          obtain ⟨j, hj, hje⟩ := List.mem_iff_getElem.1 (HRR.out.2 hr)
          exact absurd hje (HA.out j hj (by omega))
      subst hrf
      go_wp2_with fail
      go_ret
      exact ⟨rfl, HGR.out⟩

end Go.Proofs.Ytlnppdpbhoapfaa
