/-
  What laws.rcJoin answers: the texts of a list, a separator between them. Conditions: what the theorem names.
-/
import Derived.Test.YtipcodebmemkpaaGreatDoorJoinC
import Derived.Test.YtipcodebmemkpaaGreatDoorTexts
namespace Go.Proofs.YtipcodebmemkpaaGreatDoor
open Go.RowKit Pl
set_option linter.unusedVariables false

theorem joinW_snoc (l : List ByteArray) (sp : List UInt8) (k : Nat) (hk : k < l.length) :
    Lib.join ((l.take (k + 1)).map tl) sp = (if k = 0 then [] else Lib.join ((l.take k).map tl) sp ++ sp) ++ tl l[k] := by
  cases l with
  | nil => simp at hk
  | cons x r =>
    cases k with
    | zero => simp [Lib.join_one]
    | succ k =>
      have hk' : k < r.length := by simpa using hk
      have h := Lib.joinTail_take_succ sp (r.map tl) k (tl r[k]) (by simp [hk'])
      rw [if_neg (by omega)]
      simp only [List.take_succ_cons, List.map_cons, Lib.join_cons, List.getElem_cons_succ, List.map_take, h, List.append_assoc]
theorem joinW_le (l : List ByteArray) (sp : List UInt8) (m : Nat) (hm : ∀ s ∈ l, s.size ≤ m) (k : Nat) : k ≤ l.length → (Lib.join ((l.take k).map tl) sp).length ≤ k * (m + sp.length) := by
  induction k with
  | zero => intro _; simp [Lib.join_nil]
  | succ k ih =>
    intro hk
    have h := ih (by omega)
    have hx := hm _ (List.getElem_mem (show k < l.length by omega))
    rw [joinW_snoc l sp k (by omega), List.length_append, length_tl, Nat.succ_mul]
    split
    · simp; omega
    · rw [List.length_append]; omega

set_option maxHeartbeats 4000000 in
set_option maxRecDepth 100000 in
theorem rcJoin_any (w : World) (A : Option Addr) (cap : Nat) (l : List ByteArray) (sp : ByteArray) (h : Rd w w.heap.size A (strV l)) (hl : l.length ≤ 1000) (hc : l.length ≤ cap) (hm : ∀ s ∈ l, s.size ≤ 100) (hs : sp.size ≤ 10) :
    Calls Tryz.prog 18 #[.slice A l.length cap, .string sp] w fun e w' => e = .returned (.string (mk (Lib.join (l.map tl) (tl sp)))) ∧ ∃ q, w' = w.drewN q := by
  have HR := Lib.hid h; have HM := Lib.hid hm; clear h hm
  obtain ⟨t, ht⟩ : ∃ t, t = mk (Lib.join (l.map tl) (tl sp)) := ⟨_, rfl⟩
  rw [← ht]
  have HT := Lib.hid ht; clear ht
  go_enter Tryz.func18, Tryz.ntmps18
  go_wp2_with fail
  go_loopw [5, 6] (fun o i wr => ∃ k : Nat, k ≤ l.length ∧ i = .int .i64 k ∧ o = .string (mk (Lib.join ((l.take k).map tl) (tl sp))) ∧ ∃ q, wr = w.drewN q) (fun _ i _ => l.length - (intOf i).toNat)
  case atStart => exact ⟨0, Nat.zero_le _, rfl, rfl, 0, rfl⟩
  case round =>
    obtain ⟨k, hk, rfl, rfl, q, rfl⟩ := hrel
    have hz := joinW_le l (tl sp) 100 HM.out k hk
    rw [length_tl] at hz
    have hzm : (mk (Lib.join ((l.take k).map tl) (tl sp))).size ≤ 110000 := by
      rw [size_mk]
      refine Nat.le_trans hz (Nat.le_trans (Nat.mul_le_mul (Nat.le_trans hk hl) (show 100 + sp.size ≤ 110 by omega)) (by omega))
    clear hz
    by_cases hlt : k < l.length
    · have hsn := joinW_snoc l (tl sp) k hlt
      have hn : strV l ≠ [] := by intro e; have := congrArg List.length e; rw [length_strV, List.length_nil] at this; omega
      obtain ⟨b, off, rfl, _, hcell⟩ := HR.out hn
      have hx := hcell k (by rw [length_strV]; exact hlt)
      have hx1 : ∀ n, (w.drewN n).cell? ⟨b, off + k, none⟩ = some (.string l[k]) := by intro n; rw [show (w.drewN n).cell? ⟨b, off + k, none⟩ = w.cell? ⟨b, off + k, none⟩ from rfl, hx]; simp [strV]
      have hek := HM.out _ (List.getElem_mem hlt)
      clear hx hcell hn
      by_cases hk0 : k = 0
      · subst hk0
        have hnx : mk (Lib.join ((l.take (0 + 1)).map tl) (tl sp)) = mk (Lib.join ((l.take 0).map tl) (tl sp)) ++ l[0] := by
          rw [hsn, if_pos rfl]
          simp only [append_tl, tl_mk, List.take_zero]
          simp [Lib.join_nil]
        have HNX := Lib.hid hnx; clear hnx hsn
        simp only [Nat.add_zero] at hx1
        generalize l[0] = e at hx1 HNX hek
        generalize mk (Lib.join ((l.take 0).map tl) (tl sp)) = acc at hzm HNX ⊢
        go_wp2_with fail
        go_roundw
        case rel => exact ⟨0 + 1, by omega, by go_num, by rw [HNX.out], _, rfl⟩
        case measure => simp [intOf]; omega
      · have hnx : mk (Lib.join ((l.take (k + 1)).map tl) (tl sp)) = mk (Lib.join ((l.take k).map tl) (tl sp)) ++ sp ++ l[k] := by
          rw [hsn, if_neg hk0]
          simp only [append_tl, tl_mk]
        have hkp : 0 < k := by omega
        have HNX := Lib.hid hnx; clear hnx hsn hk0
        generalize l[k] = e at hx1 HNX hek
        generalize mk (Lib.join ((l.take k).map tl) (tl sp)) = acc at hzm HNX ⊢
        go_wp2_with fail
        go_roundw
        case rel => exact ⟨k + 1, by omega, by go_num, by rw [HNX.out], _, rfl⟩
        case measure => simp [intOf]; omega
    · have hkl : k = l.length := by omega
      subst hkl
      rw [List.take_of_length_le (Nat.le_refl _), ← HT.out]
      go_wp2_with fail
      go_ret
      exact ⟨rfl, q, rfl⟩

end Go.Proofs.YtipcodebmemkpaaGreatDoor
