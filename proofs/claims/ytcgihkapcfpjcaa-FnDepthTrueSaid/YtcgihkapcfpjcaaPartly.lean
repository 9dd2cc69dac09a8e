/-
  Contracts of the laws' own helpers on words: rcPartly, rcAll, rcLetter. No conditions but those that each theorem names.
-/
import Derived.Test.YtcgihkapcfpjcaaDraw
import Derived.Test.YtcgihkapcfpjcaaPart
import Derived.Test.YtcgihkapcfpjcaaPlainB
namespace Go.Proofs.Ytcgihkapcfpjcaa
open Go.RowKit Pl
set_option linter.unusedVariables false

set_option maxHeartbeats 2000000 in
theorem rcPartly_any (w : World) (s : ByteArray) (A : Option Addr) (cap : Nat) (cs : List UInt8) (h : Rd w w.heap.size A (bytesV cs)) (hc : cs.length ≤ cap) (hm : cs.length ≤ 1048576) (hs : s.size ≤ 1000) :
    Calls Try.prog 24 #[.string s, .slice A cs.length cap] w fun e w' => e = .returned (.string (mk (partly (tl s) cs))) ∧ w = w' := by
  have HR := Lib.hid h; clear h
  go_enter Try.func24, Try.ntmps24
  go_wp2_with fail
  go_loop [5, 6] (fun o i => ∃ k : Nat, k ≤ s.size ∧ i = .int .i64 k ∧ o = .string (mk ((partly (tl s) cs).take k))) (fun _ i => s.size - (intOf i).toNat)
  case atStart => exact ⟨0, Nat.zero_le _, rfl, rfl⟩
  case round =>
    obtain ⟨k, hk, rfl, rfl⟩ := hrel
    have hz : (mk ((partly (tl s) cs).take k)).size ≤ 1000 := by rw [size_mk]; simp; omega
    by_cases hlt : k < s.size
    · have hstep : (partly (tl s) cs).take (k + 1) = (partly (tl s) cs).take k ++ [if gapAt cs k then 45 else s[k]] := by
        rw [List.take_succ_eq_append_getElem (by rw [length_partly, length_tl]; exact hlt), partly_get _ _ _ (by rw [length_tl]; exact hlt)]
        rfl
      have HST := Lib.hid hstep; clear hstep
      have hex := slice_one s k hlt
      have hzx : (s.extract k (k + 1)).size ≤ 1 := by rw [hex, size_mk]; simp
      have HX := Lib.hid hex; clear hex
      by_cases h0 : cs = []
      · subst h0
        have hg : gapAt [] k = false := by simp [gapAt]
        have HG := Lib.hid hg; clear hg
        have hd : decide ((0 : Int) < ((([] : List UInt8).length : Nat) : Int)) = false := by simp
        go_wp2_with fail
        go_round
        case rel => exact ⟨k + 1, by omega, by go_num, by rw [HST.out, HG.out, HX.out, mk_append]; rfl⟩
        case measure => simp [intOf]; omega
      · have hpos : 0 < cs.length := List.length_pos_iff.2 h0
        have i1 := Nat.mod_lt k hpos
        obtain ⟨b, off, rfl, hb, hcell⟩ := HR.out (by intro e; apply h0; simpa [bytesV] using e)
        have hcl : w.cell? ⟨b, off + k % cs.length, none⟩ = some (.int .u8 (cs[k % cs.length]'i1).toNat) := by
          rw [hcell _ (by rw [length_bytesV]; exact i1)]; simp [bytesV]
        clear hcell
        have hgd : gapAt cs k = ((cs[k % cs.length]'i1).toNat % 3 == 0) := by simp [gapAt, hpos, List.getD, List.getElem?_eq_getElem i1]
        have HGD := Lib.hid hgd; clear hgd
        obtain ⟨c, hcc⟩ : ∃ c : UInt8, c = (cs[k % cs.length]'i1) := ⟨_, rfl⟩
        rw [← hcc] at hcl
        have HCC := Lib.hid hcc; clear hcc
        have hcb := c.toNat_lt
        have hpi : (0 : Int) < (cs.length : Int) := by omega
        by_cases hg : c.toNat % 3 = 0
        · have hb3 : (((c.toNat : Nat) : Int) % 3 == 0) = true := by simp; omega
          have HG := Lib.hid (show gapAt cs k = true by rw [HGD.out, ← HCC.out]; simpa using hg); clear hg
          go_wp2_with fail
          go_round
          case rel => exact ⟨k + 1, by omega, by go_num, by rw [HST.out, HG.out]; exact congrArg Value.string (mk_append _ [45])⟩
          case measure => simp [intOf]; omega
        · have hb3 : (((c.toNat : Nat) : Int) % 3 == 0) = false := by simp; omega
          have HG := Lib.hid (show gapAt cs k = false by rw [HGD.out, ← HCC.out]; simpa using hg); clear hg
          go_wp2_with fail
          go_round
          case rel => exact ⟨k + 1, by omega, by go_num, by rw [HST.out, HG.out, HX.out, mk_append]; rfl⟩
          case measure => simp [intOf]; omega
    · go_wp2_with fail
      go_ret
      refine ⟨str_eq ?_, rfl⟩
      rw [List.take_of_length_le (by rw [length_partly, length_tl]; omega)]

end Go.Proofs.Ytcgihkapcfpjcaa
