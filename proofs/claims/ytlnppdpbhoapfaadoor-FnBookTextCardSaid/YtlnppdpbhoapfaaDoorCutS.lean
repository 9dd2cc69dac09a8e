/-
  Contracts of the reference's l21Cut and l21Find. No conditions but those that each theorem names.
-/
import Derived.Test.YtlnppdpbhoapfaaDoorPlainC2
import Derived.Test.YtlnppdpbhoapfaaDoorTexts
namespace Go.Proofs.YtlnppdpbhoapfaaDoor
open Go.RowKit Pl
set_option linter.unusedVariables false

set_option maxHeartbeats 2000000 in
theorem l21Find_any (w : World) (s : ByteArray) (c : UInt8) (hs : s.size ≤ 9223372036854775807) :
    Calls Tryd.prog 17 #[.string s, .int .u8 c.toNat] w fun e w' => e = .returned (.int .i64 (fnd c (tl s))) ∧ w = w' := by
  obtain ⟨r, hr⟩ : ∃ r, r = fnd c (tl s) := ⟨_, rfl⟩
  rw [← hr]
  have HRR := Lib.hid hr; clear hr
  go_enter Tryd.func17, Tryd.ntmps17
  go_wp2_with fail
  go_loop [5] (fun i => ∃ k : Nat, k ≤ s.size ∧ i = .int .i64 k ∧ c ∉ (tl s).take k) (fun i => s.size - (intOf i).toNat)
  case atStart => exact ⟨0, Nat.zero_le _, rfl, by simp⟩
  case round =>
    obtain ⟨k, hk, rfl, hn⟩ := hrel
    have HN := Lib.hid hn; clear hn
    by_cases hlt : k < s.size
    · by_cases hc : s[k] = c
      · have hr2 : r = (k : Int) := by rw [HRR.out]; exact fnd_hit (by rw [length_tl]; exact hlt) hc HN.out
        subst hr2
        have hb : ((s[k].toNat : Int) == (c.toNat : Int)) = true := by rw [hc]; simp
        go_wp2_with fail
        go_ret
        exact ⟨rfl, rfl⟩
      · have hb : ((s[k].toNat : Int) == (c.toNat : Int)) = false := by
          rw [beq_eq_false_iff_ne]; intro e
          exact hc (UInt8.toNat_inj.1 (by omega))
        have hn2 := notin_snoc (l := tl s) (by rw [length_tl]; exact hlt) HN.out hc
        have HN2 := Lib.hid hn2; clear hn2 hc
        go_wp2_with fail
        go_round
        case rel => exact ⟨k + 1, by omega, by go_num, HN2.out⟩
        case measure => simp [intOf]; omega
    · have hm : r = -1 := by
        rw [HRR.out]; refine fnd_miss ?_
        have := HN.out
        rwa [List.take_of_length_le (by rw [length_tl]; omega)] at this
      subst hm
      go_wp2_with fail
      go_ret
      exact ⟨rfl, rfl⟩

/-- the pieces as strings -/
def mkl (l : List (List UInt8)) : List ByteArray := l.map mk
theorem length_mkl (l : List (List UInt8)) : (mkl l).length = l.length := by simp [mkl]
theorem mkl_snoc (l : List (List UInt8)) (p : List UInt8) : strV (mkl l) ++ [Value.string (mk p)] = strV (mkl (l ++ [p])) := by simp [mkl, strV]

set_option maxHeartbeats 4000000 in
set_option maxRecDepth 100000 in
theorem l21Cut_any (w : World) (s : ByteArray) (c : UInt8) (hs : s.size ≤ 1048576) :
    Calls Tryd.prog 16 #[.string s, .int .u8 c.toNat] w (Listed (mkl (spl c (tl s))) w) := by
  obtain ⟨iS, hi, hz0, hz1, hz2⟩ := info_parts Tryd.infoS
  have HI := Lib.hid hi; have HZ0 := Lib.hid hz0; have HZ1 := Lib.hid hz1; have HZ2 := Lib.hid hz2
  clear hi hz0 hz1 hz2
  obtain ⟨all, hall⟩ : ∃ all, all = spl c (tl s) := ⟨_, rfl⟩
  rw [← hall]
  have HALL := Lib.hid hall; clear hall
  have OWN := Lib.hid (World.ownsRow_made (base := w.heap.size) (e := 9) (size := 1) w #[] 0 (Nat.le_refl _) (by decide) rfl)
  have HB0 := Lib.hid ((Below.refl w.heap.size w).alloc (Nat.le_refl _) (.cells #[] 9))
  have hsz := length_tl s
  have HSZ := Lib.hid hsz; clear hsz
  go_enter Tryd.func16, Tryd.ntmps16
  go_wp2_with fail
  go_loopw [5, 6, 7] (fun o fr i wr => ∃ (k f : Nat) (done : List (List UInt8)), k ≤ s.size + 1 ∧ i = .int .i64 k ∧ fr = .int .i64 f ∧ CutTo c (tl s) k f done ∧ wr.ownsRow w.heap.size 9 1 o done.length (strV (mkl done)) ∧ Below w.heap.size w wr) (fun _ _ i _ => s.size + 1 - (intOf i).toNat)
  case atStart => exact ⟨0, 0, [], Nat.zero_le _, rfl, rfl, cutTo_start _ _, OWN.out, HB0.out⟩
  case round =>
    obtain ⟨k, f, done, hk, rfl, rfl, hcut, hown, hbl⟩ := hrel
    have HC := Lib.hid hcut; have HO := Lib.hid hown; have HBL := Lib.hid hbl; clear hcut hown hbl OWN HB0
    obtain ⟨A3, c3, e3⟩ := slot_slice HO.out
    subst e3
    by_cases hle : k ≤ s.size
    · have hfd := cutTo_le HC.out (by rw [HSZ.out]; exact hle)
      obtain ⟨hfk, hdk⟩ := hfd
      have hbw := HBL.out.size
      have hex : s.extract f k = mk (((tl s).drop f).take (k - f)) := extract_mk' s f k
      have HEX := Lib.hid hex; clear hex
      have key : ∀ (w4 : World) (v' : Value), w4.ownsRow w.heap.size 9 1 v' (done.length + 1) (strV (mkl done) ++ [Value.string (s.extract f k)]) → (wr.alloc (.cells #[.string (s.extract f k)] 9)).grownBy w4 (Value.slice A3 done.length c3).ownBlock →
          w4.ownsRow w.heap.size 9 1 v' (done ++ [((tl s).drop f).take (k - f)]).length (strV (mkl (done ++ [((tl s).drop f).take (k - f)]))) ∧ Below w.heap.size w w4 := by
        intro w4 v' ho' hg
        refine ⟨?_, (HBL.out.alloc HBL.out.size _).grown hg (Nat.le_trans HBL.out.size (by simp)) fun k' e => (HO.out.lt k' e).1⟩
        rw [← mkl_snoc, List.length_append, List.length_singleton, ← HEX.out]; exact ho'
      have KEY := Lib.hid key; clear key
      by_cases heq : k = s.size
      · subst heq
        have hcl : CutTo c (tl s) (s.size + 1) (s.size + 1) (done ++ [((tl s).drop f).take (s.size - f)]) := by
          have h2 := HC.out; rw [← HSZ.out] at h2 ⊢; exact cutTo_last h2
        have HCL := Lib.hid hcl; clear hcl
        have hbq : ((s.size : Int) == (s.size : Int)) = true := by simp
        go_wp2_with (at_builtin; refine wpList_append_own _ rfl _ _ 34 rfl w.heap.size 9 iS (.string ByteArray.empty) 1 16 Tryd.undS HI.out HZ0.out HZ1.out HZ2.out rfl (by decide) _ done.length _ rfl (HO.out.alloc _) ⟨wr.heap.size, 0, none⟩ 1 1 [.string (s.extract f s.size)] rfl rfl (one_new wr _ _) one_cell (by unfold maxLen; omega) (by omega) (by simp; omega) ?_)
        intro v' w6 ho' hg' _
        obtain ⟨ho6, hb6⟩ := KEY.out _ _ ho' hg'
        have HO6 := Lib.hid ho6; have HB6 := Lib.hid hb6; clear ho' hg' ho6 hb6 hbq
        go_wp2_with fail
        go_roundw
        case rel => exact ⟨s.size + 1, s.size + 1, _, by omega, by go_num, by go_num, HCL.out, HO6.out, HB6.out⟩
        case measure => simp [intOf]
      · have hlt : k < s.size := by omega
        have hne : ((k : Int) == (s.size : Int)) = false := by rw [beq_eq_false_iff_ne]; omega
        by_cases hc : s[k] = c
        · have hcl := cutTo_cut HC.out (by rw [HSZ.out]; exact hlt) hc
          have HCL := Lib.hid hcl; clear hcl
          have hb : ((s[k].toNat : Int) == (c.toNat : Int)) = true := by rw [hc]; simp
          clear hc heq
          go_wp2_with (at_builtin; refine wpList_append_own _ rfl _ _ 34 rfl w.heap.size 9 iS (.string ByteArray.empty) 1 16 Tryd.undS HI.out HZ0.out HZ1.out HZ2.out rfl (by decide) _ done.length _ rfl (HO.out.alloc _) ⟨wr.heap.size, 0, none⟩ 1 1 [.string (s.extract f k)] rfl rfl (one_new wr _ _) one_cell (by unfold maxLen; omega) (by omega) (by simp; omega) ?_)
          intro v' w6 ho' hg' _
          obtain ⟨ho6, hb6⟩ := KEY.out _ _ ho' hg'
          have HO6 := Lib.hid ho6; have HB6 := Lib.hid hb6; clear ho' hg' ho6 hb6 hb hne
          go_wp2_with fail
          go_roundw
          case rel => exact ⟨k + 1, k + 1, _, by omega, by go_num, by go_num, HCL.out, HO6.out, HB6.out⟩
          case measure => simp [intOf]; omega
        · have hb : ((s[k].toNat : Int) == (c.toNat : Int)) = false := by
            rw [beq_eq_false_iff_ne]; intro e
            exact hc (UInt8.toNat_inj.1 (by omega))
          have hcl := cutTo_on HC.out (by rw [HSZ.out]; exact hlt) hc
          have HCL := Lib.hid hcl; clear hcl hc heq
          go_wp2_with fail
          go_roundw
          case rel => exact ⟨k + 1, f, done, by omega, by go_num, rfl, HCL.out, HO.out, HBL.out⟩
          case measure => simp [intOf]; omega
    · have hke : k = s.size + 1 := by omega
      have hd : done = all := by rw [HALL.out]; exact cutTo_end HC.out (by rw [HSZ.out]; omega)
      subst hd
      go_wp2_with fail
      go_ret
      refine ⟨_, rfl, ?_, HBL.out⟩
      rw [length_mkl]; exact HO.out

end Go.Proofs.YtlnppdpbhoapfaaDoor
