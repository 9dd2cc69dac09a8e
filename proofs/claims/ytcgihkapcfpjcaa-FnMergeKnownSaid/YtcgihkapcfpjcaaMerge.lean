/-
  Contracts of MergePartials, of the program and of the reference. No conditions.
-/
import Derived.Test.YtcgihkapcfpjcaaPart
import Derived.Test.YtcgihkapcfpjcaaPlainB
import Derived.Deep.QuietTactic
import Derived.BigQuiet
namespace Go.Proofs.Ytcgihkapcfpjcaa
open Go.RowKit Pl
set_option linter.unusedVariables false

/-- what the merged word is, place by place -/
def mz (p q : List UInt8) : List UInt8 := List.zipWith (fun a b => (mergeC a b).getD 0) p q
theorem length_mz (p q : List UInt8) (h : p.length = q.length) : (mz p q).length = p.length := by simp [mz]; omega
theorem mz_snoc (p q : List UInt8) (k : Nat) (hp : k < p.length) (hq : k < q.length) (c : UInt8) (h : mergeC p[k] q[k] = some c) : (mz p q).take (k + 1) = (mz p q).take k ++ [c] := by
  rw [List.take_succ_eq_append_getElem (by simp [mz]; omega)]
  congr 2
  simp [mz, h]
theorem mz_take (p q : List UInt8) (k : Nat) (hp : k < p.length) (hq : k < q.length) (c : UInt8) (h : mergeC p[k] q[k] = some c) :
    ((mz p q).take k ++ p.drop k).set k c = (mz p q).take (k + 1) ++ p.drop (k + 1) := by
  have hl : k < (mz p q).length := by simp [mz]; omega
  have ht : ((mz p q).take k).length = k := by simp; omega
  rw [List.set_append_right _ _ (by omega), ht, Nat.sub_self, List.drop_eq_getElem_cons hp, List.set_cons_zero, List.take_succ_eq_append_getElem hl, List.append_assoc]
  congr 2
  simp [mz, h]
theorem mz_keep (p q : List UInt8) (k : Nat) (hp : k < p.length) (hq : k < q.length) (h : mergeC p[k] q[k] = some p[k]) :
    (mz p q).take (k + 1) ++ p.drop (k + 1) = (mz p q).take k ++ p.drop k := by
  have hl : k < (mz p q).length := by simp [mz]; omega
  have e : (mz p q)[k] = p[k] := by simp [mz, h]
  rw [List.take_succ_eq_append_getElem hl, e, List.append_assoc, List.singleton_append, ← List.drop_eq_getElem_cons hp]

theorem isSome_of {o : Option UInt8} {c : UInt8} (h : o = some c) : o.isSome = true := by rw [h]; rfl

/-- the result of a merge -/
def merged (o : Option (List UInt8)) (e : Ending) : Prop := match o with
  | some r => e = .returned (.tuple #[.string (mk r), .bool true])
  | none => e = .returned (.tuple #[.string (mk []), .bool false])

set_option maxHeartbeats 2000000 in
set_option maxRecDepth 100000 in
theorem merge_good (p q : ByteArray) (w : World) (h1 : pv (tl p) = true) (h2 : pv (tl q) = true) (h3 : p.size = q.size) :
    Calls Try.prog 26 #[.string p, .string q] w fun e w' => merged (mergeL (tl p) (tl q)) e ∧ Below w.heap.size w w' := by
  have hl := pv_length h1
  rw [length_tl] at hl
  have hb : (((p.size : Nat) : Int) != ((q.size : Nat) : Int)) = false := by simp; omega
  have hle : p.size ≤ q.size := by omega
  have HE := Lib.hid h3; clear h3
  have H1 := Lib.hid h1; clear h1
  have H2 := Lib.hid h2; clear h2
  have hcv := Lib.run_convert_string_bytes (P := Try.prog) w 9 24 5 p Try.underlying9 Try.underlying24 Try.underlying5
  have hbuf := Buf.made w p
  have hbel := below_made w p
  obtain ⟨w0, hw0⟩ : ∃ w0, w0 = Lib.bytesWorld w 5 p := ⟨_, rfl⟩
  obtain ⟨cap, hcap⟩ : ∃ cap, cap = grownCap w p.size 0 5 := ⟨_, rfl⟩
  rw [← hw0] at hcv hbuf hbel
  rw [← hcap] at hcv
  clear hw0 hcap
  go_enter Try.func26, Try.ntmps26
  go_wp2_with fail
  refine (partialValid_is _ true _ H1.out).mono ?_
  rintro e w' ⟨rfl, rfl⟩
  go_wp2_with fail
  refine (partialValid_is _ true _ H2.out).mono ?_
  rintro e w' ⟨rfl, rfl⟩
  go_wp2_with fail
  go_loopw [27] (fun i wr => ∃ k : Nat, k ≤ p.size ∧ i = .int .i64 k ∧ Buf wr w.heap.size ((mz (tl p) (tl q)).take k ++ (tl p).drop k) ∧ Below w.heap.size w wr ∧
      ∀ j (h1 : j < (tl p).length) (h2 : j < (tl q).length), j < k → (mergeC (tl p)[j] (tl q)[j]).isSome = true) (fun i _ => p.size - (intOf i).toNat)
  case atStart => exact ⟨0, Nat.zero_le _, rfl, by simpa using hbuf, hbel, fun _ _ _ h => by omega⟩
  case round =>
    obtain ⟨k, hk, rfl, hB, hbl, hall⟩ := hrel
    have HALL := Lib.hid hall; clear hall
    clear hbuf hbel hcv
    have hlen : ((mz (tl p) (tl q)).take k ++ (tl p).drop k).length = p.size := by
      have := HE.out
      simp [mz, length_tl]; omega
    have HL := Lib.hid hlen; clear hlen
    have HBL := Lib.hid hbl; clear hbl
    by_cases hlt : k < p.size
    · have hkq : k < q.size := by omega
      have hc : wr.cell? ⟨w.heap.size, k, none⟩ = some (.int .u8 p[k].toNat) := by
        rw [hB.cell (by rw [HL.out]; exact hlt)]
        have ht : ((mz (tl p) (tl q)).take k).length = k := by have := HE.out; simp [mz, length_tl]; omega
        rw [List.getElem_append_right (by omega)]
        simp [ht, getElem_tl]
      have hf : wr.frozen? ⟨w.heap.size, k, none⟩ = false := hB.frozen (by rw [HL.out]; exact hlt)
      have HB' := Lib.hid hB; clear hB
      have hi1 : (k : Int) < (p.size : Int) := by omega
      have hi2 : (k : Int) < (q.size : Int) := by omega
      by_cases hg : p[k].toNat = 45
      · have hgb : (((p[k].toNat : Nat) : Int) == 45) = true := by simp; omega
        have hmc : mergeC (tl p)[k] (tl q)[k] = some q[k] := by unfold mergeC; rw [if_pos (by exact hg)]; rfl
        have HMC := Lib.hid hmc; clear hmc hg
        go_wp2_with fail
        go_roundw
        case rel =>
          have e' := mz_take (tl p) (tl q) k (by rw [length_tl]; exact hlt) (by rw [length_tl]; exact hkq) q[k] HMC.out
          refine ⟨k + 1, by omega, by go_num, by rw [← e']; exact HB'.out.set_ _, HBL.out.setCell (Nat.le_refl _) _, fun j h1 h2 hj => ?_⟩
          by_cases e : j = k
          · subst e; exact isSome_of HMC.out
          · exact HALL.out j h1 h2 (by omega)
        case measure => simp [intOf]; omega
      · have hgb : (((p[k].toNat : Nat) : Int) == 45) = false := by simp; omega
        by_cases hq : q[k].toNat = 45
        · have hqb : (((q[k].toNat : Nat) : Int) != 45) = false := by simp; omega
          have hmc : mergeC (tl p)[k] (tl q)[k] = some (tl p)[k] := by
            unfold mergeC; rw [if_neg (by exact hg), if_neg (by intro hh; exact hh.1 hq)]
          have HMC := Lib.hid hmc; clear hmc hg hq
          go_wp2_with fail
          go_quiet (fail)
          go_wp2_with fail
          go_roundw
          case rel =>
            have e' := mz_keep (tl p) (tl q) k (by rw [length_tl]; exact hlt) (by rw [length_tl]; exact hkq) HMC.out
            refine ⟨k + 1, by omega, by go_num, by rw [e']; exact HB'.out.drewN _, below_drewN' HBL.out _, fun j h1 h2 hj => ?_⟩
            by_cases e : j = k
            · subst e; exact isSome_of HMC.out
            · exact HALL.out j h1 h2 (by omega)
          case measure => simp [intOf]; omega
        · have hqb : (((q[k].toNat : Nat) : Int) != 45) = true := by rw [bne_iff_ne]; omega
          by_cases he : q[k] = p[k]
          · have heb : (((q[k].toNat : Nat) : Int) != ((p[k].toNat : Nat) : Int)) = false := by rw [he]; simp
            have hmc : mergeC (tl p)[k] (tl q)[k] = some (tl p)[k] := by
              unfold mergeC; rw [if_neg (by exact hg), if_neg (by intro hh; exact hh.2 he)]
            have HMC := Lib.hid hmc; clear hmc hg hq he
            go_wp2_with fail
            go_quiet (fail)
            go_wp2_with fail
            go_roundw
            case rel =>
              have e' := mz_keep (tl p) (tl q) k (by rw [length_tl]; exact hlt) (by rw [length_tl]; exact hkq) HMC.out
              refine ⟨k + 1, by omega, by go_num, by rw [e']; exact HB'.out.drewN _, below_drewN' HBL.out _, fun j h1 h2 hj => ?_⟩
              by_cases e : j = k
              · subst e; exact isSome_of HMC.out
              · exact HALL.out j h1 h2 (by omega)
            case measure => simp [intOf]; omega
          · have heb : (((q[k].toNat : Nat) : Int) != ((p[k].toNat : Nat) : Int)) = true := by
              rw [bne_iff_ne]; intro hh; exact he (UInt8.toNat_inj.1 (by omega))
            have hmc : mergeC (tl p)[k] (tl q)[k] = none := by
              unfold mergeC; rw [if_neg (by exact hg), if_pos ⟨by exact hq, by exact he⟩]
            have HN := Lib.hid (mergeL_none (tl p) (tl q) k (by rw [length_tl]; exact hlt) (by rw [length_tl]; exact hkq) hmc)
            clear hmc hg hq he
            go_wp2_with fail
            go_quiet (fail)
            go_wp2_with fail
            go_ret2
            exact ⟨by rw [HN.out]; rfl, below_drewN' HBL.out _⟩
    · have e : k = p.size := by omega
      subst e
      have hcv2 := hB.conv cap
      rw [HL.out] at hcv2
      have er : (mz (tl p) (tl q)).take p.size ++ (tl p).drop p.size = mz (tl p) (tl q) := by
        rw [List.take_of_length_le (by simp [mz, length_tl]; omega), List.drop_of_length_le (by rw [length_tl]; omega), List.append_nil]
      rw [er] at hcv2
      have HS := Lib.hid (mergeL_some (tl p) (tl q) (by rw [length_tl, length_tl]; exact HE.out) (fun i h1 h2 => HALL.out i h1 h2 (by rw [length_tl] at h1; omega)))
      clear hB er
      go_wp2_with fail
      go_ret2
      exact ⟨by rw [HS.out]; rfl, HBL.out⟩

theorem merge_none (p q : ByteArray) (w : World) (hc : ¬ (pv (tl p) = true ∧ pv (tl q) = true ∧ (tl p).length = (tl q).length)) :
    Calls Try.prog 26 #[.string p, .string q] w fun e w' => e = .returned (.tuple #[.string (mk []), .bool false]) ∧ Below w.heap.size w w' := by
  by_cases h1 : pv (tl p) = true
  · by_cases h2 : pv (tl q) = true
    · have h3 : p.size ≠ q.size := fun e => hc ⟨h1, h2, by rw [length_tl, length_tl]; exact e⟩
      have hb : (((p.size : Nat) : Int) != ((q.size : Nat) : Int)) = true := by rw [bne_iff_ne]; omega
      have H1 := Lib.hid h1; clear h1
      have H2 := Lib.hid h2; clear h2 hc h3
      go_enter Try.func26, Try.ntmps26
      go_wp2_with fail
      refine (partialValid_is _ true _ H1.out).mono ?_
      rintro e w' ⟨rfl, rfl⟩
      go_wp2_with fail
      refine (partialValid_is _ true _ H2.out).mono ?_
      rintro e w' ⟨rfl, rfl⟩
      go_wp2_with fail
      go_ret2
      exact ⟨rfl, Below.refl _ _⟩
    · have H1 := Lib.hid h1; clear h1
      have H2 := Lib.hid (show pv (tl q) = false by simpa using h2); clear h2 hc
      go_enter Try.func26, Try.ntmps26
      go_wp2_with fail
      refine (partialValid_is _ true _ H1.out).mono ?_
      rintro e w' ⟨rfl, rfl⟩
      go_wp2_with fail
      refine (partialValid_is _ false _ H2.out).mono ?_
      rintro e w' ⟨rfl, rfl⟩
      go_wp2_with fail
      go_ret2
      exact ⟨rfl, Below.refl _ _⟩
  · have H1 := Lib.hid (show pv (tl p) = false by simpa using h1); clear h1 hc
    go_enter Try.func26, Try.ntmps26
    go_wp2_with fail
    refine (partialValid_is _ false _ H1.out).mono ?_
    rintro e w' ⟨rfl, rfl⟩
    go_wp2_with fail
    go_ret2
    exact ⟨rfl, Below.refl _ _⟩
theorem merge_is (p q : ByteArray) (o : Option (List UInt8)) (w : World) (h : mergeW (tl p) (tl q) = o) :
    Calls Try.prog 26 #[.string p, .string q] w fun e w' => merged o e ∧ Below w.heap.size w w' := by
  unfold mergeW at h
  by_cases hc : pv (tl p) = true ∧ pv (tl q) = true ∧ (tl p).length = (tl q).length
  · rw [if_pos hc] at h
    subst h
    exact merge_good p q w hc.1 hc.2.1 hc.2.2
  · rw [if_neg hc] at h
    subst h
    exact merge_none p q w hc

set_option maxHeartbeats 2000000 in
theorem sMerge_good (p q : ByteArray) (w : World) (h1 : pv (tl p) = true) (h2 : pv (tl q) = true) (h3 : p.size = q.size) :
    Calls Try.prog 27 #[.string p, .string q] w fun e w' => merged (mergeL (tl p) (tl q)) e ∧ Below w.heap.size w w' := by
  have hl := pv_length h1
  rw [length_tl] at hl
  have hb : (((p.size : Nat) : Int) != ((q.size : Nat) : Int)) = false := by simp; omega
  have hle : p.size ≤ q.size := by omega
  have HE := Lib.hid h3; clear h3
  have H1 := Lib.hid h1; clear h1
  have H2 := Lib.hid h2; clear h2
  go_enter Try.func27, Try.ntmps27
  go_wp2_with fail
  refine (sPartialValid_is _ true _ H1.out).mono ?_
  rintro e w' ⟨rfl, rfl⟩
  go_wp2_with fail
  refine (sPartialValid_is _ true _ H2.out).mono ?_
  rintro e w' ⟨rfl, rfl⟩
  go_wp2_with fail
  go_loopw [6, 7] (fun o i wr => ∃ k : Nat, k ≤ p.size ∧ i = .int .i64 k ∧ o = .string (mk ((mz (tl p) (tl q)).take k)) ∧ Below w.heap.size w wr ∧
      ∀ j (h1 : j < (tl p).length) (h2 : j < (tl q).length), j < k → (mergeC (tl p)[j] (tl q)[j]).isSome = true) (fun _ i _ => p.size - (intOf i).toNat)
  case atStart => exact ⟨0, Nat.zero_le _, rfl, rfl, Below.refl _ _, fun _ _ _ h => by omega⟩
  case round =>
    obtain ⟨k, hk, rfl, rfl, hbl, hall⟩ := hrel
    have HALL := Lib.hid hall; clear hall
    have HBL := Lib.hid hbl; clear hbl
    by_cases hlt : k < p.size
    · have hkq : k < q.size := by omega
      have hi1 : (k : Int) < (p.size : Int) := by omega
      have hi2 : (k : Int) < (q.size : Int) := by omega
      have hz : (mk ((mz (tl p) (tl q)).take k)).size ≤ 1000 := by rw [size_mk]; simp; omega
      have step : ∀ c : UInt8, mergeC (tl p)[k] (tl q)[k] = some c → Value.string (mk ((mz (tl p) (tl q)).take k) ++ mk [c]) = Value.string (mk ((mz (tl p) (tl q)).take (k + 1))) ∧
          ∀ j (h1 : j < (tl p).length) (h2 : j < (tl q).length), j < k + 1 → (mergeC (tl p)[j] (tl q)[j]).isSome = true := fun c hc => by
        refine ⟨?_, fun j h1 h2 hj => ?_⟩
        · rw [mk_append, mz_snoc (tl p) (tl q) k (by rw [length_tl]; exact hlt) (by rw [length_tl]; exact hkq) c hc]
        · by_cases e : j = k
          · subst e; exact isSome_of hc
          · exact HALL.out j h1 h2 (by omega)
      have STEP := Lib.hid step; clear step
      have hexp := slice_one p k hlt
      have hexq := slice_one q k hkq
      have hzp : (p.extract k (k + 1)).size ≤ 1 := by rw [hexp, size_mk]; simp
      have hzq : (q.extract k (k + 1)).size ≤ 1 := by rw [hexq, size_mk]; simp
      have HXP := Lib.hid hexp; clear hexp
      have HXQ := Lib.hid hexq; clear hexq
      by_cases hq : q[k].toNat = 45
      · have hqb : (((q[k].toNat : Nat) : Int) == 45) = true := by simp; omega
        have hmc : mergeC (tl p)[k] (tl q)[k] = some p[k] := by
          unfold mergeC
          by_cases hg : (tl p)[k].toNat = 45
          · rw [if_pos hg]; congr 1; exact UInt8.toNat_inj.1 (hq.trans hg.symm)
          · rw [if_neg hg, if_neg (by intro hh; exact hh.1 hq)]; rfl
        have HMC := Lib.hid (STEP.out _ hmc); clear hmc hq
        go_wp2_with fail
        go_quiet (fail)
        go_wp2_with fail
        go_roundw
        case rel => exact ⟨k + 1, by omega, by go_num, by rw [HXP.out]; exact HMC.out.1, below_drewN' HBL.out _, HMC.out.2⟩
        case measure => simp [intOf]; omega
      · have hqb : (((q[k].toNat : Nat) : Int) == 45) = false := by simp; omega
        by_cases he : q[k] = p[k]
        · have heb : (((q[k].toNat : Nat) : Int) == ((p[k].toNat : Nat) : Int)) = true := by rw [he]; simp
          have hmc : mergeC (tl p)[k] (tl q)[k] = some p[k] := by
            unfold mergeC
            rw [if_neg (by intro hh; exact hq (by rw [he]; exact hh)), if_neg (by intro hh; exact hh.2 he)]; rfl
          have HMC := Lib.hid (STEP.out _ hmc); clear hmc hq he
          go_wp2_with fail
          go_quiet (fail)
          go_wp2_with fail
          go_roundw
          case rel => exact ⟨k + 1, by omega, by go_num, by rw [HXP.out]; exact HMC.out.1, below_drewN' HBL.out _, HMC.out.2⟩
          case measure => simp [intOf]; omega
        · have heb : (((q[k].toNat : Nat) : Int) == ((p[k].toNat : Nat) : Int)) = false := by
            simp only [beq_eq_false_iff_ne]; intro hh; exact he (UInt8.toNat_inj.1 (by omega))
          by_cases hg : p[k].toNat = 45
          · have hgb : (((p[k].toNat : Nat) : Int) == 45) = true := by simp; omega
            have hmc : mergeC (tl p)[k] (tl q)[k] = some q[k] := by
              unfold mergeC; rw [if_pos (by exact hg)]; rfl
            have HMC := Lib.hid (STEP.out _ hmc); clear hmc hq he hg
            go_wp2_with fail
            go_quiet (fail)
            go_wp2_with fail
            go_roundw
            case rel => exact ⟨k + 1, by omega, by go_num, by rw [HXQ.out]; exact HMC.out.1, below_drewN' HBL.out _, HMC.out.2⟩
            case measure => simp [intOf]; omega
          · have hgb : (((p[k].toNat : Nat) : Int) == 45) = false := by simp; omega
            have hmc : mergeC (tl p)[k] (tl q)[k] = none := by
              unfold mergeC; rw [if_neg (by exact hg), if_pos ⟨by exact hq, by exact he⟩]
            have HN := Lib.hid (mergeL_none (tl p) (tl q) k (by rw [length_tl]; exact hlt) (by rw [length_tl]; exact hkq) hmc)
            clear hmc hg hq he
            go_wp2_with fail
            go_quiet (fail)
            go_wp2_with fail
            go_ret2
            exact ⟨by rw [HN.out]; rfl, below_drewN' HBL.out _⟩
    · have HS := Lib.hid (mergeL_some (tl p) (tl q) (by rw [length_tl, length_tl]; exact HE.out) (fun i h1 h2 => HALL.out i h1 h2 (by rw [length_tl] at h1; omega)))
      have er : (mz (tl p) (tl q)).take k = mz (tl p) (tl q) := List.take_of_length_le (by simp [mz, length_tl]; omega)
      have HER := Lib.hid er; clear er
      go_wp2_with fail
      go_ret2
      refine ⟨?_, HBL.out⟩
      rw [HS.out]
      exact sb_eq (congrArg mk HER.out) true

theorem sMerge_none (p q : ByteArray) (w : World) (hc : ¬ (pv (tl p) = true ∧ pv (tl q) = true ∧ (tl p).length = (tl q).length)) :
    Calls Try.prog 27 #[.string p, .string q] w fun e w' => e = .returned (.tuple #[.string (mk []), .bool false]) ∧ Below w.heap.size w w' := by
  by_cases h1 : pv (tl p) = true
  · by_cases h2 : pv (tl q) = true
    · have h3 : p.size ≠ q.size := fun e => hc ⟨h1, h2, by rw [length_tl, length_tl]; exact e⟩
      have hb : (((p.size : Nat) : Int) != ((q.size : Nat) : Int)) = true := by rw [bne_iff_ne]; omega
      have H1 := Lib.hid h1; clear h1
      have H2 := Lib.hid h2; clear h2 hc h3
      go_enter Try.func27, Try.ntmps27
      go_wp2_with fail
      refine (sPartialValid_is _ true _ H1.out).mono ?_
      rintro e w' ⟨rfl, rfl⟩
      go_wp2_with fail
      refine (sPartialValid_is _ true _ H2.out).mono ?_
      rintro e w' ⟨rfl, rfl⟩
      go_wp2_with fail
      go_ret2
      exact ⟨rfl, Below.refl _ _⟩
    · have H1 := Lib.hid h1; clear h1
      have H2 := Lib.hid (show pv (tl q) = false by simpa using h2); clear h2 hc
      go_enter Try.func27, Try.ntmps27
      go_wp2_with fail
      refine (sPartialValid_is _ true _ H1.out).mono ?_
      rintro e w' ⟨rfl, rfl⟩
      go_wp2_with fail
      refine (sPartialValid_is _ false _ H2.out).mono ?_
      rintro e w' ⟨rfl, rfl⟩
      go_wp2_with fail
      go_ret2
      exact ⟨rfl, Below.refl _ _⟩
  · have H1 := Lib.hid (show pv (tl p) = false by simpa using h1); clear h1 hc
    go_enter Try.func27, Try.ntmps27
    go_wp2_with fail
    refine (sPartialValid_is _ false _ H1.out).mono ?_
    rintro e w' ⟨rfl, rfl⟩
    go_wp2_with fail
    go_ret2
    exact ⟨rfl, Below.refl _ _⟩
theorem sMerge_is (p q : ByteArray) (o : Option (List UInt8)) (w : World) (h : mergeW (tl p) (tl q) = o) :
    Calls Try.prog 27 #[.string p, .string q] w fun e w' => merged o e ∧ Below w.heap.size w w' := by
  unfold mergeW at h
  by_cases hc : pv (tl p) = true ∧ pv (tl q) = true ∧ (tl p).length = (tl q).length
  · rw [if_pos hc] at h
    subst h
    exact sMerge_good p q w hc.1 hc.2.1 hc.2.2
  · rw [if_neg hc] at h
    subst h
    exact sMerge_none p q w hc

end Go.Proofs.Ytcgihkapcfpjcaa
