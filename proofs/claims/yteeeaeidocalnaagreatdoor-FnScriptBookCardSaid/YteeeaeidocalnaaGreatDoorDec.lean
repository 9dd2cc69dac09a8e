/-
  Contracts of DecodeCodes, of the program and of the reference. No conditions but those that each theorem names.
-/
import Derived.Test.YteeeaeidocalnaaGreatDoorEnc
namespace Go.Proofs.YteeeaeidocalnaaGreatDoor
open Go.RowKit Pl
set_option linter.unusedVariables false

/-- the callee has made the list that o tells, or none -/
def ListedO (o : Option (List ByteArray)) (w : World) (e : Ending) (w' : World) : Prop :=
  ∃ v, e = .returned (.tuple #[v, .bool o.isSome]) ∧ w'.ownsRow w.heap.size 9 1 v (o.getD []).length (strV (o.getD [])) ∧ Below w.heap.size w w'

theorem dec_bad {es : List (ByteArray × ByteArray)} {s : ByteArray} {k : Nat} (hk : k < (chunks (tl s)).length) (h : wordOf es (chunks (tl s))[k] = none) : decW es s = none :=
  decW_no fun hh => by have := hh.2.2.2 _ (List.getElem_mem hk); rw [h] at this; cases this
theorem dec_all {es : List (ByteArray × ByteArray)} {s : ByteArray} (hv : bookV es) (hw : wv (tl s) = true) (h3 : s.size % 3 = 0) (h : ∀ j (hj : j < (chunks (tl s)).length), j < (chunks (tl s)).length → (wordOf es (chunks (tl s))[j]).isSome = true) :
    decW es s = some ((chunks (tl s)).map fun c => strO (wordOf es c)) := by
  refine decW_ok ⟨hv, hw, h3, fun c hc => ?_⟩
  obtain ⟨j, hj, rfl⟩ := List.mem_iff_getElem.1 hc
  exact h j hj hj
theorem chunk_extract (s : ByteArray) (k : Nat) (hk : k < (chunks (tl s)).length) : s.extract (3 * k) (3 * k + 3) = (chunks (tl s))[k] := by
  rw [chunks_get, extract_mk']; congr 2; omega
theorem own_more {w wr w4 : World} {v v' : Value} {l : List ByteArray} {k : Nat} {s : ByteArray} (hs : l[k]? = some s) (hown : wr.ownsRow w.heap.size 9 1 v k (strV (l.take k)))
    (hb : Below w.heap.size w wr) (ho' : w4.ownsRow w.heap.size 9 1 v' (k + 1) (strV (l.take k) ++ [Value.string s])) (hg : (wr.alloc (.cells #[.string s] 9)).grownBy w4 v.ownBlock) :
    w4.ownsRow w.heap.size 9 1 v' (k + 1) (strV (l.take (k + 1))) ∧ Below w.heap.size w w4 := by
  obtain ⟨hk, rfl⟩ := List.getElem?_eq_some_iff.1 hs
  rw [strV_snoc hk] at ho'
  exact ⟨ho', (hb.alloc hb.size _).grown hg (Nat.le_trans hb.size (by simp)) fun k' e => (hown.lt k' e).1⟩
theorem ownsRow_base {w : World} {base base' : Nat} {e : TypeId} {size : Nat} {v : Value} {n : Nat} {xs : List Value} (h : w.ownsRow base e size v n xs) (hb : base' ≤ base) : w.ownsRow base' e size v n xs := by
  obtain ⟨h1, h2 | ⟨g, cap, cur, rfl, h2, h3⟩⟩ := h
  · exact ⟨h1, .inl h2⟩
  · exact ⟨h1, .inr ⟨g, cap, cur, rfl, Nat.le_trans hb h2, h3⟩⟩
theorem listedNone (w w' : World) (hb : Below w.heap.size w w') : ListedO none w (.returned (.tuple #[.slice none 0 0, .bool false])) w' := ⟨_, rfl, World.ownsRow_nil _ _ _ _, hb⟩
theorem listedMade (w w' : World) (g : Nat) (hg : g = w'.heap.size) (hb : Below w.heap.size w w') : ListedO none w (.returned (.tuple #[.slice (some ⟨g, 0, none⟩) 0 0, .bool false])) (w'.alloc (.cells #[] 9)) := by
  subst hg
  exact ⟨_, rfl, World.ownsRow_made w' #[] 0 hb.size (by decide) rfl, hb.alloc hb.size _⟩













































































































































set_option maxHeartbeats 4000000 in
set_option maxRecDepth 100000 in
theorem decode_any (w : World) (A : Option Addr) (cap : Nat) (es : List (ByteArray × ByteArray)) (s : ByteArray) (h : Rd w w.heap.size A (entV es)) (hc : es.length ≤ cap) (hz : ∀ e ∈ es, e.1.size ≤ maxLen ∧ e.2.size ≤ maxLen) (hs : s.size ≤ maxLen) :
    Calls Tryz.prog 160 #[.slice A es.length cap, .string s] w (ListedO (decW es s) w) := by
  have hs' : s.size ≤ 9223372036854775807 := hs
  clear hs
  obtain ⟨r, hr⟩ : ∃ r, r = decW es s := ⟨_, rfl⟩
  rw [← hr]
  have HRR := Lib.hid hr; clear hr
  have BAD := Lib.hid (listedNone w)
  obtain ⟨iS, hi, hz0, hz1, hz2⟩ := info_parts Tryz.infoS
  have HI := Lib.hid hi; have HZ0 := Lib.hid hz0; have HZ1 := Lib.hid hz1; have HZ2 := Lib.hid hz2
  have hby : iS.bytes * (s.size / 3) ≤ 281474976710656 ∨ 200 < s.size := by rw [hz2]; omega
  have HBY := Lib.hid hby
  clear hi hz0 hz1 hz2 hby
  go_enter Tryz.func160, Tryz.ntmps160
  go_wp2_with fail
  refine (index_any w A cap es h hc hz).mono ?_
  rintro e w1 ⟨hb1, ⟨hv, rfl⟩ | ⟨hv, b1, b2, rfl, hm1, hm2⟩⟩
  · obtain rfl : r = none := by rw [HRR.out]; exact decW_no fun hh => hv hh.1
    clear hv HRR h hz
    go_wp2_with fail
    go_ret2
    exact BAD.out _ (hb1.alloc hb1.size _)
  · clear hm1 h hz
    have hword : ∀ s, wordOf es s = (findE (es.map Prod.swap) s).map Prod.snd := fun s => by unfold wordOf; rw [if_pos hv]
    have HVV := Lib.hid hv; have HWORD := Lib.hid hword; clear hv hword
    have hm3 := hm2.alloc (.cells #[.map (some b1), .map (some b2)] 71)
    have hb2 : Below w.heap.size w (w1.alloc (.cells #[.map (some b1), .map (some b2)] 71)) := hb1.alloc hb1.size _
    have HM := Lib.hid hm3; have HB := Lib.hid hb2; clear hm2 hm3 hb2 hb1
    cases hw : wv (tl s) with
    | false =>
      obtain rfl : r = none := by rw [HRR.out]; exact decW_no fun hh => by have := hh.2.1; rw [hw] at this; cases this
      have HW := Lib.hid hw; clear HRR hw HM
      go_wp2_with fail
      refine (wordValid_is s false _ HW.out).mono ?_
      rintro _ _ ⟨rfl, rfl⟩
      go_wp2_with fail
      go_ret2
      exact BAD.out _ HB.out
    | true =>
      have hlen : s.size ≤ 200 := wv_length hw
      have HW := Lib.hid hw; clear hw
      by_cases h3 : s.size % 3 = 0
      · have h3b : (((s.size : Int) % 3) != 0) = false := by simp; omega
        have hcl : (chunks (tl s)).length = s.size / 3 := by rw [length_chunks, length_tl]
        have HEX := Lib.hid (chunk_extract s)
        have HBADD := Lib.hid (fun k hk => dec_bad (es := es) (s := s) (k := k) hk)
        have HALL := Lib.hid (dec_all (es := es) (s := s) HVV.out HW.out h3)
        generalize chunks (tl s) = cs at hcl HEX HBADD HALL
        have H3 := Lib.hid h3; have HCL := Lib.hid hcl; clear h3 hcl
        go_wp2_with fail
        refine (wordValid_is s true _ HW.out).mono ?_
        rintro _ _ ⟨rfl, rfl⟩
        obtain ⟨X, hX⟩ : ∃ X, X = w1.heap.size := ⟨_, rfl⟩
        have hx0 : (w1.alloc (.cells #[.map (some b1), .map (some b2)] 71)).cell? ⟨X, 1, none⟩ = some (.map (some b2)) := by rw [hX]; simp
        obtain ⟨w2, hw2⟩ : ∃ w2, w2 = w1.alloc (.cells #[.map (some b1), .map (some b2)] 71) := ⟨_, rfl⟩
        have hs2 : X < w2.heap.size := by rw [hw2, hX]; simp
        rw [← hw2] at hx0 HM HB ⊢
        rw [← hX]
        have HX0 := Lib.hid hx0; have HS2 := Lib.hid hs2
        clear hX hw2 hx0 hs2
        go_wp2_with (at_make; refine wpList_make_own _ rfl _ _ 30 rfl w2.heap.size 9 iS (.string ByteArray.empty) 1 Tryz.undS HI.out HZ0.out HZ1.out _ _ _ (s.size / 3) rfl rfl (by omega) (by rcases HBY.out with h | h <;> omega) (by unfold maxLen; omega) (Nat.le_refl _) ?_)
        intro w3 hown hgr
        have OWN := Lib.hid hown
        have HB3 := Lib.hid ((Below.refl w2.heap.size w2).grown hgr (Nat.le_refl _) (by simp)); clear hown hgr
        go_wp2_with fail
        go_loopw [8, 9] (fun o i wr => ∃ k : Nat, k ≤ cs.length ∧ i = .int .i64 (3 * k : Nat) ∧ wr.ownsRow w2.heap.size 9 1 o k (strV ((cs.map fun c => strO (wordOf es c)).take k)) ∧ (∀ j (hj : j < cs.length), j < k → (wordOf es cs[j]).isSome = true) ∧ Below w2.heap.size w2 wr) (fun _ i _ => s.size - (intOf i).toNat)
        case atStart => exact ⟨0, Nat.zero_le _, rfl, OWN.out, fun j _ hj => absurd hj (Nat.not_lt_zero _), HB3.out⟩
        case round =>
          obtain ⟨k, hk, rfl, hown, hall, hb⟩ := hrel
          have HA := Lib.hid hall; have HO := Lib.hid hown; have HBL := Lib.hid hb; clear hall hown hb HB3 OWN
          obtain ⟨q, hq⟩ : ∃ q, q = 3 * k := ⟨_, rfl⟩
          rw [← hq]
          have hcl := HCL.out
          have h3 := H3.out
          by_cases hlt : k < cs.length
          · have hex := HEX.out k hlt
            rw [← hq] at hex
            have hq3 : q + 3 ≤ s.size := by omega
            have hwr : IntKind.i64.wrap ((q : Int) + 3) = ((q + 3 : Nat) : Int) := by rw [IntKind.wrap_i64]; omega
            have hwx : wordOf es (s.extract q (q + 3)) = wordOf es cs[k] := by rw [hex]
            have HQ := Lib.hid hq
            have L := fun n => ((HM.out.below HBL.out).drewN n).look (s.extract q (q + 3)) (by rw [ByteArray.size_extract]; unfold maxLen; omega)
            simp only [valE_str] at L
            have hi : (findE (es.map Prod.swap) (s.extract q (q + 3))).isSome = ((findE (es.map Prod.swap) (s.extract q (q + 3))).map Prod.snd).isSome := by simp
            simp only [hi, ← HWORD.out, hwx] at L
            have x0 : wr.cell? ⟨X, 1, none⟩ = some (.map (some b2)) := (HBL.out.cell (by exact HS2.out)).trans HX0.out
            clear hi hq hcl h3 hk hex hwx
            cases hco : wordOf es cs[k] with
            | none =>
              obtain rfl : r = none := by rw [HRR.out]; exact HBADD.out k hlt hco
              simp only [hco, strO, Option.isSome_none] at L
              clear HRR hco hlt
              go_wp2_with fail
              go_quiet (fail)
              go_wp2_with fail
              go_ret2
              exact BAD.out _ (HB.out.trans ((below_drewN' HBL.out _).mono HB.out.size))
            | some x =>
              have hal : ∀ j (hj : j < cs.length), j < k + 1 → (wordOf es cs[j]).isSome = true := by
                intro j hj hjk
                by_cases e : j = k
                · subst e; rw [hco]; rfl
                · exact HA.out j hj (by omega)
              have hget : (cs.map fun c => strO (wordOf es c))[k]? = some x := by simp [hlt, hco, strO]
              simp only [hco, strO, Option.isSome_some] at L
              have HAL := Lib.hid hal; have HGET := Lib.hid hget; clear hco hal hget
              have hk66 : k ≤ 66 := by have := HQ.out; omega
              have HLT := Lib.hid hlt; clear hlt
              go_wp2_with fail
              go_quiet (fail)
              clear L x0
              have HO2 := Lib.hid (show (wr.drewN nq).ownsRow w2.heap.size 9 1 u8 k (strV ((cs.map fun c => strO (wordOf es c)).take k)) from HO.out)
              have HBL2 := Lib.hid (below_drewN' HBL.out nq)
              generalize wr.drewN nq = wq at HO2 HBL2 ⊢
              go_wp2_with (at_builtin; refine wpList_append_own _ rfl _ _ 30 rfl w2.heap.size 9 iS (.string ByteArray.empty) 1 16 Tryz.undS HI.out HZ0.out HZ1.out HZ2.out rfl (by decide) _ k _ rfl (HO2.out.alloc _) ⟨wq.heap.size, 0, none⟩ 1 1 [.string x] rfl rfl (one_new wq _ _) one_cell (by unfold maxLen; omega) (by omega) (by have := HBL2.out.size; simp; omega) ?_)
              intro o' w4 ho' hg' _
              obtain ⟨r1, r2⟩ := own_more (w := w2) HGET.out HO2.out HBL2.out ho' hg'
              clear ho' hg'
              have R1 := Lib.hid r1; have R2 := Lib.hid r2; clear r1 r2
              go_wp2_with fail
              go_roundw
              case rel => exact ⟨k + 1, HLT.out, by have := HQ.out; go_num, R1.out, HAL.out, R2.out⟩
              case measure => simp [intOf]; omega
          · have hkl : k = cs.length := by omega
            have hqs : q = s.size := by omega
            subst hqs
            clear hq hcl h3 hlt
            subst hkl
            have he := HRR.out.trans (HALL.out HA.out)
            subst he
            clear HRR
            go_wp2_with fail
            go_ret2
            refine ⟨_, rfl, ?_, HB.out.trans (HBL.out.mono HB.out.size)⟩
            have := HO.out; rw [List.take_of_length_le (by simp)] at this
            exact ownsRow_base (by simpa using this) HB.out.size
      · have h3b : (((s.size : Int) % 3) != 0) = true := by rw [bne_iff_ne]; omega
        obtain rfl : r = none := by rw [HRR.out]; exact decW_no fun hh => h3 hh.2.2.1
        clear HRR
        go_wp2_with fail
        refine (wordValid_is s true _ HW.out).mono ?_
        rintro _ _ ⟨rfl, rfl⟩
        go_wp2_with fail
        go_ret2
        exact BAD.out _ HB.out

end Go.Proofs.YteeeaeidocalnaaGreatDoor
