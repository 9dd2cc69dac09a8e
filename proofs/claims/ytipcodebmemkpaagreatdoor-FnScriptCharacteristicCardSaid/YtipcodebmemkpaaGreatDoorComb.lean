/-
  Contracts of the sums and differences of words, and of a row of bytes that the call itself has made of a string. No conditions but those that each theorem names.
-/
import Derived.Test.YtipcodebmemkpaaGreatDoorMem
import Derived.Test.YtipcodebmemkpaaGreatDoorWords
import Derived.StillTailTactics
namespace Go.Proofs.YtipcodebmemkpaaGreatDoor
open Go.RowKit Pl
set_option linter.unusedVariables false

/-- block g is a row of bytes of the call's own; its first bytes are l -/
def Buf (w : World) (g : Nat) (l : List UInt8) : Prop :=
  ∃ (cs : Array Value) (m : Nat), w.heap[g]? = some (.cells cs 5 (m, m + 1)) ∧ cs.size = m ∧ l.length ≤ m ∧ ∀ (j : Nat) (h : j < l.length), cs[j]? = some (.int .u8 l[j].toNat)

section
variable {w w' : World} {g : Nat} {l : List UInt8}
theorem Buf.lt (h : Buf w g l) : g < w.heap.size := by
  obtain ⟨cs, m, hb, _⟩ := h
  exact (Array.getElem?_eq_some_iff.1 hb).1
theorem Buf.cell (h : Buf w g l) {j : Nat} (hj : j < l.length) : w.cell? ⟨g, j, none⟩ = some (.int .u8 l[j].toNat) := by
  obtain ⟨cs, m, hb, _, _, hc⟩ := h
  rw [cell_of_row w g j cs _ _ hb]; exact hc j hj
theorem Buf.frozen (h : Buf w g l) {j : Nat} (hj : j < l.length) : w.frozen? ⟨g, j, none⟩ = false := by
  obtain ⟨cs, m, hb, _, hm, hc⟩ := h
  simp [World.frozen?, hb]; omega
theorem Buf.set_ (h : Buf w g l) {j : Nat} (c : UInt8) : Buf (w.setCell ⟨g, j, none⟩ (.int .u8 c.toNat)) g (l.set j c) := by
  obtain ⟨cs, m, hb, hs, hm, hc⟩ := h
  refine ⟨cs.setIfInBounds j (.int .u8 c.toNat), m, ?_, by simpa using hs, by simpa using hm, fun i hi => ?_⟩
  · simp [World.setCell, Array.getElem?_modify, hb]
  · have hi' : i < l.length := by simpa using hi
    rw [Array.getElem?_setIfInBounds]
    by_cases e : j = i
    · subst e
      have : j < cs.size := by omega
      simp [this]
    · simp [e, hc i hi']
theorem Buf.drewN (h : Buf w g l) (n : Nat) : Buf (w.drewN n) g l := h
theorem Buf.drew (h : Buf w g l) : Buf w.drew g l := h
theorem Buf.made (w : World) (s : ByteArray) : Buf (Lib.bytesWorld w 5 s) w.heap.size (tl s) := by
  refine ⟨_, _, Lib.bytesWorld_at_new w _ s, rfl, ?_, fun j hj => ?_⟩
  · simp [Lib.bytesCells, length_tl]
  · rw [length_tl] at hj
    simp [Lib.bytesCells, Array.getElem?_append, hj, tl]
theorem below_made (w : World) (s : ByteArray) : Below w.heap.size w (Lib.bytesWorld w 5 s) :=
  ⟨rfl, rfl, rfl, by rw [Lib.bytesWorld_size]; omega, fun k hk => Lib.bytesWorld_at_old w _ s k hk⟩
theorem Buf.conv (h : Buf w g l) (c : Nat) : (convert 22 9 (.slice (some ⟨g, 0, none⟩) l.length c)).run Tryz.prog w = .ok (.string (mk l)) w :=
  conv_string w 22 9 5 g 0 c l Tryz.underlying22 Tryz.underlying5 Tryz.underlying9 fun j hj => by rw [Nat.zero_add]; exact h.cell hj
end

theorem number_any (c : UInt8) (w : World) (h : isL c = true) :
    Calls Tryz.prog 91 #[.int .u8 c.toNat] w fun e w' => e = .returned (.int .i64 (dg c)) ∧ w' = w := by
  have hb := isL_bounds h
  have e : ((dg c : Nat) : Int) = (c.toNat : Int) - 97 := by unfold dg; omega
  rw [e]
  clear e h
  go_enter Tryz.func91, Tryz.ntmps91
  go_wp2
  go_ret
  exact ⟨rfl, rfl⟩

theorem letter_any (n : Nat) (w : World) (h : n < 10) :
    Calls Tryz.prog 66 #[.int .i64 n] w fun e w' => e = .returned (.int .u8 (letter n).toNat) ∧ w' = w := by
  have e : (((letter n).toNat : Nat) : Int) = 97 + (n : Int) := by rw [toNat_letter h]; omega
  rw [e]
  clear e
  go_enter Tryz.func66, Tryz.ntmps66
  go_wp2
  go_ret
  exact ⟨rfl, rfl⟩

theorem shifted_any (c : UInt8) (n : Nat) (w : World) (h : isL c = true) (hn : n ≤ 1000000) :
    Calls Tryz.prog 272 #[.int .u8 c.toNat, .int .i64 n] w fun e w' => e = .returned (.int .u8 (letter ((dg c + n) % 10)).toNat) ∧ w' = w := by
  have hd := dg_lt h
  have H := Lib.hid h; clear h
  go_enter Tryz.func272, Tryz.ntmps272
  go_wp2_with fail
  refine (number_any _ _ H.out).mono ?_
  rintro e w' ⟨rfl, rfl⟩
  go_wp2_with fail
  rw [show (((dg c : Nat) : Int) + (n : Int)) % 10 = (((dg c + n) % 10 : Nat) : Int) by omega]
  refine (letter_any ((dg c + n) % 10) _ (by omega)).mono ?_
  rintro e w' ⟨rfl, rfl⟩
  go_wp2_with fail
  go_ret
  exact ⟨rfl, rfl⟩

theorem shifted_int (c : UInt8) (m : Int) (n : Nat) (w : World) (h : isL c = true) (hm : m = n) (hn : n ≤ 1000000) :
    Calls Tryz.prog 272 #[.int .u8 c.toNat, .int .i64 m] w fun e w' => e = .returned (.int .u8 (letter ((dg c + n) % 10)).toNat) ∧ w' = w := by
  subst hm; exact shifted_any c n w h hn

theorem combine_take (t : Nat) (v w : List UInt8) (k : Nat) (hv : k < v.length) (hw : k < w.length) :
    ((combine t v w).take k ++ v.drop k).set k (letter ((dg v[k] + t * dg w[k]) % 10)) = (combine t v w).take (k + 1) ++ v.drop (k + 1) := by
  have hl : k < (combine t v w).length := by simp [combine]; omega
  have ht : ((combine t v w).take k).length = k := by simp; omega
  rw [List.set_append_right _ _ (by omega), ht, Nat.sub_self, List.drop_eq_getElem_cons hv, List.set_cons_zero, List.take_succ_eq_append_getElem hl, List.append_assoc]
  congr 2
  simp [combine]

set_option maxHeartbeats 2000000 in
set_option maxRecDepth 100000 in
theorem combine_some (v x : ByteArray) (t : Nat) (r : List UInt8) (w : World) (ht : t = 1 ∨ t = 9) (h : combineW t (tl v) (tl x) = some r) :
    Calls Tryz.prog 268 #[.string v, .string x, .int .i64 t] w fun e w' => e = .returned (.tuple #[.string (mk r), .bool true]) ∧ Below w.heap.size w w' := by
  unfold combineW at h
  by_cases hc : wv (tl v) = true ∧ wv (tl x) = true ∧ (tl v).length = (tl x).length
  · rw [if_pos hc] at h
    injection h with h
    subst h
    obtain ⟨h1, h2, h3⟩ := hc
    have hl := wv_length h1
    rw [length_tl, length_tl] at h3
    rw [length_tl] at hl
    have hb : (((v.size : Nat) : Int) != ((x.size : Nat) : Int)) = false := by simp; omega
    have hle : v.size ≤ x.size := by omega
    have hmul : ∀ n : Nat, n < 10 → (IntKind.i64.wrap ((t : Int) * (n : Int)) = (t : Int) * (n : Int)) := fun n hn => by
      rcases ht with rfl | rfl <;> (apply IntWalk.i64_in; omega)
    have HM := Lib.hid hmul; clear hmul
    have HE := Lib.hid h3; clear h3
    have H1 := Lib.hid h1; clear h1
    have H2 := Lib.hid h2; clear h2
    have hcv := Lib.run_convert_string_bytes (P := Tryz.prog) w 9 22 5 v Tryz.underlying9 Tryz.underlying22 Tryz.underlying5
    have hbuf := Buf.made w v
    have hbel := below_made w v
    obtain ⟨w0, hw0⟩ : ∃ w0, w0 = Lib.bytesWorld w 5 v := ⟨_, rfl⟩
    obtain ⟨cap, hcap⟩ : ∃ cap, cap = grownCap w v.size 0 5 := ⟨_, rfl⟩
    rw [← hw0] at hcv hbuf hbel
    rw [← hcap] at hcv
    clear hw0 hcap
    go_enter Tryz.func268, Tryz.ntmps268
    go_wp2_with fail
    refine (wordValid_is _ true _ H1.out).mono ?_
    rintro e w' ⟨rfl, rfl⟩
    go_wp2_with fail
    refine (wordValid_is _ true _ H2.out).mono ?_
    rintro e w' ⟨rfl, rfl⟩
    go_wp2_with fail
    go_loopw [29] (fun i wr => ∃ k : Nat, k ≤ v.size ∧ i = .int .i64 k ∧ Buf wr w.heap.size ((combine t (tl v) (tl x)).take k ++ (tl v).drop k) ∧ Below w.heap.size w wr) (fun i _ => v.size - (intOf i).toNat)
    case atStart => exact ⟨0, Nat.zero_le _, rfl, by simpa using hbuf, hbel⟩
    case round =>
      obtain ⟨k, hk, rfl, hB, hbl⟩ := hrel
      clear hbuf hbel hcv
      have hlen : ((combine t (tl v) (tl x)).take k ++ (tl v).drop k).length = v.size := by
        have := HE.out
        simp [combine, length_tl]; omega
      have HL := Lib.hid hlen; clear hlen
      have HBL := Lib.hid hbl; clear hbl
      by_cases hlt : k < v.size
      · have hkx : k < x.size := by omega
        have lv : isL v[k] = true := wv_mem H1.out (by rw [getElem_tl]; exact List.getElem_mem _)
        have lx : isL x[k] = true := wv_mem H2.out (by rw [getElem_tl]; exact List.getElem_mem _)
        have dx := dg_lt lx
        have hc : wr.cell? ⟨w.heap.size, k, none⟩ = some (.int .u8 v[k].toNat) := by
          rw [hB.cell (by rw [HL.out]; exact hlt)]
          have ht : ((combine t (tl v) (tl x)).take k).length = k := by have := HE.out; simp [combine, length_tl]; omega
          rw [List.getElem_append_right (by omega)]
          simp [ht, getElem_tl]
        have hf : wr.frozen? ⟨w.heap.size, k, none⟩ = false := hB.frozen (by rw [HL.out]; exact hlt)
        have HB' := Lib.hid hB; clear hB
        have LV := Lib.hid lv; clear lv
        have LX := Lib.hid lx; clear lx
        go_wp2_with fail
        refine wp_region_still_tail 14 (by kernel_rfl) (by kernel_rfl) ?_
        simp only [List.take_succ_cons, List.take_zero, List.drop_succ_cons, List.drop_zero]
        change wpStill _ _ wr.drew (fun a' => wpList _ _ _ _ a' wr.drew) _ _
        replace hc : wr.drew.cell? ⟨w.heap.size, k, none⟩ = some (.int .u8 v[k].toNat) := hc
        replace hf : wr.drew.frozen? ⟨w.heap.size, k, none⟩ = false := hf
        replace HB' : Hid (Buf wr.drew w.heap.size ((combine t (tl v) (tl x)).take k ++ (tl v).drop k)) := HB'
        replace HBL : Hid (Below w.heap.size w wr.drew) := Lib.hid HBL.out.drew
        generalize wr.drew = w2 at hc hf HB' HBL ⊢
        repeat still_step
        still_call (number_any _ _ LX.out)
        repeat still_step
        still_call (shifted_int _ _ (t * dg x[k]) _ LV.out (by rw [HM.out _ dx]; exact (Int.natCast_mul _ _).symm) (by rcases ht with rfl | rfl <;> omega))
        repeat still_step
        refine wpStill_nil ?_
        go_wp2_with fail
        go_roundw
        case rel => exact ⟨k + 1, by omega, by go_num, by rw [← combine_take t _ _ k (by rw [length_tl]; exact hlt) (by rw [length_tl]; exact hkx)]; exact HB'.out.set_ _, HBL.out.setCell (Nat.le_refl _) _⟩
        case measure => simp [intOf]; omega
      · have e : k = v.size := by omega
        subst e
        have hcv2 := hB.conv cap
        rw [HL.out] at hcv2
        have er : (combine t (tl v) (tl x)).take v.size ++ (tl v).drop v.size = combine t (tl v) (tl x) := by
          rw [List.take_of_length_le (by simp [combine, length_tl]; omega), List.drop_of_length_le (by rw [length_tl]; omega), List.append_nil]
        rw [er] at hcv2
        clear hB er
        go_wp2_with fail
        go_ret2
        exact ⟨rfl, HBL.out⟩
  · rw [if_neg hc] at h; cases h

set_option maxHeartbeats 1000000 in
theorem combine_none (v x : ByteArray) (t : Nat) (w : World) (h : combineW t (tl v) (tl x) = none) :
    Calls Tryz.prog 268 #[.string v, .string x, .int .i64 t] w fun e w' => e = .returned (.tuple #[.string (mk []), .bool false]) ∧ Below w.heap.size w w' := by
  unfold combineW at h
  by_cases hc : wv (tl v) = true ∧ wv (tl x) = true ∧ (tl v).length = (tl x).length
  · rw [if_pos hc] at h; cases h
  · clear h
    by_cases h1 : wv (tl v) = true
    · by_cases h2 : wv (tl x) = true
      · have h3 : v.size ≠ x.size := fun e => hc ⟨h1, h2, by rw [length_tl, length_tl]; exact e⟩
        have hb : (((v.size : Nat) : Int) != ((x.size : Nat) : Int)) = true := by rw [bne_iff_ne]; omega
        have H1 := Lib.hid h1; clear h1
        have H2 := Lib.hid h2; clear h2 hc h3
        go_enter Tryz.func268, Tryz.ntmps268
        go_wp2_with fail
        refine (wordValid_is _ true _ H1.out).mono ?_
        rintro e w' ⟨rfl, rfl⟩
        go_wp2_with fail
        refine (wordValid_is _ true _ H2.out).mono ?_
        rintro e w' ⟨rfl, rfl⟩
        go_wp2_with fail
        go_ret2
        exact ⟨rfl, Below.refl _ _⟩
      · have H1 := Lib.hid h1; clear h1
        have H2 := Lib.hid (show wv (tl x) = false by simpa using h2); clear h2 hc
        go_enter Tryz.func268, Tryz.ntmps268
        go_wp2_with fail
        refine (wordValid_is _ true _ H1.out).mono ?_
        rintro e w' ⟨rfl, rfl⟩
        go_wp2_with fail
        refine (wordValid_is _ false _ H2.out).mono ?_
        rintro e w' ⟨rfl, rfl⟩
        go_wp2_with fail
        go_ret2
        exact ⟨rfl, Below.refl _ _⟩
    · have H1 := Lib.hid (show wv (tl v) = false by simpa using h1); clear h1 hc
      go_enter Tryz.func268, Tryz.ntmps268
      go_wp2_with fail
      refine (wordValid_is _ false _ H1.out).mono ?_
      rintro e w' ⟨rfl, rfl⟩
      go_wp2_with fail
      go_ret2
      exact ⟨rfl, Below.refl _ _⟩

/-- the sum of two words -/
theorem addWords_some (v x : ByteArray) (r : List UInt8) (w : World) (h : combineW 1 (tl v) (tl x) = some r) :
    Calls Tryz.prog 221 #[.string v, .string x] w fun e w' => e = .returned (.tuple #[.string (mk r), .bool true]) ∧ Below w.heap.size w w' := by
  have H := Lib.hid h; clear h
  go_enter Tryz.func221, Tryz.ntmps221
  go_wp2_with fail
  refine (combine_some _ _ 1 r _ (.inl rfl) H.out).mono ?_
  rintro e w1 ⟨rfl, hb⟩
  go_wp2_with fail
  go_ret2
  exact ⟨rfl, hb⟩
theorem addWords_none (v x : ByteArray) (w : World) (h : combineW 1 (tl v) (tl x) = none) :
    Calls Tryz.prog 221 #[.string v, .string x] w fun e w' => e = .returned (.tuple #[.string (mk []), .bool false]) ∧ Below w.heap.size w w' := by
  have H := Lib.hid h; clear h
  go_enter Tryz.func221, Tryz.ntmps221
  go_wp2_with fail
  refine (combine_none _ _ 1 _ H.out).mono ?_
  rintro e w1 ⟨rfl, hb⟩
  go_wp2_with fail
  go_ret2
  exact ⟨rfl, hb⟩
theorem subWords_some (v x : ByteArray) (r : List UInt8) (w : World) (h : combineW 9 (tl v) (tl x) = some r) :
    Calls Tryz.prog 222 #[.string v, .string x] w fun e w' => e = .returned (.tuple #[.string (mk r), .bool true]) ∧ Below w.heap.size w w' := by
  have H := Lib.hid h; clear h
  go_enter Tryz.func222, Tryz.ntmps222
  go_wp2_with fail
  refine (combine_some _ _ 9 r _ (.inr rfl) H.out).mono ?_
  rintro e w1 ⟨rfl, hb⟩
  go_wp2_with fail
  go_ret2
  exact ⟨rfl, hb⟩
theorem subWords_none (v x : ByteArray) (w : World) (h : combineW 9 (tl v) (tl x) = none) :
    Calls Tryz.prog 222 #[.string v, .string x] w fun e w' => e = .returned (.tuple #[.string (mk []), .bool false]) ∧ Below w.heap.size w w' := by
  have H := Lib.hid h; clear h
  go_enter Tryz.func222, Tryz.ntmps222
  go_wp2_with fail
  refine (combine_none _ _ 9 _ H.out).mono ?_
  rintro e w1 ⟨rfl, hb⟩
  go_wp2_with fail
  go_ret2
  exact ⟨rfl, hb⟩

end Go.Proofs.YtipcodebmemkpaaGreatDoor
