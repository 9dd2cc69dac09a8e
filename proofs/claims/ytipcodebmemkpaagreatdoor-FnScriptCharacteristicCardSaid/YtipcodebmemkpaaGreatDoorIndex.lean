/-
  The contract of indexBook: what the two maps hold. No conditions but those that each theorem names.
-/
import Derived.Test.YtipcodebmemkpaaGreatDoorCMap
import Derived.Test.YtipcodebmemkpaaGreatDoorWords
import Derived.StillTailTactics
import Derived.BigRegion
import Derived.Deep.RegionHeld3
import Derived.Deep.DeepCutAuto
namespace Go.Proofs.YtipcodebmemkpaaGreatDoor
open Go.RowKit Pl
set_option linter.unusedVariables false

theorem makeMap_hint (t k e : TypeId) (kd : IntKind) (n : Int) (ht : Tryz.prog.underlying t = some (.map k e)) (w : World) :
    (Instr.makeMap t (some (.int kd n))).run Tryz.prog w = .ok (.map (some w.heap.size)) (w.alloc (.map #[] 0)) := by
  simp [Instr.makeMap, run_underlying ht]; rfl

/-- may an entry stand in a book? -/
def entOk (e : ByteArray × ByteArray) : Bool := decide (1 ≤ e.1.size) && decide (e.1.size ≤ 8) && wv (tl e.1) && decide (e.2.size = 3) && wv (tl e.2)
/-- entries that may stand in a book, no word and no code twice -/
def bookP (es : List (ByteArray × ByteArray)) : Prop := (∀ e ∈ es, entOk e = true) ∧ es.Pairwise fun a b => a.1 ≠ b.1 ∧ a.2 ≠ b.2
/-- a valid book -/
def bookV (es : List (ByteArray × ByteArray)) : Prop := es.length ≤ 20 ∧ bookP es

theorem findE_none {m : List (ByteArray × ByteArray)} {s : ByteArray} : findE m s = none ↔ ∀ e ∈ m, e.1 ≠ s := by
  simp [findE, List.find?_eq_none]
theorem bookP_nil : bookP [] := ⟨by simp, List.Pairwise.nil⟩
theorem bookP_snoc {l : List (ByteArray × ByteArray)} {e : ByteArray × ByteArray} : bookP (l ++ [e]) ↔ bookP l ∧ entOk e = true ∧ findE l e.1 = none ∧ findE (l.map Prod.swap) e.2 = none := by
  unfold bookP
  rw [List.pairwise_append, findE_none, findE_none]
  simp only [List.mem_append, List.mem_singleton, List.pairwise_singleton, true_and, forall_eq, List.mem_map]
  constructor
  · rintro ⟨h1, h2, h3⟩
    exact ⟨⟨fun x hx => h1 x (.inl hx), h2⟩, h1 e (.inr rfl), fun x hx => (h3 x hx).1, by rintro x ⟨y, hy, rfl⟩; exact (h3 y hy).2⟩
  · rintro ⟨⟨h1, h2⟩, h3, h4, h5⟩
    refine ⟨?_, h2, fun x hx => ⟨h4 x hx, h5 _ ⟨x, hx, rfl⟩⟩⟩
    rintro x (hx | rfl)
    · exact h1 x hx
    · exact h3
theorem bookP_take {l : List (ByteArray × ByteArray)} (h : bookP l) (k : Nat) : bookP (l.take k) := ⟨fun e he => h.1 e (List.mem_of_mem_take he), h.2.sublist (List.take_sublist _ _)⟩

/-- the block bx holds two maps: of the entries m, and of these turned; the result's own block is as it was laid -/
structure IdxAt (w : World) (b1 b2 bx : Nat) (m : List (ByteArray × ByteArray)) (wr : World) : Prop where
  x : wr.heap[bx]? = some (.cells #[.map (some b1), .map (some b2)] 245 (0, 0))
  r : wr.heap[w.heap.size]? = some (.cells #[.map none, .map none] 245 (0, 0))
  m1 : SMap wr b1 m
  m2 : SMap wr b2 (m.map Prod.swap)
  l1 : w.heap.size < b1
  l2 : w.heap.size < b2
  lx : w.heap.size < bx
  ne : b1 ≠ b2
  bel : Below w.heap.size w wr
theorem IdxAt.ltx {w wr : World} {b1 b2 bx : Nat} {m : List (ByteArray × ByteArray)} (h : IdxAt w b1 b2 bx m wr) : bx < wr.heap.size := (Array.getElem?_eq_some_iff.1 h.x).1
theorem IdxAt.ltr {w wr : World} {b1 b2 bx : Nat} {m : List (ByteArray × ByteArray)} (h : IdxAt w b1 b2 bx m wr) : w.heap.size < wr.heap.size := (Array.getElem?_eq_some_iff.1 h.r).1
theorem IdxAt.below {w wr w' : World} {b1 b2 bx : Nat} {m : List (ByteArray × ByteArray)} (h : IdxAt w b1 b2 bx m wr) (hb : Below wr.heap.size wr w') : IdxAt w b1 b2 bx m w' :=
  ⟨(hb.block _ h.ltx).trans h.x, (hb.block _ h.ltr).trans h.r, h.m1.below hb, h.m2.below hb, h.l1, h.l2, h.lx, h.ne, h.bel.trans (hb.mono h.bel.size)⟩
def Idx (w : World) (m : List (ByteArray × ByteArray)) (x : Value) (wr : World) : Prop := ∃ b1 b2 bx : Nat, x = .pointer (some ⟨bx, 0, none⟩) ∧ IdxAt w b1 b2 bx m wr

theorem four (w : World) (R o1 o2 o3 : Obj) (wr : World) (h : wr = ((((w.alloc R).alloc o1).alloc o2).alloc o3).drew) :
    wr.heap[w.heap.size]? = some R ∧ wr.heap[w.heap.size + 1]? = some o1 ∧ wr.heap[w.heap.size + 1 + 1]? = some o2 ∧ wr.heap[w.heap.size + 1 + 1 + 1]? = some o3 ∧ Below w.heap.size w wr := by
  have e : wr.heap = (((w.heap.push R).push o1).push o2).push o3 := by rw [h]; rfl
  have hb : Below w.heap.size w wr := by
    rw [h]
    exact ⟨rfl, rfl, rfl, by show w.heap.size ≤ ((((w.heap.push R).push o1).push o2).push o3).size; simp; omega, fun k hk => by
      show ((((w.heap.push R).push o1).push o2).push o3)[k]? = _
      have h1 : k ≠ w.heap.size := by omega
      have h2 : k ≠ w.heap.size + 1 := by omega
      have h3 : k ≠ w.heap.size + 1 + 1 := by omega
      have h4 : k ≠ w.heap.size + 1 + 1 + 1 := by omega
      simp [Array.getElem?_push, h1, h2, h3, h4]⟩
  rw [e]
  have z1 : (w.heap.push R).size = w.heap.size + 1 := Array.size_push _
  have z2 : ((w.heap.push R).push o1).size = w.heap.size + 1 + 1 := by rw [Array.size_push, z1]
  have z3 : (((w.heap.push R).push o1).push o2).size = w.heap.size + 1 + 1 + 1 := by rw [Array.size_push, z2]
  refine ⟨?_, ?_, ?_, ?_, hb⟩
  · rw [Array.getElem?_push, z3, if_neg (by omega), Array.getElem?_push, z2, if_neg (by omega), Array.getElem?_push, z1, if_neg (by omega), Array.getElem?_push, if_pos rfl]
  · rw [Array.getElem?_push, z3, if_neg (by omega), Array.getElem?_push, z2, if_neg (by omega), Array.getElem?_push, z1, if_pos rfl]
  · rw [Array.getElem?_push, z3, if_neg (by omega), Array.getElem?_push, z2, if_pos rfl]
  · rw [Array.getElem?_push, z3, if_pos rfl]

theorem IdxAt.drew {w wr : World} {b1 b2 bx : Nat} {m : List (ByteArray × ByteArray)} (h : IdxAt w b1 b2 bx m wr) : IdxAt w b1 b2 bx m wr.drew := h.below (Below.refl _ _).drew
theorem IdxAt.nex {w wr : World} {b1 b2 bx : Nat} {m : List (ByteArray × ByteArray)} (h : IdxAt w b1 b2 bx m wr) : bx ≠ b1 ∧ bx ≠ b2 := by
  obtain ⟨e1, c1, h1⟩ := h.m1.isMap
  obtain ⟨e2, c2, h2⟩ := h.m2.isMap
  have hx := h.x
  constructor
  · rintro rfl; rw [hx] at h1; simp at h1
  · rintro rfl; rw [hx] at h2; simp at h2
theorem IdxAt.put {w wr : World} {b1 b2 bx : Nat} {m : List (ByteArray × ByteArray)} (h : IdxAt w b1 b2 bx m wr) (e : ByteArray × ByteArray) (h1 : e.1.size ≤ maxLen) (h2 : e.2.size ≤ maxLen) (hm : m.length < maxLen)
    (f1 : findE m e.1 = none) (f2 : findE (m.map Prod.swap) e.2 = none) :
    ∃ wA wB, (Instr.mapUpdate 243 (.map (some b1)) (.string e.1) (.string e.2)).run Tryz.prog wr = .ok () wA ∧
      (Instr.mapUpdate 243 (.map (some b2)) (.string e.2) (.string e.1)).run Tryz.prog wA = .ok () wB ∧ IdxAt w b1 b2 bx (m ++ [e]) wB ∧
      ∀ (a : Addr) (u : Value), a.block ≠ b1 → a.block ≠ b2 → wr.cell? a = some u → wA.cell? a = some u ∧ wB.cell? a = some u := by
  obtain ⟨n1, n2⟩ := h.nex
  obtain ⟨wA, r1, s1, g1⟩ := h.m1.put e.1 e.2 h1 h2 hm f1
  have m2 := h.m2.kept g1 (by intro hh; injection hh with hh; exact h.ne hh.symm)
  obtain ⟨wB, r2, s2, g2⟩ := m2.put e.2 e.1 h2 h1 (by simpa using hm) f2
  have hne : ∀ {a b : Nat}, a ≠ b → some a ≠ some b := fun hab hh => hab (by injection hh)
  have l1 := h.l1
  have l2 := h.l2
  have hsz := h.bel.size
  refine ⟨wA, wB, r1, r2, ⟨?_, ?_, s1.kept g2 (hne h.ne), ?_, h.l1, h.l2, h.lx, h.ne, ?_⟩, fun a u a1 a2 hu => ?_⟩
  · rw [g2.block bx (Nat.lt_of_lt_of_le h.ltx g1.size) (hne n2), g1.block bx h.ltx (hne n1)]; exact h.x
  · rw [g2.block _ (Nat.lt_of_lt_of_le h.ltr g1.size) (hne (by omega)), g1.block _ h.ltr (hne (by omega))]; exact h.r
  · rw [List.map_append]; exact s2
  · exact (h.bel.grown g1 hsz (fun k e => by injection e with e; omega)).grown g2 (Nat.le_trans hsz g1.size) (fun k e => by injection e with e; omega)
  · have hA := g1.cell hu (hne a1)
    exact ⟨hA, g2.cell hA (hne a2)⟩

/-- what indexBook returns -/
def Indexed (es : List (ByteArray × ByteArray)) (w : World) (e : Ending) (w' : World) : Prop :=
  Below w.heap.size w w' ∧ ((¬ bookV es ∧ e = .returned (.tuple #[.agg #[.map none, .map none], .bool false])) ∨
    (bookV es ∧ ∃ b1 b2, e = .returned (.tuple #[.agg #[.map (some b1), .map (some b2)], .bool true]) ∧ SMap w' b1 es ∧ SMap w' b2 (es.map Prod.swap)))

set_option maxHeartbeats 2000000 in
set_option maxRecDepth 100000 in
theorem index_any (w : World) (A : Option Addr) (cap : Nat) (es : List (ByteArray × ByteArray)) (h : Rd w w.heap.size A (entV es)) (hc : es.length ≤ cap) (hz : ∀ e ∈ es, e.1.size ≤ maxLen ∧ e.2.size ≤ maxLen) :
    Calls Tryz.prog 269 #[.slice A es.length cap] w (Indexed es w) := by
  by_cases hl : 20 < es.length
  · go_enter Tryz.func269, Tryz.ntmps269
    go_wp2_with fail
    exact bodyPost_ret (v := .tuple #[.agg #[.map none, .map none], .bool false]) (by simp [results, Tryz.results269, go_sem]) rfl ⟨(Below.refl _ _).alloc (Nat.le_refl _) _, .inl ⟨fun h => by have := h.1; omega, rfl⟩⟩
  · have hmm := fun (n : Int) (W : World) => makeMap_hint 243 9 9 .i64 n Tryz.underlying243 W
    go_enter Tryz.func269, Tryz.ntmps269
    go_upto_region 3 with fail
    go_cut [4] (fun x wx => Idx w [] x wx)
    case first =>
      go_region
      all_goals (go_wp2_with fail; go_meet)
      all_goals
        obtain ⟨f0, f1, f2, f3, fb⟩ := four w _ _ _ _ _ rfl
        first
          | exact ⟨_, _, _, rfl, ⟨f3, f0, SMap.fresh f1, SMap.fresh f2, by omega, by omega, by omega, by omega, fb⟩⟩
          | exact ⟨_, _, _, rfl, ⟨f3, f0, SMap.fresh f2, SMap.fresh f1, by omega, by omega, by omega, by omega, fb⟩⟩
          | exact ⟨_, _, _, rfl, ⟨f2, f0, SMap.fresh f1, SMap.fresh f3, by omega, by omega, by omega, by omega, fb⟩⟩
          | exact ⟨_, _, _, rfl, ⟨f2, f0, SMap.fresh f3, SMap.fresh f1, by omega, by omega, by omega, by omega, fb⟩⟩
          | exact ⟨_, _, _, rfl, ⟨f1, f0, SMap.fresh f2, SMap.fresh f3, by omega, by omega, by omega, by omega, fb⟩⟩
          | exact ⟨_, _, _, rfl, ⟨f1, f0, SMap.fresh f3, SMap.fresh f2, by omega, by omega, by omega, by omega, fb⟩⟩
    case rest =>
      obtain ⟨b1, b2, bx, rfl, hx⟩ := hcut
      have HX := Lib.hid hx; clear hx hmm
      have R := Lib.hid h; clear h
      have HZ := Lib.hid hz; clear hz
      go_wp2_with fail
      go_loopw [24] (fun i wr => ∃ k : Nat, k ≤ es.length ∧ i = .int .i64 k ∧ bookP (es.take k) ∧ IdxAt w b1 b2 bx (es.take k) wr) (fun i _ => es.length - (intOf i).toNat)
      case atStart => exact ⟨0, Nat.zero_le _, rfl, bookP_nil, HX.out⟩
      case round =>
        obtain ⟨k, hk, rfl, hbk, hix⟩ := hrel
        have HIX := Lib.hid hix; clear hix HX
        have HBK := Lib.hid hbk; clear hbk
        by_cases hlt : k < es.length
        · obtain ⟨e, he⟩ : ∃ e, e = es[k] := ⟨_, rfl⟩
          have hn : entV es ≠ [] := by intro e; have := congrArg List.length e; rw [length_entV, List.length_nil] at this; omega
          obtain ⟨b, off, rfl, hb, hcell⟩ := R.out hn
          have hz1 : e.1.size ≤ maxLen := by rw [he]; exact (HZ.out _ (List.getElem_mem hlt)).1
          have hz2 : e.2.size ≤ maxLen := by rw [he]; exact (HZ.out _ (List.getElem_mem hlt)).2
          have hc0 : wr.cell? ⟨b, off + k * 2, none⟩ = some (.string e.1) := by
            rw [HIX.out.bel.cell (by exact hb), Nat.mul_comm k 2, hcell (2 * k) (by rw [length_entV]; omega), ← List.getElem?_eq_getElem, (entV_at es k hlt).1, he]
          have hc1 : wr.cell? ⟨b, off + k * 2 + 1, none⟩ = some (.string e.2) := by
            rw [HIX.out.bel.cell (by exact hb), Nat.mul_comm k 2, Nat.add_assoc, hcell (2 * k + 1) (by rw [length_entV]; omega), ← List.getElem?_eq_getElem, (entV_at es k hlt).2, he]
          have HE := Lib.hid he; clear he hn hcell
          have HZ1 := Lib.hid hz1; have HZ2 := Lib.hid hz2; clear hz1 hz2
          have hbig := HIX.out.ltr
          have W0 := Lib.hid (HIX.out.below ((Below.refl _ _).alloc (Nat.le_refl _) (.cells #[.string e.1, .string e.2] 242)))
          go_upto_region 7 with fail
          go_cut [55] from 28 to 55 (fun c wx => c = .bool (!entOk e) ∧ IdxAt w b1 b2 bx (es.take k) wx ∧ wx.cell? ⟨wr.heap.size, 0, none⟩ = some (.string e.1) ∧ wx.cell? ⟨wr.heap.size, 1, none⟩ = some (.string e.2))
          case first =>
            clear hc0 hc1
            by_cases h1 : e.1.size < 1
            · go_wp2_with fail
              go_meet
              case rel => exact ⟨by have : ¬ 1 ≤ e.1.size := by omega
                                    simp [entOk, this], W0.out, by simp, by simp⟩
            · by_cases h2 : 8 < e.1.size
              · go_wp2_with fail
                go_meet
                case rel => exact ⟨by have : ¬ e.1.size ≤ 8 := by omega
                                      simp [entOk, this], W0.out, by simp, by simp⟩
              · cases h3 : wv (tl e.1) with
                | false =>
                  have H3 := Lib.hid h3; clear h3
                  go_wp2_with fail
                  refine (wordValid_is e.1 false _ H3.out).mono ?_
                  rintro _ _ ⟨rfl, rfl⟩
                  go_wp2_with fail
                  go_meet
                  case rel => exact ⟨by simp [entOk, H3.out], W0.out, by simp, by simp⟩
                | true =>
                  have H3 := Lib.hid h3; clear h3
                  by_cases h4 : e.2.size = 3
                  · cases h5 : wv (tl e.2) with
                    | false =>
                      have H5 := Lib.hid h5; clear h5
                      go_wp2_with fail
                      refine (wordValid_is e.1 true _ H3.out).mono ?_
                      rintro _ _ ⟨rfl, rfl⟩
                      go_wp2_with fail
                      refine (wordValid_is e.2 false _ H5.out).mono ?_
                      rintro _ _ ⟨rfl, rfl⟩
                      go_wp2_with fail
                      go_meet
                      case rel => exact ⟨by simp [entOk, H5.out], W0.out, by simp, by simp⟩
                    | true =>
                      have H5 := Lib.hid h5; clear h5
                      go_wp2_with fail
                      refine (wordValid_is e.1 true _ H3.out).mono ?_
                      rintro _ _ ⟨rfl, rfl⟩
                      go_wp2_with fail
                      refine (wordValid_is e.2 true _ H5.out).mono ?_
                      rintro _ _ ⟨rfl, rfl⟩
                      go_wp2_with fail
                      go_meet
                      case rel => exact ⟨by have ha : 1 ≤ e.1.size := by omega
                                            have hb : e.1.size ≤ 8 := by omega
                                            have ok : entOk e = true := by unfold entOk; rw [decide_eq_true ha, decide_eq_true hb, H3.out, decide_eq_true h4, H5.out]; rfl
                                            have d1 : decide ((e.1.size : Int) < 1) = false := by simp; omega
                                            have d2 : decide (8 < (e.1.size : Int)) = false := by simp; omega
                                            rw [ok, d1, d2]; rfl, W0.out, by simp, by simp⟩
                  · go_wp2_with fail
                    refine (wordValid_is e.1 true _ H3.out).mono ?_
                    rintro _ _ ⟨rfl, rfl⟩
                    go_wp2_with fail
                    go_meet
                    case rel => exact ⟨by simp [entOk, h4], W0.out, by simp, by simp⟩
          case rest =>
            obtain ⟨rfl, hix, e0, e1⟩ := hcut
            clear hc0 hc1 W0
            have hx0 : wc.cell? ⟨bx, 0, none⟩ = some (.map (some b1)) := by rw [cell_of_row _ _ _ _ _ _ hix.x]; rfl
            have hx1 : wc.cell? ⟨bx, 1, none⟩ = some (.map (some b2)) := by rw [cell_of_row _ _ _ _ _ _ hix.x]; rfl
            have hr0 : wc.cell? ⟨w.heap.size, 0, none⟩ = some (.map none) := by rw [cell_of_row _ _ _ _ _ _ hix.r]; rfl
            have hr1 : wc.cell? ⟨w.heap.size, 1, none⟩ = some (.map none) := by rw [cell_of_row _ _ _ _ _ _ hix.r]; rfl
            have hrf0 : wc.frozen? ⟨w.heap.size, 0, none⟩ = false := frozen_of_row _ _ _ _ _ hix.r
            have hrf1 : wc.frozen? ⟨w.heap.size, 1, none⟩ = false := frozen_of_row _ _ _ _ _ hix.r
            have HI2 := Lib.hid hix; clear hix
            have nb1 := HIX.out.m1.lt
            have nb2 := HIX.out.m2.lt
            clear HIX
            have bad : ¬ bookP (es.take (k + 1)) → ∀ w', Below w.heap.size w w' → Indexed es w (.returned (.tuple #[.agg #[.map none, .map none], .bool false])) w' := fun hn w' hb => ⟨hb, .inl ⟨fun h => hn (bookP_take h.2 _), rfl⟩⟩
            have tk : es.take (k + 1) = es.take k ++ [e] := by rw [List.take_succ_eq_append_getElem hlt, HE.out]
            rw [tk, bookP_snoc] at bad
            have BAD := Lib.hid bad; have TK := Lib.hid tk; clear bad tk
            cases hE : entOk e with
            | false =>
              have HEO := Lib.hid hE; clear hE
              go_wp2_with fail
              refine bodyPost_ret (v := .tuple #[.agg #[.map none, .map none], .bool false]) (by simp [results, Tryz.results269, go_sem, *]) rfl (BAD.out (fun h => by have := h.2.1; rw [HEO.out] at this; cases this) _ ((HI2.out.bel.setCell (Nat.le_refl _) _).setCell (Nat.le_refl _) _))
            | true =>
              have HEO := Lib.hid hE; clear hE
              cases hf1 : findE (es.take k) e.1 with
              | some q =>
                have L1 := HI2.out.m1.look e.1 HZ1.out
                have L2 := HI2.out.m2.look e.2 HZ2.out
                rw [hf1] at L1
                generalize valE (some q) = s1 at L1
                generalize valE (findE ((es.take k).map Prod.swap) e.2) = s2 at L2
                generalize (findE ((es.take k).map Prod.swap) e.2).isSome = q2 at L2
                have HF := Lib.hid hf1; clear hf1
                go_wp2_with fail
                refine bodyPost_ret (v := .tuple #[.agg #[.map none, .map none], .bool false]) (by simp [results, Tryz.results269, go_sem, *]) rfl (BAD.out (fun h => by have := h.2.2.1; rw [HF.out] at this; cases this) _ ((HI2.out.bel.setCell (Nat.le_refl _) _).setCell (Nat.le_refl _) _))
              | none =>
                cases hf2 : findE ((es.take k).map Prod.swap) e.2 with
                | some q =>
                  have L1 := HI2.out.m1.look e.1 HZ1.out
                  have L2 := HI2.out.m2.look e.2 HZ2.out
                  rw [hf1] at L1
                  rw [hf2] at L2
                  generalize valE (some q) = s2 at L2
                  generalize valE none = s1 at L1
                  have HF := Lib.hid hf2; clear hf1 hf2
                  go_wp2_with fail
                  refine bodyPost_ret (v := .tuple #[.agg #[.map none, .map none], .bool false]) (by simp [results, Tryz.results269, go_sem, *]) rfl (BAD.out (fun h => by have := h.2.2.2; rw [HF.out] at this; cases this) _ ((HI2.out.bel.setCell (Nat.le_refl _) _).setCell (Nat.le_refl _) _))
                | none =>
                  have L1 := HI2.out.m1.look e.1 HZ1.out
                  have L2 := HI2.out.m2.look e.2 HZ2.out
                  rw [hf1] at L1
                  rw [hf2] at L2
                  generalize valE none = s1 at L1 L2
                  obtain ⟨wA, wB, p1, p2, hput, hkeep⟩ := HI2.out.drew.put e HZ1.out HZ2.out (by simp [maxLen]; omega) hf1 hf2
                  have hbk : bookP (es.take (k + 1)) := by rw [TK.out, bookP_snoc]; exact ⟨HBK.out, HEO.out, hf1, hf2⟩
                  rw [← TK.out] at hput
                  have nx := HI2.out.nex
                  have SA := And.intro (hkeep _ _ nx.1 nx.2 hx0).1 (And.intro (hkeep _ _ nx.1 nx.2 hx1).1 (And.intro (hkeep ⟨wr.heap.size, 0, none⟩ _ (by show wr.heap.size ≠ b1; omega) (by show wr.heap.size ≠ b2; omega) e0).1 (hkeep ⟨wr.heap.size, 1, none⟩ _ (by show wr.heap.size ≠ b1; omega) (by show wr.heap.size ≠ b2; omega) e1).1))
                  have SB := And.intro (hkeep _ _ nx.1 nx.2 hx0).2 (And.intro (hkeep _ _ nx.1 nx.2 hx1).2 (And.intro (hkeep ⟨wr.heap.size, 0, none⟩ _ (by show wr.heap.size ≠ b1; omega) (by show wr.heap.size ≠ b2; omega) e0).2 (hkeep ⟨wr.heap.size, 1, none⟩ _ (by show wr.heap.size ≠ b1; omega) (by show wr.heap.size ≠ b2; omega) e1).2))
                  have HSA := Lib.hid SA; have HSB := Lib.hid SB
                  have HPUT := Lib.hid hput; have HBK2 := Lib.hid hbk; have P1 := Lib.hid p1; have P2 := Lib.hid p2; clear hput hbk hf1 hf2 p1 p2 hr0 hr1 hrf0 hrf1 SA SB hkeep nx nb1 nb2
                  go_wp2_with fail
                  clear L1 L2
                  have p1 := P1.out
                  have p2 := P2.out
                  go_region_held3 (fun W => W.cell? ⟨bx, 0, none⟩ = some (.map (some b1)) ∧ W.cell? ⟨bx, 1, none⟩ = some (.map (some b2)) ∧ W.cell? ⟨wr.heap.size, 0, none⟩ = some (.string e.1) ∧ W.cell? ⟨wr.heap.size, 1, none⟩ = some (.string e.2)) (first | exact ⟨hx0, hx1, e0, e1⟩ | exact HSA.out | exact HSB.out | assumption) (fail)
                  clear p1 p2
                  go_wp2_with fail
                  go_roundw
                  case rel => exact ⟨k + 1, by omega, by go_num, HBK2.out, HPUT.out⟩
                  case measure => simp [intOf]; omega
        · have hkl : k = es.length := by omega
          subst hkl
          have hix := HIX.out
          have hx0 : wr.cell? ⟨bx, 0, none⟩ = some (.map (some b1)) := by rw [cell_of_row _ _ _ _ _ _ hix.x]; rfl
          have hx1 : wr.cell? ⟨bx, 1, none⟩ = some (.map (some b2)) := by rw [cell_of_row _ _ _ _ _ _ hix.x]; rfl
          have hr0 : wr.cell? ⟨w.heap.size, 0, none⟩ = some (.map none) := by rw [cell_of_row _ _ _ _ _ _ hix.r]; rfl
          have hr1 : wr.cell? ⟨w.heap.size, 1, none⟩ = some (.map none) := by rw [cell_of_row _ _ _ _ _ _ hix.r]; rfl
          have hrf0 : wr.frozen? ⟨w.heap.size, 0, none⟩ = false := frozen_of_row _ _ _ _ _ hix.r
          have hrf1 : wr.frozen? ⟨w.heap.size, 1, none⟩ = false := frozen_of_row _ _ _ _ _ hix.r
          clear hix
          go_wp2_with fail
          refine bodyPost_ret (v := .tuple #[.agg #[.map (some b1), .map (some b2)], .bool true]) (by simp [results, Tryz.results269, go_sem, *]) rfl ?_
          have ht : es.take es.length = es := List.take_of_length_le (Nat.le_refl _)
          have hix := HIX.out
          have hbk := HBK.out
          rw [ht] at hix hbk
          have n1 : b1 ≠ w.heap.size := by have := hix.l1; omega
          have n2 : b2 ≠ w.heap.size := by have := hix.l2; omega
          exact ⟨(hix.bel.setCell (Nat.le_refl _) _).setCell (Nat.le_refl _) _, .inr ⟨⟨by omega, hbk⟩, b1, b2, rfl, (hix.m1.setCell n1 _).setCell n1 _, (hix.m2.setCell n2 _).setCell n2 _⟩⟩

end Go.Proofs.YtipcodebmemkpaaGreatDoor
