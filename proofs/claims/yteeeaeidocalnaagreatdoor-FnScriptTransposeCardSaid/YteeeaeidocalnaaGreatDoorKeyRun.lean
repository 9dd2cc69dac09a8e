/-
  What the commands with a key and a word answer: readWord, showWord, withKey's closure; the law's own rcDash. Conditions: what each theorem names.
-/
import Derived.Test.YteeeaeidocalnaaGreatDoorTransp
import Derived.Test.YteeeaeidocalnaaGreatDoorExecH
namespace Go.Proofs.YteeeaeidocalnaaGreatDoor
open Go.RowKit Pl
set_option linter.unusedVariables false

/-- a word as it is written -/
def dash (s : ByteArray) : ByteArray := if tl s = [] then mk [45] else s
theorem dash_nil {s : ByteArray} (h : tl s = []) : dash s = mk [45] := if_pos h
theorem dash_word {s : ByteArray} (h : tl s ≠ []) : dash s = s := if_neg h
theorem dash_size (s : ByteArray) : (dash s).size ≤ s.size + 1 := by
  unfold dash; split
  · rw [size_mk]; simp
  · omega
theorem dash_ne (s : ByteArray) : tl (dash s) ≠ [] := by
  unfold dash; split
  · rw [tl_mk]; simp
  · assumption
theorem dash_not {s : ByteArray} (h : wv (tl s) = true) {x : UInt8} (hx : x.toNat < 45) : x ∉ tl (dash s) := by
  unfold dash; split
  · rw [tl_mk]; intro hm; simp at hm; subst hm; simp at hx
  · intro hm; have := isL_bounds (wv_mem h hm); omega
theorem nil_of_tl {s : ByteArray} (h : tl s = []) : s = mk [] := by rw [← mk_tl s, h]

theorem rcDash_any (w : World) (s : ByteArray) :
    Calls Tryz.prog 9 #[.string s] w fun e w' => e = .returned (.string (dash s)) ∧ w = w' := by
  by_cases h : tl s = []
  · rw [dash_nil h]
    have hq : s.toList.isEmpty = true := by rw [toList_tl, h]; rfl
    clear h
    go_enter Tryz.func9, Tryz.ntmps9
    go_wp2_with fail
    go_ret
    exact ⟨rfl, rfl⟩
  · rw [dash_word h]
    have hq : s.toList.isEmpty = false := by rw [List.isEmpty_eq_false_iff, toList_tl]; exact h
    clear h
    go_enter Tryz.func9, Tryz.ntmps9
    go_wp2_with fail
    go_ret
    exact ⟨rfl, rfl⟩
theorem showWord_any (w : World) (s : ByteArray) :
    Calls Tryz.prog 128 #[.string s] w fun e w' => e = .returned (.string (dash s)) ∧ w = w' := by
  by_cases h : tl s = []
  · rw [dash_nil h]
    have hq : s.toList.isEmpty = true := by rw [toList_tl, h]; rfl
    clear h
    go_enter Tryz.func128, Tryz.ntmps128
    go_wp2_with fail
    go_ret
    exact ⟨rfl, rfl⟩
  · rw [dash_word h]
    have hq : s.toList.isEmpty = false := by rw [List.isEmpty_eq_false_iff, toList_tl]; exact h
    clear h
    go_enter Tryz.func128, Tryz.ntmps128
    go_wp2_with fail
    go_ret
    exact ⟨rfl, rfl⟩
theorem readWord_ok (w : World) (s : ByteArray) (hs : wv (tl s) = true) :
    Calls Tryz.prog 126 #[.string (dash s)] w fun e w' => e = .returned (.tuple #[.string s, .bool true]) ∧ w = w' := by
  by_cases h : tl s = []
  · rw [dash_nil h, nil_of_tl h]
    have hd : ((mk [45]).toList == [45]) = true := by rw [toList_tl, tl_mk]; rfl
    clear h hs
    go_enter Tryz.func126, Tryz.ntmps126
    go_wp2_with fail
    go_ret2
    exact ⟨rfl, rfl⟩
  · rw [dash_word h]
    have hq : s.toList.isEmpty = false := by rw [List.isEmpty_eq_false_iff, toList_tl]; exact h
    have hd : (s.toList == [45]) = false := by
      rw [beq_eq_false_iff_ne, toList_tl]
      intro e
      have := isL_bounds (wv_mem hs (show (45 : UInt8) ∈ tl s by rw [e]; simp))
      simp at this
    have HS := Lib.hid hs; clear h hs
    go_enter Tryz.func126, Tryz.ntmps126
    go_wp2_with fail
    refine (wordValid_is _ true _ HS.out).mono ?_
    rintro _ _ ⟨rfl, rfl⟩
    go_wp2_with fail
    go_ret2
    exact ⟨rfl, rfl⟩

theorem _root_.Go.World.ownsRow.drewN2 {w : World} {base : Nat} {e : TypeId} {size : Nat} {v : Value} {n : Nat} {xs : List Value} (h : w.ownsRow base e size v n xs) : w.drew.ownsRow base e size v n xs := h

set_option maxHeartbeats 8000000 in
set_option maxRecDepth 100000 in
theorem withKey_run (w : World) (d : Dk) (a : At) (FN B p : Nat) (key wd out : ByteArray) (s : ByteArray) (eg : ∀ args w, (callFunc FN args).run Tryz.prog w = .ok (.enter FN args) w)
    (hap : ∀ w', Calls Tryz.prog FN #[.string wd, .string key] w' fun e w'' => e = .returned (.tuple #[.string out, .bool true]) ∧ Below w'.heap.size w' w'')
    (hk : keyV (tl key) = true) (hw : wv (tl wd) = true) (ho : Own d a w) (hp : w.heap[p]? = some (.cells #[fnV FN] 26 (0, 0)))
    (hr : Rd w (B + 1) (some ⟨B, 0, none⟩) (strV [key, dash wd])) (hB : B + 1 ≤ w.heap.size) :
    Calls Tryz.prog 156 #[dkV d a, .string s, .slice (some ⟨B, 0, none⟩) 2 2, .pointer (some ⟨p, 0, none⟩)] w (Answered d (dash out) w) := by
  obtain ⟨b0, o0, e0, _, c0⟩ := hr.str (k := 0) (by simp)
  obtain ⟨b1, o1, e1, _, c1⟩ := hr.str (k := 1) (by simp)
  simp only [Option.some.injEq, Addr.mk.injEq, and_true] at e0 e1
  obtain ⟨rfl, rfl⟩ := e0
  obtain ⟨rfl, rfl⟩ := e1
  simp only [Nat.zero_add, List.getElem_cons_zero, List.getElem_cons_succ] at c0 c1
  obtain ⟨kw, kl, _⟩ := keyV_iff.1 hk
  have hkd : dash key = key := dash_word (fun e => by rw [e] at kl; simp at kl)
  rw [← hkd] at c0
  have cp := cell_of_row w p 0 _ _ _ hp
  unfold fnV at cp
  have hpl := (Array.getElem?_eq_some_iff.1 hp).1
  have hb := bel_two (w := w) (.cells (dkC d a) 56) (.cells #[.slice none 0 0, .string ⟨#[]⟩, .string ⟨#[]⟩, .string ⟨#[]⟩, .string ⟨#[]⟩, .slice none 0 0] 56)
  have hdk := heap_alloc_new (w.alloc (.cells (dkC d a) 56)) (.cells #[.slice none 0 0, .string ⟨#[]⟩, .string ⟨#[]⟩, .string ⟨#[]⟩, .string ⟨#[]⟩, .slice none 0 0] 56)
  rw [szalloc] at hdk
  have HB := Lib.hid hb; have HDK := Lib.hid hdk; have HO := Lib.hid ho; have HW := Lib.hid hw; have HKW := Lib.hid kw; have HAP := Lib.hid hap
  replace c0 := cell_alloc2 (cell_alloc2 c0 (.cells (dkC d a) 56)) (.cells #[.slice none 0 0, .string ⟨#[]⟩, .string ⟨#[]⟩, .string ⟨#[]⟩, .string ⟨#[]⟩, .slice none 0 0] 56)
  replace c1 := cell_alloc2 (cell_alloc2 c1 (.cells (dkC d a) 56)) (.cells #[.slice none 0 0, .string ⟨#[]⟩, .string ⟨#[]⟩, .string ⟨#[]⟩, .string ⟨#[]⟩, .slice none 0 0] 56)
  replace cp := cell_alloc2 (cell_alloc2 cp (.cells (dkC d a) 56)) (.cells #[.slice none 0 0, .string ⟨#[]⟩, .string ⟨#[]⟩, .string ⟨#[]⟩, .string ⟨#[]⟩, .slice none 0 0] 56)
  clear hb hdk ho hw kw hap hk kl hp hr hkd
  go_enter Tryz.func156, Tryz.ntmps156
  go_wp2_with fail
  refine (readWord_ok _ key HKW.out).mono ?_
  rintro _ _ ⟨rfl, rfl⟩
  go_wp2_with fail
  refine (readWord_ok _ wd HW.out).mono ?_
  rintro _ _ ⟨rfl, rfl⟩
  go_wp2_with fail
  refine (HAP.out _).mono ?_
  rintro _ w4 ⟨rfl, hb4⟩
  obtain ⟨hcl, hfr⟩ := bcell hb4
  have hzz : w.heap.size + 1 < w4.heap.size := by have := hb4.size; simp at this; omega
  have hdk4 := block_below HDK.out hb4
  have ho4 := HO.out.below (HB.out.trans (hb4.mono HB.out.size))
  have HB4 := Lib.hid (HB.out.trans (hb4.mono HB.out.size)); have HDK4 := Lib.hid hdk4; have HO4 := Lib.hid ho4
  clear hb4 hdk4 ho4 c0 c1 cp HAP
  go_wp2_with fail
  go_region_with (go_at_call 128; refine (showWord_any _ _).mono ?_; rintro _ _ ⟨rfl, rfl⟩)
  all_goals
    go_wp2_with fail
    refine bodyPost_ret (v := .tuple #[dkV d a, .string (dash out)]) (by simp [results, Tryz.results156, go_sem, hcl]) rfl ⟨a, rfl, ⟨?_, ?_⟩, ?_⟩
    · exact World.ownsRow.drewN2 (HO4.out.r.kept (only_six _ (w.heap.size + 1) _ _ _ _ _ _) (own_ne HO4.out.r HDK4.out (by decide)))
    · exact World.ownsRow.drewN2 (HO4.out.b.kept (only_six _ (w.heap.size + 1) _ _ _ _ _ _) (own_ne HO4.out.b HDK4.out (by decide)))
    · exact (bel_six HB4.out (by omega) _ _ _ _ _ _).drew

end Go.Proofs.YteeeaeidocalnaaGreatDoor
