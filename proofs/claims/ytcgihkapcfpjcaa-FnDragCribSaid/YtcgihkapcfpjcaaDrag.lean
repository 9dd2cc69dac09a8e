/-
  Contracts of DragCrib, of the program and of the reference, and of rcTexts. No conditions but those that each theorem names.
-/
import Derived.Test.YtcgihkapcfpjcaaPlainE
import Derived.Test.YtcgihkapcfpjcaaRev
import Derived.Test.YtcgihkapcfpjcaaComb
import Derived.Test.YtcgihkapcfpjcaaMinus
import Derived.Test.YtcgihkapcfpjcaaFrame
import Derived.Laws.AppendOwn
import Derived.OwnWalk
import Derived.BigQuiet
namespace Go.Proofs.Ytcgihkapcfpjcaa
open Go.RowKit Pl
set_option linter.unusedVariables false

theorem Try.infoS : (Try.prog.info? 9).map (fun i => (i.zero, i.size, i.bytes)) = some (some (.string ByteArray.empty), 1, 16) := by kernel_rfl
theorem Try.undS : Try.prog.underlying 42 = some (.slice 9) := by kernel_rfl
theorem one_new (w : World) (u : Value) (t : TypeId) : ∀ j x, [u][j]? = some x → (w.alloc (.cells #[u] t)).cell? ((⟨w.heap.size, 0, none⟩ : Addr).add j) = some x := by
  intro j x hj
  match j, hj with
  | 0, hj => simp at hj; subst hj; simp [Addr.add]
  | j + 1, hj => simp at hj
theorem one_cell {s : ByteArray} : ∀ u ∈ [Value.string s], u.oneCell' = true := by intro u hu; simp at hu; subst hu; rfl
theorem strV_snoc {l : List ByteArray} {k : Nat} (h : k < l.length) : strV (l.take k) ++ [Value.string l[k]] = strV (l.take (k + 1)) := by
  rw [List.take_succ_eq_append_getElem h]; simp only [strV, List.map_append, List.map_cons, List.map_nil]
theorem ownsRow_below {w w' : World} {base : Nat} {e : TypeId} {size : Nat} {v : Value} {n : Nat} {xs : List Value} (h : w.ownsRow base e size v n xs) (hb : Below w.heap.size w w') : w'.ownsRow base e size v n xs :=
  h.kept (only_of_below hb none) (by cases hv : v.ownBlock <;> simp)
theorem ownsRow_rd {w : World} {base : Nat} {e : TypeId} {v : Value} {n : Nat} {xs : List Value} (h : w.ownsRow base e 1 v n xs) :
    ∃ A cap, v = .slice A n cap ∧ n ≤ cap ∧ cap ≤ maxLen ∧ Rd w w.heap.size A xs := by
  have h0 := h
  obtain ⟨h1, ⟨rfl, rfl⟩ | ⟨g, cap, cur, rfl, h2, h3, h4, h5, h6⟩⟩ := h
  · refine ⟨none, 0, rfl, Nat.le_refl _, Nat.zero_le _, ?_⟩
    intro hn; exact absurd (List.length_eq_zero_iff.1 (by simpa using h1)) hn
  · refine ⟨some ⟨g, 0, none⟩, cap, rfl, h4, h5, fun _ => ⟨g, 0, rfl, (Array.getElem?_eq_some_iff.1 h3).1, fun j hj => ?_⟩⟩
    have := h0.cells (g := g) rfl j xs[j] (by simp [hj])
    rw [add_none] at this; exact this

/-- the callee has made the list l -/
def Listed (l : List ByteArray) (w : World) (e : Ending) (w' : World) : Prop := ∃ v, e = .returned v ∧ w'.ownsRow w.heap.size 9 1 v l.length (strV l) ∧ Below w.heap.size w w'

theorem drag_more {w wr w3 w4 : World} {v v' : Value} {l : List ByteArray} {k : Nat} {s : ByteArray} (hk : k < l.length) (hs : s = l[k]) (hown : wr.ownsRow w.heap.size 9 1 v k (strV (l.take k)))
    (hb : Below w.heap.size w w3) (ho' : w4.ownsRow w.heap.size 9 1 v' (k + 1) (strV (l.take k) ++ [Value.string s])) (hg : (w3.alloc (.cells #[.string s] 9)).grownBy w4 v.ownBlock) :
    w4.ownsRow w.heap.size 9 1 v' (k + 1) (strV (l.take (k + 1))) ∧ Below w.heap.size w w4 := by
  subst hs
  rw [strV_snoc hk] at ho'
  exact ⟨ho', (hb.alloc hb.size _).grown hg (Nat.le_trans hb.size (by simp)) fun k' e => (hown.lt k' e).1⟩

set_option maxHeartbeats 4000000 in
theorem dragCrib_any (v c x : ByteArray) (w : World) (hv : v.size ≤ 1000) (hc : c.size ≤ 1000) (hx : x.size ≤ 1000) :
    Calls Try.prog 49 #[.string v, .string c, .string x] w (Listed (dragL (tl v) (tl c) (tl x)) w) := by
  cases ok : dragOk (tl v) (tl c) (tl x) with
  | false =>
    have hno : (dragL (tl v) (tl c) (tl x)) = [] := dragL_no ok
    rw [hno]; clear hno
    have fin : Listed [] w (.returned (.slice none 0 0)) w := ⟨_, rfl, World.ownsRow_nil _ _ _ _, Below.refl _ _⟩
    have FIN := Lib.hid fin; clear fin
    cases h1 : wv (tl v) with
    | false =>
      have H1 := Lib.hid h1; clear h1 ok
      go_enter Try.func49, Try.ntmps49
      go_wp2_with fail
      refine (wordValid_is v false _ H1.out).mono ?_
      rintro e w' ⟨rfl, rfl⟩
      go_wp2_with fail
      go_ret
      exact FIN.out
    | true =>
      cases h2 : wv (tl c) with
      | false =>
        have H1 := Lib.hid h1; clear h1 ok
        have H2 := Lib.hid h2; clear h2
        go_enter Try.func49, Try.ntmps49
        go_wp2_with fail
        refine (wordValid_is v true _ H1.out).mono ?_
        rintro e w' ⟨rfl, rfl⟩
        go_wp2_with fail
        refine (wordValid_is c false _ H2.out).mono ?_
        rintro e w' ⟨rfl, rfl⟩
        go_wp2_with fail
        go_ret
        exact FIN.out
      | true =>
        cases h3 : wv (tl x) with
        | false =>
          have H1 := Lib.hid h1; clear h1 ok
          have H2 := Lib.hid h2; clear h2
          have H3 := Lib.hid h3; clear h3
          go_enter Try.func49, Try.ntmps49
          go_wp2_with fail
          refine (wordValid_is v true _ H1.out).mono ?_
          rintro e w' ⟨rfl, rfl⟩
          go_wp2_with fail
          refine (wordValid_is c true _ H2.out).mono ?_
          rintro e w' ⟨rfl, rfl⟩
          go_wp2_with fail
          refine (wordValid_is x false _ H3.out).mono ?_
          rintro e w' ⟨rfl, rfl⟩
          go_wp2_with fail
          go_ret
          exact FIN.out
        | true =>
          have hne : (((v.size : Nat) : Int) != (x.size : Int)) = true := by
            simp [dragOk, h1, h2, h3, length_tl] at ok
            rw [bne_iff_ne]; omega
          have H1 := Lib.hid h1; clear h1 ok
          have H2 := Lib.hid h2; clear h2
          have H3 := Lib.hid h3; clear h3
          go_enter Try.func49, Try.ntmps49
          go_wp2_with fail
          refine (wordValid_is v true _ H1.out).mono ?_
          rintro e w' ⟨rfl, rfl⟩
          go_wp2_with fail
          refine (wordValid_is c true _ H2.out).mono ?_
          rintro e w' ⟨rfl, rfl⟩
          go_wp2_with fail
          refine (wordValid_is x true _ H3.out).mono ?_
          rintro e w' ⟨rfl, rfl⟩
          go_wp2_with fail
          go_ret
          exact FIN.out
  | true =>
    obtain ⟨h1, h2, h3, h4⟩ := dragOk_parts ok
    have hN := length_dragL ok
    rw [length_tl, length_tl] at hN h4
    have hne : (((v.size : Nat) : Int) != (x.size : Int)) = false := by rw [h4]; simp
    have hzx : x.size ≤ v.size := by omega
    have hzx' : v.size ≤ x.size := by omega
    have one : ∀ k, k + c.size ≤ v.size → ∃ a, combineW 9 (tl (v.extract k (k + c.size))) (tl c) = some a ∧ combineW 9 (tl (x.extract k (k + c.size))) a = some (dragAt (tl v) (tl c) (tl x) k) := by
      intro k hk
      have hcl : c.size = (tl c).length := (length_tl c).symm
      have a1 : tl (v.extract k (k + c.size)) = ((tl v).drop k).take (tl c).length := by rw [extract_mk', tl_mk, hcl]; congr 1; omega
      have a2 : tl (x.extract k (k + c.size)) = ((tl x).drop k).take (tl c).length := by rw [extract_mk', tl_mk, hcl]; congr 1; omega
      have b1 : (((tl v).drop k).take (tl c).length).length = (tl c).length := by simp [length_tl]; omega
      have b2 : (((tl x).drop k).take (tl c).length).length = (tl c).length := by simp [length_tl]; omega
      have b3 : (minusL (((tl v).drop k).take (tl c).length) (tl c)).length = (tl c).length := by rw [length_minusL _ _ (by omega)]
      refine ⟨minusL (((tl v).drop k).take (tl c).length) (tl c), ?_, ?_⟩
      · rw [a1, combineW_ok ⟨part_wv h1 _ _, h2, b1⟩, combine_minus fun y hy => wv_mem h2 hy]
      · rw [a2, combineW_ok ⟨part_wv h3 _ _, wv_minus h2, by omega⟩, combine_minus fun y hy => wv_mem (wv_minus h2) hy]; rfl
    have ONE := Lib.hid one; clear one
    have get : ∀ k (hk : k < (dragL (tl v) (tl c) (tl x)).length), mk (dragAt (tl v) (tl c) (tl x) k) = (dragL (tl v) (tl c) (tl x))[k] := fun k hk => (dragL_get ok k hk).symm
    have GET := Lib.hid get; clear get
    generalize dragL (tl v) (tl c) (tl x) = l at *
    generalize dragAt (tl v) (tl c) (tl x) = dA at *
    have H1 := Lib.hid h1; clear h1 ok
    have H2 := Lib.hid h2; clear h2
    have H3 := Lib.hid h3; clear h3 h4
    obtain ⟨iS, hi, hz0, hz1, hz2⟩ := info_parts Try.infoS
    have HI := Lib.hid hi; have HZ0 := Lib.hid hz0; have HZ1 := Lib.hid hz1; have HZ2 := Lib.hid hz2
    clear hi hz0 hz1 hz2
    go_enter Try.func49, Try.ntmps49
    go_wp2_with fail
    refine (wordValid_is v true _ H1.out).mono ?_
    rintro e w' ⟨rfl, rfl⟩
    go_wp2_with fail
    refine (wordValid_is c true _ H2.out).mono ?_
    rintro e w' ⟨rfl, rfl⟩
    go_wp2_with fail
    refine (wordValid_is x true _ H3.out).mono ?_
    rintro e w' ⟨rfl, rfl⟩
    go_wp2_with fail
    go_loopw [7, 8] (fun o i wr => ∃ k : Nat, k ≤ l.length ∧ i = .int .i64 k ∧ wr.ownsRow w.heap.size 9 1 o k (strV (l.take k)) ∧ Below w.heap.size w wr) (fun _ i _ => l.length - (intOf i).toNat)
    case atStart => exact ⟨0, Nat.zero_le _, rfl, World.ownsRow_nil _ _ _ _, Below.refl _ _⟩
    case round =>
      obtain ⟨k, hk, rfl, hown, hbl⟩ := hrel
      have HBL := Lib.hid hbl; clear hbl
      have HOWN := Lib.hid hown; clear hown
      by_cases hlt : k < l.length
      · have hle : k + c.size ≤ v.size := by omega
        obtain ⟨a, ha1, ha2⟩ := ONE.out k hle
        have HA1 := Lib.hid ha1; have HA2 := Lib.hid ha2; clear ha1 ha2
        go_wp2_with fail
        refine (subWords_some _ c a _ HA1.out).mono ?_
        rintro e w2 ⟨rfl, hb2⟩
        have HO2 := Lib.hid (ownsRow_below HOWN.out hb2)
        have HB2 := Lib.hid (HBL.out.trans (hb2.mono HBL.out.size)); clear hb2
        go_wp2_with fail
        refine (subWords_some _ (mk a) (dA k) _ (by rw [tl_mk]; exact HA2.out)).mono ?_
        rintro e w3 ⟨rfl, hb3⟩
        have HO3 := Lib.hid (ownsRow_below HO2.out hb3)
        have HB3 := Lib.hid (HB2.out.trans (hb3.mono HB2.out.size)); clear hb3
        go_wp2_with (at_builtin; refine wpList_append_own _ rfl _ _ 42 rfl w.heap.size 9 iS (.string ByteArray.empty) 1 16 Try.undS HI.out HZ0.out HZ1.out HZ2.out rfl (by decide) _ k _ rfl (HO3.out.alloc _) ⟨w3.heap.size, 0, none⟩ 1 1 [.string (mk (dA k))] rfl rfl (one_new w3 _ _) one_cell (by unfold maxLen; omega) (by omega) (by have := HB3.out.size; simp; omega) ?_)
        intro o' w4 ho' hg' _
        obtain ⟨r1, r2⟩ := drag_more hlt (GET.out k hlt) HO3.out HB3.out ho' hg'
        clear ho' hg'
        have R1 := Lib.hid r1; have R2 := Lib.hid r2; clear r1 r2
        go_wp2_with fail
        go_roundw
        case rel => exact ⟨k + 1, by omega, by go_num, R1.out, R2.out⟩
        case measure => simp [intOf]; omega
      · have hkl : k = l.length := by omega
        subst hkl
        go_wp2_with fail
        go_ret
        exact ⟨_, rfl, by have := HOWN.out; rwa [List.take_of_length_le (Nat.le_refl _)] at this, HBL.out⟩

set_option maxHeartbeats 4000000 in
theorem sDragCrib_any (v c x : ByteArray) (w : World) (hv : v.size ≤ 1000) (hc : c.size ≤ 1000) (hx : x.size ≤ 1000) :
    Calls Try.prog 51 #[.string v, .string c, .string x] w (Listed (dragL (tl v) (tl c) (tl x)) w) := by
  cases ok : dragOk (tl v) (tl c) (tl x) with
  | false =>
    have hno : (dragL (tl v) (tl c) (tl x)) = [] := dragL_no ok
    rw [hno]; clear hno
    have fin : Listed [] w (.returned (.slice (some ⟨w.heap.size, 0, none⟩) 0 0)) (w.alloc (.cells #[] 9)) := ⟨_, rfl, World.ownsRow_made w #[] 0 (Nat.le_refl _) (by decide) rfl, (Below.refl _ _).alloc (Nat.le_refl _) _⟩
    have FIN := Lib.hid fin; clear fin
    cases h1 : wv (tl v) with
    | false =>
      have H1 := Lib.hid h1; clear h1 ok
      go_enter Try.func51, Try.ntmps51
      go_wp2_with fail
      refine (sWordValid_is v false _ H1.out).mono ?_
      rintro e w' ⟨rfl, rfl⟩
      go_wp2_with fail
      go_ret
      exact FIN.out
    | true =>
      cases h2 : wv (tl c) with
      | false =>
        have H1 := Lib.hid h1; clear h1 ok
        have H2 := Lib.hid h2; clear h2
        go_enter Try.func51, Try.ntmps51
        go_wp2_with fail
        refine (sWordValid_is v true _ H1.out).mono ?_
        rintro e w' ⟨rfl, rfl⟩
        go_wp2_with fail
        refine (sWordValid_is c false _ H2.out).mono ?_
        rintro e w' ⟨rfl, rfl⟩
        go_wp2_with fail
        go_ret
        exact FIN.out
      | true =>
        cases h3 : wv (tl x) with
        | false =>
          have H1 := Lib.hid h1; clear h1 ok
          have H2 := Lib.hid h2; clear h2
          have H3 := Lib.hid h3; clear h3
          go_enter Try.func51, Try.ntmps51
          go_wp2_with fail
          refine (sWordValid_is v true _ H1.out).mono ?_
          rintro e w' ⟨rfl, rfl⟩
          go_wp2_with fail
          refine (sWordValid_is c true _ H2.out).mono ?_
          rintro e w' ⟨rfl, rfl⟩
          go_wp2_with fail
          refine (sWordValid_is x false _ H3.out).mono ?_
          rintro e w' ⟨rfl, rfl⟩
          go_wp2_with fail
          go_ret
          exact FIN.out
        | true =>
          have hne : (((v.size : Nat) : Int) != (x.size : Int)) = true := by
            simp [dragOk, h1, h2, h3, length_tl] at ok
            rw [bne_iff_ne]; omega
          have H1 := Lib.hid h1; clear h1 ok
          have H2 := Lib.hid h2; clear h2
          have H3 := Lib.hid h3; clear h3
          go_enter Try.func51, Try.ntmps51
          go_wp2_with fail
          refine (sWordValid_is v true _ H1.out).mono ?_
          rintro e w' ⟨rfl, rfl⟩
          go_wp2_with fail
          refine (sWordValid_is c true _ H2.out).mono ?_
          rintro e w' ⟨rfl, rfl⟩
          go_wp2_with fail
          refine (sWordValid_is x true _ H3.out).mono ?_
          rintro e w' ⟨rfl, rfl⟩
          go_wp2_with fail
          go_ret
          exact FIN.out
  | true =>
    obtain ⟨h1, h2, h3, h4⟩ := dragOk_parts ok
    have hN := length_dragL ok
    rw [length_tl, length_tl] at hN h4
    have hne : (((v.size : Nat) : Int) != (x.size : Int)) = false := by rw [h4]; simp
    have hzx : x.size ≤ v.size := by omega
    have hzx' : v.size ≤ x.size := by omega
    have one : ∀ k, k + c.size ≤ v.size → ∃ a, mk (minusL (tl (v.extract k v.size)) (tl c)) = mk a ∧ (∀ y ∈ a, isL y = true) ∧ a.length = c.size ∧ mk (minusL (tl (x.extract k x.size)) a) = mk (dragAt (tl v) (tl c) (tl x) k) := by
      intro k hk
      have hcl : c.size = (tl c).length := (length_tl c).symm
      have a1 : tl (v.extract k v.size) = (tl v).drop k := by rw [extract_mk', tl_mk, List.take_of_length_le (by simp [length_tl])]
      have a2 : tl (x.extract k x.size) = (tl x).drop k := by rw [extract_mk', tl_mk, List.take_of_length_le (by simp [length_tl])]
      have b3 : (minusL ((tl v).drop k) (tl c)).length = (tl c).length := by rw [length_minusL _ _ (by simp [length_tl]; omega)]
      refine ⟨minusL ((tl v).drop k) (tl c), by rw [a1], minusL_letters fun y hy => wv_mem h2 hy, by omega, ?_⟩
      have e1 := minus_short ((tl v).drop k) (tl c)
      have e2 := minus_short ((tl x).drop k) (minusL ((tl v).drop k) (tl c))
      rw [b3] at e2
      rw [a2, dragAt, e1, e2]
    have let1 : ∀ k, ∀ y ∈ tl (v.extract k v.size), isL y = true := by
      intro k y hy
      rw [extract_mk', tl_mk] at hy
      exact wv_mem h1 (List.mem_of_mem_drop (List.mem_of_mem_take hy))
    have let3 : ∀ k, ∀ y ∈ tl (x.extract k x.size), isL y = true := by
      intro k y hy
      rw [extract_mk', tl_mk] at hy
      exact wv_mem h3 (List.mem_of_mem_drop (List.mem_of_mem_take hy))
    have let2 : ∀ y ∈ tl c, isP y = true := fun y hy => isP_of_isL (wv_mem h2 hy)
    have L1 := Lib.hid let1; have L2 := Lib.hid let2; have L3 := Lib.hid let3; clear let1 let2 let3
    have ONE := Lib.hid one; clear one
    have get : ∀ k (hk : k < (dragL (tl v) (tl c) (tl x)).length), mk (dragAt (tl v) (tl c) (tl x) k) = (dragL (tl v) (tl c) (tl x))[k] := fun k hk => (dragL_get ok k hk).symm
    have GET := Lib.hid get; clear get
    generalize dragL (tl v) (tl c) (tl x) = l at *
    generalize dragAt (tl v) (tl c) (tl x) = dA at *
    have H1 := Lib.hid h1; clear h1 ok
    have H2 := Lib.hid h2; clear h2
    have H3 := Lib.hid h3; clear h3 h4
    obtain ⟨iS, hi, hz0, hz1, hz2⟩ := info_parts Try.infoS
    have HI := Lib.hid hi; have HZ0 := Lib.hid hz0; have HZ1 := Lib.hid hz1; have HZ2 := Lib.hid hz2
    clear hi hz0 hz1 hz2
    have EMP := Lib.hid (World.ownsRow_made (base := w.heap.size) (e := 9) (size := 1) w #[] 0 (Nat.le_refl _) (by decide) rfl)
    go_enter Try.func51, Try.ntmps51
    go_wp2_with fail
    refine (sWordValid_is v true _ H1.out).mono ?_
    rintro e w' ⟨rfl, rfl⟩
    go_wp2_with fail
    refine (sWordValid_is c true _ H2.out).mono ?_
    rintro e w' ⟨rfl, rfl⟩
    go_wp2_with fail
    refine (sWordValid_is x true _ H3.out).mono ?_
    rintro e w' ⟨rfl, rfl⟩
    go_wp2_with fail
    go_loopw [7, 8] (fun o i wr => ∃ k : Nat, k ≤ l.length ∧ i = .int .i64 k ∧ wr.ownsRow w.heap.size 9 1 o k (strV (l.take k)) ∧ Below w.heap.size w wr) (fun _ i _ => l.length - (intOf i).toNat)
    case atStart => exact ⟨0, Nat.zero_le _, rfl, EMP.out, (Below.refl _ _).alloc (Nat.le_refl _) _⟩
    case round =>
      obtain ⟨k, hk, rfl, hown, hbl⟩ := hrel
      have HBL := Lib.hid hbl; clear hbl
      have HOWN := Lib.hid hown; clear hown
      by_cases hlt : k < l.length
      · have hle : k + c.size ≤ v.size := by omega
        obtain ⟨a, ha1, ha2, ha3, ha4⟩ := ONE.out k hle
        have HA1 := Lib.hid ha1; have HA2 := Lib.hid ha2; have HA4 := Lib.hid ha4; clear ha1 ha2 ha4
        have hkv : (k : Int) ≤ (v.size : Int) := by omega
        have hkx : (k : Int) ≤ (x.size : Int) := by omega
        go_wp2_with fail
        refine (l18Minus_any (v.extract k v.size) c _ (L1.out k) L2.out (by simp [ByteArray.size_extract]; omega) (by simp [ByteArray.size_extract]; omega)).mono ?_
        rintro e w2 ⟨rfl, hb2⟩
        rw [HA1.out]
        have HO2 := Lib.hid (ownsRow_below HOWN.out hb2)
        have HB2 := Lib.hid (HBL.out.trans (hb2.mono HBL.out.size)); clear hb2
        go_wp2_with fail
        refine (l18Minus_any (x.extract k x.size) (mk a) _ (L3.out k) (by rw [tl_mk]; exact fun y hy => isP_of_isL (HA2.out y hy)) (by rw [size_mk]; simp [ByteArray.size_extract]; omega) (by simp [ByteArray.size_extract]; omega)).mono ?_
        rintro e w3 ⟨rfl, hb3⟩
        rw [tl_mk, HA4.out]
        have HO3 := Lib.hid (ownsRow_below HO2.out hb3)
        have HB3 := Lib.hid (HB2.out.trans (hb3.mono HB2.out.size)); clear hb3
        go_wp2_with (at_builtin; refine wpList_append_own _ rfl _ _ 42 rfl w.heap.size 9 iS (.string ByteArray.empty) 1 16 Try.undS HI.out HZ0.out HZ1.out HZ2.out rfl (by decide) _ k _ rfl (HO3.out.alloc _) ⟨w3.heap.size, 0, none⟩ 1 1 [.string (mk (dA k))] rfl rfl (one_new w3 _ _) one_cell (by unfold maxLen; omega) (by omega) (by have := HB3.out.size; simp; omega) ?_)
        intro o' w4 ho' hg' _
        obtain ⟨r1, r2⟩ := drag_more hlt (GET.out k hlt) HO3.out HB3.out ho' hg'
        clear ho' hg'
        have R1 := Lib.hid r1; have R2 := Lib.hid r2; clear r1 r2
        go_wp2_with fail
        go_roundw
        case rel => exact ⟨k + 1, by omega, by go_num, R1.out, R2.out⟩
        case measure => simp [intOf]; omega
      · have hkl : k = l.length := by omega
        subst hkl
        go_wp2_with fail
        go_ret
        exact ⟨_, rfl, by have := HOWN.out; rwa [List.take_of_length_le (Nat.le_refl _)] at this, HBL.out⟩

set_option maxHeartbeats 4000000 in
/-- two slices of the same strings are equal -/
theorem rcTexts_same (w : World) (A1 A2 : Option Addr) (c1 c2 : Nat) (l : List ByteArray) (h1 : Rd w w.heap.size A1 (strV l)) (h2 : Rd w w.heap.size A2 (strV l)) (hl : l.length ≤ 1000000) (k1 : l.length ≤ c1) (k2 : l.length ≤ c2) :
    Calls Try.prog 50 #[.slice A1 l.length c1, .slice A2 l.length c2] w fun e w' => e = .returned (.bool true) ∧ Below w.heap.size w w' := by
  have R1 := Lib.hid h1; have R2 := Lib.hid h2; clear h1 h2
  go_enter Try.func50, Try.ntmps50
  go_wp2_with fail
  go_loopw [5] (fun i wr => ∃ k : Nat, k ≤ l.length ∧ i = .int .i64 k ∧ Below w.heap.size w wr) (fun i _ => l.length - (intOf i).toNat)
  case atStart => exact ⟨0, Nat.zero_le _, rfl, Below.refl _ _⟩
  case round =>
    obtain ⟨k, hk, rfl, hbl⟩ := hrel
    have HBL := Lib.hid hbl; clear hbl
    by_cases hlt : k < l.length
    · have hn : strV l ≠ [] := by intro e; have := congrArg List.length e; rw [length_strV, List.length_nil] at this; omega
      obtain ⟨b1, o1, rfl, _, hc1⟩ := (R1.out.below HBL.out) hn
      obtain ⟨b2, o2, rfl, _, hc2⟩ := (R2.out.below HBL.out) hn
      have hx1 : wr.cell? ⟨b1, o1 + k, none⟩ = some (.string l[k]) := by rw [hc1 k (by rw [length_strV]; exact hlt)]; simp [strV]
      have hx2 : wr.cell? ⟨b2, o2 + k, none⟩ = some (.string l[k]) := by rw [hc2 k (by rw [length_strV]; exact hlt)]; simp [strV]
      clear hc1 hc2 hn
      go_wp2_with fail
      go_quiet (fail)
      go_wp2_with fail
      go_roundw
      case rel => exact ⟨k + 1, by omega, by go_num, below_drewN' HBL.out _⟩
      case measure => simp [intOf]; omega
    · go_wp2_with fail
      go_ret
      exact ⟨rfl, HBL.out⟩

end Go.Proofs.Ytcgihkapcfpjcaa
