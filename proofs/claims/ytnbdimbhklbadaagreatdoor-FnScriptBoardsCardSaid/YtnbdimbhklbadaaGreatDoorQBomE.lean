/-
  Contracts of functions and plain laws that the law's proof uses (parts: BomE). Conditions: what each theorem names.
-/
import Derived.BigQuiet
import Derived.StillTailTactics
import Derived.BigRegion
import Derived.Deep.DeepCutAuto
import Derived.Test.YtnbdimbhklbadaaGreatDoorQBoA
namespace Go.Proofs.YtnbdimbhklbadaaGreatDoor
open Go.RowKit Pl
set_option linter.unusedVariables false
abbrev uC (q : List Nat) : Array Value := (q.map fun (n : Nat) => Value.int .u64 (n : Int)).toArray
theorem uC_get {q : List Nat} {k : Nat} (h : k < q.length) : (uC q)[k]? = some (.int .u64 (q[k] : Int)) := by simp [uC, h]
theorem uC_set (q : List Nat) (k n : Nat) : (uC q).setIfInBounds k (.int .u64 (n : Int)) = uC (q.set k n) := by
  apply Array.ext'
  simp only [uC, Array.toList_setIfInBounds]
  rw [List.map_set]
abbrev UB (W : World) (S : Nat) (s : List Nat) : Prop := SB W S (uC s) 108
theorem UB.at {W : World} {S : Nat} {s : List Nat} (h : UB W S s) {k : Nat} (hk : k < s.length) : W.cell? ⟨S, k, none⟩ = some (.int .u64 (nth s k : Int)) := by
  rw [nth_eq hk]; exact h.cell k _ (uC_get hk)
theorem UB.set {W : World} {S : Nat} {s : List Nat} (h : UB W S s) (k n : Nat) : UB (W.setCell ⟨S, k, none⟩ (.int .u64 (n : Int))) S (s.set k n) := by
  have h1 := SB.put h k (.int .u64 (n : Int))
  rw [uC_set] at h1; exact h1
theorem and_u : ∀ s : Fin 1024, ∀ n : Fin 10, bits .and .u64 (((s.val / 2 ^ n.val : Nat) : Int)) 1 = if s.val.testBit n.val then 1 else 0 := by decide +kernel
theorem or_u : ∀ s : Fin 1024, ∀ n : Fin 10, bits .or .u64 (s.val : Int) ((2 ^ n.val : Nat) : Int) = ((s.val ||| 2 ^ n.val : Nat) : Int) := by decide +kernel
theorem and_uv {s n : Nat} (hs : s < 1024) (hn : n < 10) : bits .and .u64 ((s : Int) / 2 ^ n) 1 = if s.testBit n then 1 else 0 := by
  have h1 := and_u ⟨s, hs⟩ ⟨n, hn⟩
  rw [← h1]; congr 1
theorem or_uv {s n : Nat} (hs : s < 1024) (hn : n < 10) : bits .or .u64 (s : Int) (2 ^ n) = ((s ||| 2 ^ n : Nat) : Int) := by
  have h1 := or_u ⟨s, hs⟩ ⟨n, hn⟩
  rw [← h1]; congr 1
theorem wrap_u {m : Nat} (h : m < 1024) : IntKind.u64.wrap (m : Int) = m := by simp [IntKind.wrap, IntKind.bits, IntKind.signed]; omega
theorem or_lt {s n : Nat} (hs : s < 1024) (hn : n < 10) : s ||| 2 ^ n < 1024 := Nat.or_lt_two_pow (n := 10) hs (Nat.pow_lt_pow_right (by omega) hn)
structure U10 (s : List Nat) : Prop where
  len : s.length = 10
  lt : ∀ n ∈ s, n < 1024
theorem U10.at {s : List Nat} (h : U10 s) (k : Nat) : nth s k < 1024 := by
  unfold nth
  cases e : s[k]? with
  | none => simp
  | some v =>
    obtain ⟨hk, rfl⟩ := List.getElem?_eq_some_iff.1 e
    exact h.lt _ (List.getElem_mem hk)
theorem U10.set {s : List Nat} (h : U10 s) (k : Nat) {n : Nat} (hn : n < 1024) : U10 (s.set k n) := ⟨by rw [List.length_set]; exact h.len, fun m hm => by
  rcases List.mem_or_eq_of_mem_set hm with h1 | rfl
  · exact h.lt _ h1
  · exact hn⟩
def set1 (s : List Nat) (x y : Nat) : List Nat := s.set x (nth s x ||| 2 ^ y)
def setP (s : List Nat) (x y : Nat) : List Nat := set1 (set1 s x y) y x
theorem set1_ok {s : List Nat} (h : U10 s) {x y : Nat} (hy : y < 10) : U10 (set1 s x y) := h.set x (or_lt (h.at x) hy)
theorem setP_ok {s : List Nat} (h : U10 s) {x y : Nat} (hx : x < 10) (hy : y < 10) : U10 (setP s x y) := set1_ok (set1_ok h hy) hx
def hasP (s : List Nat) (x y : Nat) : Bool := (nth s x).testBit y
def addP (s : List Nat) (x y : Nat) : List Nat := if hasP s x y then s else setP s x y
set_option maxHeartbeats 4000000 in
set_option maxRecDepth 100000 in
theorem addP_is (w : World) (S x y : Nat) (s : List Nat) (hs : UB w S s) (h : U10 s) (hx : x < 10) (hy : y < 10) :
    Calls Tryz.prog 59 #[.pointer (some ⟨S, 0, none⟩), .int .i64 x, .int .i64 y] w fun e w' => e = .returned (.bool (!hasP s x y)) ∧ UB w' S (addP s x y) ∧ But S w w' := by
  have c1 := hs.at (k := x) (by rw [h.len]; exact hx)
  have HS := Lib.hid hs; have HU := Lib.hid h
  have v1 : (x : Int) < 10 := by omega
  have v2 : (y : Int) < 10 := by omega
  have ha := and_uv (h.at x) hy
  clear hs h
  by_cases hb : hasP s x y = true
  · have e1 : addP s x y = s := if_pos hb
    rw [e1, hb]
    rw [if_pos (show (nth s x).testBit y = true from hb)] at ha
    clear e1 hb
    go_enter Tryz.func59, Tryz.ntmps59
    go_wp2_with fail
    go_ret
    exact ⟨rfl, HS.out, But.of_below (Below.refl _ _)⟩
  · have hb' : hasP s x y = false := by simpa using hb
    have e1 : addP s x y = setP s x y := by unfold addP; rw [hb']; rfl
    rw [e1, hb']
    rw [if_neg (show ¬ (nth s x).testBit y = true from hb)] at ha
    clear e1 hb hb'
    have ho := or_uv (HU.out.at x) hy
    have hu1 := set1_ok HU.out (x := x) hy
    have ho2 := or_uv (hu1.at y) hx
    have f1 := HS.out.frozen x
    obtain ⟨W1, hW1⟩ : ∃ W1, W1 = w.setCell ⟨S, x, none⟩ (.int .u64 ((nth s x ||| 2 ^ y : Nat) : Int)) := ⟨_, rfl⟩
    have hs1 : UB W1 S (set1 s x y) := by rw [hW1]; exact HS.out.set x _
    have c2 := hs1.at (k := y) (by rw [hu1.len]; exact hy)
    have f2 := hs1.frozen y
    have HS1 := Lib.hid hs1; have HW1 := Lib.hid hW1
    have hp1 : (2 : Int) ^ y = ((2 ^ y : Nat) : Int) := by norm_cast
    have hp2 : (2 : Int) ^ x = ((2 ^ x : Nat) : Int) := by norm_cast
    have hl1 : 2 ^ y < 1024 := Nat.pow_lt_pow_right (m := y) (n := 10) (by omega) hy
    have hl2 : 2 ^ x < 1024 := Nat.pow_lt_pow_right (m := x) (n := 10) (by omega) hx
    have w1 : IntKind.u64.wrap (2 ^ y) = 2 ^ y := by rw [hp1]; exact wrap_u hl1
    have w2 : IntKind.u64.wrap (2 ^ x) = 2 ^ x := by rw [hp2]; exact wrap_u hl2
    clear hs1 hW1 hu1 hp1 hp2
    go_enter Tryz.func59, Tryz.ntmps59
    go_wp2_with fail
    go_region
    all_goals
      go_wp2_with fail
      rw [← HW1.out]
      clear c1 f1
      go_region
      all_goals
        go_wp2_with fail
        go_ret
        refine ⟨rfl, ?_, ?_⟩
        · exact HS1.out.set y _
        · have h1 : But S w W1 := by rw [HW1.out]; exact But.of_set w x _
          exact (h1.trans (But.of_below (b := S) (Below.refl _ _).drew)).trans ((But.of_set (b := S) W1.drew y _).trans (But.of_below (b := S) (Below.refl _ _).drew))
def oneB (v : Nat) : Bool := v &&& (v - 1) == 0
theorem one_u : ∀ s : Fin 1024, bits .and .u64 (s.val : Int) (IntKind.u64.wrap ((s.val : Int) - 1)) = ((s.val &&& (s.val - 1) : Nat) : Int) := by decide +kernel
def topT (d v : Nat) : Nat → Nat
  | 0 => d
  | j + 1 => if v.testBit j then j else topT d v j
theorem topT_lt {d : Nat} (hd : d < 10) (v : Nat) : ∀ j, j ≤ 10 → topT d v j < 10
  | 0, _ => hd
  | j + 1, h => by
    unfold topT
    split
    · omega
    · exact topT_lt hd v j (by omega)
def brdT (s : List Nat) (k : Nat) : List Nat := (List.range 10).map fun x => if x < k then topT x (nth s x) 10 else x
theorem brdT_len (s : List Nat) (k : Nat) : (brdT s k).length = 10 := by simp [brdT]
theorem brdT_at (s : List Nat) (k : Nat) {x : Nat} (h : x < (brdT s k).length) : (brdT s k)[x] = if x < k then topT x (nth s x) 10 else x := by simp [brdT]
theorem brdT_zero (s : List Nat) : brdT s 0 = List.range 10 := by simp [brdT]
theorem brdT_ten (s : List Nat) (k : Nat) : Ten (brdT s k) := ⟨brdT_len s k, fun n hn => by
  obtain ⟨x, hx, rfl⟩ := List.mem_map.1 hn
  have hx := List.mem_range.1 hx
  show (if x < k then topT x (nth s x) 10 else x) < 10
  split
  · exact topT_lt hx _ 10 (Nat.le_refl _)
  · exact hx⟩
def brdJ (s : List Nat) (k j : Nat) : List Nat := (brdT s k).set k (topT k (nth s k) j)
theorem brdJ_zero (s : List Nat) {k : Nat} (hk : k < 10) : brdJ s k 0 = brdT s k := by
  unfold brdJ topT
  refine List.ext_getElem (by simp) fun i h1 h2 => ?_
  rw [List.getElem_set]
  split
  · next e => subst e; rw [brdT_at, if_neg (by omega)]
  · rfl
theorem brdJ_all (s : List Nat) {k : Nat} (hk : k < 10) : brdJ s k 10 = brdT s (k + 1) := by
  unfold brdJ
  refine List.ext_getElem (by simp [brdT]) fun i h1 h2 => ?_
  rw [List.getElem_set, brdT_at s (k + 1)]
  split
  · next e => subst e; rw [if_pos (by omega)]
  · next e =>
    rw [brdT_at]
    by_cases h3 : i < k
    · rw [if_pos h3, if_pos (by omega)]
    · rw [if_neg h3, if_neg (by omega)]
theorem brdJ_yes {s : List Nat} {k j : Nat} (h : (nth s k).testBit j = true) : (brdJ s k j).set k j = brdJ s k (j + 1) := by
  unfold brdJ; rw [List.set_set]; congr 1; rw [topT, if_pos h]
theorem brdJ_no {s : List Nat} {k j : Nat} (h : ¬ (nth s k).testBit j = true) : brdJ s k j = brdJ s k (j + 1) := by
  unfold brdJ; congr 1; rw [topT, if_neg h]
theorem brdJ_len (s : List Nat) (k j : Nat) : (brdJ s k j).length = 10 := by unfold brdJ; rw [List.length_set, brdT_len]
def okS (s : List Nat) : Bool := (List.range 10).all fun x => oneB (nth s x)
def brdS (s : List Nat) : List Nat := brdT s 10
def brdX (s : List Nat) : ByteArray := if okS s then pT (brdS s) else ⟨#[]⟩
set_option maxHeartbeats 4000000 in
set_option maxRecDepth 100000 in
theorem boardS_is (w : World) (S : Nat) (s : List Nat) (hs : UB w S s) (h : U10 s) :
    Calls Tryz.prog 31 #[.pointer (some ⟨S, 0, none⟩)] w fun e w' => e = .returned (.tuple #[.string (brdX s), .bool (okS s)]) ∧ Below w.heap.size w w' := by
  have hid := fun w' => identity_any w'
  have hst := fun w' => permStr_any w' (brdS s) (brdT_ten s 10)
  rw [show mk ((brdS s).map letter) = pT (brdS s) from rfl] at hst
  have HID := Lib.hid hid; have HST := Lib.hid hst; have HU := Lib.hid h
  obtain ⟨I, hI⟩ : ∃ I, I = List.range 10 := ⟨_, rfl⟩
  have h10 : I.length = 10 := by rw [hI]; rfl
  rw [← hI] at HID
  have HI := Lib.hid hI; have H10 := Lib.hid h10
  have hS : S < w.heap.size := hs.lt
  have HS := Lib.hid hs
  clear hs hid hst h hS hI h10
  go_enter Tryz.func31, Tryz.ntmps31
  go_wp2_with fail
  refine (HID.out _).mono ?_
  rintro _ w1 ⟨rfl, hb1⟩
  have h1 : PB (w1.alloc (.cells #[.int .u8 0, .int .u8 0, .int .u8 0, .int .u8 0, .int .u8 0, .int .u8 0, .int .u8 0, .int .u8 0, .int .u8 0, .int .u8 0] 52)) w1.heap.size (List.replicate 10 0) := heap_alloc_new w1 _
  have H1 := Lib.hid h1; have HB1 := Lib.hid hb1
  obtain ⟨w2, hw2⟩ : ∃ w2, w2 = (w1.alloc (.cells #[.int .u8 0, .int .u8 0, .int .u8 0, .int .u8 0, .int .u8 0, .int .u8 0, .int .u8 0, .int .u8 0, .int .u8 0, .int .u8 0] 52)).setRow w1.heap.size (pC I) := ⟨_, rfl⟩
  obtain ⟨Q, hQ⟩ : ∃ Q, Q = w1.heap.size := ⟨_, rfl⟩
  have hp2 : PB w2 Q (brdT s 0) := by rw [hw2, hQ, brdT_zero, ← HI.out]; exact setRow_heap _ _ _ _ _ _ h1
  have hQw : w.heap.size ≤ Q := by rw [hQ]; exact hb1.size
  have hb2 : Below w.heap.size w w2 := by rw [hw2]; exact below_setRow (hb1.alloc hb1.size _) hb1.size _
  have HP2 := Lib.hid hp2; have HB2 := Lib.hid hb2; have HQW := Lib.hid hQw; have HWQ := Lib.hid (And.intro hw2 hQ)
  clear hb1 h1 hp2 hb2 hw2 hQ hQw
  go_wp2_with (refine wpList_store_row rfl 52 _ _ rfl w1.heap.size (pC I) rfl rfl _ _ H1.out (permSize H10.out) (by rw [pC_size, pC_size, H10.out]; rfl) (pC_one _) ?_)
  rw [← HWQ.out.1, ← HWQ.out.2]
  go_loopw [10] (fun i wr => ∃ k : Nat, k ≤ 10 ∧ i = .int .i64 k ∧ Hid (∀ j, j < k → oneB (nth s j) = true) ∧ Hid (PB wr Q (brdT s k)) ∧ Hid (Below w.heap.size w wr)) (fun i _ => 10 - (intOf i).toNat)
  case atStart => exact ⟨0, by omega, rfl, Lib.hid (fun j hj => by omega), HP2, HB2⟩
  case round =>
    obtain ⟨k, hk, rfl, HO, HP, HB⟩ := hrel
    by_cases hlt : k < 10
    · have hc := (UB.at (HS.out.below HB.out) (k := k) (by rw [HU.out.len]; exact hlt))
      have hv := HU.out.at k
      obtain ⟨v, hve⟩ : ∃ v, v = nth s k := ⟨_, rfl⟩
      rw [← hve] at hc hv
      have hou := one_u ⟨v, hv⟩
      simp only at hou
      have HVE := Lib.hid hve
      have v1 : (k : Int) < 10 := by omega
      clear hve
      by_cases ho : v &&& (v - 1) = 0
      case neg =>
        have hno : okS s = false := by
          unfold okS
          rw [List.all_eq_false]
          exact ⟨k, List.mem_range.2 hlt, by rw [← HVE.out]; unfold oneB; simp [ho]⟩
        have hbx : brdX s = ⟨#[]⟩ := by unfold brdX; rw [hno]; rfl
        have HNO := Lib.hid (And.intro hno hbx)
        clear hno hbx
        obtain ⟨m, hm⟩ : ∃ m, m = v &&& (v - 1) := ⟨_, rfl⟩
        rw [← hm] at hou ho
        have hm0 : ((m : Int) != 0) = true := by simp; omega
        have hm1 : ¬ m = 0 := ho
        clear hm
        go_wp2_with fail
        go_quiet (fail)
        go_wp2_with fail
        go_ret2
        exact ⟨by rw [HNO.out.1, HNO.out.2]; rfl, below_drewN' HB.out _⟩
      rw [ho] at hou
      have hou0 : bits .and .u64 (v : Int) (IntKind.u64.wrap ((v : Int) - 1)) = 0 := hou
      have hO2 := Lib.hid (show ∀ j, j < k + 1 → oneB (nth s j) = true from fun j hj => by
        by_cases e : j = k
        · subst e; rw [← HVE.out]; unfold oneB; simp [ho]
        · exact HO.out j (by omega))
      clear ho
      have hpj : PB wr Q (brdJ s k 0) := by rw [brdJ_zero s hlt]; exact HP.out
      have HPJ := Lib.hid hpj
      clear hpj
      go_wp2_with fail
      go_quiet (fail)
      obtain ⟨W2, hW2⟩ : ∃ W2, W2 = wr.drewN nq := ⟨_, rfl⟩
      have HPK := Lib.hid (show PB W2 Q (brdJ s k 0) from by rw [hW2]; exact HPJ.out)
      have HBK := Lib.hid (show Below w.heap.size w W2 from by rw [hW2]; exact below_drewN' HB.out _)
      rw [← hW2]
      clear hW2 hc hou
      go_wp2_with fail
      clear hou0
      go_loopw [21] (fun i wr2 => ∃ j : Nat, j ≤ 10 ∧ i = .int .i64 j ∧ Hid (PB wr2 Q (brdJ s k j)) ∧ Hid (Below w.heap.size w wr2)) (fun i _ => 10 - (intOf i).toNat)
      case atStart => exact ⟨0, by omega, rfl, HPK, HBK⟩
      case round =>
        obtain ⟨j, hj, rfl, HPI, HBI⟩ := hrel
        by_cases hjl : j < 10
        · have ha := and_uv hv hjl
          have v2 : (j : Int) < 10 := by omega
          by_cases hb : v.testBit j = true
          · rw [if_pos hb] at ha
            have c1 := HPI.out.cell (k := k) (by rw [brdJ_len]; exact hlt)
            have f1 := HPI.out.frozen k
            have v3 : IntKind.u8.wrap (j : Int) = j := IntWalk.u8_in _ ⟨by omega, by omega⟩
            have hpn := HPI.out.put k j
            rw [brdJ_yes (by rw [← HVE.out]; exact hb)] at hpn
            have HPN := Lib.hid hpn
            clear hb hpn
            go_wp2_with fail
            go_roundw
            case rel => exact ⟨j + 1, by omega, by go_num, HPN, Lib.hid (HBI.out.setCell (p := ⟨Q, k, none⟩) HQW.out _)⟩
            case measure => simp [intOf]; omega
          · rw [if_neg hb] at ha
            have HPN := Lib.hid (show PB wr Q (brdJ s k (j + 1)) from by rw [← brdJ_no (by rw [← HVE.out]; exact hb)]; exact HPI.out)
            clear hb
            go_wp2_with fail
            go_roundw
            case rel => exact ⟨j + 1, by omega, by go_num, HPN, HBI⟩
            case measure => simp [intOf]; omega
        · have hje : j = 10 := by omega
          subst hje
          have HPN := Lib.hid (show PB wr Q (brdT s (k + 1)) from by rw [← brdJ_all s hlt]; exact HPI.out)
          go_wp2_with fail
          go_roundw
          case rel => exact ⟨k + 1, by omega, by go_num, hO2, HPN, HBI⟩
          case measure => simp [intOf]; omega
    · have hke : k = 10 := by omega
      subst hke
      have hok : okS s = true := by
        unfold okS
        exact List.all_eq_true.2 fun x hx => HO.out x (List.mem_range.1 hx)
      have hbx : brdX s = pT (brdS s) := by unfold brdX; rw [hok]; rfl
      have HOK := Lib.hid (And.intro hok hbx)
      have HPS := Lib.hid (show PB wr Q (brdS s) from HP.out)
      have hpz := permSize (brdT_len s 10)
      have HPZ := Lib.hid hpz
      clear hok hbx hpz
      go_wp2_with (first | (refine wpList_load_row rfl 52 _ rfl Q rfl _ _ _ _ HPS.out Tryz.underlying52 rfl HPZ.out ?_))
      refine (HST.out _).mono ?_
      rintro _ w5 ⟨rfl, hb5⟩
      have HB5 := Lib.hid (HB.out.trans (hb5.mono HB.out.size))
      clear hb5
      go_wp2_with fail
      go_ret2
      exact ⟨by rw [HOK.out.1, HOK.out.2]; rfl, HB5.out⟩
end Go.Proofs.YtnbdimbhklbadaaGreatDoor
