/-
  Contracts of BookValid, CodeOf and WordOf, of the program and of the reference. No conditions but those that each theorem names.
-/
import Derived.Test.YteeeaeidocalnaaGreatDoorEntry
namespace Go.Proofs.YteeeaeidocalnaaGreatDoor
open Go.RowKit Pl
set_option linter.unusedVariables false

theorem bkT {es : List (ByteArray × ByteArray)} (h : bookV es) : bookV es ↔ true = true := ⟨fun _ => rfl, fun _ => h⟩
theorem bkF {es : List (ByteArray × ByteArray)} (h : ¬ bookV es) : bookV es ↔ false = true := ⟨fun h' => absurd h' h, fun h' => by cases h'⟩
/-- the place of the first element that meets p, or -1 -/
def firstOf {α : Type} (p : α → Bool) (l : List α) : Int := match l.findIdx? p with | some k => (k : Int) | none => -1
theorem firstOf_at {α : Type} {p : α → Bool} {l : List α} {k : Nat} (hk : k < l.length) (h : p l[k] = true) (hn : ∀ j (hj : j < l.length), j < k → p l[j] = false) : firstOf p l = (k : Int) := by
  have : l.findIdx? p = some k := by
    rw [List.findIdx?_eq_some_iff_getElem]
    exact ⟨hk, h, fun j hj => by simp [hn j (by omega) hj]⟩
  simp [firstOf, this]
theorem firstOf_no {α : Type} {p : α → Bool} {l : List α} (hn : ∀ j (hj : j < l.length), p l[j] = false) : firstOf p l = -1 := by
  have : l.findIdx? p = none := by
    rw [List.findIdx?_eq_none_iff]
    intro x hx
    obtain ⟨j, hj, rfl⟩ := List.mem_iff_getElem.1 hx
    exact hn j hj
  simp [firstOf, this]
theorem bytes_beq {a b : ByteArray} (h : a ≠ b) : (a.toList == b.toList) = false := by
  rw [beq_eq_false_iff_ne]
  intro hh
  rw [ByteArray.toList_eq, ByteArray.toList_eq] at hh
  exact h (ByteArray.ext (Array.toList_inj.1 hh))

def wOk (s : ByteArray) : Bool := wv (tl s) && (decide (1 ≤ s.size) && decide (s.size ≤ 8))
def cOk (s : ByteArray) : Bool := wv (tl s) && decide (s.size = 3)
theorem entOk_iff (e : ByteArray × ByteArray) : entOk e = (wOk e.1 && cOk e.2) := by
  unfold entOk wOk cOk
  cases wv (tl e.1) <;> cases wv (tl e.2) <;> simp

theorem firstOf_le {α : Type} {p : α → Bool} {l : List α} {k : Nat} (hk : k < l.length) (h : p l[k] = true) : firstOf p l = (k : Int) ↔ ∀ j (hj : j < l.length), j < k → p l[j] = false := by
  constructor
  · intro hf j hj hjk
    cases hp : p l[j] with
    | false => rfl
    | true =>
      exfalso
      unfold firstOf at hf
      cases hx : l.findIdx? p with
      | none => rw [hx] at hf; simp at hf
      | some m =>
        rw [hx] at hf
        have hmk : m = k := by have : (m : Int) = (k : Int) := hf
                               omega
        subst hmk
        rw [List.findIdx?_eq_some_iff_getElem] at hx
        obtain ⟨_, _, hx⟩ := hx
        exact hx j hjk hp
  · exact firstOf_at hk h
/-- a valid book, entry by entry -/
def entAt (es : List (ByteArray × ByteArray)) (k : Nat) (hk : k < es.length) : Prop :=
  wOk es[k].1 = true ∧ cOk es[k].2 = true ∧ firstOf (fun e => decide (e.1 = es[k].1)) es = (k : Int) ∧ firstOf (fun e => decide (e.2 = es[k].2)) es = (k : Int)
theorem bookP_iff (es : List (ByteArray × ByteArray)) : bookP es ↔ ∀ k (hk : k < es.length), entAt es k hk := by
  unfold bookP entAt
  rw [List.pairwise_iff_getElem]
  constructor
  · rintro ⟨h1, h2⟩ k hk
    have he := h1 _ (List.getElem_mem hk)
    rw [entOk_iff, Bool.and_eq_true] at he
    refine ⟨he.1, he.2, ?_, ?_⟩
    · rw [firstOf_le hk (by simp)]
      intro j hj hjk
      have := (h2 j k hj hk hjk).1
      simpa using this
    · rw [firstOf_le hk (by simp)]
      intro j hj hjk
      have := (h2 j k hj hk hjk).2
      simpa using this
  · intro h
    refine ⟨fun e he => ?_, fun i j hi hj hij => ?_⟩
    · obtain ⟨k, hk, rfl⟩ := List.mem_iff_getElem.1 he
      rw [entOk_iff, (h k hk).1, (h k hk).2.1]; rfl
    · have h1 := (firstOf_le hj (by simp)).1 (h j hj).2.2.1 i hi hij
      have h2 := (firstOf_le hj (by simp)).1 (h j hj).2.2.2 i hi hij
      exact ⟨by simpa using h1, by simpa using h2⟩

theorem l19Word_any (s : ByteArray) (w : World) : Calls Tryz.prog 63 #[.string s] w fun e w' => e = .returned (.bool (wOk s)) ∧ w = w' := by
  cases h : wv (tl s) with
  | false =>
    have hk : wOk s = false := by simp [wOk, h]
    rw [hk]
    have H := Lib.hid h; clear h hk
    go_enter Tryz.func63, Tryz.ntmps63
    go_wp2_with fail
    refine (sWordValid_is s false _ H.out).mono ?_
    rintro e w' ⟨rfl, rfl⟩
    go_wp2_with fail
    go_ret
    exact ⟨rfl, rfl⟩
  | true =>
    have hl : s.size ≤ 200 := wv_length h
    have hk : wOk s = (decide ((1 : Int) ≤ (s.size : Int)) && decide ((s.size : Int) ≤ 8)) := by
      have a : decide (1 ≤ s.size) = decide ((1 : Int) ≤ (s.size : Int)) := decide_eq_decide.2 (by omega)
      have b : decide (s.size ≤ 8) = decide ((s.size : Int) ≤ 8) := decide_eq_decide.2 (by omega)
      rw [wOk, h, a, b, Bool.true_and]
    have H := Lib.hid h; have HK := Lib.hid hk; clear h hk
    go_enter Tryz.func63, Tryz.ntmps63
    go_wp2_with fail
    refine (sWordValid_is s true _ H.out).mono ?_
    rintro e w' ⟨rfl, rfl⟩
    go_wp2_with fail
    refine (l1In_is _ _ _ (wOk s) _ HK.out.symm).mono ?_
    rintro e w' ⟨rfl, rfl⟩
    go_wp2_with fail
    go_ret
    exact ⟨rfl, rfl⟩
theorem l19Word_is (s : ByteArray) (b : Bool) (w : World) (h : wOk s = b) : Calls Tryz.prog 63 #[.string s] w fun e w' => e = .returned (.bool b) ∧ w = w' := h ▸ l19Word_any s w
theorem l19Code_any (s : ByteArray) (w : World) : Calls Tryz.prog 64 #[.string s] w fun e w' => e = .returned (.bool (cOk s)) ∧ w = w' := by
  cases h : wv (tl s) with
  | false =>
    have hk : cOk s = false := by simp [cOk, h]
    rw [hk]
    have H := Lib.hid h; clear h hk
    go_enter Tryz.func64, Tryz.ntmps64
    go_wp2_with fail
    refine (sWordValid_is s false _ H.out).mono ?_
    rintro e w' ⟨rfl, rfl⟩
    go_wp2_with fail
    go_ret
    exact ⟨rfl, rfl⟩
  | true =>
    have H := Lib.hid h
    by_cases h3 : s.size = 3
    · have hk : cOk s = true := by simp [cOk, h, h3]
      rw [hk]
      clear hk h
      go_enter Tryz.func64, Tryz.ntmps64
      go_wp2_with fail
      refine (sWordValid_is s true _ H.out).mono ?_
      rintro e w' ⟨rfl, rfl⟩
      go_wp2_with fail
      go_ret
      exact ⟨rfl, rfl⟩
    · have hk : cOk s = false := by simp [cOk, h, h3]
      rw [hk]
      clear hk h
      have hb : ((s.size : Int) == 3) = false := by rw [beq_eq_false_iff_ne]; omega
      go_enter Tryz.func64, Tryz.ntmps64
      go_wp2_with fail
      refine (sWordValid_is s true _ H.out).mono ?_
      rintro e w' ⟨rfl, rfl⟩
      go_wp2_with fail
      go_ret
      exact ⟨rfl, rfl⟩
theorem l19Code_is (s : ByteArray) (b : Bool) (w : World) (h : cOk s = b) : Calls Tryz.prog 64 #[.string s] w fun e w' => e = .returned (.bool b) ∧ w = w' := h ▸ l19Code_any s w

set_option maxHeartbeats 2000000 in
theorem l19Index_any (w : World) (B : Nat) (A : Option Addr) (cap : Nat) (es : List (ByteArray × ByteArray)) (s : ByteArray) (h : Rd w B A (entV es)) (hc : es.length ≤ cap) (hm : es.length ≤ 1048576) :
    Calls Tryz.prog 65 #[.slice A es.length cap, .string s] w fun e w' => e = .returned (.int .i64 (firstOf (fun e => decide (e.1 = s)) es)) ∧ w = w' := by
  have HR := Lib.hid h; clear h
  go_enter Tryz.func65, Tryz.ntmps65
  go_wp2_with fail
  go_loop [5] (fun i => ∃ k : Nat, k ≤ es.length ∧ i = .int .i64 k ∧ ∀ j (hj : j < es.length), j < k → decide (es[j].1 = s) = false) (fun i => es.length - (intOf i).toNat)
  case atStart => exact ⟨0, Nat.zero_le _, rfl, fun j _ hj => absurd hj (Nat.not_lt_zero _)⟩
  case round =>
    obtain ⟨k, hk, rfl, hall⟩ := hrel
    have HA := Lib.hid hall; clear hall
    by_cases hlt : k < es.length
    · obtain ⟨b, off, rfl, hb, c0, c1⟩ := HR.out.ent hlt
      obtain ⟨e, he⟩ : ∃ e, e = es[k] := ⟨_, rfl⟩
      rw [← he] at c0 c1
      have HE := Lib.hid he; clear he
      by_cases hx : e.1 = s
      · have hf := firstOf_at (p := fun e : ByteArray × ByteArray => decide (e.1 = s)) hlt (by rw [← HE.out]; simp [hx]) HA.out
        have HF := Lib.hid hf; clear hf
        have hcmp : (e.1.toList == s.toList) = true := by rw [hx]; simp
        clear hx
        go_wp2_with fail
        go_ret
        exact ⟨by rw [HF.out]; rfl, rfl⟩
      · have hcmp : (e.1.toList == s.toList) = false := bytes_beq hx
        have HX := Lib.hid hx; clear hx
        go_wp2_with fail
        go_round
        case rel =>
          refine ⟨k + 1, by omega, by go_num, fun j hj hjk => ?_⟩
          rcases Nat.lt_or_ge j k with h' | h'
          · exact HA.out j hj h'
          · have : j = k := by omega
            subst this
            rw [← HE.out]; simpa using HX.out
        case measure => simp [intOf]; omega
    · have hf := firstOf_no (p := fun e : ByteArray × ByteArray => decide (e.1 = s)) (l := es) (fun j hj => HA.out j hj (by omega))
      have HF := Lib.hid hf; clear hf
      go_wp2_with fail
      go_ret
      exact ⟨by rw [HF.out]; rfl, rfl⟩

set_option maxHeartbeats 2000000 in
theorem l19Coded_any (w : World) (B : Nat) (A : Option Addr) (cap : Nat) (es : List (ByteArray × ByteArray)) (s : ByteArray) (h : Rd w B A (entV es)) (hc : es.length ≤ cap) (hm : es.length ≤ 1048576) :
    Calls Tryz.prog 66 #[.slice A es.length cap, .string s] w fun e w' => e = .returned (.int .i64 (firstOf (fun e => decide (e.2 = s)) es)) ∧ w = w' := by
  have HR := Lib.hid h; clear h
  go_enter Tryz.func66, Tryz.ntmps66
  go_wp2_with fail
  go_loop [5] (fun i => ∃ k : Nat, k ≤ es.length ∧ i = .int .i64 k ∧ ∀ j (hj : j < es.length), j < k → decide (es[j].2 = s) = false) (fun i => es.length - (intOf i).toNat)
  case atStart => exact ⟨0, Nat.zero_le _, rfl, fun j _ hj => absurd hj (Nat.not_lt_zero _)⟩
  case round =>
    obtain ⟨k, hk, rfl, hall⟩ := hrel
    have HA := Lib.hid hall; clear hall
    by_cases hlt : k < es.length
    · obtain ⟨b, off, rfl, hb, c0, c1⟩ := HR.out.ent hlt
      obtain ⟨e, he⟩ : ∃ e, e = es[k] := ⟨_, rfl⟩
      rw [← he] at c0 c1
      have HE := Lib.hid he; clear he
      by_cases hx : e.2 = s
      · have hf := firstOf_at (p := fun e : ByteArray × ByteArray => decide (e.2 = s)) hlt (by rw [← HE.out]; simp [hx]) HA.out
        have HF := Lib.hid hf; clear hf
        have hcmp : (e.2.toList == s.toList) = true := by rw [hx]; simp
        clear hx
        go_wp2_with fail
        go_ret
        exact ⟨by rw [HF.out]; rfl, rfl⟩
      · have hcmp : (e.2.toList == s.toList) = false := bytes_beq hx
        have HX := Lib.hid hx; clear hx
        go_wp2_with fail
        go_round
        case rel =>
          refine ⟨k + 1, by omega, by go_num, fun j hj hjk => ?_⟩
          rcases Nat.lt_or_ge j k with h' | h'
          · exact HA.out j hj h'
          · have : j = k := by omega
            subst this
            rw [← HE.out]; simpa using HX.out
        case measure => simp [intOf]; omega
    · have hf := firstOf_no (p := fun e : ByteArray × ByteArray => decide (e.2 = s)) (l := es) (fun j hj => HA.out j hj (by omega))
      have HF := Lib.hid hf; clear hf
      go_wp2_with fail
      go_ret
      exact ⟨by rw [HF.out]; rfl, rfl⟩

set_option maxHeartbeats 4000000 in
theorem sBookValid_is (w : World) (B : Nat) (A : Option Addr) (cap : Nat) (es : List (ByteArray × ByteArray)) (h : Rd w B A (entV es)) (hc : es.length ≤ cap) (hm : es.length ≤ 1048576) (b : Bool) (hb : bookV es ↔ b = true) :
    Calls Tryz.prog 39 #[.slice A es.length cap] w fun e w' => e = .returned (.bool b) ∧ w = w' := by
  have HR := Lib.hid h; have HB := Lib.hid hb; clear h hb
  go_enter Tryz.func39, Tryz.ntmps39
  go_wp2_with fail
  go_loop [3] (fun i => ∃ k : Nat, k ≤ es.length ∧ i = .int .i64 k ∧ ∀ j (hj : j < es.length), j < k → entAt es j hj) (fun i => es.length - (intOf i).toNat)
  case atStart => exact ⟨0, Nat.zero_le _, rfl, fun j _ hj => absurd hj (Nat.not_lt_zero _)⟩
  case round =>
    obtain ⟨k, hk, rfl, hall⟩ := hrel
    have HA := Lib.hid hall; clear hall
    by_cases hlt : k < es.length
    · have bad : ¬ entAt es k hlt → b = false := fun hn => by
        cases hbb : b with
        | false => rfl
        | true => exact absurd ((bookP_iff es).1 (HB.out.2 hbb).2 k hlt) hn
      obtain ⟨b0, off, rfl, hb0, c0, c1⟩ := HR.out.ent hlt
      obtain ⟨e, he⟩ : ∃ e, e = es[k] := ⟨_, rfl⟩
      have hat : entAt es k hlt ↔ (wOk e.1 = true ∧ cOk e.2 = true ∧ firstOf (fun x => decide (x.1 = e.1)) es = (k : Int) ∧ firstOf (fun x => decide (x.2 = e.2)) es = (k : Int)) := by rw [he]; rfl
      rw [hat] at bad
      rw [← he] at c0 c1
      have HAT := Lib.hid hat; have BAD := Lib.hid bad
      clear he hat bad
      cases h1 : wOk e.1 with
      | false =>
        have H1 := Lib.hid h1; clear h1
        go_wp2_with fail
        refine (l19Word_is e.1 false _ H1.out).mono ?_
        rintro _ _ ⟨rfl, rfl⟩
        go_wp2_with fail
        go_ret
        exact ⟨by rw [BAD.out (fun hh => by have := hh.1; rw [H1.out] at this; cases this)]; rfl, rfl⟩
      | true =>
        have H1 := Lib.hid h1; clear h1
        cases h2 : cOk e.2 with
        | false =>
          have H2 := Lib.hid h2; clear h2
          go_wp2_with fail
          refine (l19Word_is e.1 true _ H1.out).mono ?_
          rintro _ _ ⟨rfl, rfl⟩
          go_wp2_with fail
          refine (l19Code_is e.2 false _ H2.out).mono ?_
          rintro _ _ ⟨rfl, rfl⟩
          go_wp2_with fail
          go_ret
          exact ⟨by rw [BAD.out (fun hh => by have := hh.2.1; rw [H2.out] at this; cases this)]; rfl, rfl⟩
        | true =>
          have H2 := Lib.hid h2; clear h2
          obtain ⟨f1, hf1⟩ : ∃ f, f = firstOf (fun x => decide (x.1 = e.1)) es := ⟨_, rfl⟩
          obtain ⟨f2, hf2⟩ : ∃ f, f = firstOf (fun x => decide (x.2 = e.2)) es := ⟨_, rfl⟩
          rw [← hf1, ← hf2] at BAD HAT
          have HF1 := Lib.hid hf1; have HF2 := Lib.hid hf2; clear hf1 hf2
          by_cases h3 : f1 = (k : Int)
          · have h3b : (f1 != (k : Int)) = false := by rw [h3]; simp
            have H3 := Lib.hid h3; clear h3
            by_cases h4 : f2 = (k : Int)
            · have h4b : (f2 != (k : Int)) = false := by rw [h4]; simp
              have H4 := Lib.hid h4; clear h4
              go_wp2_with fail
              refine (l19Word_is e.1 true _ H1.out).mono ?_
              rintro _ _ ⟨rfl, rfl⟩
              go_wp2_with fail
              refine (l19Code_is e.2 true _ H2.out).mono ?_
              rintro _ _ ⟨rfl, rfl⟩
              go_wp2_with fail
              refine (l19Index_any _ B _ cap es e.1 HR.out hc hm).mono ?_
              rintro _ _ ⟨rfl, rfl⟩
              rw [← HF1.out]
              go_wp2_with fail
              refine (l19Coded_any _ B _ cap es e.2 HR.out hc hm).mono ?_
              rintro _ _ ⟨rfl, rfl⟩
              rw [← HF2.out]
              go_wp2_with fail
              go_round
              case rel =>
                refine ⟨k + 1, by omega, by go_num, fun j hj hjk => ?_⟩
                rcases Nat.lt_or_ge j k with h' | h'
                · exact HA.out j hj h'
                · have : j = k := by omega
                  subst this
                  exact HAT.out.2 ⟨H1.out, H2.out, H3.out, H4.out⟩
              case measure => simp [intOf]; omega
            · have h4b : (f2 != (k : Int)) = true := by rw [bne_iff_ne]; exact h4
              have H4 := Lib.hid h4; clear h4
              go_wp2_with fail
              refine (l19Word_is e.1 true _ H1.out).mono ?_
              rintro _ _ ⟨rfl, rfl⟩
              go_wp2_with fail
              refine (l19Code_is e.2 true _ H2.out).mono ?_
              rintro _ _ ⟨rfl, rfl⟩
              go_wp2_with fail
              refine (l19Index_any _ B _ cap es e.1 HR.out hc hm).mono ?_
              rintro _ _ ⟨rfl, rfl⟩
              rw [← HF1.out]
              go_wp2_with fail
              refine (l19Coded_any _ B _ cap es e.2 HR.out hc hm).mono ?_
              rintro _ _ ⟨rfl, rfl⟩
              rw [← HF2.out]
              go_wp2_with fail
              go_ret
              exact ⟨by rw [BAD.out (fun hh => H4.out hh.2.2.2)]; rfl, rfl⟩
          · have h3b : (f1 != (k : Int)) = true := by rw [bne_iff_ne]; exact h3
            have H3 := Lib.hid h3; clear h3
            go_wp2_with fail
            refine (l19Word_is e.1 true _ H1.out).mono ?_
            rintro _ _ ⟨rfl, rfl⟩
            go_wp2_with fail
            refine (l19Code_is e.2 true _ H2.out).mono ?_
            rintro _ _ ⟨rfl, rfl⟩
            go_wp2_with fail
            refine (l19Index_any _ B _ cap es e.1 HR.out hc hm).mono ?_
            rintro _ _ ⟨rfl, rfl⟩
            rw [← HF1.out]
            go_wp2_with fail
            go_ret
            exact ⟨by rw [BAD.out (fun hh => H3.out hh.2.2.1)]; rfl, rfl⟩
    · have fin : b = decide ((es.length : Int) ≤ 20) := by
        have hp : bookP es := (bookP_iff es).2 fun j hj => HA.out j hj (by omega)
        have hbb := HB.out
        unfold bookV at hbb
        cases hx : b with
        | true => have := (hbb.2 hx).1; simp; omega
        | false =>
          have : ¬ es.length ≤ 20 := fun hh => by have := hbb.1 ⟨hh, hp⟩; rw [hx] at this; cases this
          simp; omega
      have FIN := Lib.hid fin; clear fin
      go_wp2_with fail
      go_ret
      exact ⟨by rw [FIN.out]; rfl, rfl⟩

theorem bookValid_is (w : World) (A : Option Addr) (cap : Nat) (es : List (ByteArray × ByteArray)) (h : Rd w w.heap.size A (entV es)) (hc : es.length ≤ cap) (hz : ∀ e ∈ es, e.1.size ≤ maxLen ∧ e.2.size ≤ maxLen) (b : Bool) (hb : bookV es ↔ b = true) :
    Calls Tryz.prog 41 #[.slice A es.length cap] w fun e w' => e = .returned (.bool b) ∧ Below w.heap.size w w' := by
  go_enter Tryz.func41, Tryz.ntmps41
  go_wp2_with fail
  refine (index_any w A cap es h hc hz).mono ?_
  rintro e w1 ⟨hb1, ⟨hv, rfl⟩ | ⟨hv, b1, b2, rfl, hm1, hm2⟩⟩
  · have hbf : b = false := by cases hx : b with
      | false => rfl
      | true => exact absurd (hb.2 hx) hv
    subst hbf
    clear hb hv
    go_wp2_with fail
    go_ret
    exact ⟨rfl, hb1.alloc hb1.size _⟩
  · have hbt : b = true := hb.1 hv
    subst hbt
    clear hb hv hm1 hm2
    go_wp2_with fail
    go_ret
    exact ⟨rfl, hb1.alloc hb1.size _⟩

end Go.Proofs.YteeeaeidocalnaaGreatDoor
