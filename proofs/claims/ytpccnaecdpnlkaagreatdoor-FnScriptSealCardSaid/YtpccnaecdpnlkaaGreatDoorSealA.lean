/-
  Messages on both sides, the commands seal and open, and what impl.RunScript answers to their script. Conditions: what each theorem names.
-/
import Derived.Lib.Replace
import Derived.Test.YtpccnaecdpnlkaaGreatDoorPlainQ
import Derived.Test.YtpccnaecdpnlkaaGreatDoorGrpI
import Derived.Test.YtpccnaecdpnlkaaGreatDoorShelfB
import Derived.Test.YtpccnaecdpnlkaaGreatDoorRunTw
import Derived.Test.YtpccnaecdpnlkaaGreatDoorKeyA
import Derived.Test.YtpccnaecdpnlkaaGreatDoorEncC
namespace Go.Proofs.YtpccnaecdpnlkaaGreatDoor
open Go.RowKit Pl
set_option linter.unusedVariables false

theorem filter_none {c : UInt8} {l : List UInt8} (h : c ∉ l) : l.filter (fun x => decide (x ≠ c)) = l :=
  List.filter_eq_self.2 fun x hx => by rw [decide_eq_true_eq]; intro e; subst e; exact h hx
theorem replaceK_one (c : UInt8) : ∀ (k : Nat) (s : List UInt8), Lib.count s [c] = k → Lib.replaceK [c] [] k s = s.filter (fun x => decide (x ≠ c))
  | 0, s, h => by
    rw [Lib.count_one] at h
    rw [filter_none (List.count_eq_zero.1 h)]; rfl
  | k + 1, s, h => by
    obtain ⟨i, hi⟩ := Lib.index_of_count (s := s) (old := [c]) (by omega)
    obtain ⟨h1, h2, h3⟩ := index_one_hit hi
    have hc := Lib.count_hit (s := s) (sub := [c]) (by simp) hi
    have ih := replaceK_one c k (s.drop (i + 1)) (by simp only [List.length_singleton] at hc; omega)
    rw [Lib.replaceK_hit _ _ k s i hi, List.append_nil, List.length_singleton, ih]
    have hs : s = s.take i ++ c :: s.drop (i + 1) := by
      have h4 : s[i] = c := by rw [List.getElem?_eq_getElem h1] at h2; exact Option.some.inj h2
      conv => lhs; rw [← List.take_append_drop i s]
      rw [List.drop_eq_getElem_cons h1, h4]
    have hn : c ∉ s.take i := by
      intro hm
      obtain ⟨j, hj, e⟩ := List.getElem_of_mem hm
      rw [List.length_take] at hj
      rw [List.getElem_take] at e
      exact h3 j (by omega) (by rw [List.getElem?_eq_getElem (by omega), e])
    conv => rhs; rw [hs]
    rw [List.filter_append, List.filter_cons, filter_none hn]
    simp
theorem replaceAll_one (c : UInt8) (s : List UInt8) : Lib.replaceAll s [c] [] = s.filter (fun x => decide (x ≠ c)) := by
  unfold Lib.replaceAll Lib.replace Lib.replaceNum
  rw [if_neg (by simp), if_pos (Or.inl (by decide))]
  exact replaceK_one c _ s rfl
theorem grpF_word {l : List UInt8} (h : (32 : UInt8) ∉ l) : ∀ k, (grpF l k).filter (fun x => decide (x ≠ 32)) = l.take (5 * k)
  | 0 => by simp [grpF]
  | k + 1 => by
    unfold grpF
    rw [List.filter_append, grpF_word h k, List.filter_append]
    have h1 : ((l.drop (5 * k)).take 5).filter (fun x => decide (x ≠ 32)) = (l.drop (5 * k)).take 5 := filter_none (fun hm => h (List.mem_of_mem_drop (List.mem_of_mem_take hm)))
    have h2 : (if k = 0 then [] else [(32 : UInt8)]).filter (fun x => decide (x ≠ 32)) = [] := by split <;> simp
    rw [h1, h2, List.nil_append, show 5 * (k + 1) = 5 * k + 5 by omega, List.take_add]
theorem grpT_word {s : ByteArray} (h : (32 : UInt8) ∉ tl s) : (tl (grpT s)).filter (fun x => decide (x ≠ 32)) = tl s := by
  unfold grpT
  rw [tl_mk, grpF_word h, List.take_of_length_le (by rw [length_tl]; omega)]

set_option maxHeartbeats 4000000 in
set_option maxRecDepth 100000 in
theorem parseGroups_yes (w : World) (hml : ML w) (s : ByteArray) (hs : wv (tl s) = true) :
    Calls Tryz.prog 298 #[.string (grpT s)] w fun e w' => e = .returned (.tuple #[.string s, .bool true]) ∧ Below w.heap.size w w' := by
  have hz := wv_size hs
  have hgz := grpT_size s
  have h32 : (32 : UInt8) ∉ tl s := wv_not hs (by decide)
  obtain ⟨m, hm⟩ := hml
  have hra := Tryz.strings_ReplaceAll (grpT s) ⟨#[32]⟩ ⟨#[]⟩ m w (by omega) hm (Nat.le_refl 1) (by rw [show (⟨#[]⟩ : ByteArray).size = 0 from rfl, Nat.mul_zero]; omega)
  have he : (⟨(Lib.replaceAll (grpT s).data.toList (⟨#[32]⟩ : ByteArray).data.toList (⟨#[]⟩ : ByteArray).data.toList).toArray⟩ : ByteArray) = s := by
    rw [show (⟨#[32]⟩ : ByteArray).data.toList = [32] from rfl, show (⟨#[]⟩ : ByteArray).data.toList = [] from rfl, replaceAll_one]
    show mk ((tl (grpT s)).filter _) = s
    rw [grpT_word h32, mk_tl]
  rw [he] at hra
  have hgw := fun w' => groupWord_yes w' s hs
  obtain ⟨G, hG⟩ : ∃ G, G = grpT s := ⟨_, rfl⟩
  rw [← hG] at hra hgw ⊢
  have HRA := Lib.hid hra; have HGW := Lib.hid hgw; have HS := Lib.hid hs
  have hne : (G.toList == G.toList) = true := beq_self_eq_true _
  clear hra hgw hs hz hgz h32 hm he hG
  go_enter Tryz.func298, Tryz.ntmps298
  go_wp2_with fail
  refine HRA.out.mono ?_
  rintro _ w1 ⟨rfl, hb1⟩
  have HB1 := Lib.hid hb1; clear hb1
  go_wp2_with fail
  refine (wordValid_is _ true _ HS.out).mono ?_
  rintro _ _ ⟨rfl, rfl⟩
  go_wp2_with fail
  refine (HGW.out _).mono ?_
  rintro _ w2 ⟨rfl, hb2⟩
  have HB2 := Lib.hid (HB1.out.trans (hb2.mono HB1.out.size)); clear hb2
  go_wp2_with fail
  go_ret2
  exact ⟨rfl, HB2.out⟩

theorem SB.three {w : World} {p : Nat} {a b c : Value} {T : TypeId} (h : SB w p #[a, b, c] T) : w.cell? ⟨p, 0, none⟩ = some a ∧ w.cell? ⟨p, 1, none⟩ = some b ∧ w.cell? ⟨p, 2, none⟩ = some c := ⟨h.cell 0 a rfl, h.cell 1 b rfl, h.cell 2 c rfl⟩

set_option maxHeartbeats 4000000 in
set_option maxRecDepth 100000 in
theorem messageValid_yes (w : World) (a b c : ByteArray) (h1 : 1 ≤ a.size) (h3 : a.size ≤ 3) (ha : wv (tl a) = true) (hz : b.size = a.size) (hb : wv (tl b) = true) (hc : wv (tl c) = true) :
    Calls Tryz.prog 45 #[.agg #[.string a, .string b, .string c]] w fun e w' => e = .returned (.bool true) ∧ Below w.heap.size w w' := by
  obtain ⟨w0, hw0⟩ : ∃ w0, w0 = w.alloc (.cells #[.string a, .string b, .string c] 31) := ⟨_, rfl⟩
  have hb0 : Below w.heap.size w w0 := by rw [hw0]; exact (Below.refl _ _).alloc (Nat.le_refl _) _
  have hs0 := SB.made w #[.string a, .string b, .string c] 31
  rw [← hw0] at hs0
  obtain ⟨P, hP⟩ : ∃ P, P = w.heap.size := ⟨_, rfl⟩
  rw [← hP] at hs0
  obtain ⟨c0, c1, c2⟩ := hs0.three
  have HB0 := Lib.hid hb0; have HA := Lib.hid ha; have HB := Lib.hid hb; have HC := Lib.hid hc
  have v1 : (1 : Int) ≤ (a.size : Int) := by omega
  have v2 : (a.size : Int) ≤ 3 := by omega
  have v3 : ((b.size : Int) == (a.size : Int)) = true := by rw [beq_iff_eq]; omega
  clear hb0 ha hb hc hs0 hz h1 h3
  go_enter Tryz.func45, Tryz.ntmps45
  go_wp2_with fail
  rw [← hw0]
  rw [← hP]
  clear hw0 hP
  go_wp2_with fail
  refine (wordValid_is _ true _ HA.out).mono ?_
  rintro _ _ ⟨rfl, rfl⟩
  go_wp2_with fail
  refine (wordValid_is _ true _ HB.out).mono ?_
  rintro _ _ ⟨rfl, rfl⟩
  go_wp2_with fail
  refine (wordValid_is _ true _ HC.out).mono ?_
  rintro _ _ ⟨rfl, rfl⟩
  go_wp2_with fail
  go_ret
  exact ⟨rfl, HB0.out⟩

/-- the text of a message -/
def msgT (a b c : ByteArray) : ByteArray := a ++ ⟨#[32]⟩ ++ b ++ ⟨#[61]⟩ ++ grpT c

set_option maxHeartbeats 4000000 in
set_option maxRecDepth 100000 in
theorem formatMessage_yes (w : World) (a b c : ByteArray) (h1 : 1 ≤ a.size) (h3 : a.size ≤ 3) (ha : wv (tl a) = true) (hz : b.size = a.size) (hb : wv (tl b) = true) (hc : wv (tl c) = true) :
    Calls Tryz.prog 10 #[.agg #[.string a, .string b, .string c]] w fun e w' => e = .returned (.string (msgT a b c)) ∧ Below w.heap.size w w' := by
  have hmv := fun w' => messageValid_yes w' a b c h1 h3 ha hz hb hc
  have hgw := fun w' => groupWord_yes w' c hc
  have hgz := grpT_size c
  have hcz := wv_size hc
  obtain ⟨w0, hw0⟩ : ∃ w0, w0 = w.alloc (.cells #[.string a, .string b, .string c] 31) := ⟨_, rfl⟩
  have hb0 : Below w.heap.size w w0 := by rw [hw0]; exact (Below.refl _ _).alloc (Nat.le_refl _) _
  have hs0 := SB.made w #[.string a, .string b, .string c] 31
  rw [← hw0] at hs0
  obtain ⟨P, hP⟩ : ∃ P, P = w.heap.size := ⟨_, rfl⟩
  rw [← hP] at hs0
  obtain ⟨c0, c1, c2⟩ := hs0.three
  have HB0 := Lib.hid hb0; have HMV := Lib.hid hmv; have HGW := Lib.hid hgw; have HS0 := Lib.hid hs0
  unfold msgT
  generalize grpT c = G at HGW hgz ⊢
  have y1 : ¬ 9223372036854775807 < a.size + 1 := by omega
  have y2 : ¬ 9223372036854775807 < a.size + 1 + b.size := by omega
  have y3 : ¬ 9223372036854775807 < a.size + 1 + b.size + 1 := by omega
  have y4 : ¬ 9223372036854775807 < a.size + 1 + b.size + 1 + G.size := by omega
  clear hb0 ha hb hc hs0 hz h1 h3 hmv hgw hgz hcz
  go_enter Tryz.func10, Tryz.ntmps10
  go_wp2_with fail
  rw [← hw0]
  rw [← hP]
  clear hw0 hP
  go_wp2_with fail
  refine (HMV.out _).mono ?_
  rintro _ w1 ⟨rfl, hb1⟩
  have HB1 := Lib.hid (HB0.out.trans (hb1.mono HB0.out.size)); have HS1 := Lib.hid (HS0.out.below hb1)
  clear hb1 c0 c1 c2
  obtain ⟨c0, c1, c2⟩ := HS1.out.three
  have hs : ∀ W : World, Below w1.heap.size w1 W → (W.cell? ⟨P, 0, none⟩ = some (.string a) ∧ W.cell? ⟨P, 1, none⟩ = some (.string b) ∧ W.cell? ⟨P, 2, none⟩ = some (.string c)) := fun W hbw => by
    exact (HS1.out.below hbw).three
  have HS := Lib.hid hs
  have hbd : Below w1.heap.size w1 w1.drew := (Below.refl _ _).drew
  clear hs
  go_wp2_with fail
  go_region_held3 (fun W => W.cell? ⟨P, 0, none⟩ = some (.string a) ∧ W.cell? ⟨P, 1, none⟩ = some (.string b) ∧ W.cell? ⟨P, 2, none⟩ = some (.string c)) (first | with_reducible assumption | with_reducible exact HS.out _ (by with_reducible assumption)) (first | (go_at_call 46; refine (HGW.out _).mono ?_; rintro _ w5 ⟨rfl, hb5⟩; have b5 := bel_on (a := w1) (by assumption) hb5; clear hb5) | fail)
  all_goals
    go_wp2_with fail
    go_ret
    exact ⟨rfl, HB1.out.trans (b5.mono HB1.out.size)⟩

theorem msgSize : (Tryz.prog.info? 31).map (·.size) = some 3 := by kernel_rfl
theorem two_sb (w : World) (a b : Array Value) (T U : TypeId) (w0 : World) (h : w0 = (w.alloc (.cells a T)).alloc (.cells b U)) : Below w.heap.size w w0 ∧ SB w0 w.heap.size a T ∧ SB w0 (w.heap.size + 1) b U := by
  subst h
  refine ⟨bel_two _ _, (SB.made w a T).below ((Below.refl _ _).alloc (Nat.le_refl _) _), ?_⟩
  have h1 := SB.made (w.alloc (.cells a T)) b U
  rw [show (w.alloc (.cells a T)).heap.size = w.heap.size + 1 by simp] at h1
  exact h1
theorem SB.three_put {w : World} {p : Nat} {a b c : Value} {T : TypeId} (h : SB w p #[a, b, c] T) (e f g : Value) : SB (((w.setCell ⟨p, 0, none⟩ e).setCell ⟨p, 1, none⟩ f).setCell ⟨p, 2, none⟩ g) p #[e, f, g] T := ((h.put 0 e).put 1 f).put 2 g
theorem SB.threeF {w : World} {p : Nat} {a b c : Value} {T : TypeId} (h : SB w p #[a, b, c] T) : w.frozen? ⟨p, 0, none⟩ = false ∧ w.frozen? ⟨p, 1, none⟩ = false ∧ w.frozen? ⟨p, 2, none⟩ = false := ⟨h.frozen 0, h.frozen 1, h.frozen 2⟩
theorem bel_three {a w : World} {B p : Nat} (h : Below B a w) (hp : B ≤ p) (e f g : Value) : Below B a (((w.setCell ⟨p, 0, none⟩ e).setCell ⟨p, 1, none⟩ f).setCell ⟨p, 2, none⟩ g) := ((h.setCell hp _).setCell hp _).setCell hp _

set_option maxHeartbeats 4000000 in
set_option maxRecDepth 100000 in
theorem sealMessage_yes (w : World) (A : Option Addr) (cap : Nat) (rs : List (ByteArray × ByteArray)) (p g l o y x s1 u1 s2 u2 : ByteArray) (h : Rd w w.heap.size A (rotV rs)) (hc : rs.length ≤ cap) (hl : rs.length ≤ 100) (hv : SetV rs p g l o) (hy : SetV rs p g l y) (hx : wv (tl x) = true) (e1 : EncIs rs p g l o y s1 u1) (e2 : EncIs rs p g l y x s2 u2) :
    Calls Tryz.prog 8 #[.agg #[.slice A rs.length cap, .string p, .string g, .string l], .string o, .string y, .string x] w fun e w' => e = .returned (.tuple #[.agg #[.string o, .string s1, .string s2], .bool true]) ∧ Below w.heap.size w w' := by
  obtain ⟨w0, hw0⟩ : ∃ w0, w0 = (w.alloc (.cells #[.slice A rs.length cap, .string p, .string g, .string l] 27)).alloc (.cells #[.string ⟨#[]⟩, .string ⟨#[]⟩, .string ⟨#[]⟩] 31) := ⟨_, rfl⟩
  obtain ⟨hb0, hs0, hq0⟩ := two_sb w _ _ _ _ w0 hw0
  have hrd0 := (h.below hb0).mono hb0.size
  have hcon := fun (w' : World) (h' : Rd w' w'.heap.size A (rotV rs)) => settingValid_any w' A cap rs p g l o true h' hc hl (by simp [hv])
  have hcon2 := fun (w' : World) (h' : Rd w' w'.heap.size A (rotV rs)) => settingValid_any w' A cap rs p g l y true h' hc hl (by simp [hy])
  have hen1 := fun (w' : World) (h' : Rd w' w'.heap.size A (rotV rs)) => e1 w' A cap h' hc
  have hen2 := fun (w' : World) (h' : Rd w' w'.heap.size A (rotV rs)) => e2 w' A cap h' hc
  obtain ⟨M, hM⟩ : ∃ M, M = rs.length := ⟨_, rfl⟩
  have HB0 := Lib.hid hb0; have HCON := Lib.hid hcon; have HCN2 := Lib.hid hcon2; have HRD := Lib.hid hrd0; have HE1 := Lib.hid hen1; have HE2 := Lib.hid hen2; have HX := Lib.hid hx
  rw [← hM] at hw0 HCON HCN2 HE1 HE2 hs0 ⊢
  obtain ⟨P, hP⟩ : ∃ P, P = w.heap.size := ⟨_, rfl⟩
  have hpw : w.heap.size ≤ P + 1 := by omega
  rw [← hP] at hs0 hq0
  have HS0 := Lib.hid hs0; have HQ0 := Lib.hid hq0; have HPW := Lib.hid hpw
  obtain ⟨⟨c0, c1, c2, c3⟩, _⟩ := hs0.all4
  clear h hb0 hcon hcon2 hM hc hl hs0 hq0 hv hy hrd0 hen1 hen2 e1 e2 hx hpw
  go_enter Tryz.func8, Tryz.ntmps8
  go_wp2_with fail
  rw [← hw0]
  rw [← hP]
  clear hw0 hP
  go_wp2_with fail
  refine (HCON.out _ HRD.out).mono ?_
  rintro _ w1 ⟨rfl, hb1⟩
  have HB1 := Lib.hid (HB0.out.trans (hb1.mono HB0.out.size)); have HRD1 := Lib.hid ((HRD.out.below hb1).mono hb1.size); have HS1 := Lib.hid (HS0.out.below hb1); have HQ1 := Lib.hid (HQ0.out.below hb1)
  clear hb1 c0 c1 c2 c3 HB0 HRD HS0 HQ0
  obtain ⟨⟨c0, c1, c2, c3⟩, _⟩ := HS1.out.all4
  go_wp2_with fail
  refine (HCN2.out _ HRD1.out).mono ?_
  rintro _ w2 ⟨rfl, hb2⟩
  have HB2 := Lib.hid (HB1.out.trans (hb2.mono HB1.out.size)); have HRD2 := Lib.hid ((HRD1.out.below hb2).mono hb2.size); have HS2 := Lib.hid (HS1.out.below hb2); have HQ2 := Lib.hid (HQ1.out.below hb2)
  clear hb2 c0 c1 c2 c3 HB1 HRD1 HS1 HQ1
  obtain ⟨⟨c0, c1, c2, c3⟩, _⟩ := HS2.out.all4
  go_wp2_with fail
  refine (wordValid_is _ true _ HX.out).mono ?_
  rintro _ _ ⟨rfl, rfl⟩
  go_wp2_with fail
  refine (HE1.out _ HRD2.out).mono ?_
  rintro _ w3 ⟨rfl, hb3⟩
  have HB3 := Lib.hid (HB2.out.trans (hb3.mono HB2.out.size)); have HRD3 := Lib.hid ((HRD2.out.below hb3).mono hb3.size); have HS3 := Lib.hid (HS2.out.below hb3); have HQ3 := Lib.hid (HQ2.out.below hb3)
  clear hb3 c0 c1 c2 c3 HB2 HRD2 HS2 HQ2
  obtain ⟨⟨c0, c1, c2, c3⟩, _⟩ := HS3.out.all4
  go_wp2_with fail
  refine (HE2.out _ HRD3.out).mono ?_
  rintro _ w4 ⟨rfl, hb4⟩
  have HB4 := Lib.hid (HB3.out.trans (hb4.mono HB3.out.size)); have HQ4 := Lib.hid (HQ3.out.below hb4)
  clear hb4 c0 c1 c2 c3 HB3 HRD3 HS3 HQ3
  obtain ⟨q0, q1, q2⟩ := HQ4.out.three
  obtain ⟨f0, f1, f2⟩ := HQ4.out.threeF
  have HF := Lib.hid (HQ4.out.three_put (.string o) (.string s1) (.string s2))
  have HBF := Lib.hid (bel_three HB4.out HPW.out (.string o) (.string s1) (.string s2))
  go_wp2_with fail
  refine bodyPost_ret (results_st_tmp rfl _ _ (P + 1) _ #[.string o, .string s1, .string s2] _ _ rfl HF.out Tryz.underlying31 ⟨_, rfl⟩ msgSize) rfl ⟨rfl, HBF.out⟩

set_option maxHeartbeats 4000000 in
set_option maxRecDepth 100000 in
theorem openMessage_yes (w : World) (A : Option Addr) (cap : Nat) (rs : List (ByteArray × ByteArray)) (p g l a b c y u1 x u2 : ByteArray) (h : Rd w w.heap.size A (rotV rs)) (hc : rs.length ≤ cap) (hl : rs.length ≤ 100) (hv : SetV rs p g l a) (h1 : 1 ≤ a.size) (h3 : a.size ≤ 3) (hz : b.size = a.size) (hb : wv (tl b) = true) (hcv : wv (tl c) = true) (e1 : EncIs rs p g l a b y u1) (e2 : EncIs rs p g l y c x u2) :
    Calls Tryz.prog 251 #[.agg #[.slice A rs.length cap, .string p, .string g, .string l], .agg #[.string a, .string b, .string c]] w fun e w' => e = .returned (.tuple #[.string y, .string x, .bool true]) ∧ Below w.heap.size w w' := by
  obtain ⟨w0, hw0⟩ : ∃ w0, w0 = (w.alloc (.cells #[.slice A rs.length cap, .string p, .string g, .string l] 27)).alloc (.cells #[.string a, .string b, .string c] 31) := ⟨_, rfl⟩
  obtain ⟨hb0, hs0, hq0⟩ := two_sb w _ _ _ _ w0 hw0
  have hrd0 := (h.below hb0).mono hb0.size
  have hcon := fun (w' : World) (h' : Rd w' w'.heap.size A (rotV rs)) => settingValid_any w' A cap rs p g l a true h' hc hl (by simp [hv])
  have hmv := fun (w' : World) => messageValid_yes w' a b c h1 h3 hv.2.2 hz hb hcv
  have hen1 := fun (w' : World) (h' : Rd w' w'.heap.size A (rotV rs)) => e1 w' A cap h' hc
  have hen2 := fun (w' : World) (h' : Rd w' w'.heap.size A (rotV rs)) => e2 w' A cap h' hc
  obtain ⟨M, hM⟩ : ∃ M, M = rs.length := ⟨_, rfl⟩
  have HB0 := Lib.hid hb0; have HCON := Lib.hid hcon; have HMV := Lib.hid hmv; have HRD := Lib.hid hrd0; have HE1 := Lib.hid hen1; have HE2 := Lib.hid hen2
  rw [← hM] at hw0 HCON HE1 HE2 hs0 ⊢
  obtain ⟨P, hP⟩ : ∃ P, P = w.heap.size := ⟨_, rfl⟩
  rw [← hP] at hs0 hq0
  have HS0 := Lib.hid hs0; have HQ0 := Lib.hid hq0
  obtain ⟨⟨c0, c1, c2, c3⟩, _⟩ := hs0.all4
  obtain ⟨q0, q1, q2⟩ := hq0.three
  clear h hb0 hcon hmv hM hc hl hs0 hq0 hv hrd0 hen1 hen2 e1 e2 h1 h3 hz hb hcv
  go_enter Tryz.func251, Tryz.ntmps251
  go_wp2_with fail
  rw [← hw0]
  rw [← hP]
  clear hw0 hP
  go_wp2_with fail
  refine (HCON.out _ HRD.out).mono ?_
  rintro _ w1 ⟨rfl, hb1⟩
  have HB1 := Lib.hid (HB0.out.trans (hb1.mono HB0.out.size)); have HRD1 := Lib.hid ((HRD.out.below hb1).mono hb1.size); have HS1 := Lib.hid (HS0.out.below hb1); have HQ1 := Lib.hid (HQ0.out.below hb1)
  clear hb1 c0 c1 c2 c3 q0 q1 q2 HB0 HRD HS0 HQ0
  obtain ⟨q0, q1, q2⟩ := HQ1.out.three
  go_wp2_with fail
  refine (HMV.out _).mono ?_
  rintro _ w2 ⟨rfl, hb2⟩
  have HB2 := Lib.hid (HB1.out.trans (hb2.mono HB1.out.size)); have HRD2 := Lib.hid ((HRD1.out.below hb2).mono hb2.size); have HS2 := Lib.hid (HS1.out.below hb2); have HQ2 := Lib.hid (HQ1.out.below hb2)
  clear hb2 q0 q1 q2 HB1 HRD1 HS1 HQ1
  obtain ⟨⟨c0, c1, c2, c3⟩, _⟩ := HS2.out.all4
  obtain ⟨q0, q1, q2⟩ := HQ2.out.three
  go_wp2_with fail
  refine (HE1.out _ HRD2.out).mono ?_
  rintro _ w3 ⟨rfl, hb3⟩
  have HB3 := Lib.hid (HB2.out.trans (hb3.mono HB2.out.size)); have HRD3 := Lib.hid ((HRD2.out.below hb3).mono hb3.size); have HS3 := Lib.hid (HS2.out.below hb3); have HQ3 := Lib.hid (HQ2.out.below hb3)
  clear hb3 c0 c1 c2 c3 q0 q1 q2 HB2 HRD2 HS2 HQ2
  obtain ⟨⟨c0, c1, c2, c3⟩, _⟩ := HS3.out.all4
  obtain ⟨q0, q1, q2⟩ := HQ3.out.three
  go_wp2_with fail
  refine (HE2.out _ HRD3.out).mono ?_
  rintro _ w4 ⟨rfl, hb4⟩
  have HB4 := Lib.hid (HB3.out.trans (hb4.mono HB3.out.size))
  clear hb4 c0 c1 c2 c3 q0 q1 q2 HB3 HRD3 HS3 HQ3
  go_wp2_with fail
  go_ret3
  exact ⟨rfl, HB4.out⟩

set_option maxHeartbeats 8000000 in
set_option maxRecDepth 100000 in
theorem sealMessage_no (w : World) (A : Option Addr) (cap : Nat) (rs : List (ByteArray × ByteArray)) (p g l o y x : ByteArray) (h : Rd w w.heap.size A (rotV rs)) (hc : rs.length ≤ cap) (hl : rs.length ≤ 100) (hn : ¬ (SetV rs p g l o ∧ SetV rs p g l y ∧ wv (tl x) = true)) :
    Calls Tryz.prog 8 #[.agg #[.slice A rs.length cap, .string p, .string g, .string l], .string o, .string y, .string x] w fun e w' => e = .returned (.tuple #[.agg #[.string ⟨#[]⟩, .string ⟨#[]⟩, .string ⟨#[]⟩], .bool false]) ∧ Below w.heap.size w w' := by
  obtain ⟨w0, hw0⟩ : ∃ w0, w0 = (w.alloc (.cells #[.slice A rs.length cap, .string p, .string g, .string l] 27)).alloc (.cells #[.string ⟨#[]⟩, .string ⟨#[]⟩, .string ⟨#[]⟩] 31) := ⟨_, rfl⟩
  obtain ⟨hb0, hs0, hq0⟩ := two_sb w _ _ _ _ w0 hw0
  have hrd0 := (h.below hb0).mono hb0.size
  obtain ⟨b1, hb1'⟩ : ∃ b1 : Bool, b1 = true ↔ SetV rs p g l o := ⟨@decide _ (Classical.propDecidable _), @decide_eq_true_iff _ (Classical.propDecidable _)⟩
  obtain ⟨b2, hb2'⟩ : ∃ b2 : Bool, b2 = true ↔ SetV rs p g l y := ⟨@decide _ (Classical.propDecidable _), @decide_eq_true_iff _ (Classical.propDecidable _)⟩
  have hcon := fun (w' : World) (h' : Rd w' w'.heap.size A (rotV rs)) => settingValid_any w' A cap rs p g l o b1 h' hc hl hb1'
  have hcon2 := fun (w' : World) (h' : Rd w' w'.heap.size A (rotV rs)) => settingValid_any w' A cap rs p g l y b2 h' hc hl hb2'
  have hx : wv (tl x) = wv (tl x) := rfl
  have hnb : ¬ (b1 = true ∧ b2 = true ∧ wv (tl x) = true) := fun e => hn ⟨hb1'.1 e.1, hb2'.1 e.2.1, e.2.2⟩
  obtain ⟨M, hM⟩ : ∃ M, M = rs.length := ⟨_, rfl⟩
  have HB0 := Lib.hid hb0; have HCON := Lib.hid hcon; have HCN2 := Lib.hid hcon2; have HRD := Lib.hid hrd0
  rw [← hM] at hw0 HCON HCN2 hs0 ⊢
  obtain ⟨P, hP⟩ : ∃ P, P = w.heap.size := ⟨_, rfl⟩
  have hpw : w.heap.size ≤ P + 1 := by omega
  rw [← hP] at hs0 hq0
  have HS0 := Lib.hid hs0; have HQ0 := Lib.hid hq0; have HPW := Lib.hid hpw
  obtain ⟨⟨c0, c1, c2, c3⟩, _⟩ := hs0.all4
  clear h hb0 hcon hcon2 hM hc hl hs0 hq0 hrd0 hpw hn hb1' hb2'
  generalize hxx : wv (tl x) = b3 at hnb
  have HX := Lib.hid hxx
  clear hxx hx
  cases b1 with
  | false =>
    clear hnb
    go_enter Tryz.func8, Tryz.ntmps8
    go_wp2_with fail
    rw [← hw0]
    rw [← hP]
    clear hw0 hP
    go_wp2_with fail
    refine (HCON.out _ HRD.out).mono ?_
    rintro _ w1 ⟨rfl, hb1⟩
    have HB1 := Lib.hid (HB0.out.trans (hb1.mono HB0.out.size)); have HQ1 := Lib.hid (HQ0.out.below hb1)
    clear hb1 c0 c1 c2 c3 HB0 HRD HS0 HQ0
    obtain ⟨q0, q1, q2⟩ := HQ1.out.three
    obtain ⟨f0, f1, f2⟩ := HQ1.out.threeF
    have HF := Lib.hid (HQ1.out.three_put (.string ⟨#[]⟩) (.string ⟨#[]⟩) (.string ⟨#[]⟩))
    have HBF := Lib.hid (bel_three HB1.out HPW.out (.string ⟨#[]⟩) (.string ⟨#[]⟩) (.string ⟨#[]⟩))
    go_wp2_with fail
    refine bodyPost_ret (results_st_tmp rfl _ _ (P + 1) _ #[.string ⟨#[]⟩, .string ⟨#[]⟩, .string ⟨#[]⟩] _ _ rfl HF.out Tryz.underlying31 ⟨_, rfl⟩ msgSize) rfl ⟨rfl, HBF.out⟩
  | true =>
    go_enter Tryz.func8, Tryz.ntmps8
    go_wp2_with fail
    rw [← hw0]
    rw [← hP]
    clear hw0 hP
    go_wp2_with fail
    refine (HCON.out _ HRD.out).mono ?_
    rintro _ w1 ⟨rfl, hb1⟩
    have HB1 := Lib.hid (HB0.out.trans (hb1.mono HB0.out.size)); have HRD1 := Lib.hid ((HRD.out.below hb1).mono hb1.size); have HS1 := Lib.hid (HS0.out.below hb1); have HQ1 := Lib.hid (HQ0.out.below hb1)
    clear hb1 c0 c1 c2 c3 HB0 HRD HS0 HQ0
    obtain ⟨⟨c0, c1, c2, c3⟩, _⟩ := HS1.out.all4
    cases b2 with
    | false =>
      clear hnb
      go_wp2_with fail
      refine (HCN2.out _ HRD1.out).mono ?_
      rintro _ w2 ⟨rfl, hb2⟩
      have HB2 := Lib.hid (HB1.out.trans (hb2.mono HB1.out.size)); have HQ2 := Lib.hid (HQ1.out.below hb2)
      clear hb2 c0 c1 c2 c3 HB1 HRD1 HS1 HQ1
      obtain ⟨q0, q1, q2⟩ := HQ2.out.three
      obtain ⟨f0, f1, f2⟩ := HQ2.out.threeF
      have HF := Lib.hid (HQ2.out.three_put (.string ⟨#[]⟩) (.string ⟨#[]⟩) (.string ⟨#[]⟩))
      have HBF := Lib.hid (bel_three HB2.out HPW.out (.string ⟨#[]⟩) (.string ⟨#[]⟩) (.string ⟨#[]⟩))
      go_wp2_with fail
      refine bodyPost_ret (results_st_tmp rfl _ _ (P + 1) _ #[.string ⟨#[]⟩, .string ⟨#[]⟩, .string ⟨#[]⟩] _ _ rfl HF.out Tryz.underlying31 ⟨_, rfl⟩ msgSize) rfl ⟨rfl, HBF.out⟩
    | true =>
      obtain rfl : b3 = false := by cases b3 <;> simp_all
      clear hnb
      go_wp2_with fail
      refine (HCN2.out _ HRD1.out).mono ?_
      rintro _ w2 ⟨rfl, hb2⟩
      have HB2 := Lib.hid (HB1.out.trans (hb2.mono HB1.out.size)); have HQ2 := Lib.hid (HQ1.out.below hb2)
      clear hb2 c0 c1 c2 c3 HB1 HRD1 HS1 HQ1
      go_wp2_with fail
      refine (wordValid_is _ false _ HX.out).mono ?_
      rintro _ _ ⟨rfl, rfl⟩
      obtain ⟨q0, q1, q2⟩ := HQ2.out.three
      obtain ⟨f0, f1, f2⟩ := HQ2.out.threeF
      have HF := Lib.hid (HQ2.out.three_put (.string ⟨#[]⟩) (.string ⟨#[]⟩) (.string ⟨#[]⟩))
      have HBF := Lib.hid (bel_three HB2.out HPW.out (.string ⟨#[]⟩) (.string ⟨#[]⟩) (.string ⟨#[]⟩))
      go_wp2_with fail
      refine bodyPost_ret (results_st_tmp rfl _ _ (P + 1) _ #[.string ⟨#[]⟩, .string ⟨#[]⟩, .string ⟨#[]⟩] _ _ rfl HF.out Tryz.underlying31 ⟨_, rfl⟩ msgSize) rfl ⟨rfl, HBF.out⟩

set_option maxHeartbeats 4000000 in
set_option maxRecDepth 100000 in
theorem parseMessage_yes (w : World) (hml : ML w) (a b c : ByteArray) (h1 : 1 ≤ a.size) (h3 : a.size ≤ 3) (ha : wv (tl a) = true) (hz : b.size = a.size) (hb : wv (tl b) = true) (hc : wv (tl c) = true) :
    Calls Tryz.prog 250 #[.string (msgT a b c)] w fun e w' => e = .returned (.tuple #[.agg #[.string a, .string b, .string c], .bool true]) ∧ Below w.heap.size w w' := by
  have hcz := wv_size hc
  have hgz := grpT_size c
  have ht : tl (msgT a b c) = (tl a ++ 32 :: tl b) ++ 61 :: tl (grpT c) := by
    unfold msgT
    simp only [append_tl, tl_mk]
    rw [show tl (⟨#[32]⟩ : ByteArray) = [32] from rfl, show tl (⟨#[61]⟩ : ByteArray) = [61] from rfl]
    simp
  have hn61 : (61 : UInt8) ∉ tl a ++ 32 :: tl b := by
    simp only [List.mem_append, List.mem_cons, not_or]
    exact ⟨wv_not ha (by decide), by decide, wv_not hb (by decide)⟩
  have hn32 : (32 : UInt8) ∉ tl a := wv_not ha (by decide)
  have hms : (msgT a b c).size ≤ 1000 := by rw [← length_tl, ht]; simp only [List.length_append, List.length_cons, length_tl]; omega
  have hmv := fun (w' : World) => messageValid_yes w' a b c h1 h3 ha hz hb hc
  have hpg := fun (w' : World) (hm' : ML w') => parseGroups_yes w' hm' c hc
  obtain ⟨H, hH⟩ : ∃ H, H = mk (tl a ++ 32 :: tl b) := ⟨_, rfl⟩
  have hct1 : ∀ w', ML w' → Calls Tryz.prog 117 #[.string (msgT a b c), .string ⟨#[61]⟩] w' fun e w'' => e = .returned (.tuple #[.string H, .string (grpT c), .bool true]) ∧ ∃ n, w'' = w'.drewN n := fun w' hm' => by
    have h := cut_any w' (msgT a b c) 61 hm' (by omega)
    rw [ht, (bef_of hn61).1, (bef_of hn61).2, mk_tl, ← hH] at h
    have e3 : decide ((61 : UInt8) ∈ (tl a ++ 32 :: tl b) ++ 61 :: tl (grpT c)) = true := by simp
    rw [e3] at h
    exact h
  have hct2 : ∀ w', ML w' → Calls Tryz.prog 117 #[.string H, .string ⟨#[32]⟩] w' fun e w'' => e = .returned (.tuple #[.string a, .string b, .bool true]) ∧ ∃ n, w'' = w'.drewN n := fun w' hm' => by
    have h := cut_word w' (tl a) b hn32 hm' (by omega) (by rw [length_tl]; omega)
    rw [← hH, mk_tl] at h
    exact h
  obtain ⟨w0, hw0⟩ : ∃ w0, w0 = w.alloc (.cells #[.string ⟨#[]⟩, .string ⟨#[]⟩, .string ⟨#[]⟩] 31) := ⟨_, rfl⟩
  have hb0 : Below w.heap.size w w0 := by rw [hw0]; exact (Below.refl _ _).alloc (Nat.le_refl _) _
  have hs0 := SB.made w #[.string ⟨#[]⟩, .string ⟨#[]⟩, .string ⟨#[]⟩] 31
  rw [← hw0] at hs0
  obtain ⟨P, hP⟩ : ∃ P, P = w.heap.size := ⟨_, rfl⟩
  have hpw : w.heap.size ≤ P := by omega
  rw [← hP] at hs0
  have hml0 := hml.below hb0 (Nat.le_refl _)
  have HML := Lib.hid hml0; have HB0 := Lib.hid hb0; have HMV := Lib.hid hmv; have HPG := Lib.hid hpg; have HC1 := Lib.hid hct1; have HC2 := Lib.hid hct2; have HS0 := Lib.hid hs0; have HPW := Lib.hid hpw
  generalize msgT a b c = T at HC1 ⊢
  generalize grpT c = G at HC1 HPG
  clear hml hml0 hb0 hmv hpg hct1 hct2 hs0 hpw ht hn61 hn32 hms hH hcz hgz h1 h3 ha hz hb hc
  go_enter Tryz.func250, Tryz.ntmps250
  go_wp2_with fail
  rw [← hw0]
  rw [← hP]
  clear hw0 hP
  go_wp2_with fail
  refine (HC1.out _ HML.out).mono ?_
  rintro _ w1 ⟨rfl, n1, hw1⟩
  have hb1 : Below w0.heap.size w0 w1 := by rw [hw1]; exact below_drewN' (Below.refl _ _) _
  have HB1 := Lib.hid (HB0.out.trans (hb1.mono HB0.out.size)); have HS1 := Lib.hid (HS0.out.below hb1); have HML1 := Lib.hid (HML.out.below hb1 (Nat.le_refl _))
  clear hb1 hw1 HB0 HS0 HML
  go_wp2_with fail
  refine (HC2.out _ HML1.out).mono ?_
  rintro _ w2 ⟨rfl, n2, hw2⟩
  have hb2 : Below w1.heap.size w1 w2 := by rw [hw2]; exact below_drewN' (Below.refl _ _) _
  have HB2 := Lib.hid (HB1.out.trans (hb2.mono HB1.out.size)); have HS2 := Lib.hid (HS1.out.below hb2); have HML2 := Lib.hid (HML1.out.below hb2 (Nat.le_refl _))
  clear hb2 hw2 HB1 HS1 HML1
  go_wp2_with fail
  refine (HPG.out _ HML2.out).mono ?_
  rintro _ w3 ⟨rfl, hb3⟩
  have HB3 := Lib.hid (HB2.out.trans (hb3.mono HB2.out.size)); have HS3 := Lib.hid (HS2.out.below hb3)
  clear hb3 HB2 HS2 HML2
  obtain ⟨w4, hw4⟩ : ∃ w4, w4 = w3.alloc (.cells #[.string a, .string b, .string c] 31) := ⟨_, rfl⟩
  have hb4 : Below w3.heap.size w3 w4 := by rw [hw4]; exact (Below.refl _ _).alloc (Nat.le_refl _) _
  have hq4 := SB.made w3 #[.string a, .string b, .string c] 31
  rw [← hw4] at hq4
  obtain ⟨Q, hQ⟩ : ∃ Q, Q = w3.heap.size := ⟨_, rfl⟩
  rw [← hQ] at hq4
  have HB4 := Lib.hid (HB3.out.trans (hb4.mono HB3.out.size)); have HS4 := Lib.hid (HS3.out.below hb4); have HQ4 := Lib.hid hq4
  obtain ⟨q0, q1, q2⟩ := hq4.three
  clear hb4 hq4 HB3 HS3
  go_wp2_with fail
  rw [← hw4]
  rw [← hQ]
  clear hw4 hQ
  go_wp2_with fail
  refine (HMV.out _).mono ?_
  rintro _ w5 ⟨rfl, hb5⟩
  have HB5 := Lib.hid (HB4.out.trans (hb5.mono HB4.out.size)); have HS5 := Lib.hid (HS4.out.below hb5); have HQ5 := Lib.hid (HQ4.out.below hb5)
  clear hb5 HB4 HS4 HQ4 q0 q1 q2
  obtain ⟨q0, q1, q2⟩ := HQ5.out.three
  obtain ⟨p0, p1, p2⟩ := HS5.out.three
  obtain ⟨f0, f1, f2⟩ := HS5.out.threeF
  have HF := Lib.hid (HS5.out.three_put (.string a) (.string b) (.string c))
  have HBF := Lib.hid (bel_three HB5.out HPW.out (.string a) (.string b) (.string c))
  go_wp2_with fail
  refine bodyPost_ret (results_st_tmp rfl _ _ P _ #[.string a, .string b, .string c] _ _ rfl HF.out Tryz.underlying31 ⟨_, rfl⟩ msgSize) rfl ⟨rfl, HBF.out⟩

abbrev SealIs (d : Dk) (o y x s1 s2 : ByteArray) : Prop := ∀ (w' : World) (A : Option Addr) (cap : Nat), Rd w' w'.heap.size A (rotV d.rs) → d.rs.length ≤ cap → Calls Tryz.prog 8 #[.agg #[.slice A d.rs.length cap, .string d.rf, .string d.ri, .string d.pl], .string o, .string y, .string x] w' fun e w'' => e = .returned (.tuple #[.agg #[.string o, .string s1, .string s2], .bool true]) ∧ Below w'.heap.size w' w''

theorem bel_al {a W : World} {o : Obj} (h : Below a.heap.size a W) : Below a.heap.size a (W.alloc o) := h.alloc h.size o
theorem bel_ald {a : World} {o : Obj} : Below a.heap.size a (a.alloc o).drew := ((Below.refl _ _).alloc (Nat.le_refl _) o).drew
theorem keep_s6 {W : World} {P B R : Nat} (hP : P ≠ R) (hB : B ≠ R) {x0 x1 x2 x3 y0 y1 u0 u1 u2 : Value}
    (h : W.cell? ⟨P, 0, none⟩ = some x0 ∧ W.cell? ⟨P, 1, none⟩ = some x1 ∧ W.cell? ⟨P, 2, none⟩ = some x2 ∧ W.cell? ⟨P, 3, none⟩ = some x3 ∧ W.cell? ⟨B, 0, none⟩ = some y0 ∧ W.cell? ⟨B, 1, none⟩ = some y1) :
    (((W.setCell ⟨R, 0, none⟩ u0).setCell ⟨R, 1, none⟩ u1).setCell ⟨R, 2, none⟩ u2).cell? ⟨P, 0, none⟩ = some x0 ∧ (((W.setCell ⟨R, 0, none⟩ u0).setCell ⟨R, 1, none⟩ u1).setCell ⟨R, 2, none⟩ u2).cell? ⟨P, 1, none⟩ = some x1 ∧ (((W.setCell ⟨R, 0, none⟩ u0).setCell ⟨R, 1, none⟩ u1).setCell ⟨R, 2, none⟩ u2).cell? ⟨P, 2, none⟩ = some x2 ∧ (((W.setCell ⟨R, 0, none⟩ u0).setCell ⟨R, 1, none⟩ u1).setCell ⟨R, 2, none⟩ u2).cell? ⟨P, 3, none⟩ = some x3 ∧ (((W.setCell ⟨R, 0, none⟩ u0).setCell ⟨R, 1, none⟩ u1).setCell ⟨R, 2, none⟩ u2).cell? ⟨B, 0, none⟩ = some y0 ∧ (((W.setCell ⟨R, 0, none⟩ u0).setCell ⟨R, 1, none⟩ u1).setCell ⟨R, 2, none⟩ u2).cell? ⟨B, 1, none⟩ = some y1 := by
  simp only [cell_set_other hP, cell_set_other hB]
  exact h

theorem keep_p9 {W : World} {P Q R : Nat} (hP : P ≠ R) (hQ : Q ≠ R) {x0 x1 x2 x3 x4 x5 y0 y1 y2 u0 u1 u2 u3 u4 u5 : Value}
    (h : (W.cell? ⟨P, 0, none⟩ = some x0 ∧ W.cell? ⟨P, 1, none⟩ = some x1 ∧ W.cell? ⟨P, 2, none⟩ = some x2 ∧ W.cell? ⟨P, 3, none⟩ = some x3 ∧ W.cell? ⟨P, 4, none⟩ = some x4 ∧ W.cell? ⟨P, 5, none⟩ = some x5) ∧ (W.cell? ⟨Q, 0, none⟩ = some y0 ∧ W.cell? ⟨Q, 1, none⟩ = some y1 ∧ W.cell? ⟨Q, 2, none⟩ = some y2)) :
    ((six W R u0 u1 u2 u3 u4 u5).cell? ⟨P, 0, none⟩ = some x0 ∧ (six W R u0 u1 u2 u3 u4 u5).cell? ⟨P, 1, none⟩ = some x1 ∧ (six W R u0 u1 u2 u3 u4 u5).cell? ⟨P, 2, none⟩ = some x2 ∧ (six W R u0 u1 u2 u3 u4 u5).cell? ⟨P, 3, none⟩ = some x3 ∧ (six W R u0 u1 u2 u3 u4 u5).cell? ⟨P, 4, none⟩ = some x4 ∧ (six W R u0 u1 u2 u3 u4 u5).cell? ⟨P, 5, none⟩ = some x5) ∧ ((six W R u0 u1 u2 u3 u4 u5).cell? ⟨Q, 0, none⟩ = some y0 ∧ (six W R u0 u1 u2 u3 u4 u5).cell? ⟨Q, 1, none⟩ = some y1 ∧ (six W R u0 u1 u2 u3 u4 u5).cell? ⟨Q, 2, none⟩ = some y2) := by
  simp only [cell_six hP, cell_six hQ]
  exact h

theorem own_drew2 {w : World} {base : Nat} {e : TypeId} {size : Nat} {v : Value} {n : Nat} {xs : List Value} (h : w.ownsRow base e size v n xs) : w.drew.ownsRow base e size v n xs := h
theorem drew_cell (W : World) (a : Addr) : W.drew.cell? a = W.cell? a := rfl
theorem keep_p6d {W : World} {P R : Nat} (hP : P ≠ R) {x0 x1 x2 x3 x4 x5 u0 u1 u2 u3 u4 u5 : Value}
    (h : W.cell? ⟨P, 0, none⟩ = some x0 ∧ W.cell? ⟨P, 1, none⟩ = some x1 ∧ W.cell? ⟨P, 2, none⟩ = some x2 ∧ W.cell? ⟨P, 3, none⟩ = some x3 ∧ W.cell? ⟨P, 4, none⟩ = some x4 ∧ W.cell? ⟨P, 5, none⟩ = some x5) : (six W R u0 u1 u2 u3 u4 u5).drew.cell? ⟨P, 0, none⟩ = some x0 ∧ (six W R u0 u1 u2 u3 u4 u5).drew.cell? ⟨P, 1, none⟩ = some x1 ∧ (six W R u0 u1 u2 u3 u4 u5).drew.cell? ⟨P, 2, none⟩ = some x2 ∧ (six W R u0 u1 u2 u3 u4 u5).drew.cell? ⟨P, 3, none⟩ = some x3 ∧ (six W R u0 u1 u2 u3 u4 u5).drew.cell? ⟨P, 4, none⟩ = some x4 ∧ (six W R u0 u1 u2 u3 u4 u5).drew.cell? ⟨P, 5, none⟩ = some x5 := by
  simp only [drew_cell, cell_six hP]
  exact h

set_option maxHeartbeats 8000000 in
set_option maxRecDepth 100000 in
theorem runSeal_ok (w : World) (d : Dk) (a : At) (B : Nat) (o y x s1 s2 R T : ByteArray) (hx : wv (tl x) = true) (hse : SealIs d o y x s1 s2)
    (hfm : ∀ w' : World, Calls Tryz.prog 10 #[.agg #[.string o, .string s1, .string s2]] w' fun e w'' => e = .returned (.string T) ∧ Below w'.heap.size w' w'')
    (ho : Own d a w) (hr : Rd w (B + 1) (some ⟨B, 0, none⟩) (strV [o, y, dash x])) (hB : B + 1 ≤ w.heap.size) :
    Calls Tryz.prog 182 #[dkV d a, .string R, .slice (some ⟨B, 0, none⟩) 3 3] w (Answered d T w) := by
  obtain ⟨b0, o0, e0, _, c0⟩ := hr.str (k := 0) (by simp)
  obtain ⟨b1, o1, e1, _, c1⟩ := hr.str (k := 1) (by simp)
  obtain ⟨b2, o2, e2, _, c2⟩ := hr.str (k := 2) (by simp)
  simp only [Option.some.injEq, Addr.mk.injEq, and_true] at e0 e1 e2
  obtain ⟨rfl, rfl⟩ := e0
  obtain ⟨rfl, rfl⟩ := e1
  obtain ⟨rfl, rfl⟩ := e2
  simp only [Nat.zero_add, List.getElem_cons_zero, List.getElem_cons_succ] at c0 c1 c2
  have hb := bel_two (w := w) (.cells (dkC d a) 79) (.cells #[.slice none 0 0, .string ⟨#[]⟩, .string ⟨#[]⟩, .string ⟨#[]⟩, .string ⟨#[]⟩, .slice none 0 0] 79)
  have hdk := heap_alloc_new (w.alloc (.cells (dkC d a) 79)) (.cells #[.slice none 0 0, .string ⟨#[]⟩, .string ⟨#[]⟩, .string ⟨#[]⟩, .string ⟨#[]⟩, .slice none 0 0] 79)
  rw [szalloc] at hdk
  have hpa : ((w.alloc (.cells (dkC d a) 79)).alloc (.cells #[.slice none 0 0, .string ⟨#[]⟩, .string ⟨#[]⟩, .string ⟨#[]⟩, .string ⟨#[]⟩, .slice none 0 0] 79)).heap[w.heap.size]? = some (.cells (dkC d a) 79 (0, 0)) := block_below (heap_alloc_new w _) ((Below.refl _ _).alloc (Nat.le_refl _) _)
  obtain ⟨w1, hw1⟩ : ∃ w1, w1 = ((w.alloc (.cells (dkC d a) 79)).alloc (.cells #[.slice none 0 0, .string ⟨#[]⟩, .string ⟨#[]⟩, .string ⟨#[]⟩, .string ⟨#[]⟩, .slice none 0 0] 79)) := ⟨_, rfl⟩
  rw [← hw1] at hb hdk hpa
  have ho1 := ho.below hb
  have q0 : w1.cell? ⟨B, 0, none⟩ = some (.string o) := (hb.cell (p := ⟨B, 0, none⟩) (World.block_lt_of_cell? _ _ c0)).trans c0
  have q1 : w1.cell? ⟨B, 1, none⟩ = some (.string y) := (hb.cell (p := ⟨B, 1, none⟩) (World.block_lt_of_cell? _ _ c1)).trans c1
  have q2 : w1.cell? ⟨B, 2, none⟩ = some (.string (dash x)) := (hb.cell (p := ⟨B, 2, none⟩) (World.block_lt_of_cell? _ _ c2)).trans c2
  have HB := Lib.hid hb; have HDK := Lib.hid hdk; have HPA := Lib.hid hpa; have HO := Lib.hid ho1; have HX := Lib.hid hx; have HSE := Lib.hid hse; have HFM := Lib.hid hfm
  have HBL := Lib.hid (show B < w1.heap.size by have := hb.size; omega)
  clear hb hdk ho1 ho hx hse hfm hr hB c0 c1 c2
  have c2 := q2
  rw [hw1] at c2
  obtain ⟨k0, k1, k2, k3, k4, k5⟩ := row_six hpa
  clear hpa
  go_enter Tryz.func182, Tryz.ntmps182
  go_wp2_with fail
  rw [← hw1]
  clear hw1 c2
  refine (readWord_ok _ x HX.out).mono ?_
  rintro _ _ ⟨rfl, rfl⟩
  have hs : ∀ W : World, Below w1.heap.size w1 W → (W.cell? ⟨w.heap.size, 0, none⟩ = some (.slice a.Ar d.rs.length a.cr) ∧ W.cell? ⟨w.heap.size, 1, none⟩ = some (.string d.rf) ∧ W.cell? ⟨w.heap.size, 2, none⟩ = some (.string d.ri) ∧ W.cell? ⟨w.heap.size, 3, none⟩ = some (.string d.pl) ∧ W.cell? ⟨B, 0, none⟩ = some (.string o) ∧ W.cell? ⟨B, 1, none⟩ = some (.string y)) := fun W hbw => by
    obtain ⟨v0, v1, v2, v3, _, _⟩ := row_six (block_below HPA.out hbw)
    exact ⟨v0, v1, v2, v3, (hbw.cell (p := ⟨B, 0, none⟩) HBL.out).trans q0, (hbw.cell (p := ⟨B, 1, none⟩) HBL.out).trans q1⟩
  have HS := Lib.hid hs
  have hbd : Below w1.heap.size w1 w1.drew := (Below.refl _ _).drew
  have hn1 : w.heap.size ≠ w1.heap.size := by have := (Array.getElem?_eq_some_iff.1 HPA.out).1; omega
  have hn2 : B ≠ w1.heap.size := by have := HBL.out; omega
  have HRR := Lib.hid (fun (W : World) (hb : Below w1.heap.size w1 W) => own_rd3' (HO.out.below hb).r)
  have HCR := Lib.hid (own_le3 HO.out.r)
  have HQZ := Lib.hid ((SB.made w1 #[.string ⟨#[]⟩, .string ⟨#[]⟩, .string ⟨#[]⟩] 31).below (Below.refl _ _).drew)
  clear hs q0 q1 q2 k0 k1 k2 k3 k4 k5
  go_wp2_with fail
  go_region_held3 (fun W => W.cell? ⟨w.heap.size, 0, none⟩ = some (.slice a.Ar d.rs.length a.cr) ∧ W.cell? ⟨w.heap.size, 1, none⟩ = some (.string d.rf) ∧ W.cell? ⟨w.heap.size, 2, none⟩ = some (.string d.ri) ∧ W.cell? ⟨w.heap.size, 3, none⟩ = some (.string d.pl) ∧ W.cell? ⟨B, 0, none⟩ = some (.string o) ∧ W.cell? ⟨B, 1, none⟩ = some (.string y)) (first | with_reducible assumption | with_reducible exact HS.out _ (by with_reducible assumption) | with_reducible exact HS.out _ bel_ald | with_reducible exact HS.out _ (bel_al (by with_reducible assumption)) | with_reducible exact keep_s6 hn1 hn2 (HS.out _ (by with_reducible assumption)) | with_reducible exact keep_s6 hn1 hn2 (HS.out _ (bel_al (by with_reducible assumption)))) (first | (go_at_call 8; refine (HSE.out _ a.Ar a.cr (HRR.out _ (by first | with_reducible assumption | with_reducible exact bel_ald | exact bel_al (by with_reducible assumption))) HCR.out).mono ?_; rintro _ w4 ⟨rfl, hb4⟩; have b4 := bel_on (a := w1) (by first | with_reducible assumption | with_reducible exact bel_ald | exact bel_al (by with_reducible assumption)) hb4; (first | (have hq4 := HQZ.out.below hb4; obtain ⟨x0, x1, x2⟩ := hq4.three; obtain ⟨y0, y1, y2⟩ := hq4.threeF; have HQ4 := Lib.hid hq4; clear hq4) | skip); clear hb4) | fail)
  all_goals
    first
    | (obtain ⟨We, hWe⟩ : ∃ We, We = ((w4.setCell ⟨w1.heap.size, 0, none⟩ (.string o)).setCell ⟨w1.heap.size, 1, none⟩ (.string s1)).setCell ⟨w1.heap.size, 2, none⟩ (.string s2) := ⟨_, rfl⟩
       have hqe := HQ4.out.three_put (.string o) (.string s1) (.string s2)
       have hbe := bel_three b4 (Nat.le_refl _) (.string o) (.string s1) (.string s2)
       rw [← hWe] at hqe hbe
       obtain ⟨Q, hQ⟩ : ∃ Q, Q = w1.heap.size := ⟨_, rfl⟩
       have hQz : w1.heap.size ≤ Q := by omega
       rw [← hQ] at hqe
       have HWE := Lib.hid hWe
       go_wp2_with fail
       rw [← hWe, ← hQ])
    | (obtain ⟨We, hWe⟩ : ∃ We, We = w4.alloc (.cells #[.string o, .string s1, .string s2] 31) := ⟨_, rfl⟩
       have hqe := SB.made w4 #[.string o, .string s1, .string s2] 31
       have hbe := bel_al (o := .cells #[.string o, .string s1, .string s2] 31) b4
       rw [← hWe] at hqe hbe
       obtain ⟨Q, hQ⟩ : ∃ Q, Q = w4.heap.size := ⟨_, rfl⟩
       have hQz : w1.heap.size ≤ Q := by have := b4.size; omega
       rw [← hQ] at hqe
       go_wp2_with fail
       rw [← hWe, ← hQ])
    clear hWe hQ hn1 hn2 hbd b4
    have HPE := Lib.hid (block_below HPA.out hbe); have HDE := Lib.hid (block_below HDK.out hbe); have HOE := Lib.hid (HO.out.below hbe); have HBE := Lib.hid (HB.out.trans (hbe.mono HB.out.size)); have HQE := Lib.hid hqe
    have hs : ∀ W : World, Below We.heap.size We W → (W.cell? ⟨w.heap.size, 0, none⟩ = some (.slice a.Ar d.rs.length a.cr) ∧ W.cell? ⟨w.heap.size, 1, none⟩ = some (.string d.rf) ∧ W.cell? ⟨w.heap.size, 2, none⟩ = some (.string d.ri) ∧ W.cell? ⟨w.heap.size, 3, none⟩ = some (.string d.pl) ∧ W.cell? ⟨w.heap.size, 4, none⟩ = some (.string d.wi) ∧ W.cell? ⟨w.heap.size, 5, none⟩ = some (.slice a.Ab d.bk.length a.cb)) ∧ (W.cell? ⟨Q, 0, none⟩ = some (.string o) ∧ W.cell? ⟨Q, 1, none⟩ = some (.string s1) ∧ W.cell? ⟨Q, 2, none⟩ = some (.string s2)) := fun W hbw => by
      obtain ⟨v0, v1, v2, v3, v4, v5⟩ := row_six (block_below HPE.out hbw)
      exact ⟨⟨v0, v1, v2, v3, v4, v5⟩, (HQE.out.below hbw).three⟩
    have HS2 := Lib.hid hs
    have hbd : Below We.heap.size We We.drew := (Below.refl _ _).drew
    have hn1 : w.heap.size ≠ w.heap.size + 1 := by omega
    have hn2 : Q ≠ w.heap.size + 1 := by have := (Array.getElem?_eq_some_iff.1 HDK.out).1; omega
    clear hs hqe hbe hQz
    have hz0 := fun (W : World) (hb : Below We.heap.size We W) => (row_six (block_below HDE.out hb)).1
    have hz1 := fun (W : World) (hb : Below We.heap.size We W) => (row_six (block_below HDE.out hb)).2.1
    have hz2 := fun (W : World) (hb : Below We.heap.size We W) => (row_six (block_below HDE.out hb)).2.2.1
    have hz3 := fun (W : World) (hb : Below We.heap.size We W) => (row_six (block_below HDE.out hb)).2.2.2.1
    have hz4 := fun (W : World) (hb : Below We.heap.size We W) => (row_six (block_below HDE.out hb)).2.2.2.2.1
    have hz5 := fun (W : World) (hb : Below We.heap.size We W) => (row_six (block_below HDE.out hb)).2.2.2.2.2
    have e0 := fun (W : World) (hb : Below We.heap.size We W) => frozen_cells (block_below HDE.out hb) 0
    have e1 := fun (W : World) (hb : Below We.heap.size We W) => frozen_cells (block_below HDE.out hb) 1
    have e2 := fun (W : World) (hb : Below We.heap.size We W) => frozen_cells (block_below HDE.out hb) 2
    have e3 := fun (W : World) (hb : Below We.heap.size We W) => frozen_cells (block_below HDE.out hb) 3
    have e4 := fun (W : World) (hb : Below We.heap.size We W) => frozen_cells (block_below HDE.out hb) 4
    have e5 := fun (W : World) (hb : Below We.heap.size We W) => frozen_cells (block_below HDE.out hb) 5
    go_region_held3 (fun W => (W.cell? ⟨w.heap.size, 0, none⟩ = some (.slice a.Ar d.rs.length a.cr) ∧ W.cell? ⟨w.heap.size, 1, none⟩ = some (.string d.rf) ∧ W.cell? ⟨w.heap.size, 2, none⟩ = some (.string d.ri) ∧ W.cell? ⟨w.heap.size, 3, none⟩ = some (.string d.pl) ∧ W.cell? ⟨w.heap.size, 4, none⟩ = some (.string d.wi) ∧ W.cell? ⟨w.heap.size, 5, none⟩ = some (.slice a.Ab d.bk.length a.cb)) ∧ (W.cell? ⟨Q, 0, none⟩ = some (.string o) ∧ W.cell? ⟨Q, 1, none⟩ = some (.string s1) ∧ W.cell? ⟨Q, 2, none⟩ = some (.string s2))) (first | with_reducible assumption | with_reducible exact HS2.out _ (by with_reducible assumption) | with_reducible exact keep_p9 hn1 hn2 (HS2.out _ (by with_reducible assumption))) (first | (go_at_call 10; refine (HFM.out _).mono ?_; rintro _ w6 ⟨rfl, hb6⟩; have b6 := bel_on (a := We) (by assumption) hb6; clear hb6) | fail)
    all_goals
      have hd6 := block_below HDE.out b6
      have HD6 := Lib.hid hd6; have HO6 := Lib.hid (HOE.out.below b6); have HB6 := Lib.hid (HBE.out.trans (b6.mono HBE.out.size))
      obtain ⟨z0, z1, z2, z3, z4, z5⟩ := row_six hd6
      clear hd6 hz0 hz1 hz2 hz3 hz4 hz5 e0 e1 e2 e3 e4 e5
      go_wp2_with fail
      refine bodyPost_ret (v := .tuple #[dkV d a, .string T]) (by simp [results, Tryz.results182, go_sem, z0, z1, z2, z3, z4, z5]) rfl ⟨a, rfl, ⟨?_, ?_⟩, ?_⟩
      · exact World.ownsRow.kept HO6.out.r (only_six _ (w.heap.size + 1) _ _ _ _ _ _) (own_ne HO6.out.r HD6.out (by decide))
      · exact World.ownsRow.kept HO6.out.b (only_six _ (w.heap.size + 1) _ _ _ _ _ _) (own_ne HO6.out.b HD6.out (by decide))
      · exact bel_six HB6.out (by omega) _ _ _ _ _ _

set_option maxHeartbeats 8000000 in
set_option maxRecDepth 100000 in
theorem runOpen_ok (w : World) (hg : GW w) (d : Dk) (a : At) (R : ByteArray) (F : Value) (m1 m2 m3 y x : ByteArray) (hyz : y.size ≤ 1000) (hxz : x.size ≤ 1000)
    (hpm : ∀ w' : World, ML w' → Calls Tryz.prog 250 #[.string R] w' fun e w'' => e = .returned (.tuple #[.agg #[.string m1, .string m2, .string m3], .bool true]) ∧ Below w'.heap.size w' w'')
    (hom : ∀ (w' : World) (A : Option Addr) (cap : Nat), Rd w' w'.heap.size A (rotV d.rs) → d.rs.length ≤ cap → Calls Tryz.prog 251 #[.agg #[.slice A d.rs.length cap, .string d.rf, .string d.ri, .string d.pl], .agg #[.string m1, .string m2, .string m3]] w' fun e w'' => e = .returned (.tuple #[.string y, .string x, .bool true]) ∧ Below w'.heap.size w' w'')
    (ho : Own d a w) :
    Calls Tryz.prog 183 #[dkV d a, .string R, F] w (Answered d (y ++ ⟨#[32]⟩ ++ dash x) w) := by
  have hb := bel_two (w := w) (.cells (dkC d a) 79) (.cells #[.slice none 0 0, .string ⟨#[]⟩, .string ⟨#[]⟩, .string ⟨#[]⟩, .string ⟨#[]⟩, .slice none 0 0] 79)
  have hdk := heap_alloc_new (w.alloc (.cells (dkC d a) 79)) (.cells #[.slice none 0 0, .string ⟨#[]⟩, .string ⟨#[]⟩, .string ⟨#[]⟩, .string ⟨#[]⟩, .slice none 0 0] 79)
  rw [szalloc] at hdk
  have hpa : ((w.alloc (.cells (dkC d a) 79)).alloc (.cells #[.slice none 0 0, .string ⟨#[]⟩, .string ⟨#[]⟩, .string ⟨#[]⟩, .string ⟨#[]⟩, .slice none 0 0] 79)).heap[w.heap.size]? = some (.cells (dkC d a) 79 (0, 0)) := block_below (heap_alloc_new w _) ((Below.refl _ _).alloc (Nat.le_refl _) _)
  obtain ⟨w1, hw1⟩ : ∃ w1, w1 = ((w.alloc (.cells (dkC d a) 79)).alloc (.cells #[.slice none 0 0, .string ⟨#[]⟩, .string ⟨#[]⟩, .string ⟨#[]⟩, .string ⟨#[]⟩, .slice none 0 0] 79)) := ⟨_, rfl⟩
  rw [← hw1] at hb hdk hpa
  have ho1 := ho.below hb
  have hml1 := (hg.below hb (Nat.le_refl _)).ml
  have hdz := dash_size x
  have y1 : ¬ 9223372036854775807 < y.size + 1 := by omega
  have y2 : ¬ 9223372036854775807 < y.size + 1 + (dash x).size := by omega
  have HB := Lib.hid hb; have HDK := Lib.hid hdk; have HPA := Lib.hid hpa; have HO := Lib.hid ho1; have HPM := Lib.hid hpm; have HOM := Lib.hid hom; have HML := Lib.hid hml1
  have HSW := Lib.hid (fun w' => showWord_any w' x)
  generalize dash x = D at HSW y2 ⊢
  clear hb hdk ho1 ho hpm hom hpa hg hml1 hdz hyz hxz
  go_enter Tryz.func183, Tryz.ntmps183
  go_wp2_with fail
  rw [← hw1]
  clear hw1
  refine (HPM.out w1 HML.out).mono ?_
  rintro _ w2 ⟨rfl, hb2⟩
  obtain ⟨w3, hw3⟩ : ∃ w3, w3 = w2.alloc (.cells #[.string m1, .string m2, .string m3] 31) := ⟨_, rfl⟩
  have hb3 : Below w1.heap.size w1 w3 := by rw [hw3]; exact bel_al hb2
  have hq3 := SB.made w2 #[.string m1, .string m2, .string m3] 31
  rw [← hw3] at hq3
  obtain ⟨Q, hQ⟩ : ∃ Q, Q = w2.heap.size := ⟨_, rfl⟩
  rw [← hQ] at hq3
  obtain ⟨q0, q1, q2⟩ := hq3.three
  have HB3 := Lib.hid (HB.out.trans (hb3.mono HB.out.size)); have HDK3 := Lib.hid (block_below HDK.out hb3); have HPA3 := Lib.hid (block_below HPA.out hb3); have HO3 := Lib.hid (HO.out.below hb3)
  obtain ⟨k0, k1, k2, k3, k4, k5⟩ := row_six HPA3.out
  clear hb2 hb3 hq3 HB HDK HPA HO HML HPM
  have l0 := k0; have l1 := k1; have l2 := k2; have l3 := k3; have m0 := q0; have m1' := q1; have m2' := q2
  rw [hw3] at l0 l1 l2 l3 m0 m1' m2'
  rw [hQ] at m0 m1' m2'
  go_wp2_with fail
  rw [← hw3]
  clear l0 l1 l2 l3 m0 m1' m2' hw3 hQ
  refine (HOM.out w3 a.Ar a.cr (own_rd3' HO3.out.r) (own_le3 HO3.out.r)).mono ?_
  rintro _ We ⟨rfl, hbe⟩
  have HPE := Lib.hid (block_below HPA3.out hbe); have HDE := Lib.hid (block_below HDK3.out hbe); have HOE := Lib.hid (HO3.out.below hbe); have HBE := Lib.hid (HB3.out.trans (hbe.mono HB3.out.size))
  clear hbe q0 q1 q2 k0 k1 k2 k3 k4 k5 HB3 HDK3 HPA3 HO3 HOM
  have hs : ∀ W : World, Below We.heap.size We W → (W.cell? ⟨w.heap.size, 0, none⟩ = some (.slice a.Ar d.rs.length a.cr) ∧ W.cell? ⟨w.heap.size, 1, none⟩ = some (.string d.rf) ∧ W.cell? ⟨w.heap.size, 2, none⟩ = some (.string d.ri) ∧ W.cell? ⟨w.heap.size, 3, none⟩ = some (.string d.pl) ∧ W.cell? ⟨w.heap.size, 4, none⟩ = some (.string d.wi) ∧ W.cell? ⟨w.heap.size, 5, none⟩ = some (.slice a.Ab d.bk.length a.cb)) := fun W hbw => by
    obtain ⟨v0, v1, v2, v3, v4, v5⟩ := row_six (block_below HPE.out hbw)
    exact ⟨v0, v1, v2, v3, v4, v5⟩
  have HS2 := Lib.hid hs
  have hbd : Below We.heap.size We We.drew := (Below.refl _ _).drew
  have hn1 : w.heap.size ≠ w.heap.size + 1 := by omega
  clear hs
  obtain ⟨zz0, zz1, zz2, zz3, zz4, zz5⟩ := row_six HDE.out
  have ff0 := frozen_cells HDE.out 0; have ff1 := frozen_cells HDE.out 1; have ff2 := frozen_cells HDE.out 2; have ff3 := frozen_cells HDE.out 3; have ff4 := frozen_cells HDE.out 4; have ff5 := frozen_cells HDE.out 5
  go_wp2_with fail
  go_region_held3 (fun W => W.cell? ⟨w.heap.size, 0, none⟩ = some (.slice a.Ar d.rs.length a.cr) ∧ W.cell? ⟨w.heap.size, 1, none⟩ = some (.string d.rf) ∧ W.cell? ⟨w.heap.size, 2, none⟩ = some (.string d.ri) ∧ W.cell? ⟨w.heap.size, 3, none⟩ = some (.string d.pl) ∧ W.cell? ⟨w.heap.size, 4, none⟩ = some (.string d.wi) ∧ W.cell? ⟨w.heap.size, 5, none⟩ = some (.slice a.Ab d.bk.length a.cb)) (first | with_reducible assumption | with_reducible exact HS2.out _ (by with_reducible assumption) | with_reducible exact keep_p6e hn1 (HS2.out _ (by with_reducible assumption)) | with_reducible exact keep_p6d hn1 (HS2.out _ (Below.refl _ _))) (first | (go_at_call 242; refine (HSW.out _).mono ?_; rintro _ _ ⟨rfl, rfl⟩) | fail)
  all_goals
    go_wp2_with fail
    refine bodyPost_ret (v := .tuple #[dkV d a, .string (y ++ ⟨#[32]⟩ ++ D)]) (by simp [results, Tryz.results183, go_sem, zz0, zz1, zz2, zz3, zz4, zz5]) rfl ⟨a, rfl, ⟨?_, ?_⟩, ?_⟩
    · exact own_drew2 (HOE.out.r.kept (only_six _ (w.heap.size + 1) _ _ _ _ _ _) (own_ne HOE.out.r HDE.out (by decide)))
    · exact own_drew2 (HOE.out.b.kept (only_six _ (w.heap.size + 1) _ _ _ _ _ _) (own_ne HOE.out.b HDE.out (by decide)))
    · exact (bel_six HBE.out (by omega) _ _ _ _ _ _).drew

def sealLine (o y x : ByteArray) : List UInt8 := [115, 101, 97, 108] ++ 32 :: (tl o ++ 32 :: (tl y ++ 32 :: tl (dash x)))
def openLine (m : ByteArray) : List UInt8 := [111, 112, 101, 110] ++ 32 :: tl m
theorem exec_seal (d : Dk) (o y x s1 s2 T : ByteArray) (ho : wv (tl o) = true) (hy : wv (tl y) = true) (hx : wv (tl x) = true) (hse : SealIs d o y x s1 s2)
    (hfm : ∀ w' : World, Calls Tryz.prog 10 #[.agg #[.string o, .string s1, .string s2]] w' fun e w'' => e = .returned (.string T) ∧ Below w'.heap.size w' w'') (hm : tl d.wi ≠ []) : Exec d (mk (sealLine o y x)) d T := by
  have zo := wv_size ho; have zy := wv_size hy; have zx := wv_size hx; have zd := dash_size x
  have hfl : spl 32 (tl (mk (tl o ++ 32 :: (tl y ++ 32 :: tl (dash x))))) = [tl o, tl y, tl (dash x)] := by
    rw [tl_mk, spl_cons _ (wv_not ho (by decide)), spl_cons _ (wv_not hy (by decide)), spl_none (dash_not hx (by decide))]
  have hsz : (mk (tl o ++ 32 :: (tl y ++ 32 :: tl (dash x)))).size ≤ 20000 := by simp only [size_mk, List.length_append, List.length_cons, length_tl]; omega
  have h := exec_restM d d [115, 101, 97, 108] (mk (tl o ++ 32 :: (tl y ++ 32 :: tl (dash x)))) T (by decide) (by decide) hsz 3 182 (enters_of Tryz.func182 (by kernel_rfl) rfl) (by decide) hm (fun _ => by rw [hfl]; rfl) (fun _ _ _ _ _ _ _ => rfl)
    (fun w a p0 p1 p2 p3 p4 p5 p6 B hml hown hbx hr hB => by
      rw [hfl] at hr ⊢
      have e2 : mkl [tl o, tl y, tl (dash x)] = [o, y, dash x] := by simp [mkl, mk_tl]
      rw [e2] at hr
      exact runSeal_ok w d a B o y x s1 s2 _ T hx hse hfm hown hr hB)
  rw [tl_mk] at h
  exact h
theorem exec_open (d : Dk) (T m1 m2 m3 y x : ByteArray) (hTz : T.size ≤ 1000) (hyz : y.size ≤ 1000) (hxz : x.size ≤ 1000)
    (hpm : ∀ w' : World, ML w' → Calls Tryz.prog 250 #[.string T] w' fun e w'' => e = .returned (.tuple #[.agg #[.string m1, .string m2, .string m3], .bool true]) ∧ Below w'.heap.size w' w'')
    (hom : ∀ (w' : World) (A : Option Addr) (cap : Nat), Rd w' w'.heap.size A (rotV d.rs) → d.rs.length ≤ cap → Calls Tryz.prog 251 #[.agg #[.slice A d.rs.length cap, .string d.rf, .string d.ri, .string d.pl], .agg #[.string m1, .string m2, .string m3]] w' fun e w'' => e = .returned (.tuple #[.string y, .string x, .bool true]) ∧ Below w'.heap.size w' w'')
    (hm : tl d.wi ≠ []) : Exec d (mk (openLine T)) d (y ++ ⟨#[32]⟩ ++ dash x) :=
  exec_restM d d [111, 112, 101, 110] T (y ++ ⟨#[32]⟩ ++ dash x) (by decide) (by decide) (by omega) (-1) 183 (enters_of Tryz.func183 (by kernel_rfl) rfl) (by decide) hm (fun h => absurd h (by decide)) (fun _ _ _ _ _ _ _ => rfl)
    (fun w a p0 p1 p2 p3 p4 p5 p6 B hml ho hbx hr hB => runOpen_ok w hml d a T _ m1 m2 m3 y x hyz hxz hpm hom ho)

theorem grpT_not {c : ByteArray} (hc : wv (tl c) = true) : (10 : UInt8) ∉ tl (grpT c) := fun h => by
  have h1 : (10 : UInt8) ∈ (tl (grpT c)).filter (fun x => decide (x ≠ 32)) := List.mem_filter.2 ⟨h, by decide⟩
  rw [grpT_word (wv_not hc (by decide))] at h1
  exact wv_not hc (by decide) h1

theorem run_seal (w : World) (hg : GW w) (T : ByteArray) (rs : List (ByteArray × ByteArray)) (p g o : ByteArray) (q : List Nat) (y x s1 u1 s2 u2 : ByteArray) (hv : WinV rs p g) (hq : Prm q) (hi : invP q = q)
    (hvo : SetV rs p g (pT q) o) (hvy : SetV rs p g (pT q) y) (hx : wv (tl x) = true) (hs1 : wv (tl s1) = true) (hz1 : s1.size = o.size) (hs2 : wv (tl s2) = true)
    (e1 : EncIs rs p g (pT q) o y s1 u1) (e2 : EncIs rs p g (pT q) y x s2 u2) (e3 : EncIs rs p g (pT q) o s1 y u1) (e4 : EncIs rs p g (pT q) y s2 x u2)
    (hT : tl T = [machLine rs p g q, windLine y, sealLine o y x, openLine (msgT o s1 s2)].flatMap (· ++ [10])) :
    Calls Tryz.prog 13 #[.string T] w fun e w' => e = .returned (.string (mk ([111, 107, 10, 111, 107, 10] ++ (tl (msgT o s1 s2) ++ [10]) ++ (tl (y ++ ⟨#[32]⟩ ++ dash x) ++ [10])))) ∧ Below w.heap.size w w' := by
  have hg1 : 1 ≤ g.size ∧ g.size ≤ 3 := ⟨by have := hv.1.1; have := hv.2.1; omega, by have := hv.1.2.1; have := hv.2.1; omega⟩
  have hoz : o.size = g.size := hvo.2.1
  have hyz : y.size = g.size := hvy.2.1
  have hl3 : rs.length ≤ 100 := by have := hv.1.2.1; omega
  have hyn : tl y ≠ [] := by intro e; have := congrArg List.length e; rw [length_tl, List.length_nil] at this; omega
  have how : wv (tl o) = true := hvo.2.2
  have hyw : wv (tl y) = true := hvy.2.2
  have zx := wv_size hx; have z2 := wv_size hs2; have zg := grpT_size s2; have zd := dash_size x
  have hms : (msgT o s1 s2).size ≤ 1000 := by
    unfold msgT
    simp only [ByteArray.size_append]
    rw [show (⟨#[32]⟩ : ByteArray).size = 1 from rfl, show (⟨#[61]⟩ : ByteArray).size = 1 from rfl]; omega
  have hmn : (10 : UInt8) ∉ tl (msgT o s1 s2) := by
    unfold msgT
    simp only [append_tl, tl_mk]
    rw [show tl (⟨#[32]⟩ : ByteArray) = [32] from rfl, show tl (⟨#[61]⟩ : ByteArray) = [61] from rfl]
    simp only [List.mem_append, not_or]
    exact ⟨⟨⟨⟨wv_not how (by decide), by decide⟩, wv_not hs1 (by decide)⟩, by decide⟩, grpT_not hs2⟩
  have E1 := exec_seal (deskM rs p g q y []) o y x s1 s2 (msgT o s1 s2) how hyw hx (fun w' A cap h' hc' => sealMessage_yes w' A cap rs p g (pT q) o y x s1 u1 s2 u2 h' hc' hl3 hvo hvy hx e1 e2) (fun w' => formatMessage_yes w' o s1 s2 (by omega) (by omega) how hz1 hs1 hs2) hyn
  have E2 := exec_open (deskM rs p g q y []) (msgT o s1 s2) o s1 s2 y x hms (by omega) (by omega) (fun w' hm' => parseMessage_yes w' hm' o s1 s2 (by omega) (by omega) how hz1 hs1 hs2) (fun w' A cap h' hc' => openMessage_yes w' A cap rs p g (pT q) o s1 s2 y u1 x u2 h' hc' hl3 hvo (by omega) (by omega) hz1 hs1 hs2 e3 e4) hyn
  have h := run_more w hg T rs p g y q [sealLine o y x, openLine (msgT o s1 s2)] (fun _ => deskM rs p g q y []) (fun j => if j = 0 then msgT o s1 s2 else y ++ ⟨#[32]⟩ ++ dash x) hv hq hi hyz hyw (by simp)
    (fun l hl => by
      simp only [List.mem_cons, List.not_mem_nil, or_false] at hl
      rcases hl with rfl | rfl
      · refine ⟨?_, by simp [sealLine], by unfold sealLine; simp only [List.length_append, List.length_cons, List.length_nil, length_tl]; omega⟩
        unfold sealLine
        simp only [List.mem_append, List.mem_cons, not_or]
        exact ⟨by decide, by decide, wv_not how (by decide), by decide, wv_not hyw (by decide), by decide, dash_not hx (by decide)⟩
      · refine ⟨?_, by simp [openLine], by unfold openLine; simp only [List.length_append, List.length_cons, List.length_nil, length_tl]; omega⟩
        unfold openLine
        simp only [List.mem_append, List.mem_cons, not_or]
        exact ⟨by decide, by decide, hmn⟩) rfl
    (fun j hj => by
      split
      · omega
      · simp only [ByteArray.size_append]
        rw [show (⟨#[32]⟩ : ByteArray).size = 1 from rfl]; omega)
    (fun j hj => by
      simp only [List.length_cons, List.length_nil] at hj
      rcases (show j = 0 ∨ j = 1 by omega) with rfl | rfl
      · exact E1
      · exact E2) hT
  refine h.mono ?_
  rintro e w' ⟨rfl, hb⟩
  refine ⟨?_, hb⟩
  simp [ansL, List.range_succ]

theorem keep_p43 {W : World} {P R : Nat} (hP : P ≠ R) {x0 x1 x2 x3 u0 u1 u2 : Value}
    (h : W.cell? ⟨P, 0, none⟩ = some x0 ∧ W.cell? ⟨P, 1, none⟩ = some x1 ∧ W.cell? ⟨P, 2, none⟩ = some x2 ∧ W.cell? ⟨P, 3, none⟩ = some x3) :
    (((W.setCell ⟨R, 0, none⟩ u0).setCell ⟨R, 1, none⟩ u1).setCell ⟨R, 2, none⟩ u2).cell? ⟨P, 0, none⟩ = some x0 ∧ (((W.setCell ⟨R, 0, none⟩ u0).setCell ⟨R, 1, none⟩ u1).setCell ⟨R, 2, none⟩ u2).cell? ⟨P, 1, none⟩ = some x1 ∧ (((W.setCell ⟨R, 0, none⟩ u0).setCell ⟨R, 1, none⟩ u1).setCell ⟨R, 2, none⟩ u2).cell? ⟨P, 2, none⟩ = some x2 ∧ (((W.setCell ⟨R, 0, none⟩ u0).setCell ⟨R, 1, none⟩ u1).setCell ⟨R, 2, none⟩ u2).cell? ⟨P, 3, none⟩ = some x3 := by
  simp only [cell_set_other hP]
  exact h

set_option maxHeartbeats 4000000 in
set_option maxRecDepth 100000 in
theorem sSealMessage_yes (w : World) (A : Option Addr) (cap : Nat) (rs : List (ByteArray × ByteArray)) (p g l o y x s1 s2 : ByteArray) (h : Rd w w.heap.size A (rotV rs)) (hc : rs.length ≤ cap) (hl : rs.length ≤ 100) (hv : SetV rs p g l o) (hy : SetV rs p g l y) (hx : wv (tl x) = true) (e1 : SL8Is rs p g l o y s1) (e2 : SL8Is rs p g l y x s2) :
    Calls Tryz.prog 9 #[.agg #[.slice A rs.length cap, .string p, .string g, .string l], .string o, .string y, .string x] w fun e w' => e = .returned (.tuple #[.agg #[.string o, .string s1, .string s2], .bool true]) ∧ Below w.heap.size w w' := by
  obtain ⟨w0, hw0⟩ : ∃ w0, w0 = (w.alloc (.cells #[.slice A rs.length cap, .string p, .string g, .string l] 27)).alloc (.cells #[.string ⟨#[]⟩, .string ⟨#[]⟩, .string ⟨#[]⟩] 31) := ⟨_, rfl⟩
  obtain ⟨hb0, hs0, hq0⟩ := two_sb w _ _ _ _ w0 hw0
  have hrd0 := (h.below hb0).mono hb0.size
  have hcon := fun (w' : World) (h' : Rd w' w'.heap.size A (rotV rs)) => sFits_any w' A cap rs p g l o true h' hc hl (by simp [hv])
  have hcon2 := fun (w' : World) (h' : Rd w' w'.heap.size A (rotV rs)) => sFits_any w' A cap rs p g l y true h' hc hl (by simp [hy])
  have hen1 := fun (w' : World) (h' : Rd w' w'.heap.size A (rotV rs)) => e1 w' A cap h' hc
  have hen2 := fun (w' : World) (h' : Rd w' w'.heap.size A (rotV rs)) => e2 w' A cap h' hc
  obtain ⟨M, hM⟩ : ∃ M, M = rs.length := ⟨_, rfl⟩
  have HB0 := Lib.hid hb0; have HCON := Lib.hid hcon; have HCN2 := Lib.hid hcon2; have HRD := Lib.hid hrd0; have HE1 := Lib.hid hen1; have HE2 := Lib.hid hen2; have HX := Lib.hid hx
  rw [← hM] at hw0 HCON HCN2 HE1 HE2 hs0 ⊢
  obtain ⟨P, hP⟩ : ∃ P, P = w.heap.size := ⟨_, rfl⟩
  have hpw : w.heap.size ≤ P + 1 := by omega
  rw [← hP] at hs0 hq0
  have HS0 := Lib.hid hs0; have HQ0 := Lib.hid hq0; have HPW := Lib.hid hpw
  obtain ⟨⟨c0, c1, c2, c3⟩, _⟩ := hs0.all4
  clear h hb0 hcon hcon2 hM hc hl hs0 hq0 hv hy hrd0 hen1 hen2 e1 e2 hx hpw
  go_enter Tryz.func9, Tryz.ntmps9
  go_wp2_with fail
  rw [← hw0]
  rw [← hP]
  clear hw0 hP
  go_wp2_with fail
  refine (HCON.out _ HRD.out).mono ?_
  rintro _ w1 ⟨rfl, hb1⟩
  have HB1 := Lib.hid (HB0.out.trans (hb1.mono HB0.out.size)); have HRD1 := Lib.hid ((HRD.out.below hb1).mono hb1.size); have HS1 := Lib.hid (HS0.out.below hb1); have HQ1 := Lib.hid (HQ0.out.below hb1)
  clear hb1 c0 c1 c2 c3 HB0 HRD HS0 HQ0
  obtain ⟨⟨c0, c1, c2, c3⟩, _⟩ := HS1.out.all4
  go_wp2_with fail
  refine (HCN2.out _ HRD1.out).mono ?_
  rintro _ w2 ⟨rfl, hb2⟩
  have HB2 := Lib.hid (HB1.out.trans (hb2.mono HB1.out.size)); have HRD2 := Lib.hid ((HRD1.out.below hb2).mono hb2.size); have HS2 := Lib.hid (HS1.out.below hb2); have HQ2 := Lib.hid (HQ1.out.below hb2)
  clear hb2 c0 c1 c2 c3 HB1 HRD1 HS1 HQ1
  obtain ⟨⟨c0, c1, c2, c3⟩, _⟩ := HS2.out.all4
  go_wp2_with fail
  refine (sWordValid_is _ true _ HX.out).mono ?_
  rintro _ _ ⟨rfl, rfl⟩
  obtain ⟨q0, q1, q2⟩ := HQ2.out.three
  have hs : ∀ W : World, Below w2.heap.size w2 W → (W.cell? ⟨P, 0, none⟩ = some (.slice A M cap) ∧ W.cell? ⟨P, 1, none⟩ = some (.string p) ∧ W.cell? ⟨P, 2, none⟩ = some (.string g) ∧ W.cell? ⟨P, 3, none⟩ = some (.string l)) := fun W hbw => by
    obtain ⟨⟨v0, v1, v2, v3⟩, _⟩ := (HS2.out.below hbw).all4
    exact ⟨v0, v1, v2, v3⟩
  have HS := Lib.hid hs
  have hbd : Below w2.heap.size w2 w2.drew := (Below.refl _ _).drew
  have HR2 := Lib.hid (fun (W : World) (h : Below w2.heap.size w2 W) => (HRD2.out.below h).mono h.size)
  have hz0 := fun (W : World) (hb : Below w2.heap.size w2 W) => (HQ2.out.below hb).cell 0 _ rfl
  have hz1 := fun (W : World) (hb : Below w2.heap.size w2 W) => (HQ2.out.below hb).cell 1 _ rfl
  have hz2 := fun (W : World) (hb : Below w2.heap.size w2 W) => (HQ2.out.below hb).cell 2 _ rfl
  have hy0 := fun (W : World) (hb : Below w2.heap.size w2 W) => (HQ2.out.below hb).frozen 0
  have hy1 := fun (W : World) (hb : Below w2.heap.size w2 W) => (HQ2.out.below hb).frozen 1
  have hy2 := fun (W : World) (hb : Below w2.heap.size w2 W) => (HQ2.out.below hb).frozen 2
  have hnp : P ≠ P + 1 := by omega
  clear hs
  go_wp2_with fail
  go_region_held3 (fun W => W.cell? ⟨P, 0, none⟩ = some (.slice A M cap) ∧ W.cell? ⟨P, 1, none⟩ = some (.string p) ∧ W.cell? ⟨P, 2, none⟩ = some (.string g) ∧ W.cell? ⟨P, 3, none⟩ = some (.string l)) (first | with_reducible assumption | with_reducible exact HS.out _ (by with_reducible assumption) | with_reducible exact keep_p43 hnp (HS.out _ (by with_reducible assumption))) (first | (go_at_call 44; refine (HE1.out _ (HR2.out _ (by assumption))).mono ?_; clear HE1; rintro _ w3 ⟨rfl, hb3⟩; have b3 := bel_on (a := w2) (by assumption) hb3; clear hb3) | (go_at_call 44; refine (HE2.out _ (HR2.out _ (by assumption))).mono ?_; rintro _ w4 ⟨rfl, hb4⟩; have b4 := bel_on (a := w2) (by assumption) hb4; clear hb4) | fail)
  all_goals
    go_wp2_with fail
    have hq4 := HQ2.out.below b4
    have HF := Lib.hid (hq4.three_put (.string o) (.string s1) (.string s2))
    have HBF := Lib.hid (bel_three (HB2.out.trans (b4.mono HB2.out.size)) HPW.out (.string o) (.string s1) (.string s2))
    refine bodyPost_ret (results_st_tmp rfl _ _ (P + 1) _ #[.string o, .string s1, .string s2] _ _ rfl HF.out Tryz.underlying31 ⟨_, rfl⟩ msgSize) rfl ⟨rfl, HBF.out⟩

set_option maxHeartbeats 8000000 in
set_option maxRecDepth 100000 in
theorem sSealMessage_no (w : World) (A : Option Addr) (cap : Nat) (rs : List (ByteArray × ByteArray)) (p g l o y x : ByteArray) (h : Rd w w.heap.size A (rotV rs)) (hc : rs.length ≤ cap) (hl : rs.length ≤ 100) (hn : ¬ (SetV rs p g l o ∧ SetV rs p g l y ∧ wv (tl x) = true)) :
    Calls Tryz.prog 9 #[.agg #[.slice A rs.length cap, .string p, .string g, .string l], .string o, .string y, .string x] w fun e w' => e = .returned (.tuple #[.agg #[.string ⟨#[]⟩, .string ⟨#[]⟩, .string ⟨#[]⟩], .bool false]) ∧ Below w.heap.size w w' := by
  obtain ⟨w0, hw0⟩ : ∃ w0, w0 = (w.alloc (.cells #[.slice A rs.length cap, .string p, .string g, .string l] 27)).alloc (.cells #[.string ⟨#[]⟩, .string ⟨#[]⟩, .string ⟨#[]⟩] 31) := ⟨_, rfl⟩
  obtain ⟨hb0, hs0, hq0⟩ := two_sb w _ _ _ _ w0 hw0
  have hrd0 := (h.below hb0).mono hb0.size
  obtain ⟨b1, hb1'⟩ : ∃ b1 : Bool, b1 = true ↔ SetV rs p g l o := ⟨@decide _ (Classical.propDecidable _), @decide_eq_true_iff _ (Classical.propDecidable _)⟩
  obtain ⟨b2, hb2'⟩ : ∃ b2 : Bool, b2 = true ↔ SetV rs p g l y := ⟨@decide _ (Classical.propDecidable _), @decide_eq_true_iff _ (Classical.propDecidable _)⟩
  have hcon := fun (w' : World) (h' : Rd w' w'.heap.size A (rotV rs)) => sFits_any w' A cap rs p g l o b1 h' hc hl hb1'
  have hcon2 := fun (w' : World) (h' : Rd w' w'.heap.size A (rotV rs)) => sFits_any w' A cap rs p g l y b2 h' hc hl hb2'
  have hx : wv (tl x) = wv (tl x) := rfl
  have hnb : ¬ (b1 = true ∧ b2 = true ∧ wv (tl x) = true) := fun e => hn ⟨hb1'.1 e.1, hb2'.1 e.2.1, e.2.2⟩
  obtain ⟨M, hM⟩ : ∃ M, M = rs.length := ⟨_, rfl⟩
  have HB0 := Lib.hid hb0; have HCON := Lib.hid hcon; have HCN2 := Lib.hid hcon2; have HRD := Lib.hid hrd0
  rw [← hM] at hw0 HCON HCN2 hs0 ⊢
  obtain ⟨P, hP⟩ : ∃ P, P = w.heap.size := ⟨_, rfl⟩
  have hpw : w.heap.size ≤ P + 1 := by omega
  rw [← hP] at hs0 hq0
  have HS0 := Lib.hid hs0; have HQ0 := Lib.hid hq0; have HPW := Lib.hid hpw
  obtain ⟨⟨c0, c1, c2, c3⟩, _⟩ := hs0.all4
  clear h hb0 hcon hcon2 hM hc hl hs0 hq0 hrd0 hpw hn hb1' hb2'
  generalize hxx : wv (tl x) = b3 at hnb
  have HX := Lib.hid hxx
  clear hxx hx
  cases b1 with
  | false =>
    clear hnb
    go_enter Tryz.func9, Tryz.ntmps9
    go_wp2_with fail
    rw [← hw0]
    rw [← hP]
    clear hw0 hP
    go_wp2_with fail
    refine (HCON.out _ HRD.out).mono ?_
    rintro _ w1 ⟨rfl, hb1⟩
    have HB1 := Lib.hid (HB0.out.trans (hb1.mono HB0.out.size)); have HQ1 := Lib.hid (HQ0.out.below hb1)
    clear hb1 c0 c1 c2 c3 HB0 HRD HS0 HQ0
    obtain ⟨q0, q1, q2⟩ := HQ1.out.three
    obtain ⟨f0, f1, f2⟩ := HQ1.out.threeF
    have HF := Lib.hid (HQ1.out.three_put (.string ⟨#[]⟩) (.string ⟨#[]⟩) (.string ⟨#[]⟩))
    have HBF := Lib.hid (bel_three HB1.out HPW.out (.string ⟨#[]⟩) (.string ⟨#[]⟩) (.string ⟨#[]⟩))
    go_wp2_with fail
    refine bodyPost_ret (results_st_tmp rfl _ _ (P + 1) _ #[.string ⟨#[]⟩, .string ⟨#[]⟩, .string ⟨#[]⟩] _ _ rfl HF.out Tryz.underlying31 ⟨_, rfl⟩ msgSize) rfl ⟨rfl, HBF.out⟩
  | true =>
    go_enter Tryz.func9, Tryz.ntmps9
    go_wp2_with fail
    rw [← hw0]
    rw [← hP]
    clear hw0 hP
    go_wp2_with fail
    refine (HCON.out _ HRD.out).mono ?_
    rintro _ w1 ⟨rfl, hb1⟩
    have HB1 := Lib.hid (HB0.out.trans (hb1.mono HB0.out.size)); have HRD1 := Lib.hid ((HRD.out.below hb1).mono hb1.size); have HS1 := Lib.hid (HS0.out.below hb1); have HQ1 := Lib.hid (HQ0.out.below hb1)
    clear hb1 c0 c1 c2 c3 HB0 HRD HS0 HQ0
    obtain ⟨⟨c0, c1, c2, c3⟩, _⟩ := HS1.out.all4
    cases b2 with
    | false =>
      clear hnb
      go_wp2_with fail
      refine (HCN2.out _ HRD1.out).mono ?_
      rintro _ w2 ⟨rfl, hb2⟩
      have HB2 := Lib.hid (HB1.out.trans (hb2.mono HB1.out.size)); have HQ2 := Lib.hid (HQ1.out.below hb2)
      clear hb2 c0 c1 c2 c3 HB1 HRD1 HS1 HQ1
      obtain ⟨q0, q1, q2⟩ := HQ2.out.three
      obtain ⟨f0, f1, f2⟩ := HQ2.out.threeF
      have HF := Lib.hid (HQ2.out.three_put (.string ⟨#[]⟩) (.string ⟨#[]⟩) (.string ⟨#[]⟩))
      have HBF := Lib.hid (bel_three HB2.out HPW.out (.string ⟨#[]⟩) (.string ⟨#[]⟩) (.string ⟨#[]⟩))
      go_wp2_with fail
      refine bodyPost_ret (results_st_tmp rfl _ _ (P + 1) _ #[.string ⟨#[]⟩, .string ⟨#[]⟩, .string ⟨#[]⟩] _ _ rfl HF.out Tryz.underlying31 ⟨_, rfl⟩ msgSize) rfl ⟨rfl, HBF.out⟩
    | true =>
      obtain rfl : b3 = false := by cases b3 <;> simp_all
      clear hnb
      go_wp2_with fail
      refine (HCN2.out _ HRD1.out).mono ?_
      rintro _ w2 ⟨rfl, hb2⟩
      have HB2 := Lib.hid (HB1.out.trans (hb2.mono HB1.out.size)); have HQ2 := Lib.hid (HQ1.out.below hb2)
      clear hb2 c0 c1 c2 c3 HB1 HRD1 HS1 HQ1
      go_wp2_with fail
      refine (sWordValid_is _ false _ HX.out).mono ?_
      rintro _ _ ⟨rfl, rfl⟩
      obtain ⟨q0, q1, q2⟩ := HQ2.out.three
      obtain ⟨f0, f1, f2⟩ := HQ2.out.threeF
      have HF := Lib.hid (HQ2.out.three_put (.string ⟨#[]⟩) (.string ⟨#[]⟩) (.string ⟨#[]⟩))
      have HBF := Lib.hid (bel_three HB2.out HPW.out (.string ⟨#[]⟩) (.string ⟨#[]⟩) (.string ⟨#[]⟩))
      go_wp2_with fail
      refine bodyPost_ret (results_st_tmp rfl _ _ (P + 1) _ #[.string ⟨#[]⟩, .string ⟨#[]⟩, .string ⟨#[]⟩] _ _ rfl HF.out Tryz.underlying31 ⟨_, rfl⟩ msgSize) rfl ⟨rfl, HBF.out⟩

end Go.Proofs.YtpccnaecdpnlkaaGreatDoor
