/-
  What impl.RunScript answers to the script of a transposition: transpose, add, subtract, restore. Conditions: what each theorem names.
-/
import Derived.Test.YteeeaeidocalnaaGreatDoorKeyRun
import Derived.Test.YteeeaeidocalnaaGreatDoorPlainQ
namespace Go.Proofs.YteeeaeidocalnaaGreatDoor
open Go.RowKit Pl
set_option linter.unusedVariables false

/-- lines, each with its end -/
theorem spl_lines (c : UInt8) : ∀ (ls : List (List UInt8)), (∀ p ∈ ls, c ∉ p) → spl c (ls.flatMap (· ++ [c])) = ls ++ [[]]
  | [], _ => by simp [spl_none]
  | p :: r, h => by
    rw [List.flatMap_cons, List.append_assoc, List.singleton_append, spl_cons _ (h p (by simp)), spl_lines c r fun q hq => h q (by simp [hq])]
    rfl
theorem spl_two {c : UInt8} {p q : List UInt8} (hp : c ∉ p) (hq : c ∉ q) : spl c (p ++ c :: q) = [p, q] := by rw [spl_cons _ hp, spl_none hq]
/-- a line with a key and a word -/
def keyLine (wd : List UInt8) (k s : ByteArray) : List UInt8 := wd ++ 32 :: (tl k ++ 32 :: tl (dash s))
theorem keyLine_not {wd : List UInt8} {k s : ByteArray} (hT : (10 : UInt8) ∉ wd) (hk : wv (tl k) = true) (hs : wv (tl s) = true) : (10 : UInt8) ∉ keyLine wd k s := by
  unfold keyLine
  simp only [List.mem_append, List.mem_cons, not_or]
  exact ⟨hT, by decide, wv_not hk (by decide), by decide, dash_not hs (by decide)⟩
theorem keyLine_len (wd : List UInt8) (k s : ByteArray) (h1 : wd.length ≤ 20) (h2 : k.size ≤ 12) (h3 : s.size ≤ 200) : (keyLine wd k s).length ≤ 240 := by
  unfold keyLine
  have := dash_size s
  simp only [List.length_append, List.length_cons, length_tl]
  omega
theorem keyLine_ne (wd : List UInt8) (k s : ByteArray) : keyLine wd k s ≠ [] := by unfold keyLine; simp
theorem key_fields {k s : ByteArray} (hk : wv (tl k) = true) (hs : wv (tl s) = true) : spl 32 (tl (mk (tl k ++ 32 :: tl (dash s)))) = [tl k, tl (dash s)] := by
  rw [tl_mk, spl_two (wv_not hk (by decide)) (dash_not hs (by decide))]
theorem eg_withKey : ∀ args w, (callFunc 156 args).run Tryz.prog w = .ok (.enter 156 args) w := enters_of Tryz.func156 (by kernel_rfl) rfl

theorem exec_transpose (d : Dk) (k s out : ByteArray) (hk : keyV (tl k) = true) (hs : wv (tl s) = true)
    (hap : ∀ w', Calls Tryz.prog 6 #[.string s, .string k] w' fun e w'' => e = .returned (.tuple #[.string out, .bool true]) ∧ Below w'.heap.size w' w'') : Exec d (mk (keyLine [116, 114, 97, 110, 115, 112, 111, 115, 101] k s)) d (dash out) := by
  obtain ⟨kw, k1, k2⟩ := keyV_iff.1 hk
  have hz := wv_length hs
  rw [length_tl] at k1 k2 hz
  have hds := dash_size s
  have hfl := key_fields kw hs
  have hsz : (mk (tl k ++ 32 :: tl (dash s))).size ≤ 20000 := by rw [size_mk, List.length_append, List.length_cons, length_tl, length_tl]; omega
  have h := exec_key3 d d [116, 114, 97, 110, 115, 112, 111, 115, 101] (mk (tl k ++ 32 :: tl (dash s))) (dash out) (by decide) (by decide) hsz 2 156 eg_withKey (by decide) (fun _ => by rw [hfl]; rfl) (fun _ _ _ _ _ _ _ => rfl)
    (fun w a p0 p1 p2 p3 p4 p5 p6 B hml ho hbx hr hB => by
      rw [hfl] at hr ⊢
      have e2 : mkl [tl k, tl (dash s)] = [k, dash s] := by simp [mkl, mk_tl]
      rw [e2] at hr
      exact withKey_run w d a 6 B p3 k s out _ (enters_of Tryz.func6 (by kernel_rfl) rfl) hap hk hs ho hbx.b3 hr hB)
  rw [tl_mk] at h
  exact h

theorem exec_restore (d : Dk) (k s out : ByteArray) (hk : keyV (tl k) = true) (hs : wv (tl s) = true)
    (hap : ∀ w', Calls Tryz.prog 103 #[.string s, .string k] w' fun e w'' => e = .returned (.tuple #[.string out, .bool true]) ∧ Below w'.heap.size w' w'') : Exec d (mk (keyLine [114, 101, 115, 116, 111, 114, 101] k s)) d (dash out) := by
  obtain ⟨kw, k1, k2⟩ := keyV_iff.1 hk
  have hz := wv_length hs
  rw [length_tl] at k1 k2 hz
  have hds := dash_size s
  have hfl := key_fields kw hs
  have hsz : (mk (tl k ++ 32 :: tl (dash s))).size ≤ 20000 := by rw [size_mk, List.length_append, List.length_cons, length_tl, length_tl]; omega
  have h := exec_key4 d d [114, 101, 115, 116, 111, 114, 101] (mk (tl k ++ 32 :: tl (dash s))) (dash out) (by decide) (by decide) hsz 2 156 eg_withKey (by decide) (fun _ => by rw [hfl]; rfl) (fun _ _ _ _ _ _ _ => rfl)
    (fun w a p0 p1 p2 p3 p4 p5 p6 B hml ho hbx hr hB => by
      rw [hfl] at hr ⊢
      have e2 : mkl [tl k, tl (dash s)] = [k, dash s] := by simp [mkl, mk_tl]
      rw [e2] at hr
      exact withKey_run w d a 103 B p4 k s out _ (enters_of Tryz.func103 (by kernel_rfl) rfl) hap hk hs ho hbx.b4 hr hB)
  rw [tl_mk] at h
  exact h

theorem exec_add (d : Dk) (k s out : ByteArray) (hk : keyV (tl k) = true) (hs : wv (tl s) = true)
    (hap : ∀ w', Calls Tryz.prog 8 #[.string s, .string k] w' fun e w'' => e = .returned (.tuple #[.string out, .bool true]) ∧ Below w'.heap.size w' w'') : Exec d (mk (keyLine [97, 100, 100] k s)) d (dash out) := by
  obtain ⟨kw, k1, k2⟩ := keyV_iff.1 hk
  have hz := wv_length hs
  rw [length_tl] at k1 k2 hz
  have hds := dash_size s
  have hfl := key_fields kw hs
  have hsz : (mk (tl k ++ 32 :: tl (dash s))).size ≤ 20000 := by rw [size_mk, List.length_append, List.length_cons, length_tl, length_tl]; omega
  have h := exec_key5 d d [97, 100, 100] (mk (tl k ++ 32 :: tl (dash s))) (dash out) (by decide) (by decide) hsz 2 156 eg_withKey (by decide) (fun _ => by rw [hfl]; rfl) (fun _ _ _ _ _ _ _ => rfl)
    (fun w a p0 p1 p2 p3 p4 p5 p6 B hml ho hbx hr hB => by
      rw [hfl] at hr ⊢
      have e2 : mkl [tl k, tl (dash s)] = [k, dash s] := by simp [mkl, mk_tl]
      rw [e2] at hr
      exact withKey_run w d a 8 B p5 k s out _ (enters_of Tryz.func8 (by kernel_rfl) rfl) hap hk hs ho hbx.b5 hr hB)
  rw [tl_mk] at h
  exact h

theorem exec_subtract (d : Dk) (k s out : ByteArray) (hk : keyV (tl k) = true) (hs : wv (tl s) = true)
    (hap : ∀ w', Calls Tryz.prog 104 #[.string s, .string k] w' fun e w'' => e = .returned (.tuple #[.string out, .bool true]) ∧ Below w'.heap.size w' w'') : Exec d (mk (keyLine [115, 117, 98, 116, 114, 97, 99, 116] k s)) d (dash out) := by
  obtain ⟨kw, k1, k2⟩ := keyV_iff.1 hk
  have hz := wv_length hs
  rw [length_tl] at k1 k2 hz
  have hds := dash_size s
  have hfl := key_fields kw hs
  have hsz : (mk (tl k ++ 32 :: tl (dash s))).size ≤ 20000 := by rw [size_mk, List.length_append, List.length_cons, length_tl, length_tl]; omega
  have h := exec_key6 d d [115, 117, 98, 116, 114, 97, 99, 116] (mk (tl k ++ 32 :: tl (dash s))) (dash out) (by decide) (by decide) hsz 2 156 eg_withKey (by decide) (fun _ => by rw [hfl]; rfl) (fun _ _ _ _ _ _ _ => rfl)
    (fun w a p0 p1 p2 p3 p4 p5 p6 B hml ho hbx hr hB => by
      rw [hfl] at hr ⊢
      have e2 : mkl [tl k, tl (dash s)] = [k, dash s] := by simp [mkl, mk_tl]
      rw [e2] at hr
      exact withKey_run w d a 104 B p6 k s out _ (enters_of Tryz.func104 (by kernel_rfl) rfl) hap hk hs ho hbx.b6 hr hB)
  rw [tl_mk] at h
  exact h

/-- the answers -/
def answT (s k t : ByteArray) : List ByteArray := [dash (mk (trP s k)), dash t, dash (mk (trP s k)), dash s]
def outT (l : List ByteArray) (k : Nat) : List UInt8 := (l.take k).flatMap fun a => tl a ++ [10]
theorem outT_le (l : List ByteArray) (k n : Nat) (hl : l.length ≤ 10) (h : ∀ a ∈ l, a.size ≤ n) : (outT l k).length ≤ 10 * (n + 1) := by
  have key : ∀ m : List ByteArray, (∀ a ∈ m, a.size ≤ n) → (m.flatMap fun a => tl a ++ [10]).length ≤ m.length * (n + 1) := by
    intro m
    induction m with
    | nil => intro _; simp
    | cons a r ih =>
      intro hm
      have h1 := ih fun b hb => hm b (by simp [hb])
      have h2 := hm a (by simp)
      rw [List.flatMap_cons, List.length_append, List.length_append, length_tl]
      simp only [List.length_cons, List.length_nil, Nat.add_mul, Nat.one_mul] at h1 ⊢
      omega
  have h1 := key (l.take k) fun a ha => h a (List.mem_of_mem_take ha)
  have h2 : (l.take k).length ≤ 10 := by rw [List.length_take]; omega
  exact Nat.le_trans h1 (Nat.mul_le_mul_right _ h2)

theorem run_transpose (w : World) (hml : ML w) (T s k t : ByteArray) (hs : wv (tl s) = true) (hk : keyV (tl k) = true) (ht : t = mk (combine 1 (trP s k) (repP (tl k) s.size)))
    (hT : tl T = [keyLine [116, 114, 97, 110, 115, 112, 111, 115, 101] k s, keyLine [97, 100, 100] k (mk (trP s k)), keyLine [115, 117, 98, 116, 114, 97, 99, 116] k t, keyLine [114, 101, 115, 116, 111, 114, 101] k (mk (trP s k))].flatMap (· ++ [10])) :
    Calls Tryz.prog 10 #[.string T] w fun e w' => e = .returned (.string (mk (outT (answT s k t) 4))) ∧ Below w.heap.size w w' := by
  obtain ⟨kw, k1, k2⟩ := keyV_iff.1 hk
  rw [length_tl] at k1 k2
  have hz := wv_length hs
  rw [length_tl] at hz
  obtain ⟨S, hS⟩ : ∃ S, S = mk (trP s k) := ⟨_, rfl⟩
  have hSt : tl S = trP s k := by rw [hS, tl_mk]
  have hSw : wv (tl S) = true := by rw [hSt]; exact wv_trP hs hk
  have hSz : S.size = s.size := by rw [← length_tl, hSt, length_trP s k hk]
  have htt : tl t = combine 1 (tl S) (repP (tl k) S.size) := by rw [ht, tl_mk, hSt, hSz]
  have hrl : (tl S).length = (repP (tl k) S.size).length := by rw [length_tl, length_repP]
  have htw : wv (tl t) = true := by rw [htt]; exact combine_wv hSw hrl
  have htz : t.size = s.size := by rw [← length_tl, htt, combine_length 1 _ _ hrl, length_tl, hSz]
  have hback : combine 9 (tl t) (repP (tl k) t.size) = tl S := by
    rw [htz, ← hSz, htt]
    exact combine_back (by intro a b ha; omega) _ _ hrl (fun c hc => wv_mem hSw hc)
  rw [← hS] at hT
  have hn : ∀ p ∈ [keyLine [116, 114, 97, 110, 115, 112, 111, 115, 101] k s, keyLine [97, 100, 100] k S, keyLine [115, 117, 98, 116, 114, 97, 99, 116] k t, keyLine [114, 101, 115, 116, 111, 114, 101] k S], (10 : UInt8) ∉ p := by
    intro p hp
    simp only [List.mem_cons, List.not_mem_nil, or_false] at hp
    rcases hp with rfl | rfl | rfl | rfl
    · exact keyLine_not (by decide) kw hs
    · exact keyLine_not (by decide) kw hSw
    · exact keyLine_not (by decide) kw htw
    · exact keyLine_not (by decide) kw hSw
  have hsp : mkl (spl 10 (tl T)) = [mk (keyLine [116, 114, 97, 110, 115, 112, 111, 115, 101] k s), mk (keyLine [97, 100, 100] k S), mk (keyLine [115, 117, 98, 116, 114, 97, 99, 116] k t), mk (keyLine [114, 101, 115, 116, 111, 114, 101] k S), mk []] := by
    rw [hT, spl_lines 10 _ hn]; rfl
  have hTz : T.size ≤ 20000 := by
    rw [← length_tl, hT]
    have a0 := keyLine_len [116, 114, 97, 110, 115, 112, 111, 115, 101] k s (by decide) k2 hz
    have a1 := keyLine_len [97, 100, 100] k S (by decide) k2 (by omega)
    have a2 := keyLine_len [115, 117, 98, 116, 114, 97, 99, 116] k t (by decide) k2 (by omega)
    have a3 := keyLine_len [114, 101, 115, 116, 111, 114, 101] k S (by decide) k2 (by omega)
    simp only [List.flatMap_cons, List.flatMap_nil, List.append_nil, List.length_append, List.length_singleton]
    omega
  have e0 := exec_transpose Dk.empty k s S hk hs (fun w' => by rw [hS]; exact transpose_some w' s k hs hk)
  have e1 := exec_add Dk.empty k S t hk hSw (fun w' => by
    have := periodEncipher_some S k w' hk hSw
    rw [← htt, mk_tl] at this; exact this)
  have e2 := exec_subtract Dk.empty k t S hk htw (fun w' => by
    have := periodDecipher_some t k w' hk htw
    rw [hback, mk_tl] at this; exact this)
  have e3 := exec_restore Dk.empty k S s hk hSw (fun w' => untranspose_ok w' s k S hs hk hSt)
  have z0 := dash_size s
  have z1 := dash_size S
  have z2 := dash_size t
  have hal : ∀ a ∈ answT s k t, a.size ≤ 201 := by
    intro a ha
    unfold answT at ha
    rw [← hS] at ha
    simp only [List.mem_cons, List.not_mem_nil, or_false] at ha
    rcases ha with rfl | rfl | rfl | rfl <;> omega
  have hol := fun j => outT_le (answT s k t) j 201 (by simp [answT]) hal
  have hfin : outT (answT s k t) 5 = outT (answT s k t) 4 := rfl
  have hrun := run_lines w hml T hTz _ hsp (by simp) (fun _ => Dk.empty) (outT (answT s k t)) rfl rfl (fun j hj => by
    have hj5 : j = 0 ∨ j = 1 ∨ j = 2 ∨ j = 3 ∨ j = 4 := by simp at hj; omega
    rcases hj5 with rfl | rfl | rfl | rfl | rfl
    · exact .inr ⟨by simp only [List.getElem_cons_zero]; rw [tl_mk]; exact keyLine_ne _ _ _, by have := hol 0; omega, dash S, by omega, by unfold outT answT; rw [hS]; simp, e0⟩
    · exact .inr ⟨by simp only [List.getElem_cons_zero, List.getElem_cons_succ]; rw [tl_mk]; exact keyLine_ne _ _ _, by have := hol 1; omega, dash t, by omega, by unfold outT answT; simp, e1⟩
    · exact .inr ⟨by simp only [List.getElem_cons_zero, List.getElem_cons_succ]; rw [tl_mk]; exact keyLine_ne _ _ _, by have := hol 2; omega, dash S, by omega, by unfold outT answT; rw [hS]; simp, e2⟩
    · exact .inr ⟨by simp only [List.getElem_cons_zero, List.getElem_cons_succ]; rw [tl_mk]; exact keyLine_ne _ _ _, by have := hol 3; omega, dash s, by omega, by unfold outT answT; simp, e3⟩
    · exact .inl ⟨by simp only [List.getElem_cons_zero, List.getElem_cons_succ]; rw [tl_mk], rfl, rfl⟩) (by simp [outT, answT])
  rw [show [mk (keyLine [116, 114, 97, 110, 115, 112, 111, 115, 101] k s), mk (keyLine [97, 100, 100] k S), mk (keyLine [115, 117, 98, 116, 114, 97, 99, 116] k t), mk (keyLine [114, 101, 115, 116, 111, 114, 101] k S), mk []].length = 5 from rfl, hfin] at hrun
  exact hrun

end Go.Proofs.YteeeaeidocalnaaGreatDoor
