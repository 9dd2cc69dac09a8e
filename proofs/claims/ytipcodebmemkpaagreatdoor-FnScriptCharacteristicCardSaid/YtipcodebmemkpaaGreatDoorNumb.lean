/-
  Contract of readNumber, of the program, at a number's text. Conditions: what each theorem names.
-/
import Derived.Test.YtipcodebmemkpaaGreatDoorMenu
import Derived.Test.YtipcodebmemkpaaGreatDoorPlainN
namespace Go.Proofs.YtipcodebmemkpaaGreatDoor
open Go.RowKit Pl
set_option linter.unusedVariables false

theorem itoa_nat (u : Nat) : Lib.itoa (u : Int) = Lib.decDigits u := by unfold Lib.itoa; rw [if_neg (by omega), Int.toNat_natCast]
theorem itoa_len (u : Nat) (hu : u ≤ 1000000000000) : 1 ≤ (Lib.itoa (u : Int)).length ∧ (Lib.itoa (u : Int)).length ≤ 14 := by
  have key : ∀ (f u : Nat), u < 10 ^ f → (Lib.decDigits u).length ≤ f + 1 := by
    intro f
    induction f with
    | zero => intro u hu; rw [Lib.decDigits, dif_pos (by simp at hu; omega)]; simp
    | succ f ih =>
      intro u hu
      rw [Lib.decDigits]
      split
      · simp
      · rw [List.length_append, List.length_singleton]
        have := ih (u / 10) (by rw [Nat.pow_succ] at hu; omega)
        omega
  rw [itoa_nat]
  have := key 13 u (by omega)
  exact ⟨List.length_pos_iff.2 (dec_ne u), by omega⟩
theorem itoa_trim (u : Nat) (hu : u ≤ 1000000000000) : Lib.trimPrefix (Lib.itoa (u : Int)) [45] = Lib.itoa (u : Int) := by
  have hb := dec_bounds 13 u (by omega)
  rw [itoa_nat]
  unfold Lib.trimPrefix
  cases hl : Lib.decDigits u with
  | nil => rfl
  | cons b r =>
    rw [hl] at hb
    have h0 := hb b (by simp)
    have hne : b ≠ 45 := fun e => by subst e; simp at h0
    have hp : Lib.hasPrefix (b :: r) [45] = false := by
      show ((45 : UInt8) == b && List.isPrefixOf [] r) = false
      rw [show ((45 : UInt8) == b) = false from beq_eq_false_iff_ne.2 (Ne.symm hne)]; rfl
    rw [hp]; rfl

set_option maxHeartbeats 4000000 in
theorem readNumber_ok (w : World) (hg : GW w) (n : Nat) (hn : n ≤ 1000000000000) :
    Calls Tryz.prog 188 #[.string (mk (Lib.itoa (n : Int)))] w fun e w' => e = .returned (.tuple #[.int .i64 n, .bool true]) ∧ Below w.heap.size w w' := by
  obtain ⟨l1, l2⟩ := itoa_len n hn
  have ht := itoa_trim n hn
  have ha := atoi_dec n hn
  obtain ⟨s, hs⟩ : ∃ s, s = mk (Lib.itoa (n : Int)) := ⟨_, rfl⟩
  have hsl : tl s = Lib.itoa (n : Int) := by rw [hs, tl_mk]
  have hsz : s.size = (Lib.itoa (n : Int)).length := by rw [hs, size_mk]
  have hz1 : 1 ≤ s.size := by omega
  have hz2 : s.size ≤ 14 := by omega
  have htr := fun w' => Tryz.strings_TrimPrefix s (mk [45]) w'
  have hte : (⟨(Lib.trimPrefix s.data.toList (mk [45]).data.toList).toArray⟩ : ByteArray) = s := by
    show mk (Lib.trimPrefix (tl s) (tl (mk [45]))) = s
    rw [tl_mk, hsl, ht, hs]
  rw [hte] at htr
  have hat := fun w' => Tryz.strconv_Atoi s (n : Int) (by omega) (by show Lib.atoi (tl s) = _; rw [hsl]; exact ha) w'
  have HT := Lib.hid htr; have HAT := Lib.hid hat; have HG := Lib.hid hg
  have hit := fun w' (hg' : GW w') => itoa_any w' hg' n (by omega)
  rw [← hs] at hit ⊢
  have HIT := Lib.hid hit
  have hbq : (s.toList == s.toList) = true := beq_self_eq_true _
  clear l1 l2 ht ha hs hsl hsz htr hte hat hg hit
  go_enter Tryz.func188, Tryz.ntmps188
  go_wp2_with fail
  refine (HT.out w).mono ?_
  rintro _ w0 ⟨rfl, hw0⟩
  rw [hw0]
  clear hw0
  go_wp2_with fail
  refine (HAT.out w).mono ?_
  rintro _ w1 ⟨rfl, t, hw1⟩
  rw [hw1]
  clear hw1
  have hbm : Below _ w (Lib.bytesWorld w 5 t) := below_made w t
  have HB1 := Lib.hid hbm
  have HG1 := Lib.hid (HG.out.below hbm (Nat.le_refl _)); clear hbm
  generalize Lib.bytesWorld w 5 t = w1 at HB1 HG1 ⊢
  go_wp2_with fail
  refine (HIT.out w1 HG1.out).mono ?_
  rintro _ w2 ⟨rfl, hb2⟩
  have HB2 := Lib.hid (HB1.out.trans (hb2.mono HB1.out.size)); clear hb2
  go_wp2_with fail
  go_ret2
  exact ⟨rfl, HB2.out⟩

end Go.Proofs.YtipcodebmemkpaaGreatDoor
