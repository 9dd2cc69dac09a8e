/-
  The closed facts on the head of the translation, read word by word. No conditions.
-/
import Derived.Test.YtipcodebmemkpaaGreatDoorRows
import Derived.JoinedOf
import Derived.KernelRfl
namespace Go.Proofs.YtipcodebmemkpaaGreatDoor
open Go
theorem ws_one (l : List Char) : ∀ (k : Nat), ((l.take k).all (fun c => c != Char.ofNat 32)) = true → l[k]? = some (Char.ofNat 32) → wordsSigns l = l.take k :: wordsSigns (l.drop (k + 1)) := by
  induction l with
  | nil => intro k _ h; simp at h
  | cons c l ih =>
    intro k h1 h2
    cases k with
    | zero =>
      simp at h2
      subst h2
      simp [wordsSigns]
    | succ k =>
      simp at h1 h2
      have hc : c ≠ Char.ofNat 32 := h1.1
      have := ih k (by simp; exact h1.2) h2
      rw [wordsSigns]
      · rw [this]; simp
      · exact hc
theorem ws_three (l : List Char) (h : ((l.take 7).all (fun c => c != Char.ofNat 32) && (l[7]? == some (Char.ofNat 32)) && ((l.drop 8).take 64).all (fun c => c != Char.ofNat 32) && ((l.drop 8)[64]? == some (Char.ofNat 32)) &&
    ((l.drop 73).take 3).all (fun c => c != Char.ofNat 32) && ((l.drop 73)[3]? == some (Char.ofNat 32)) && (l.take 7 == "harness".toList) && isSumSigns ((l.drop 8).take 64) && ((l.drop 73).take 3 == "cut".toList)) = true) :
    ∃ b ws, wordsSigns l = "harness".toList :: b :: "cut".toList :: ws ∧ isSumSigns b = true := by
  simp only [Bool.and_eq_true, beq_iff_eq] at h
  obtain ⟨⟨⟨⟨⟨⟨⟨⟨a1, a2⟩, a3⟩, a4⟩, a5⟩, a6⟩, a7⟩, a8⟩, a9⟩ := h
  refine ⟨(l.drop 8).take 64, wordsSigns (l.drop 77), ?_, a8⟩
  rw [ws_one l 7 a1 a2, ws_one (l.drop 8) 64 a3 a4, List.drop_drop, ws_one (l.drop (8 + (64 + 1))) 3 a5 a6, List.drop_drop, a7, a9]
theorem io_of {P : Program} {l : List Char} (h : P.initOrder = String.ofList l) (h2 : ((l.take 7).all (fun c => c != Char.ofNat 32) && (l[7]? == some (Char.ofNat 32)) && ((l.drop 8).take 64).all (fun c => c != Char.ofNat 32) && ((l.drop 8)[64]? == some (Char.ofNat 32)) &&
    ((l.drop 73).take 3).all (fun c => c != Char.ofNat 32) && ((l.drop 73)[3]? == some (Char.ofNat 32)) && (l.take 7 == "harness".toList) && isSumSigns ((l.drop 8).take 64) && ((l.drop 73).take 3 == "cut".toList)) = true) :
    ∃ b ws, wordsSigns P.initOrder.toList = "harness".toList :: b :: "cut".toList :: ws ∧ isSumSigns b = true := by
  rw [h, String.toList_ofList]; exact ws_three l h2
set_option maxRecDepth 100000 in
theorem io3 : ∃ b ws, wordsSigns Tryz.prog.initOrder.toList = "harness".toList :: b :: "cut".toList :: ws ∧ isSumSigns b = true :=
  io_of (P := Tryz.prog) rfl (by kernel_rfl)
theorem behind3 {b : List Char} {ws : List (List Char)} (hb : isSumSigns b = true) : behindMainWord ("harness".toList :: b :: "cut".toList :: ws) = "cut".toList :: ws := by
  rw [behindMainWord, hb]; rfl
theorem make_of {P : Program} {ws : List (List Char)} (h : behindMainWord (wordsSigns P.initOrder.toList) = "cut".toList :: ws) : P.make = some .cut := by
  unfold Program.make
  rw [h]
  rfl
theorem may_of {P : Program} {ws : List (List Char)} (h : behindMainWord (wordsSigns P.initOrder.toList) = "cut".toList :: ws)
    (h1 : P.laysLater = false) (h2 : P.bearsReflect = false) (h3 : P.doorFits [] = true) : P.mayEnter = true := by
  unfold Program.mayEnter
  rw [h]
  have e : stripLifts liftWords ("cut".toList :: ws) = ([], "cut".toList :: ws) := by rfl
  simp only [e, h1, h2, h3]
  rfl
theorem lifts_of {P : Program} {ws : List (List Char)} (h : behindMainWord (wordsSigns P.initOrder.toList) = "cut".toList :: ws) : P.liftsFinal = false := by
  unfold Program.liftsFinal Program.headLifts
  rw [h]
  rfl
theorem l1 : Tryz.prog.laysLater = false := by kernel_rfl
theorem l2 : Tryz.prog.bearsReflect = false := by kernel_rfl
theorem l3 : Tryz.prog.doorFits [] = true := by kernel_rfl
theorem head_may : Tryz.prog.mayEnter = true := by
  obtain ⟨b, ws, h, hb⟩ := io3
  exact may_of (by rw [h, behind3 hb]) l1 l2 l3
theorem head_lifts : Tryz.prog.liftsFinal = false := by
  obtain ⟨b, ws, h, hb⟩ := io3
  exact lifts_of (ws := ws) (by rw [h, behind3 hb])
theorem head_make : Tryz.prog.make = some .cut := by
  obtain ⟨b, ws, h, hb⟩ := io3
  exact make_of (by rw [h, behind3 hb])
theorem head_laid : laidOutB Tryz.prog = true := by kernel_rfl
theorem head_maps : mapsRowed Tryz.prog = true := by kernel_rfl
theorem head_heard : Tryz.prog.stopsHeard = true := by kernel_rfl
theorem head_keys : Tryz.prog.plainKeys = true := by kernel_rfl

end Go.Proofs.YtipcodebmemkpaaGreatDoor
