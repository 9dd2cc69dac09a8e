/-
  Both sides' Encipher at once, and the enciphering of what was enciphered. Conditions: what each theorem names.
-/
import Derived.Test.YtflaoicjgigcaaaGreatDoorEncI
import Derived.Test.YtflaoicjgigcaaaGreatDoorEncT
import Derived.Test.YtflaoicjgigcaaaGreatDoorRunTw
namespace Go.Proofs.YtflaoicjgigcaaaGreatDoor
open Go.RowKit Pl
set_option linter.unusedVariables false

abbrev SEncIs (rs : List (ByteArray × ByteArray)) (p g l o x s u : ByteArray) : Prop := ∀ (w' : World) (A : Option Addr) (cap : Nat), Rd w' w'.heap.size A (rotV rs) → rs.length ≤ cap → Calls Tryz.prog 19 #[.agg #[.slice A rs.length cap, .string p, .string g, .string l], .string o, .string x] w' fun e w'' => e = .returned (.tuple #[.string s, .string u, .bool true]) ∧ Below w'.heap.size w' w''

abbrev SL8Is (rs : List (ByteArray × ByteArray)) (p g l o x s : ByteArray) : Prop := ∀ (w' : World) (A : Option Addr) (cap : Nat), Rd w' w'.heap.size A (rotV rs) → rs.length ≤ cap → Calls Tryz.prog 41 #[.agg #[.slice A rs.length cap, .string p, .string g, .string l], .string o, .string x] w' fun e w'' => e = .returned (.string s) ∧ Below w'.heap.size w' w''

/-- enciphering, and enciphering again from the same windows -/
theorem enc_pair {rs : List (ByteArray × ByteArray)} {p g l o x : ByteArray} (hv : SetV rs p g l o) (hx : wv (tl x) = true) : ∃ s u : ByteArray, wv (tl s) = true ∧ s.size = x.size ∧ u.size = o.size ∧ EncIs rs p g l o x s u ∧ EncIs rs p g l o s x u ∧ SEncIs rs p g l o x s u ∧ SL8Is rs p g l o x s := by
  have hrv := hv.1.1.1.2.2.2
  have hxz := wv_size hx
  obtain ⟨us, rfl, hu⟩ := pT_of_wv (s := x) (List.all_eq_true.2 fun c hc => wv_mem hx hc)
  obtain ⟨r, q, rg, ws, hr, hri, rfl, hq, hi, rfl, rfl, hrg, hrl, ho, hws, hwl⟩ := setV_parts hv
  have hul : us.length ≤ 200 := by rw [pT_size] at hxz; exact hxz
  have hwi : ∀ i, i < rs.length → Prm (wirP rs i) := fun i hi => (wir_ok hrv hi).1
  have hK : ∀ k, Prm (keyP q r rs rg o k) := fun k => keyP_prm hq hr hwi k
  have hbk : ∀ k y, y < 10 → nth (keyP q r rs rg o k) (nth (keyP q r rs rg o k) y) = y := fun k y hy => permW_back (wayC_prm hq hwi rs.length (Nat.le_refl _)) hr hri hy
  have hlo := encN_lo hK us
  have hln := encN_len (keyP q r rs rg o) us
  have hbb := encN_back hbk hu
  refine ⟨pT (encN (keyP q r rs rg o) us), stepW rs o us.length, pT_wv hlo (by omega), by rw [pT_size, pT_size, hln], stepW_size _ _ _, ?_, ?_, ?_, ?_⟩
  · exact fun w' A cap h' hc' => encipher_yes w' A cap rs r q rg us o h' hc' hv hr hri hq hi hrg hrl hu hul
  · intro w' A cap h' hc'
    have h := encipher_yes w' A cap rs r q rg (encN (keyP q r rs rg o) us) o h' hc' hv hr hri hq hi hrg hrl hlo (by omega)
    rw [hbb, hln] at h
    exact h
  · exact fun w' A cap h' hc' => sEncipher_yes w' A cap rs r q rg us o h' hc' hv hr hri hq hi hrg hrl hu hul
  · exact fun w' A cap h' hc' => l8Encipher_at hv hr hri hq hi hrg hrl us hu hul w' A cap h' hc'

end Go.Proofs.YtflaoicjgigcaaaGreatDoor
