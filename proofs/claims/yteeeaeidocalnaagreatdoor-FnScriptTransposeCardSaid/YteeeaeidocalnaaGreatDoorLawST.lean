/-
  The walk of the law FnScriptTranspose: it returns true whatever the bytes are; nothing that was there is changed. No conditions.
-/
import Derived.Test.YteeeaeidocalnaaGreatDoorScriptT
import Derived.Test.YteeeaeidocalnaaGreatDoorDrawT
namespace Go.Proofs.YteeeaeidocalnaaGreatDoor
open Go.RowKit Pl
set_option linter.unusedVariables false

theorem transpose_text (k ds dS dt s S t : ByteArray) (h1 : ds = dash s) (h2 : dS = dash S) (h3 : dt = dash t) :
    tl (⟨#[116, 114, 97, 110, 115, 112, 111, 115, 101, 32]⟩ ++ k ++ ⟨#[32]⟩ ++ ds ++ ⟨#[10, 97, 100, 100, 32]⟩ ++ k ++ ⟨#[32]⟩ ++ dS ++ ⟨#[10, 115, 117, 98, 116, 114, 97, 99, 116, 32]⟩ ++ k ++ ⟨#[32]⟩ ++ dt ++ ⟨#[10, 114, 101, 115, 116, 111, 114, 101, 32]⟩ ++ k ++ ⟨#[32]⟩ ++ dS ++ ⟨#[10]⟩) = [keyLine [116, 114, 97, 110, 115, 112, 111, 115, 101] k s, keyLine [97, 100, 100] k S, keyLine [115, 117, 98, 116, 114, 97, 99, 116] k t, keyLine [114, 101, 115, 116, 111, 114, 101] k S].flatMap (· ++ [10]) := by
  subst h1 h2 h3
  simp only [append_tl, tl_mk]
  rw [show tl (⟨#[116, 114, 97, 110, 115, 112, 111, 115, 101, 32]⟩ : ByteArray) = [116, 114, 97, 110, 115, 112, 111, 115, 101, 32] from rfl, show tl (⟨#[32]⟩ : ByteArray) = [32] from rfl, show tl (⟨#[10, 97, 100, 100, 32]⟩ : ByteArray) = [10, 97, 100, 100, 32] from rfl, show tl (⟨#[10, 115, 117, 98, 116, 114, 97, 99, 116, 32]⟩ : ByteArray) = [10, 115, 117, 98, 116, 114, 97, 99, 116, 32] from rfl, show tl (⟨#[10, 114, 101, 115, 116, 111, 114, 101, 32]⟩ : ByteArray) = [10, 114, 101, 115, 116, 111, 114, 101, 32] from rfl, show tl (⟨#[10]⟩ : ByteArray) = [10] from rfl]
  simp [keyLine]
theorem transpose_out (k ds dS dt s t : ByteArray) (h1 : ds = dash s) (h2 : dS = dash (mk (trP s k))) (h3 : dt = dash t) : mk (outT (answT s k t) 4) = dS ++ ⟨#[10]⟩ ++ dt ++ ⟨#[10]⟩ ++ dS ++ ⟨#[10]⟩ ++ ds ++ ⟨#[10]⟩ := by
  subst h1 h2 h3
  simp only [append_tl, tl_mk]
  rw [show tl (⟨#[10]⟩ : ByteArray) = [10] from rfl]
  simp [outT, answT]

set_option maxHeartbeats 8000000 in
set_option maxRecDepth 100000 in
theorem fnScriptTranspose_walk (w : World) (hml : ML w) (A : Option Addr) (cap : Nat) (bs : List UInt8) (h : Rd w w.heap.size A (bytesV bs)) (hc : bs.length ≤ cap) :
    Calls Tryz.prog 3 #[.slice A bs.length cap] w fun e w' => e = .returned (.bool true) ∧ Below w.heap.size w w' := by
  have HML := Lib.hid hml; clear hml
  by_cases hlen : 1048576 < bs.length
  · go_enter Tryz.func3, Tryz.ntmps3
    go_wp2_with fail
    go_ret
    exact ⟨rfl, Below.refl _ _⟩
  · go_enter Tryz.func3, Tryz.ntmps3
    go_wp2_with fail
    refine (drawTranspose_any w A cap bs h hc).mono ?_
    rintro _ w1 ⟨s, k, rfl, hsz, hkz, hb1⟩
    have HB1 := Lib.hid hb1; clear hb1 h
    by_cases hv : wv (tl s) = true ∧ keyV (tl k) = true
    · have hs := hv.1
      have hk := hv.2
      clear hv
      obtain ⟨kw, k1, k2⟩ := keyV_iff.1 hk
      rw [length_tl] at k1 k2
      have hz := wv_length hs
      rw [length_tl] at hz
      have HS := Lib.hid hs; have HK := Lib.hid hk; clear kw
      go_wp2_with fail
      refine (transpose_some _ s k hs hk).mono ?_
      rintro _ w2 ⟨rfl, hb2⟩
      have HB2 := Lib.hid (HB1.out.trans (hb2.mono HB1.out.size)); clear hb2
      go_wp2_with fail
      refine (sTranspose_some _ s k HS.out HK.out).mono ?_
      rintro _ w3 ⟨rfl, hb3⟩
      have HB3 := Lib.hid (HB2.out.trans (hb3.mono HB2.out.size)); clear hb3
      have hSw : wv (tl (mk (trP s k))) = true := by rw [tl_mk]; exact wv_trP hs hk
      have hSz : (mk (trP s k)).size = s.size := by rw [size_mk, length_trP s k hk]
      have hPE := fun w' => periodEncipher_some (mk (trP s k)) k w' hk hSw
      rw [tl_mk, hSz] at hPE
      obtain ⟨t, ht⟩ : ∃ t, t = mk (combine 1 (trP s k) (repP (tl k) s.size)) := ⟨_, rfl⟩
      rw [← ht] at hPE
      have htz : t.size ≤ 200 := by
        rw [ht, size_mk, combine_length 1 _ _ (by rw [length_trP s k hk, length_repP]), length_trP s k hk]; exact hz
      have hrun := fun (w' : World) (hm : ML w') (T : ByteArray) hT => run_transpose w' hm T s k t hs hk ht hT
      obtain ⟨S, hS⟩ : ∃ S, S = mk (trP s k) := ⟨_, rfl⟩
      have hSz2 : S.size ≤ 200 := by rw [hS, hSz]; exact hz
      rw [← hS] at hPE hrun ⊢
      obtain ⟨ds, hds⟩ : ∃ ds, ds = dash s := ⟨_, rfl⟩
      obtain ⟨dS, hdS⟩ : ∃ dS, dS = dash S := ⟨_, rfl⟩
      obtain ⟨dt, hdt⟩ : ∃ dt, dt = dash t := ⟨_, rfl⟩
      have z1 : ds.size ≤ 201 := by have := dash_size s; rw [← hds] at this; omega
      have z2 : dS.size ≤ 201 := by have := dash_size S; rw [← hdS] at this; omega
      have z3 : dt.size ≤ 201 := by have := dash_size t; rw [← hdt] at this; omega
      have htext := transpose_text k ds dS dt s S t hds hdS hdt
      have hout := transpose_out k ds dS dt s t hds (by rw [hdS, hS]) hdt
      have hR := fun (w' : World) (hm : ML w') => hrun w' hm _ htext
      rw [hout] at hR
      have D1 := Lib.hid (fun w' => hds ▸ rcDash_any w' s); have D2 := Lib.hid (fun w' => hdS ▸ rcDash_any w' S); have D3 := Lib.hid (fun w' => hdt ▸ rcDash_any w' t)
      have HPE := Lib.hid hPE; have HR := Lib.hid hR
      have hbq : (S.toList == S.toList) = true := beq_self_eq_true _
      clear hPE hR hout htext hds hdS hdt hrun hS hSz hSw ht hs hk
      go_wp2_with fail
      refine (HPE.out _).mono ?_
      rintro _ w4 ⟨rfl, hb4⟩
      have HB4 := Lib.hid (HB3.out.trans (hb4.mono HB3.out.size)); clear hb4
      go_wp2_with fail
      refine (D1.out _).mono ?_
      rintro _ _ ⟨rfl, rfl⟩
      go_wp2_with fail
      refine (D2.out _).mono ?_
      rintro _ _ ⟨rfl, rfl⟩
      go_wp2_with fail
      refine (D3.out _).mono ?_
      rintro _ _ ⟨rfl, rfl⟩
      go_wp2_with fail
      refine (D2.out _).mono ?_
      rintro _ _ ⟨rfl, rfl⟩
      go_wp2_with fail
      refine (HR.out w4 (HML.out.below HB4.out (Nat.le_refl _))).mono ?_
      rintro _ w5 ⟨rfl, hb5⟩
      have HB5 := Lib.hid (HB4.out.trans (hb5.mono HB4.out.size)); clear hb5
      have hfin : ((dS ++ ⟨#[10]⟩ ++ dt ++ ⟨#[10]⟩ ++ dS ++ ⟨#[10]⟩ ++ ds ++ ⟨#[10]⟩ : ByteArray).toList == (dS ++ ⟨#[10]⟩ ++ dt ++ ⟨#[10]⟩ ++ dS ++ ⟨#[10]⟩ ++ ds ++ ⟨#[10]⟩ : ByteArray).toList) = true := beq_self_eq_true _
      go_wp2_with fail
      refine (D2.out _).mono ?_
      rintro _ _ ⟨rfl, rfl⟩
      go_wp2_with fail
      refine (D3.out _).mono ?_
      rintro _ _ ⟨rfl, rfl⟩
      go_wp2_with fail
      refine (D2.out _).mono ?_
      rintro _ _ ⟨rfl, rfl⟩
      go_wp2_with fail
      refine (D1.out _).mono ?_
      rintro _ _ ⟨rfl, rfl⟩
      go_wp2_with fail
      go_ret
      exact ⟨rfl, HB5.out⟩
    · have HV := Lib.hid hv; clear hv
      have hbq : ((mk []).toList == (mk []).toList) = true := beq_self_eq_true _
      go_wp2_with fail
      refine (transpose_none _ s k HV.out).mono ?_
      rintro _ _ ⟨rfl, rfl⟩
      go_wp2_with fail
      refine (sTranspose_none _ s k HV.out).mono ?_
      rintro _ _ ⟨rfl, rfl⟩
      go_wp2_with fail
      go_ret
      exact ⟨rfl, HB1.out⟩

end Go.Proofs.YteeeaeidocalnaaGreatDoor
