/- The law NamesBack: the walk. No condition but what the package variables hold. -/
import Derived.Test.YtagoemebklihjaaDoorNTextsW
namespace Go.Proofs.YtagoemebklihjaaDoor
open Go.RowKit

theorem scal_units (rs : List Nat) (h : ∀ r ∈ rs, scal r) : ∀ x ∈ unitsR rs, x < 65536 := by
  intro x hx
  simp only [unitsR, List.mem_flatMap] at hx
  obtain ⟨r, hr, hx⟩ := hx
  have hs := h r hr
  unfold scal at hs
  unfold unitsN at hx
  split at hx
  · simp at hx; omega
  · simp at hx; omega

set_option maxRecDepth 100000 in
set_option maxHeartbeats 2000000 in
theorem walk_NamesBack (w : World) (s : ByteArray) (v : Value) (us : List Nat) (hG : Gl w) (hS : Sl w v (hv us)) (hu : ∀ x ∈ us, x < 65536) :
    Calls Tryd.prog 8 #[.string s, v] w fun e w' => e = .returned (.bool true) ∧ Fr [] w w' := by
  obtain ⟨l, rfl⟩ : ∃ l : List UInt8, s = ⟨l.toArray⟩ := ⟨s.data.toList, (Lib.mk_data s).symm⟩
  have HG := Lib.hid hG
  have HU := Lib.hid hu
  obtain ⟨b, cap, rfl, -⟩ := hS.out
  have hvl : (hv us).length = us.length := by simp [hv]
  rw [hvl] at hS ⊢
  have HSl := Lib.hid hS
  clear hvl
  clear hG hS
  by_cases hl : 16384 < l.length
  · have a1 : (16384 : Int) < (l.length : Int) := by omega
    clear hl
    go_enter Tryd.func8, Tryd.ntmps8
    go_wp2_with (go_at_call 9; refine (awake_any _ HG.out).mono ?_; rintro e w1 ⟨rfl, F1⟩)
    go_ret
    exact ⟨rfl, F1⟩
  have a1 : (l.length : Int) ≤ 16384 := by omega
  by_cases hm : 16384 < us.length
  · have a2 : (16384 : Int) < (us.length : Int) := by omega
    clear hl hm
    go_enter Tryd.func8, Tryd.ntmps8
    go_wp2_with (go_at_call 9; refine (awake_any _ HG.out).mono ?_; rintro e w1 ⟨rfl, F1⟩)
    go_ret
    exact ⟨rfl, F1⟩
  have a2 : (us.length : Int) ≤ 16384 := by omega
  have HL := Lib.hid (show l.length ≤ 100000 by omega)
  have HM := Lib.hid (show us.length ≤ 100000 by omega)
  have HLE := Lib.hid (show (l == l) = true by simp)
  cases hr : runesL l with
  | none =>
    have uC : unC l = 15 := by rw [unC, hr]
    have uL : unL l = [] := by rw [unL, hr]
    cases ht : textL us with
    | none =>
      have sC : txC us = 15 := by rw [txC, ht]
      have sL : txL us = [] := by rw [txL, ht]
      have HuC := Lib.hid uC
      have HuL := Lib.hid uL
      have HsC := Lib.hid sC
      have HsL := Lib.hid sL
      have HLEo := HLE.out
      clear uC uL sC sL hl hm hr ht hu
      go_enter Tryd.func8, Tryd.ntmps8
      go_wp2_with (first
        | (go_at_call 17; refine (text_any _ _ us (HSl.out.fr0 F12) HU.out HM.out).mono ?_; intro e w4 h4; have h4 := text_tx h4; unfold TxR at h4; rw [HsC.out, HsL.out] at h4; obtain ⟨rfl, F4⟩ := h4; have F14 := F12.trans0 F4)
        | (go_at_call 15; refine (units_any _ l (HG.out.fr F1) HL.out).mono ?_; intro e w2 h2; have h2 := units_un h2; unfold UnR at h2; rw [HuC.out, HuL.out] at h2; obtain ⟨⟨v2, rfl, hS2⟩, F2⟩ := h2; have F12 := F1.trans0 F2)
        | (go_at_call 9; refine (awake_any _ HG.out).mono ?_; rintro e w1 ⟨rfl, F1⟩))
      go_ret
      exact ⟨rfl, F14⟩
    | some c =>
      have sC : txC us = 0 := by rw [txC, ht]
      have sL : txL us = c := by rw [txL, ht]
      obtain ⟨qs, hq, hqu⟩ := runes_of_text _ us c (Nat.le_refl _) hu ht
      have cC : unC c = 0 := by rw [unC, hq]
      have cL : unL c = us := by rw [unL, hq]; exact hqu
      have HCL := Lib.hid (show c.length ≤ 100000 by have := text_len _ us c (Nat.le_refl _) hu ht; omega)
      have HT := Lib.hid (show (us == us) = true by simp)
      have HM2 := Lib.hid (show us.length ≤ 1000000 by omega)
      clear hq hqu
      have HuC := Lib.hid uC
      have HuL := Lib.hid uL
      have HsC := Lib.hid sC
      have HsL := Lib.hid sL
      have HcC := Lib.hid cC
      have HcL := Lib.hid cL
      have HLEo := HLE.out
      clear uC uL sC sL cC cL hl hm hr ht hu
      go_enter Tryd.func8, Tryd.ntmps8
      go_wp2_with (first
        | (go_at_call 19; refine (same_any _ _ _ us us hS5 (HSl.out.fr0 F15) HM2.out).mono ?_; rw [HT.out]; rintro e w6 ⟨rfl, S6⟩; have F16 := F15.trans0 (S6.fr (S := [])))
        | (go_at_call 15; refine (units_any _ c (HG.out.fr F14) HCL.out).mono ?_; intro e w5 h5; have h5 := units_un h5; unfold UnR at h5; rw [HcC.out, HcL.out] at h5; obtain ⟨⟨v5, rfl, hS5⟩, F5⟩ := h5; have F15 := F14.trans0 F5)
        | (go_at_call 17; refine (text_any _ _ us (HSl.out.fr0 F12) HU.out HM.out).mono ?_; intro e w4 h4; have h4 := text_tx h4; unfold TxR at h4; rw [HsC.out, HsL.out] at h4; obtain ⟨rfl, F4⟩ := h4; have F14 := F12.trans0 F4)
        | (go_at_call 15; refine (units_any _ l (HG.out.fr F1) HL.out).mono ?_; intro e w2 h2; have h2 := units_un h2; unfold UnR at h2; rw [HuC.out, HuL.out] at h2; obtain ⟨⟨v2, rfl, hS2⟩, F2⟩ := h2; have F12 := F1.trans0 F2)
        | (go_at_call 9; refine (awake_any _ HG.out).mono ?_; rintro e w1 ⟨rfl, F1⟩))
      go_ret
      exact ⟨rfl, F16⟩
  | some rs =>
    have HRL := Lib.hid (show (unitsR rs).length ≤ 100000 by have := (runes_scal _ l rs (Nat.le_refl _) hr).2; have := unitsR_len rs; omega)
    have HRB := Lib.hid (scal_units rs (runes_scal _ l rs (Nat.le_refl _) hr).1)
    have tC : txC (unitsR rs) = 0 := by rw [txC, text_of_runes _ l rs (Nat.le_refl _) hr]
    have tL : txL (unitsR rs) = l := by rw [txL, text_of_runes _ l rs (Nat.le_refl _) hr]
    have uC : unC l = 0 := by rw [unC, hr]
    have uL : unL l = unitsR rs := by rw [unL, hr]
    cases ht : textL us with
    | none =>
      have sC : txC us = 15 := by rw [txC, ht]
      have sL : txL us = [] := by rw [txL, ht]
      have HuC := Lib.hid uC
      have HuL := Lib.hid uL
      have HtC := Lib.hid tC
      have HtL := Lib.hid tL
      have HsC := Lib.hid sC
      have HsL := Lib.hid sL
      have HLEo := HLE.out
      clear uC uL tC tL sC sL hl hm hr ht hu
      go_enter Tryd.func8, Tryd.ntmps8
      go_wp2_with (first
        | (go_at_call 17; refine (text_any _ _ us (HSl.out.fr0 F13) HU.out HM.out).mono ?_; intro e w4 h4; have h4 := text_tx h4; unfold TxR at h4; rw [HsC.out, HsL.out] at h4; obtain ⟨rfl, F4⟩ := h4; have F14 := F13.trans0 F4)
        | (go_at_call 17; refine (text_any _ _ (unitsR rs) hS2 HRB.out HRL.out).mono ?_; intro e w3 h3; have h3 := text_tx h3; unfold TxR at h3; rw [HtC.out, HtL.out] at h3; obtain ⟨rfl, F3⟩ := h3; have F13 := F12.trans0 F3)
        | (go_at_call 15; refine (units_any _ l (HG.out.fr F1) HL.out).mono ?_; intro e w2 h2; have h2 := units_un h2; unfold UnR at h2; rw [HuC.out, HuL.out] at h2; obtain ⟨⟨v2, rfl, hS2⟩, F2⟩ := h2; have F12 := F1.trans0 F2)
        | (go_at_call 9; refine (awake_any _ HG.out).mono ?_; rintro e w1 ⟨rfl, F1⟩))
      go_ret
      exact ⟨rfl, F14⟩
    | some c =>
      have sC : txC us = 0 := by rw [txC, ht]
      have sL : txL us = c := by rw [txL, ht]
      obtain ⟨qs, hq, hqu⟩ := runes_of_text _ us c (Nat.le_refl _) hu ht
      have cC : unC c = 0 := by rw [unC, hq]
      have cL : unL c = us := by rw [unL, hq]; exact hqu
      have HCL := Lib.hid (show c.length ≤ 100000 by have := text_len _ us c (Nat.le_refl _) hu ht; omega)
      have HT := Lib.hid (show (us == us) = true by simp)
      have HM2 := Lib.hid (show us.length ≤ 1000000 by omega)
      clear hq hqu
      have HuC := Lib.hid uC
      have HuL := Lib.hid uL
      have HtC := Lib.hid tC
      have HtL := Lib.hid tL
      have HsC := Lib.hid sC
      have HsL := Lib.hid sL
      have HcC := Lib.hid cC
      have HcL := Lib.hid cL
      have HLEo := HLE.out
      clear uC uL tC tL sC sL cC cL hl hm hr ht hu
      go_enter Tryd.func8, Tryd.ntmps8
      go_wp2_with (first
        | (go_at_call 19; refine (same_any _ _ _ us us hS5 (HSl.out.fr0 F15) HM2.out).mono ?_; rw [HT.out]; rintro e w6 ⟨rfl, S6⟩; have F16 := F15.trans0 (S6.fr (S := [])))
        | (go_at_call 15; refine (units_any _ c (HG.out.fr F14) HCL.out).mono ?_; intro e w5 h5; have h5 := units_un h5; unfold UnR at h5; rw [HcC.out, HcL.out] at h5; obtain ⟨⟨v5, rfl, hS5⟩, F5⟩ := h5; have F15 := F14.trans0 F5)
        | (go_at_call 17; refine (text_any _ _ us (HSl.out.fr0 F13) HU.out HM.out).mono ?_; intro e w4 h4; have h4 := text_tx h4; unfold TxR at h4; rw [HsC.out, HsL.out] at h4; obtain ⟨rfl, F4⟩ := h4; have F14 := F13.trans0 F4)
        | (go_at_call 17; refine (text_any _ _ (unitsR rs) hS2 HRB.out HRL.out).mono ?_; intro e w3 h3; have h3 := text_tx h3; unfold TxR at h3; rw [HtC.out, HtL.out] at h3; obtain ⟨rfl, F3⟩ := h3; have F13 := F12.trans0 F3)
        | (go_at_call 15; refine (units_any _ l (HG.out.fr F1) HL.out).mono ?_; intro e w2 h2; have h2 := units_un h2; unfold UnR at h2; rw [HuC.out, HuL.out] at h2; obtain ⟨⟨v2, rfl, hS2⟩, F2⟩ := h2; have F12 := F1.trans0 F2)
        | (go_at_call 9; refine (awake_any _ HG.out).mono ?_; rintro e w1 ⟨rfl, F1⟩))
      go_ret
      exact ⟨rfl, F16⟩
end Go.Proofs.YtagoemebklihjaaDoor
