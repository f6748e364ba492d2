/- Contract: headerw.mayFile. No condition but that lengths fit. -/
import Derived.Test.YtkodindajfdagaaGreatDoorWRowM
import Derived.Test.YtkodindajfdagaaGreatDoorNUnitsM
import Derived.Deep.DeepCutAuto
namespace Go.Proofs.YtkodindajfdagaaGreatDoor
open Go.RowKit

theorem indexByte_neg (l : List UInt8) : (Lib.indexByte l 0 < 0) ↔ (0 : UInt8) ∉ l := by
  induction l with
  | nil => simp [Lib.indexByte]
  | cons b t ih =>
    have hg := Lib.indexByte_ge t 0
    unfold Lib.indexByte
    by_cases hb : b = 0
    · subst hb
      simp
    · have h1 : (b == 0) = false := by simp [hb]
      have h2 : (0 : UInt8) ≠ b := fun e => hb e.symm
      rw [h1]
      simp only [Bool.false_eq_true, if_false]
      by_cases ht : Lib.indexByte t 0 < 0
      · have he : Lib.indexByte t 0 = -1 := by omega
        rw [he]
        simp [h2, ih.1 ht]
      · have : ¬ (Lib.indexByte t 0 == -1) = true := by simp; omega
        rw [if_neg this]
        have hm := fun h => ht (ih.2 h)
        simp only [List.mem_cons, not_or, h2, not_false_eq_true, true_and]
        exact ⟨fun h => by omega, fun h => (hm h).elim⟩

/-- The tests of a file, as they are made. -/
def tests (st dir ha a0 ht t0 : Bool) : Bool := !(st && dir) && (ha || a0) && (ht || t0)

set_option maxRecDepth 100000 in
set_option maxHeartbeats 4000000 in
theorem mayfile_any (w : World) (x : Fil) (hG : Gl w) (hl : x.name.length ≤ 100000) :
    Calls Tryz.prog 45 #[.agg x.cells.toArray] w fun e w' => e = .returned (.bool (mayFil x)) ∧ Fr [] w w' := by
  obtain ⟨nm, st, dir, ha, attr, ht, tm⟩ := x
  dsimp only at hl
  have HM := Lib.hid (show mayFil ⟨nm, st, dir, ha, attr, ht, tm⟩ = ((runesL nm).isSome && !(decide ((0 : UInt8) ∈ nm)) && !(st && dir) && (ha || attr == 0) && (ht || tm == 0)) from rfl)
  show Calls _ _ #[.agg #[.string ⟨nm.toArray⟩, .bool st, .bool dir, .bool ha, .int .u32 attr.toNat, .bool ht, .int .u64 tm.toNat]] w _
  obtain ⟨wA, hwA⟩ : ∃ wA, wA = w.alloc (.cells #[.string ⟨nm.toArray⟩, .bool st, .bool dir, .bool ha, .int .u32 attr.toNat, .bool ht, .int .u64 tm.toNat] 54) := ⟨_, rfl⟩
  have FA : Fr [] w wA := hwA ▸ (Fr.refl _ _).alloc _
  have HBX := Lib.hid (fun wx (F : Fr [] wA wx) => wbox7 (hwA ▸ F : Fr [] (w.alloc (.cells #[.string ⟨nm.toArray⟩, .bool st, .bool dir, .bool ha, .int .u32 attr.toNat, .bool ht, .int .u64 tm.toNat] 54)) wx) (by simp))
  have HU := Lib.hid (units_any wA nm (hG.fr FA) hl)
  have a0 := (HBX.out wA (Fr.refl _ _)).1
  have HI := Lib.hid (fun wx => Tryz.strings_IndexByte ⟨nm.toArray⟩ 0 wx)
  clear hG hl
  cases hr : runesL nm with
  | none =>
    have HE := Lib.hid (show mayFil ⟨nm, st, dir, ha, attr, ht, tm⟩ = false by rw [HM.out, hr]; rfl)
    have HRN := Lib.hid hr
    clear hr
    go_enter Tryz.func45, Tryz.ntmps45
    go_wp2_with (go_at_call 83; rw [← hwA]; refine HU.out.mono ?_; intro e w1 hr; rcases hr with ⟨uv, rs, hrs, rfl, hsl, F1⟩ | ⟨hrn, rfl, F1⟩; (exfalso; rw [HRN.out] at hrs; cases hrs))
    go_ret
    exact ⟨by rw [HE.out]; rfl, FA.trans0 F1⟩
  | some rs =>
    have HRN := Lib.hid hr
    clear hr
    by_cases hz : (0 : UInt8) ∈ nm
    · have HE := Lib.hid (show mayFil ⟨nm, st, dir, ha, attr, ht, tm⟩ = false by rw [HM.out, decide_eq_true hz]; simp)
      have hi : ¬ Lib.indexByte nm (Int.toNat 0).toUInt8 < 0 := fun h => (indexByte_neg nm).1 h hz
      obtain ⟨ix, hix⟩ : ∃ ix, ix = Lib.indexByte nm (Int.toNat 0).toUInt8 := ⟨_, rfl⟩
      rw [← hix] at hi
      have HX := Lib.hid hix
      clear hix hz
      go_enter Tryz.func45, Tryz.ntmps45
      go_wp2_with (first
        | (have hq := F1; go_at_call 84; refine (HI.out w1).mono ?_; rw [← HX.out]; rintro e w2 ⟨rfl, rfl⟩)
        | (go_at_call 83; rw [← hwA]; refine HU.out.mono ?_; intro e w1 hr; rcases hr with ⟨uv, rs, hrs, rfl, hsl, F1⟩ | ⟨hrn, rfl, F1⟩; rotate_left; (exfalso; rw [HRN.out] at hrn; cases hrn); obtain ⟨uo, uc, rfl, -⟩ := own_out hsl; obtain ⟨b0, b1, b2, b3, b4, b5, b6⟩ := HBX.out w1 F1))
      go_ret
      exact ⟨by rw [HE.out]; rfl, FA.trans0 F1⟩
    have hi : Lib.indexByte nm (Int.toNat 0).toUInt8 < 0 := (indexByte_neg nm).2 hz
    have HM2 := Lib.hid (show mayFil ⟨nm, st, dir, ha, attr, ht, tm⟩ = tests st dir ha (attr == 0) ht (tm == 0) by rw [HM.out, HRN.out, decide_eq_false hz]; simp [tests])
    obtain ⟨ix, hix⟩ : ∃ ix, ix = Lib.indexByte nm (Int.toNat 0).toUInt8 := ⟨_, rfl⟩
    rw [← hix] at hi
    have HX := Lib.hid hix
    clear hix hz
    have ea : ((attr.toNat : Int) == 0) = (attr == 0) := by
      by_cases h : attr = 0
      · subst h; rfl
      · have h1 : attr.toNat ≠ 0 := fun e => h (UInt32.toNat_inj.1 e)
        have h2 : (attr == 0) = false := by simp [h]
        rw [h2, beq_eq_false_iff_ne]
        omega
    have et : ((tm.toNat : Int) == 0) = (tm == 0) := by
      by_cases h : tm = 0
      · subst h; rfl
      · have h1 : tm.toNat ≠ 0 := fun e => h (UInt64.toNat_inj.1 e)
        have h2 : (tm == 0) = false := by simp [h]
        rw [h2, beq_eq_false_iff_ne]
        omega
    generalize (attr == 0) = za at *
    generalize (tm == 0) = zt at *
    rcases (show (st = true ∧ dir = true) ∨ (st = true ∧ dir = false) ∨ st = false by cases st <;> cases dir <;> simp) with ⟨rfl, rfl⟩ | ⟨rfl, rfl⟩ | rfl <;>
    rcases (show ha = true ∨ (ha = false ∧ za = true) ∨ (ha = false ∧ za = false) by cases ha <;> cases za <;> simp) with rfl | ⟨rfl, rfl⟩ | ⟨rfl, rfl⟩ <;>
    rcases (show ht = true ∨ (ht = false ∧ zt = true) ∨ (ht = false ∧ zt = false) by cases ht <;> cases zt <;> simp) with rfl | ⟨rfl, rfl⟩ | ⟨rfl, rfl⟩
    all_goals
      go_enter Tryz.func45, Tryz.ntmps45
      go_wp2_with (first
        | (have hq := F1; go_at_call 84; refine (HI.out w1).mono ?_; rw [← HX.out]; rintro e w2 ⟨rfl, rfl⟩)
        | (go_at_call 83; rw [← hwA]; refine HU.out.mono ?_; intro e w1 hr; rcases hr with ⟨uv, rs, hrs, rfl, hsl, F1⟩ | ⟨hrn, rfl, F1⟩; rotate_left; (exfalso; rw [HRN.out] at hrn; cases hrn); obtain ⟨uo, uc, rfl, -⟩ := own_out hsl; obtain ⟨b0, b1, b2, b3, b4, b5, b6⟩ := HBX.out w1 F1))
      go_ret
      exact ⟨by rw [HM2.out]; first | rfl | simp [tests], FA.trans0 F1⟩
end Go.Proofs.YtkodindajfdagaaGreatDoor
