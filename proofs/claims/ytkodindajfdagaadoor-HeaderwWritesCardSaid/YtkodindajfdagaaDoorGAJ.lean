/- Contract: headerw.mayFile. No condition but that lengths fit. -/
import Derived.Test.YtkodindajfdagaaDoorGAH
import Derived.Test.YtkodindajfdagaaDoorGAI
import Derived.Deep.DeepCutAuto
namespace Go.Proofs.YtkodindajfdagaaDoor
open Go.RowKit

theorem indexByte_neg (l : List UInt8) : (Lib.indexByte l 0 < 0) ↔ (0 : UInt8) ∉ l := by
  induction l with
  | nil => simp [Lib.indexByte]
  | cons b t ih =>
    have hg := Lib.indexByte_ge t 0
    unfold Lib.indexByte
    by_cases hb : b = 0
    · subst hb
      simp
    · have h1 : (b == 0) = false := by simp [hb]
      have h2 : (0 : UInt8) ≠ b := fun e => hb e.symm
      rw [h1]
      simp only [Bool.false_eq_true, if_false]
      by_cases ht : Lib.indexByte t 0 < 0
      · have he : Lib.indexByte t 0 = -1 := by omega
        rw [he]
        simp [h2, ih.1 ht]
      · have : ¬ (Lib.indexByte t 0 == -1) = true := by simp; omega
        rw [if_neg this]
        have hm := fun h => ht (ih.2 h)
        simp only [List.mem_cons, not_or, h2, not_false_eq_true, true_and]
        exact ⟨fun h => by omega, fun h => (hm h).elim⟩

/-- The tests of a file, as they are made. -/
def tests (st dir ha a0 ht t0 : Bool) : Bool := !(st && dir) && (ha || a0) && (ht || t0)

set_option maxRecDepth 100000 in
set_option maxHeartbeats 4000000 in
theorem mayfile_any (w : World) (x : Fil) (hG : Gl w) (hl : x.name.length ≤ 100000) :
    Calls Tryd.prog 17 #[.agg x.cells.toArray] w fun e w' => e = .returned (.bool (mayFil x)) ∧ Fr [] w w' := by
  obtain ⟨nm, st, dir, ha, attr, ht, tm⟩ := x
  dsimp only at hl
  have HM := Lib.hid (show mayFil ⟨nm, st, dir, ha, attr, ht, tm⟩ = ((runesL nm).isSome && !(decide ((0 : UInt8) ∈ nm)) && !(st && dir) && (ha || attr == 0) && (ht || tm == 0)) from rfl)
  show Calls _ _ #[.agg #[.string ⟨nm.toArray⟩, .bool st, .bool dir, .bool ha, .int .u32 attr.toNat, .bool ht, .int .u64 tm.toNat]] w _
  obtain ⟨wA, hwA⟩ : ∃ wA, wA = w.alloc (.cells #[.string ⟨nm.toArray⟩, .bool st, .bool dir, .bool ha, .int .u32 attr.toNat, .bool ht, .int .u64 tm.toNat] 39) := ⟨_, rfl⟩
  have FA : Fr [] w wA := hwA ▸ (Fr.refl _ _).alloc _
  have HBX := Lib.hid (fun wx (F : Fr [] wA wx) => wbox7 (hwA ▸ F : Fr [] (w.alloc (.cells #[.string ⟨nm.toArray⟩, .bool st, .bool dir, .bool ha, .int .u32 attr.toNat, .bool ht, .int .u64 tm.toNat] 39)) wx) (by simp))
  have HU := Lib.hid (units_any wA nm (hG.fr FA) hl)
  have a0 := (HBX.out wA (Fr.refl _ _)).1
  have HI := Lib.hid (fun wx => Tryd.strings_IndexByte ⟨nm.toArray⟩ 0 wx)
  clear hG hl
  cases hr : runesL nm with
  | none =>
    have HE := Lib.hid (show mayFil ⟨nm, st, dir, ha, attr, ht, tm⟩ = false by rw [HM.out, hr]; rfl)
    have HRN := Lib.hid hr
    clear hr
    go_enter Tryd.func17, Tryd.ntmps17
    go_wp2_with (go_at_call 41; rw [← hwA]; refine HU.out.mono ?_; intro e w1 hr; rcases hr with ⟨uv, rs, hrs, rfl, hsl, F1⟩ | ⟨hrn, rfl, F1⟩; (exfalso; rw [HRN.out] at hrs; cases hrs))
    go_ret
    exact ⟨by rw [HE.out]; rfl, FA.trans0 F1⟩
  | some rs =>
    have HRN := Lib.hid hr
    clear hr
    by_cases hz : (0 : UInt8) ∈ nm
    · have HE := Lib.hid (show mayFil ⟨nm, st, dir, ha, attr, ht, tm⟩ = false by rw [HM.out, decide_eq_true hz]; simp)
      have hi : ¬ Lib.indexByte nm (Int.toNat 0).toUInt8 < 0 := fun h => (indexByte_neg nm).1 h hz
      obtain ⟨ix, hix⟩ : ∃ ix, ix = Lib.indexByte nm (Int.toNat 0).toUInt8 := ⟨_, rfl⟩
      rw [← hix] at hi
      have HX := Lib.hid hix
      clear hix hz
      go_enter Tryd.func17, Tryd.ntmps17
      go_wp2_with (first
        | (have hq := F1; go_at_call 42; refine (HI.out w1).mono ?_; rw [← HX.out]; rintro e w2 ⟨rfl, rfl⟩)
        | (go_at_call 41; rw [← hwA]; refine HU.out.mono ?_; intro e w1 hr; rcases hr with ⟨uv, rs, hrs, rfl, hsl, F1⟩ | ⟨hrn, rfl, F1⟩; rotate_left; (exfalso; rw [HRN.out] at hrn; cases hrn); obtain ⟨uo, uc, rfl, -⟩ := own_out hsl; obtain ⟨b0, b1, b2, b3, b4, b5, b6⟩ := HBX.out w1 F1))
      go_ret
      exact ⟨by rw [HE.out]; rfl, FA.trans0 F1⟩
    have hi : Lib.indexByte nm (Int.toNat 0).toUInt8 < 0 := (indexByte_neg nm).2 hz
    have HM2 := Lib.hid (show mayFil ⟨nm, st, dir, ha, attr, ht, tm⟩ = tests st dir ha (attr == 0) ht (tm == 0) by rw [HM.out, HRN.out, decide_eq_false hz]; simp [tests])
    obtain ⟨ix, hix⟩ : ∃ ix, ix = Lib.indexByte nm (Int.toNat 0).toUInt8 := ⟨_, rfl⟩
    rw [← hix] at hi
    have HX := Lib.hid hix
    clear hix hz
    have ea : ((attr.toNat : Int) == 0) = (attr == 0) := by
      by_cases h : attr = 0
      · subst h; rfl
      · have h1 : attr.toNat ≠ 0 := fun e => h (UInt32.toNat_inj.1 e)
        have h2 : (attr == 0) = false := by simp [h]
        rw [h2, beq_eq_false_iff_ne]
        omega
    have et : ((tm.toNat : Int) == 0) = (tm == 0) := by
      by_cases h : tm = 0
      · subst h; rfl
      · have h1 : tm.toNat ≠ 0 := fun e => h (UInt64.toNat_inj.1 e)
        have h2 : (tm == 0) = false := by simp [h]
        rw [h2, beq_eq_false_iff_ne]
        omega
    generalize (attr == 0) = za at *
    generalize (tm == 0) = zt at *
    rcases (show (st = true ∧ dir = true) ∨ (st = true ∧ dir = false) ∨ st = false by cases st <;> cases dir <;> simp) with ⟨rfl, rfl⟩ | ⟨rfl, rfl⟩ | rfl <;>
    rcases (show ha = true ∨ (ha = false ∧ za = true) ∨ (ha = false ∧ za = false) by cases ha <;> cases za <;> simp) with rfl | ⟨rfl, rfl⟩ | ⟨rfl, rfl⟩ <;>
    rcases (show ht = true ∨ (ht = false ∧ zt = true) ∨ (ht = false ∧ zt = false) by cases ht <;> cases zt <;> simp) with rfl | ⟨rfl, rfl⟩ | ⟨rfl, rfl⟩
    all_goals
      go_enter Tryd.func17, Tryd.ntmps17
      go_wp2_with (first
        | (have hq := F1; go_at_call 42; refine (HI.out w1).mono ?_; rw [← HX.out]; rintro e w2 ⟨rfl, rfl⟩)
        | (go_at_call 41; rw [← hwA]; refine HU.out.mono ?_; intro e w1 hr; rcases hr with ⟨uv, rs, hrs, rfl, hsl, F1⟩ | ⟨hrn, rfl, F1⟩; rotate_left; (exfalso; rw [HRN.out] at hrn; cases hrn); obtain ⟨uo, uc, rfl, -⟩ := own_out hsl; obtain ⟨b0, b1, b2, b3, b4, b5, b6⟩ := HBX.out w1 F1))
      go_ret
      exact ⟨by rw [HM2.out]; first | rfl | simp [tests], FA.trans0 F1⟩
end Go.Proofs.YtkodindajfdagaaDoor
/- Contract: headerw.May, its streams' answer given. No condition but that lengths fit. -/
namespace Go.Proofs.YtkodindajfdagaaDoor
open Go.RowKit

def streamN (F : List Fil) : Nat := F.countP (·.stream)
theorem streamN_take {F : List Fil} {k : Nat} {x : Fil} (h : F[k]? = some x) : streamN (F.take (k + 1)) = streamN (F.take k) + (if x.stream then 1 else 0) := by
  unfold streamN
  rw [List.take_add_one, h, List.countP_append]
  cases hs : x.stream <;> simp [hs]
theorem streamN_le (F : List Fil) (k : Nat) : streamN (F.take k) ≤ F.length := Nat.le_trans List.countP_le_length (by rw [List.length_take]; omega)
/-- What May tells of what it is told of the streams. -/
def mayR (ok pk : Bool) (nfo many : Nat) (F : List Fil) : Bool :=
  if !ok || pk then ok && decide (nfo = 1) && decide (many = 1) && decide (F.length = 0) else F.all mayFil && decide (many = streamN F)

set_option maxRecDepth 100000 in
set_option maxHeartbeats 4000000 in
theorem may_files (w : World) (hi : Nat) (pl ps cs su es : Value) (fao : Option Addr) (nfo fcap many : Nat) (F : List Fil) (hF : RowAt w hi 7 es F.length (fiV F)) (hG : Gl w) (hn : F.length ≤ 1000000) (hm : many ≤ 1000000000)
    (hv : ∀ x ∈ F, x.name.length ≤ 100000)
    (hS : ∀ wx, Fr [] w wx → Calls Tryd.prog 16 #[.agg #[.bool false, pl, ps, cs, .slice fao nfo fcap, su, es]] wx fun e w' => e = .returned (.tuple #[.int .i64 (many : Int), .bool true]) ∧ Fr [] wx w') :
    Calls Tryd.prog 8 #[.agg #[.bool false, pl, ps, cs, .slice fao nfo fcap, su, es]] w fun e w' => e = .returned (.bool (mayR true false nfo many F)) ∧ Fr [] w w' := by
  obtain ⟨eao, ecap, rfl, hec, hem, -⟩ := hF.out
  have HR := Lib.hid hF
  have HG := Lib.hid hG
  have HV := Lib.hid hv
  have HS := Lib.hid hS
  have HN := Lib.hid hn
  clear hF hG hv hS
  obtain ⟨wA, hwA⟩ : ∃ wA, wA = w.alloc (.cells #[.bool false, pl, ps, cs, .slice fao nfo fcap, su, .slice eao F.length ecap] 29) := ⟨_, rfl⟩
  have FA : Fr [] w wA := hwA ▸ (Fr.refl _ _).alloc _
  have HBX := Lib.hid (fun wx (F2 : Fr [] wA wx) => wbox7 (hwA ▸ F2 : Fr [] (w.alloc (.cells #[.bool false, pl, ps, cs, .slice fao nfo fcap, su, .slice eao F.length ecap] 29)) wx) (by simp))
  obtain ⟨k0, k1, k2, k3, k4, k5, k6⟩ := HBX.out wA (Fr.refl _ _)
  have hnot : ∀ (x : Bool) (w : World), (Op.unary .not (.bool x)).run Tryd.prog w = .ok (.bool (!x)) w := fun _ _ => rfl
  go_enter Tryd.func8, Tryd.ntmps8
  go_wp2_with (go_at_call 16; rw [← hwA]; refine (HS.out wA FA).mono ?_; rintro e w1 ⟨rfl, F1⟩; obtain ⟨l0, l1, l2, l3, l4, l5, l6⟩ := HBX.out w1 F1)
  have HF1 := Lib.hid (FA.trans0 F1)
  clear k0 k1 k2 k3 k4 k5 k6 hwA
  go_loopw [3, 38] (fun m i wr => ∃ (k : Nat), k ≤ F.length ∧ i = .int .i64 k ∧ m = .int .i64 ((many : Int) - (streamN (F.take k) : Int)) ∧ Hid ((F.take k).all mayFil = true) ∧ Fr [] w1 wr) (fun _ i _ => F.length - (intOf i).toNat)
  case atStart => exact ⟨0, Nat.zero_le _, rfl, by simp [streamN], by show ([] : List Fil).all mayFil = true; rfl, Fr.refl _ _⟩
  case round =>
    obtain ⟨k, hk, rfl, rfl, hA, F2⟩ := hrel
    by_cases hlt : k < F.length
    · obtain ⟨x, hx⟩ := some_get F k hlt
      obtain ⟨b1, o1, hao, hb1, e0, e1, e2, e3, e4, e5, e6⟩ := (HR.out.fr0 (HF1.out.trans0 F2)).fil hx hlt
      subst hao
      have HX := Lib.hid (streamN_take hx)
      have HAL := Lib.hid (show (F.take (k + 1)).all mayFil = mayFil x by rw [List.take_add_one, hx, List.all_append, hA.out]; simp)
      have HFA := Lib.hid (show mayFil x = false → mayR true false nfo many F = false from fun h => by
        have : F.all mayFil = false := by rw [List.all_eq_false]; exact ⟨x, List.mem_of_getElem? hx, by simp [h]⟩
        simp [mayR, this])
      have hxl := HV.out x (List.mem_of_getElem? hx)
      have hsn := streamN_le F k
      have HF2 := Lib.hid F2
      have HMF := Lib.hid (fun wx (Fx : Fr [] w wx) => mayfile_any wx x (HG.out.fr Fx) hxl)
      clear hx F2 hA hxl
      generalize hmx : mayFil x = mx at *
      obtain ⟨nm, st, dir, ha, attr, ht, tm⟩ := x
      clear hmx
      dsimp only at e0 e1 e2 e3 e4 e5 e6 HX HMF
      have HMF2 := Lib.hid (fun wx (Fx : Fr [] w wx) => (show Calls Tryd.prog 17 #[.agg #[.string ⟨nm.toArray⟩, .bool st, .bool dir, .bool ha, .int .u32 attr.toNat, .bool ht, .int .u64 tm.toNat]] wx fun e w' => e = .returned (.bool mx) ∧ Fr [] wx w' from HMF.out wx Fx))
      clear HMF
      obtain ⟨wB, hwB⟩ : ∃ wB, wB = wr.alloc (.cells #[.string ⟨nm.toArray⟩, .bool st, .bool dir, .bool ha, .int .u32 attr.toNat, .bool ht, .int .u64 tm.toNat] 39) := ⟨_, rfl⟩
      have FB0 : Fr [] wr wB := hwB ▸ (Fr.refl _ _).alloc _
      have HBF := Lib.hid (fun wx (F2 : Fr [] wB wx) => wbox7 (hwB ▸ F2 : Fr [] (wr.alloc (.cells #[.string ⟨nm.toArray⟩, .bool st, .bool dir, .bool ha, .int .u32 attr.toNat, .bool ht, .int .u64 tm.toNat] 39)) wx) (by simp))
      obtain ⟨d0, d1, d2, d3, d4, d5, d6⟩ := HBF.out wB (Fr.refl _ _)
      have HFB := Lib.hid (HF2.out.trans0 FB0)
      cases mx with
      | false =>
        have HE0 := Lib.hid (HFA.out rfl)
        clear HFA
        go_wp2_with (go_at_call 17; rw [← hwB]; refine (HMF2.out wB (HF1.out.trans0 HFB.out)).mono ?_; rintro e w3 ⟨rfl, F3⟩)
        go_ret
        exact ⟨by rw [HE0.out]; rfl, (HF1.out.trans0 HFB.out).trans0 F3⟩
      | true =>
        cases st with
        | true =>
          go_wp2_with (go_at_call 17; rw [← hwB]; refine (HMF2.out wB (HF1.out.trans0 HFB.out)).mono ?_; rintro e w3 ⟨rfl, F3⟩; obtain ⟨f0, f1, f2, f3, f4, f5, f6⟩ := HBF.out w3 F3)
          go_roundw
          case rel => exact ⟨k + 1, by omega, by go_num, by rw [HX.out]; simp; omega, by show (F.take (k + 1)).all mayFil = true; exact HAL.out, HFB.out.trans0 F3⟩
          case measure => simp [intOf]; omega
        | false =>
          go_wp2_with (go_at_call 17; rw [← hwB]; refine (HMF2.out wB (HF1.out.trans0 HFB.out)).mono ?_; rintro e w3 ⟨rfl, F3⟩; obtain ⟨f0, f1, f2, f3, f4, f5, f6⟩ := HBF.out w3 F3)
          go_roundw
          case rel => exact ⟨k + 1, by omega, by go_num, by rw [HX.out]; simp, by show (F.take (k + 1)).all mayFil = true; exact HAL.out, HFB.out.trans0 F3⟩
          case measure => simp [intOf]; omega
    · obtain rfl : k = F.length := by omega
      rw [List.take_of_length_le (Nat.le_refl _)] at hA ⊢
      have hsn := streamN_le F F.length
      rw [List.take_of_length_le (Nat.le_refl _)] at hsn
      have HE := Lib.hid (show mayR true false nfo many F = (((many : Int) - (streamN F : Int)) == 0) by
        unfold mayR
        rw [hA.out]
        simp only [Bool.not_true, Bool.or_self, Bool.false_eq_true, if_false, Bool.true_and]
        by_cases e : many = streamN F
        · rw [decide_eq_true e, e]; simp
        · rw [decide_eq_false e]
          symm
          rw [beq_eq_false_iff_ne]
          omega)
      go_wp2_with fail
      go_ret
      exact ⟨by rw [HE.out]; rfl, HF1.out.trans0 F2⟩
end Go.Proofs.YtkodindajfdagaaDoor
