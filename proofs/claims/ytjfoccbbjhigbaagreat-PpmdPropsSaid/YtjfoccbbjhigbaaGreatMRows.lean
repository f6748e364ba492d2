/- Contract: the model's rows of numbers of numbers of states (layer 17). No condition. Printed by mrows_gen.py. -/
import Derived.Test.YtjfoccbbjhigbaaGreatMAt
namespace Go.Proofs.YtjfoccbbjhigbaaGreat
open Go.RowKit

/-- The cells while the rows are laid: n of each. -/
def rowsF (f : Nat → Value) (n : Nat) : Nat → Value := fun j => if 9407 ≤ j ∧ j < 9407 + n then .int .u8 (s1T (j - 9407)) else if 9663 ≤ j ∧ j < 9663 + n then .int .u8 (s2T (j - 9663)) else f j
theorem rowsF_succ (f : Nat → Value) (n : Nat) (hn : n < 256) (g : Nat → Value) (h1 : g (9407 + n) = .int .u8 (s1T n)) (h2 : g (9663 + n) = .int .u8 (s2T n)) (h3 : ∀ j, j ≠ 9407 + n → j ≠ 9663 + n → g j = rowsF f n j) : ∀ j, g j = rowsF f (n + 1) j := by
  intro j
  by_cases e1 : j = 9407 + n
  · have h4 : 9407 ≤ j ∧ j < 9407 + (n + 1) := by omega
    have h5 : j - 9407 = n := by omega
    unfold rowsF
    rw [if_pos h4, h5, e1, h1]
  · by_cases e2 : j = 9663 + n
    · have h4 : ¬ (9407 ≤ j ∧ j < 9407 + (n + 1)) := by omega
      have h6 : 9663 ≤ j ∧ j < 9663 + (n + 1) := by omega
      have h5 : j - 9663 = n := by omega
      unfold rowsF
      rw [if_neg h4, if_pos h6, h5, e2, h2]
    · rw [h3 j e1 e2]
      unfold rowsF
      by_cases q1 : 9407 ≤ j ∧ j < 9407 + n
      · have q3 : 9407 ≤ j ∧ j < 9407 + (n + 1) := by omega
        simp only [q1, q3, and_self, if_true]
      · have q3 : ¬ (9407 ≤ j ∧ j < 9407 + (n + 1)) := by omega
        by_cases q2 : 9663 ≤ j ∧ j < 9663 + n
        · have q4 : 9663 ≤ j ∧ j < 9663 + (n + 1) := by omega
          simp only [q1, q3, q2, q4, and_self, if_true, if_false]
        · have q4 : ¬ (9663 ≤ j ∧ j < 9663 + (n + 1)) := by omega
          simp only [q1, q3, q2, q4, if_false]
section
variable {w : World} {mo : Nat} {f : Nat → Value}
set_option maxRecDepth 100000 in
set_option maxHeartbeats 8000000 in
theorem rows_any (h : Blk w mo 127 9921 f) : Calls Tryz.prog 54 #[.pointer (some ⟨mo, 0, none⟩)] w fun e w' => e = .returned (.tuple #[]) ∧ Blk w' mo 127 9921 (rowsF f 256) ∧ Fr [mo] w w' := by
  have H0 := Lib.hid (show Blk w mo 127 9921 (rowsF f 0) from h.eq (fun j _ => by unfold rowsF; rw [if_neg (by omega), if_neg (by omega)]))
  clear h
  go_enter Tryz.func54, Tryz.ntmps54
  go_wp2_with fail
  go_loopw [2, 3, 5] (fun a b i wr => ∃ n : Nat, n ≤ 256 ∧ a = .int .i64 ((stT n).1 : Int) ∧ b = .int .i64 ((stT n).2 : Int) ∧ i = .int .i64 n ∧ Blk wr mo 127 9921 (rowsF f n) ∧ Fr [mo] w wr) (fun _ _ i _ => 256 - (intOf i).toNat)
  case atStart => exact ⟨0, by omega, rfl, rfl, rfl, H0.out, Fr.refl _ _⟩
  case round =>
    obtain ⟨n, hn, rfl, rfl, rfl, hB, hF⟩ := hrel
    by_cases hlt : n < 256
    · obtain ⟨s1, s2, s3, s4⟩ := stT_ok ⟨n, by omega⟩
      dsimp only at s1 s2 s3 s4
      have c1 := hB.cell (j := 9407 + n) (by omega)
      have c2 := hB.cell (j := 9663 + n) (by omega)
      have z1 := hB.free (9407 + n)
      have z2 := hB.free (9663 + n)
      have hbl := hB.lt
      have hnI : (n : Int) < 256 := by omega
      have HB := Lib.hid hB
      have HF := Lib.hid hF
      have HST := Lib.hid (show stT (n + 1) = if n < 3 then stT n else if (stT n).2 = 1 then ((stT n).1 + 1, (stT n).1 - 1) else ((stT n).1, (stT n).2 - 1) from rfl)
      have HS2 := Lib.hid (show s2T n = if n < 3 then n else (stT n).1 from rfl)
      have HS1 := Lib.hid (show s1T n = if n < 2 then 2 * n else if n < 11 then 4 else 6 from rfl)
      obtain ⟨x, hx⟩ : ∃ x, x = (stT n).1 := ⟨_, rfl⟩
      obtain ⟨y, hy⟩ : ∃ y, y = (stT n).2 := ⟨_, rfl⟩
      have HX := Lib.hid hx
      have HY := Lib.hid hy
      rw [← hx, ← hy] at HST
      rw [← hx] at HS2
      rw [← hx] at s1 s2
      rw [← hy] at s3 s4
      rw [← hx, ← hy]
      clear hB hF hx hy
      obtain ⟨v0, hv0⟩ : ∃ v0 : Nat, v0 = min (2 * n) 4 := ⟨_, rfl⟩
      have HV0 := Lib.hid hv0
      clear hv0
      go_upto_region 4 with fail
      rename_i K0 hK0
      go_cut [] from 8 to 16 (fun wx => Blk wx mo 127 9921 (upd (rowsF f n) (9407 + n) (.int .u8 v0)) ∧ Fr [mo] w wx)
      case first =>
        clear hK0
        have HP := Lib.hid (fun (v : Value) (e : v = .int .u8 v0) => (⟨(HB.out.put (9407 + n) v).eq (fun j _ => by rw [e]), HF.out.setCell (.inl (by simp)) v⟩ : Blk (wr.setCell ⟨mo, 9407 + n, none⟩ v) mo 127 9921 (upd (rowsF f n) (9407 + n) (.int .u8 v0)) ∧ Fr [mo] w (wr.setCell ⟨mo, 9407 + n, none⟩ v)))
        have hx0 : ∀ w : World, (Instr.index 182 (.agg #[.int .u8 0, .int .u8 2, .int .u8 4, .int .u8 6]) (.int .i64 0)).run Tryz.prog w = .ok (.int .u8 0) w := fun _ => by kernel_rfl
        have hx1 : ∀ w : World, (Instr.index 182 (.agg #[.int .u8 0, .int .u8 2, .int .u8 4, .int .u8 6]) (.int .i64 1)).run Tryz.prog w = .ok (.int .u8 2) w := fun _ => by kernel_rfl
        have hx2 : ∀ w : World, (Instr.index 182 (.agg #[.int .u8 0, .int .u8 2, .int .u8 4, .int .u8 6]) (.int .i64 2)).run Tryz.prog w = .ok (.int .u8 4) w := fun _ => by kernel_rfl
        have HE : Hid (∀ (v : Value) (wx : World), v = .int .u8 v0 → wx = (wr.setCell ⟨mo, 9407 + n, none⟩ v).drew → Blk wx mo 127 9921 (upd (rowsF f n) (9407 + n) (.int .u8 v0)) ∧ Fr [mo] w wx) := Lib.hid (fun v wx e e2 => by
          subst e2
          exact ⟨((HP.out v e).1).same Same.drew, ((HP.out v e).2).drew⟩)
        by_cases hA : n ≤ 2
        · obtain rfl | rfl | rfl : n = 0 ∨ n = 1 ∨ n = 2 := by omega
          · go_region
            go_simp; try go_step
            go_meet
            case rel => exact HE.out _ _ (by rw [HV0.out]; rfl) rfl
          · go_region
            go_simp; try go_step
            go_meet
            case rel => exact HE.out _ _ (by rw [HV0.out]; rfl) rfl
          · go_region
            go_simp; try go_step
            go_meet
            case rel => exact HE.out _ _ (by rw [HV0.out]; rfl) rfl
        · have hI : (2 : Int) < (n : Int) := by omega
          have HV4 := Lib.hid (show v0 = 4 by rw [HV0.out]; omega)
          go_region
          go_simp; try go_step
          go_meet
          case rel => exact HE.out _ _ (by rw [HV4.out]; rfl) rfl
      case rest =>
        obtain ⟨hB2, hF2⟩ := hcut
        have HB2 := Lib.hid hB2
        have HF2 := Lib.hid hF2
        have q1 := hB2.cell (j := 9407 + n) (by omega)
        have q2 := hB2.cell (j := 9663 + n) (by omega)
        have y1 := hB2.free (9407 + n)
        have y2 := hB2.free (9663 + n)
        have hcl := hB2.lt
        have hw8 : IntKind.u8.wrap (n : Int) = n := by rw [IntKind.wrap_u8]; omega
        have hx8 : IntKind.u8.wrap (x : Int) = x := by rw [IntKind.wrap_u8]; omega
        clear hB2 hF2 c1 c2 z1 z2 hbl HB HF
        (refine hK0 _ _ ?_; clear hK0)
        by_cases hA : n < 3
        · have hI : (n : Int) < 3 := by omega
          have hI1 : (n : Int) < 11 := by omega
          have E1 : s1T n = v0 := by rw [HS1.out]; rw [HV0.out]; (repeat' split) <;> omega
          have E2 : s2T n = n := by rw [HS2.out]; rw [if_pos hA]
          have E3 := Lib.hid (show stT (n + 1) = stT n by rw [HST.out]; rw [if_pos hA])
          have HN := Lib.hid (show Blk (wc.setCell ⟨mo, 9663 + n, none⟩ (.int .u8 n)) mo 127 9921 (rowsF f (n + 1)) ∧ Fr [mo] w (wc.setCell ⟨mo, 9663 + n, none⟩ (.int .u8 n)) from ⟨(HB2.out.put (9663 + n) (.int .u8 n)).eq (fun j _ => rowsF_succ f n hlt _ (by simp [upd, E1]) (by simp [upd, E2]) (fun j h1 h2 => by simp [upd, h1, h2]) j), (Fr.setCell HF2.out (p := ⟨mo, 9663 + n, none⟩) (.inl (by simp)) (.int .u8 n))⟩)
          have HLT := Lib.hid hlt
          clear E1 E2 hlt
          go_wp2_with fail
          go_roundw
          case rel => exact ⟨n + 1, HLT.out, by rw [E3.out]; exact congrArg (fun z : Nat => Value.int .i64 (z : Int)) HX.out, by rw [E3.out]; exact congrArg (fun z : Nat => Value.int .i64 (z : Int)) HY.out, by go_num, HN.out⟩
          case measure => have := HLT.out; simp [intOf]; omega
        · have h3I : (3 : Int) ≤ (n : Int) := by omega
          by_cases hB : n < 11
          · by_cases hY : y = 1
            · have hI1 : (n : Int) < 11 := by omega
              have hyI : ((y : Int) - 1 == 0) = true := by simp; omega
              have hyJ : (y : Int) - 1 = 0 := by omega
              have E1 : s1T n = v0 := by rw [HS1.out]; rw [HV0.out]; (repeat' split) <;> omega
              have E2 : s2T n = x := by rw [HS2.out]; rw [if_neg hA]
              have E3 := Lib.hid (show stT (n + 1) = (x + 1, x - 1) by rw [HST.out]; rw [if_neg hA, if_pos hY])
              have HN := Lib.hid (show Blk ((wc.setCell ⟨mo, 9663 + n, none⟩ (.int .u8 n)).setCell ⟨mo, 9663 + n, none⟩ (.int .u8 x)) mo 127 9921 (rowsF f (n + 1)) ∧ Fr [mo] w ((wc.setCell ⟨mo, 9663 + n, none⟩ (.int .u8 n)).setCell ⟨mo, 9663 + n, none⟩ (.int .u8 x)) from ⟨((HB2.out.put (9663 + n) (.int .u8 n)).put (9663 + n) (.int .u8 x)).eq (fun j _ => rowsF_succ f n hlt _ (by simp [upd, E1]) (by simp [upd, E2]) (fun j h1 h2 => by simp [upd, h1, h2]) j), (Fr.setCell (Fr.setCell HF2.out (p := ⟨mo, 9663 + n, none⟩) (.inl (by simp)) (.int .u8 n)) (p := ⟨mo, 9663 + n, none⟩) (.inl (by simp)) (.int .u8 x))⟩)
              have HLT := Lib.hid hlt
              clear E1 E2 hlt
              go_wp2_with fail
              go_roundw
              case rel => exact ⟨n + 1, HLT.out, by rw [E3.out]; rfl, by rw [E3.out]; exact congrArg (fun z : Int => Value.int .i64 z) (by omega), by go_num, HN.out⟩
              case measure => have := HLT.out; simp [intOf]; omega
            · have hI1 : (n : Int) < 11 := by omega
              have hyI : ((y : Int) - 1 == 0) = false := by simp; omega
              have hyJ : ¬ (y : Int) - 1 = 0 := by omega
              have E1 : s1T n = v0 := by rw [HS1.out]; rw [HV0.out]; (repeat' split) <;> omega
              have E2 : s2T n = x := by rw [HS2.out]; rw [if_neg hA]
              have E3 := Lib.hid (show stT (n + 1) = (x, y - 1) by rw [HST.out]; rw [if_neg hA, if_neg hY])
              have HN := Lib.hid (show Blk ((wc.setCell ⟨mo, 9663 + n, none⟩ (.int .u8 n)).setCell ⟨mo, 9663 + n, none⟩ (.int .u8 x)) mo 127 9921 (rowsF f (n + 1)) ∧ Fr [mo] w ((wc.setCell ⟨mo, 9663 + n, none⟩ (.int .u8 n)).setCell ⟨mo, 9663 + n, none⟩ (.int .u8 x)) from ⟨((HB2.out.put (9663 + n) (.int .u8 n)).put (9663 + n) (.int .u8 x)).eq (fun j _ => rowsF_succ f n hlt _ (by simp [upd, E1]) (by simp [upd, E2]) (fun j h1 h2 => by simp [upd, h1, h2]) j), (Fr.setCell (Fr.setCell HF2.out (p := ⟨mo, 9663 + n, none⟩) (.inl (by simp)) (.int .u8 n)) (p := ⟨mo, 9663 + n, none⟩) (.inl (by simp)) (.int .u8 x))⟩)
              have HLT := Lib.hid hlt
              clear E1 E2 hlt
              go_wp2_with fail
              go_roundw
              case rel => exact ⟨n + 1, HLT.out, by rw [E3.out], by rw [E3.out]; exact congrArg (fun z : Int => Value.int .i64 z) (by omega), by go_num, HN.out⟩
              case measure => have := HLT.out; simp [intOf]; omega
          · by_cases hY : y = 1
            · have hI1 : (11 : Int) ≤ (n : Int) := by omega
              have hyI : ((y : Int) - 1 == 0) = true := by simp; omega
              have hyJ : (y : Int) - 1 = 0 := by omega
              have E1 : s1T n = 6 := by rw [HS1.out]; rw [if_neg (by omega), if_neg (by omega)]
              have E2 : s2T n = x := by rw [HS2.out]; rw [if_neg hA]
              have E3 := Lib.hid (show stT (n + 1) = (x + 1, x - 1) by rw [HST.out]; rw [if_neg hA, if_pos hY])
              have HN := Lib.hid (show Blk (((wc.setCell ⟨mo, 9407 + n, none⟩ (.int .u8 6)).setCell ⟨mo, 9663 + n, none⟩ (.int .u8 n)).setCell ⟨mo, 9663 + n, none⟩ (.int .u8 x)) mo 127 9921 (rowsF f (n + 1)) ∧ Fr [mo] w (((wc.setCell ⟨mo, 9407 + n, none⟩ (.int .u8 6)).setCell ⟨mo, 9663 + n, none⟩ (.int .u8 n)).setCell ⟨mo, 9663 + n, none⟩ (.int .u8 x)) from ⟨(((HB2.out.put (9407 + n) (.int .u8 6)).put (9663 + n) (.int .u8 n)).put (9663 + n) (.int .u8 x)).eq (fun j _ => rowsF_succ f n hlt _ (by simp [upd, E1]) (by simp [upd, E2]) (fun j h1 h2 => by simp [upd, h1, h2]) j), (Fr.setCell (Fr.setCell (Fr.setCell HF2.out (p := ⟨mo, 9407 + n, none⟩) (.inl (by simp)) (.int .u8 6)) (p := ⟨mo, 9663 + n, none⟩) (.inl (by simp)) (.int .u8 n)) (p := ⟨mo, 9663 + n, none⟩) (.inl (by simp)) (.int .u8 x))⟩)
              have HLT := Lib.hid hlt
              clear E1 E2 hlt
              go_wp2_with fail
              go_roundw
              case rel => exact ⟨n + 1, HLT.out, by rw [E3.out]; rfl, by rw [E3.out]; exact congrArg (fun z : Int => Value.int .i64 z) (by omega), by go_num, HN.out⟩
              case measure => have := HLT.out; simp [intOf]; omega
            · have hI1 : (11 : Int) ≤ (n : Int) := by omega
              have hyI : ((y : Int) - 1 == 0) = false := by simp; omega
              have hyJ : ¬ (y : Int) - 1 = 0 := by omega
              have E1 : s1T n = 6 := by rw [HS1.out]; rw [if_neg (by omega), if_neg (by omega)]
              have E2 : s2T n = x := by rw [HS2.out]; rw [if_neg hA]
              have E3 := Lib.hid (show stT (n + 1) = (x, y - 1) by rw [HST.out]; rw [if_neg hA, if_neg hY])
              have HN := Lib.hid (show Blk (((wc.setCell ⟨mo, 9407 + n, none⟩ (.int .u8 6)).setCell ⟨mo, 9663 + n, none⟩ (.int .u8 n)).setCell ⟨mo, 9663 + n, none⟩ (.int .u8 x)) mo 127 9921 (rowsF f (n + 1)) ∧ Fr [mo] w (((wc.setCell ⟨mo, 9407 + n, none⟩ (.int .u8 6)).setCell ⟨mo, 9663 + n, none⟩ (.int .u8 n)).setCell ⟨mo, 9663 + n, none⟩ (.int .u8 x)) from ⟨(((HB2.out.put (9407 + n) (.int .u8 6)).put (9663 + n) (.int .u8 n)).put (9663 + n) (.int .u8 x)).eq (fun j _ => rowsF_succ f n hlt _ (by simp [upd, E1]) (by simp [upd, E2]) (fun j h1 h2 => by simp [upd, h1, h2]) j), (Fr.setCell (Fr.setCell (Fr.setCell HF2.out (p := ⟨mo, 9407 + n, none⟩) (.inl (by simp)) (.int .u8 6)) (p := ⟨mo, 9663 + n, none⟩) (.inl (by simp)) (.int .u8 n)) (p := ⟨mo, 9663 + n, none⟩) (.inl (by simp)) (.int .u8 x))⟩)
              have HLT := Lib.hid hlt
              clear E1 E2 hlt
              go_wp2_with fail
              go_roundw
              case rel => exact ⟨n + 1, HLT.out, by rw [E3.out], by rw [E3.out]; exact congrArg (fun z : Int => Value.int .i64 z) (by omega), by go_num, HN.out⟩
              case measure => have := HLT.out; simp [intOf]; omega
    · obtain rfl : n = 256 := by omega
      have HN := Lib.hid (And.intro hB hF)
      clear hB hF
      go_wp2_with fail
      go_end0
      exact ⟨rfl, HN.out⟩
end
end Go.Proofs.YtjfoccbbjhigbaaGreat
