/- Contract: a new arena (layer 16). Nothing is spent. -/
import Derived.Test.YtjfoccbbjhigbaaGreatAOneE
import Derived.Test.YtjfoccbbjhigbaaGreatEMet
import Derived.Test.YtjfoccbbjhigbaaGreatSrcA
import Derived.Laws.Tables
import Derived.Test.YtjfoccbbjhigbaaGreatAOwn
namespace Go.Proofs.YtjfoccbbjhigbaaGreat
open Go.RowKit

/-- The cells of an arena that is made. -/
noncomputable def arZ (v : Value) (sz : Int) (mp : Nat) : Array Value := ((Tryz.zeroCells180.setIfInBounds 0 v).setIfInBounds 1 (.int .i64 sz)).setIfInBounds 2 (.pointer (some ⟨mp, 0, none⟩))
set_option maxRecDepth 1000000 in
theorem zero_arena : Tryz.zeroCells180 = ([Value.slice none 0 0, Value.int .i64 0, Value.pointer none] ++ (List.replicate 209 (Value.int .i64 0) ++ [Value.int .u32 0])).toArray := by kernel_rfl
/-- The cells while the sizes are laid: i sizes, n numbers of units. -/
def arG (v : Value) (sz : Int) (mp i n : Nat) : Nat → Value := fun j =>
  if j = 0 then v else if j = 1 then .int .i64 sz else if j = 2 then .pointer (some ⟨mp, 0, none⟩) else if j < 41 then .int .i64 ((if j - 3 < i then unitsT (j - 3) else 0 : Nat) : Int) else if j < 170 then .int .i64 ((if j - 41 ≤ n then whichT (j - 41) else 0 : Nat) : Int) else if j < 212 then .int .i64 0 else .int .u32 0
theorem zero_at (j : Nat) (h3 : 3 ≤ j) (hj : j < 213) : Tryz.zeroCells180[j]? = some (if j < 212 then .int .i64 0 else .int .u32 0) := by
  rw [zero_arena, List.getElem?_toArray]
  generalize hA : (Value.int IntKind.i64 0) = A
  generalize hC : (Value.int IntKind.u32 0) = C
  rw [List.getElem?_append_right (show [Value.slice none 0 0, A, Value.pointer none].length ≤ j from h3)]
  obtain ⟨m, rfl⟩ : ∃ m, j = 3 + m := ⟨j - 3, by omega⟩
  rw [show 3 + m - [Value.slice none 0 0, A, Value.pointer none].length = m from Nat.add_sub_cancel_left 3 m]
  by_cases h2 : m < 209
  · rw [List.getElem?_append_left (by rw [List.length_replicate]; exact h2), List.getElem?_replicate, if_pos h2, if_pos (by omega)]
  · obtain rfl : m = 209 := by omega
    rw [List.getElem?_append_right (by rw [List.length_replicate]; exact Nat.le_refl _), List.length_replicate, if_neg (by omega)]
    rfl
theorem arZ_at (v : Value) (sz : Int) (mp : Nat) : ∀ j, j < 213 → (arZ v sz mp)[j]? = some (arG v sz mp 0 0 j) := by
  intro j hj
  have hs : Tryz.zeroCells180.size = 213 := Tryz.zeroCells180_size
  unfold arZ arG
  rw [Array.getElem?_setIfInBounds, Array.getElem?_setIfInBounds, Array.getElem?_setIfInBounds, Array.size_setIfInBounds, Array.size_setIfInBounds, hs]
  by_cases h3 : j < 3
  · obtain rfl | rfl | rfl : j = 0 ∨ j = 1 ∨ j = 2 := by omega
    · rfl
    · rfl
    · rfl
  · rw [if_neg (by omega), if_neg (by omega), if_neg (by omega), if_neg (by omega), if_neg (by omega), if_neg (by omega), zero_at j (by omega) hj]
    by_cases h41 : j < 41
    · rw [if_pos h41, if_pos (by omega), if_neg (by omega)]; rfl
    · rw [if_neg h41]
      by_cases h170 : j < 170
      · rw [if_pos h170, if_pos (by omega)]
        by_cases h0 : j - 41 ≤ 0
        · rw [if_pos h0]
          have e : j - 41 = 0 := by omega
          rw [e]
          rfl
        · rw [if_neg h0]; rfl
      · rw [if_neg h170]
theorem arG_which (v : Value) (sz : Int) (mp i n : Nat) (h : whichT (n + 1) = i) (hn : n + 1 < 129) : ∀ j, j < 213 → upd (arG v sz mp i n) (41 + (n + 1)) (.int .i64 i) j = arG v sz mp i (n + 1) j := by
  intro j hj
  by_cases e : j = 41 + (n + 1)
  · obtain ⟨m, hm⟩ : ∃ m, j - 41 = m := ⟨_, rfl⟩
    obtain rfl : m = n + 1 := by omega
    rw [← e, upd_same]
    unfold arG
    rw [if_neg (by omega), if_neg (by omega), if_neg (by omega), if_neg (by omega), if_pos (by omega), hm, if_pos (Nat.le_refl _), h]
  · rw [upd_other _ _ _ e]
    unfold arG
    repeat' split
    all_goals first | rfl | omega
theorem arG_units (v : Value) (sz : Int) (mp i n : Nat) (h : unitsT i = n) (hi : i < 38) : ∀ j, j < 213 → upd (arG v sz mp i n) (3 + i) (.int .i64 n) j = arG v sz mp (i + 1) n j := by
  intro j hj
  by_cases e : j = 3 + i
  · obtain ⟨m, hm⟩ : ∃ m, j - 3 = m := ⟨_, rfl⟩
    obtain rfl : m = i := by omega
    rw [← e, upd_same]
    unfold arG
    rw [if_neg (by omega), if_neg (by omega), if_neg (by omega), if_pos (by omega), hm, if_pos (by omega), h]
  · rw [upd_other _ _ _ e]
    unfold arG
    repeat' split
    all_goals first | rfl | omega
def baseT (i : Nat) : Nat := if i = 0 then 0 else unitsT (i - 1)
theorem baseT_succ (i : Nat) : baseT (i + 1) = unitsT i := by unfold baseT; rw [if_neg (by omega)]; rfl
theorem steps_laid : ∀ i : Fin 38, ∀ m : Fin 5, m.val ≤ min (i.val / 4 + 1) 4 → (1 ≤ m.val → whichT (baseT i.val + m.val) = i.val) ∧ baseT i.val + min (i.val / 4 + 1) 4 = unitsT i.val ∧ unitsT i.val ≤ 128 := by decide +kernel
/-- A new arena of so many bytes. -/
def Ar.fresh (size : Nat) : Ar := { mem := fun _ => 0, len := size + 13, size := size, free := fun _ => 0, text := 0, start := 0, low := 0, high := 0, glue := 0 }
theorem arG_full (v : Value) (size mp : Nat) : ∀ j, j < 213 → arG v size mp 38 128 j = arF (Ar.fresh size) v mp j := by
  intro j hj
  unfold arG arF Ar.fresh
  repeat' split
  all_goals first | rfl | omega | skip
/-- A new arena; its memory is asked for. -/
def NewAr (mp size : Nat) (a o f d s k : Int) (w : World) (e : Ending) (w' : World) : Prop := ∃ ab mb, e = .returned (.tuple #[.pointer (some ⟨ab, 0, none⟩), .int .i64 0]) ∧ ArAt w' ab mb mp (Ar.fresh size).restart ∧ MtN w' mp (a + (size + 12)) o f d s (if a + (size + 12) ≤ k then k else a + (size + 12)) ∧ w.heap.size ≤ ab ∧ w.heap.size ≤ mb ∧ Fr [mp] w w'
set_option maxRecDepth 100000 in
set_option maxHeartbeats 4000000 in
theorem anew_any (w : World) (mp size : Nat) (a o f d s k : Int) (M : MtN w mp a o f d s k) (ha : 0 ≤ a) (ha2 : a ≤ 1000000000) (h1 : 2048 ≤ size) (h2 : size ≤ 65536) :
    Calls Tryz.prog 52 #[.int .i64 size, .pointer (some ⟨mp, 0, none⟩)] w (NewAr mp size a o f d s k w) := by
  have HM := Lib.hid (mem_m M ((size : Int) + 12) (by omega) ha (by omega))
  have hI1 : (2048 : Int) ≤ (size : Int) := by omega
  have hI2 : (size : Int) ≤ 65536 := by omega
  obtain ⟨i0, hi0, hz0, hs0, hb0⟩ := info_parts info_u8
  clear M
  go_enter Tryz.func52, Tryz.ntmps52
  go_wp2_with (first
    | (at_make; refine wpList_make_full _ rfl _ _ _ rfl w1.heap.size _ i0 _ _ Tryz.underlying22 hi0 hz0 hs0 _ _ _ _ (size + 13) (by rfl) (by rfl) (by omega) (by omega) (by rw [hb0]; omega) (by unfold maxLen; omega) (by simp) ?_; intro w4 own4 g4)
    | (go_at_call 50; refine HM.out.mono ?_; rintro e w1 ⟨rfl, M1, F1⟩))
  obtain ⟨V, hV⟩ : ∃ V, V = Value.slice (some ⟨w1.heap.size, 0, none⟩) (size + 13) (size + 13) := ⟨_, rfl⟩
  have F4 : Fr [] w1 w4 := (Fr.refl _ _).grown g4 (by simp)
  have hmem := Blk.of_own (f := fun _ => .int .u8 0) own4 (fun j hj => by
    rw [Nat.mul_one]
    have key : ∀ z : Array Value, ∀ k : Nat, (madeCells z k).toList = (List.range k).map fun i => z[i % z.size]! := fun z k => by simp [madeCells]
    rw [key, List.getElem?_map, List.getElem?_range hj]
    have hz : (Value.int .u8 0).cells = #[.int .u8 0] := rfl
    rw [hz]
    simp [Nat.mod_one]) (by omega)
  have hblk := Blk.new w4 180 (arZ V size mp) 213 (arG V size mp 0 0) (by unfold arZ; simp [Tryz.zeroCells180_size]) (arZ_at V size mp)
  have hml := own_ltS own4 w1.heap.size rfl
  rw [← hV]
  obtain ⟨wB, hwB⟩ : ∃ wB, wB = w4.alloc (.cells (arZ V size mp) 180) := ⟨_, rfl⟩
  have FB : Fr [] w4 wB := hwB ▸ (Fr.refl _ _).alloc _
  rw [← hwB] at hblk
  have hw2 : w4.alloc (.cells (((Tryz.zeroCells180.setIfInBounds 0 V).setIfInBounds 1 (.int .i64 size)).setIfInBounds 2 (.pointer (some ⟨mp, 0, none⟩))) 180) = wB := hwB.symm
  rw [hw2]
  have HZ := Lib.hid (show (Value.agg (((Tryz.zeroCells180.setIfInBounds 0 V).setIfInBounds 1 (.int .i64 size)).setIfInBounds 2 (.pointer (some ⟨mp, 0, none⟩)))) = Value.agg (arZ V size mp) from rfl)
  rw [HZ.out]
  generalize Value.agg (arZ V size mp) = ZV
  obtain ⟨ab, hab⟩ : ∃ ab, ab = w4.heap.size := ⟨_, rfl⟩
  rw [← hab] at hblk ⊢
  have HAB := Lib.hid hab
  have HBK := Lib.hid hblk
  have HME := Lib.hid (hmem.fr FB (by simp))
  have HFB := Lib.hid (F4.trans0 FB)
  have HML := Lib.hid hml
  have HG4 := Lib.hid F4
  have HVV := Lib.hid hV
  clear hw2 HZ hblk hmem FB F4 hwB own4 g4 hml hab hi0 hz0 hs0 hb0 hV
  go_loopw [7, 30] (fun a b wr => ∃ i : Nat, i ≤ 38 ∧ a = .int .i64 (baseT i) ∧ b = .int .i64 i ∧ Blk wr ab 180 213 (arG V size mp i (baseT i)) ∧ Fr [ab] wB wr) (fun _ b _ => 38 - (intOf b).toNat)
  case atStart => exact ⟨0, by omega, rfl, rfl, HBK.out, Fr.refl _ _⟩
  case round =>
    obtain ⟨i, hi, rfl, rfl, hB, hF⟩ := hrel
    rename World => wA
    by_cases hlt : i < 38
    · obtain ⟨-, st2, st3⟩ := steps_laid ⟨i, hlt⟩ ⟨0, by omega⟩ (Nat.zero_le _)
      dsimp only at st2 st3
      have HB := Lib.hid hB
      have HF2 := Lib.hid hF
      have hiI : (i : Int) < 38 := by omega
      have HS3 := Lib.hid st3
      clear hB hF st3
      by_cases h4 : i / 4 + 1 ≤ 4
      · obtain ⟨t, ht⟩ : ∃ t, t = i / 4 + 1 := ⟨_, rfl⟩
        have h4I : (i : Int) / 4 + 1 ≤ 4 := by omega
        have hm2 : (i : Int) / 4 + 1 = (t : Int) := by omega
        have HS2 := Lib.hid (show baseT i + t = unitsT i by rw [← st2, ht]; congr 1; omega)
        have HT := Lib.hid (show t ≤ min (i / 4 + 1) 4 by omega)
        have ht4 : t ≤ 4 := by omega
        have HM2 := Lib.hid hm2
        clear st2 ht hm2
        go_wp2_with fail
        rw [HM2.out]
        clear h4I
        go_loopw [7, 37] (fun a b wr => ∃ m : Nat, m ≤ t ∧ a = .int .i64 ((baseT i + m : Nat) : Int) ∧ b = .int .i64 m ∧ Blk wr ab 180 213 (arG V size mp i (baseT i + m)) ∧ Fr [ab] wB wr) (fun _ b _ => t - (intOf b).toNat)
        case atStart => exact ⟨0, by omega, rfl, rfl, HB.out, HF2.out⟩
        case round =>
          obtain ⟨m, hm, rfl, rfl, hB, hF⟩ := hrel
          by_cases hlm : m < t
          · obtain ⟨sm, -, -⟩ := steps_laid ⟨i, hlt⟩ ⟨m + 1, by omega⟩ (by have := HT.out; show m + 1 ≤ min (i / 4 + 1) 4; omega)
            have HW := Lib.hid (sm (by show 1 ≤ m + 1; omega))
            have hbm : baseT i + m + 1 ≤ 128 := by have := HS2.out; have := HS3.out; omega
            have c1 := hB.cell (j := 41 + (baseT i + m + 1)) (by omega)
            have z1 := hB.free (41 + (baseT i + m + 1))
            have hbl := hB.lt
            have HB3 := Lib.hid (And.intro (hB.to (41 + (baseT i + m + 1)) (.int .i64 i) (arG_which V size mp i (baseT i + m) HW.out (by omega))) (hF.setCell (p := ⟨ab, 41 + (baseT i + m + 1), none⟩) (.inl (by simp)) (.int .i64 i)))
            obtain ⟨bm, hbm2⟩ : ∃ bm, bm = baseT i + m := ⟨_, rfl⟩
            rw [← hbm2] at c1 z1 HB3 hbm ⊢
            have HBM := Lib.hid hbm2
            have hbI : (bm : Int) + 1 < 129 := by omega
            have hmt : (m : Int) < (t : Int) := by omega
            clear sm hB hF hbm2
            go_wp2_with fail
            go_roundw
            case rel => exact ⟨m + 1, hlm, by rw [HBM.out]; rfl, by go_num, by have h := HB3.out.1; rw [HBM.out] at h ⊢; exact h, HB3.out.2⟩
            case measure => simp [intOf]; omega
          · obtain rfl : m = t := by omega
            rw [HS2.out] at hB ⊢
            have c1 := hB.cell (j := 3 + i) (by omega)
            have z1 := hB.free (3 + i)
            have hbl := hB.lt
            have HB3 := Lib.hid (And.intro (hB.to (3 + i) (.int .i64 (unitsT i)) (arG_units V size mp i (unitsT i) rfl hlt)) (hF.setCell (p := ⟨ab, 3 + i, none⟩) (.inl (by simp)) (.int .i64 (unitsT i))))
            clear hB hF
            go_wp2_with fail
            go_roundw
            case rel => exact ⟨i + 1, hlt, by rw [baseT_succ], by go_num, by rw [baseT_succ]; exact HB3.out.1, HB3.out.2⟩
            case measure => simp [intOf]; omega
      · have h4I : ¬ (i : Int) / 4 + 1 ≤ 4 := by omega
        have HS2 := Lib.hid (show baseT i + 4 = unitsT i by rw [← st2]; congr 1; omega)
        have HT := Lib.hid (show 4 ≤ min (i / 4 + 1) 4 by omega)
        clear st2
        go_wp2_with fail
        clear h4I
        go_loopw [7, 37] (fun a b wr => ∃ m : Nat, m ≤ 4 ∧ a = .int .i64 ((baseT i + m : Nat) : Int) ∧ b = .int .i64 m ∧ Blk wr ab 180 213 (arG V size mp i (baseT i + m)) ∧ Fr [ab] wB wr) (fun _ b _ => 4 - (intOf b).toNat)
        case atStart => exact ⟨0, by omega, rfl, rfl, HB.out, HF2.out⟩
        case round =>
          obtain ⟨m, hm, rfl, rfl, hB, hF⟩ := hrel
          by_cases hlm : m < 4
          · obtain ⟨sm, -, -⟩ := steps_laid ⟨i, hlt⟩ ⟨m + 1, by omega⟩ (by have := HT.out; show m + 1 ≤ min (i / 4 + 1) 4; omega)
            have HW := Lib.hid (sm (by show 1 ≤ m + 1; omega))
            have hbm : baseT i + m + 1 ≤ 128 := by have := HS2.out; have := HS3.out; omega
            have c1 := hB.cell (j := 41 + (baseT i + m + 1)) (by omega)
            have z1 := hB.free (41 + (baseT i + m + 1))
            have hbl := hB.lt
            have HB3 := Lib.hid (And.intro (hB.to (41 + (baseT i + m + 1)) (.int .i64 i) (arG_which V size mp i (baseT i + m) HW.out (by omega))) (hF.setCell (p := ⟨ab, 41 + (baseT i + m + 1), none⟩) (.inl (by simp)) (.int .i64 i)))
            obtain ⟨bm, hbm2⟩ : ∃ bm, bm = baseT i + m := ⟨_, rfl⟩
            rw [← hbm2] at c1 z1 HB3 hbm ⊢
            have HBM := Lib.hid hbm2
            have hbI : (bm : Int) + 1 < 129 := by omega
            have hmt : (m : Int) < 4 := by omega
            clear sm hB hF hbm2
            go_wp2_with fail
            go_roundw
            case rel => exact ⟨m + 1, hlm, by rw [HBM.out]; rfl, by go_num, by have h := HB3.out.1; rw [HBM.out] at h ⊢; exact h, HB3.out.2⟩
            case measure => simp [intOf]; omega
          · obtain rfl : m = 4 := by omega
            rw [HS2.out] at hB ⊢
            have c1 := hB.cell (j := 3 + i) (by omega)
            have z1 := hB.free (3 + i)
            have hbl := hB.lt
            have HB3 := Lib.hid (And.intro (hB.to (3 + i) (.int .i64 (unitsT i)) (arG_units V size mp i (unitsT i) rfl hlt)) (hF.setCell (p := ⟨ab, 3 + i, none⟩) (.inl (by simp)) (.int .i64 (unitsT i))))
            clear hB hF
            go_wp2_with fail
            go_roundw
            case rel => exact ⟨i + 1, hlt, by rw [baseT_succ], by go_num, by rw [baseT_succ]; exact HB3.out.1, HB3.out.2⟩
            case measure => simp [intOf]; omega
    · obtain rfl : i = 38 := by omega
      have hb128 : baseT 38 = 128 := by decide
      rw [hb128] at hB
      have hB2 := hB.eq (arG_full V size mp)
      have hz1 := HFB.out.size
      have hab := HAB.out
      have hml := HML.out
      have hM1 := M1.lt
      have hz0 := F1.size
      have hzB := hB.lt
      have hA : ArAt wA ab w1.heap.size mp (Ar.fresh size) := ⟨by rw [HVV.out] at hB2; exact hB2, HME.out.fr hF (by simp; omega), by omega, by show size + 13 ≤ 70000; omega⟩
      have HR := Lib.hid (restart_any hA ⟨h2, rfl, by show (0 : Nat) ≤ _; omega, by show (0 : Nat) ≤ _; omega, by show (0 : Nat) ≤ _; omega, by show (0 : Nat) ≤ _; omega, by show (0 : Nat) < _; omega⟩)
      have hw1A : Fr [] w1 wA := HFB.out.trans hF (fun i hi => .inr (by have := HG4.out.size; simp at hi; omega))
      have HMA := Lib.hid (M1.fr hw1A (by simp))
      have HFA := Lib.hid (F1.trans0 hw1A)
      have hmpne : mp ≠ ab := by have := HG4.out.size; omega
      have hgeA : w.heap.size ≤ ab := by have := HG4.out.size; omega
      have HGA := Lib.hid (And.intro hmpne hgeA)
      clear hB hB2 hz1 hab hml hM1 hzB hA hw1A hmpne hgeA hF
      have hlt' : ¬ (38 : Int) < 38 := by omega
      go_wp2_with (go_at_call 91; refine HR.out.mono ?_; rintro e w9 ⟨rfl, H9, F9⟩)
      go_ret2
      exact ⟨ab, w1.heap.size, rfl, H9, HMA.out.fr F9 (by simpa using HGA.out.1), HGA.out.2, hz0, HFA.out.trans F9 (fun i hi => .inr (by simp at hi; subst hi; exact HGA.out.2))⟩
end Go.Proofs.YtjfoccbbjhigbaaGreat
