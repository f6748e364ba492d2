/- Contracts: the reference's Ins, Main; header.whole. No condition but that lengths fit. -/
import Derived.Test.YtkodindajfdagaaGreatDoorHMainM
namespace Go.Proofs.YtkodindajfdagaaGreatDoor
open Go.RowKit

theorem rins_any (w : World) (m : Int) (pv : Value) :
    Calls Tryz.prog 86 #[.agg #[.int .i64 m, pv]] w fun e w' => e = .returned (.int .i64 (ins m)) ∧ Fr [] w w' := by
  by_cases h6 : m = 6
  · subst h6
    go_enter Tryz.func86, Tryz.ntmps86
    go_wp2
    go_ret
    exact ⟨by simp [ins], (Fr.refl _ _).alloc _⟩
  · have hb : (m == 6) = false := by simp [h6]
    have E := Lib.hid (show (ins m : Int) = if (decide (1 ≤ m) && decide (m ≤ 7)) = true then 1 else 0 by simp [ins, h6]; split <;> simp)
    clear h6
    by_cases h1 : 1 ≤ m
    · by_cases h7 : m ≤ 7
      · have E2 := Lib.hid (show (ins m : Int) = 1 by rw [E.out]; simp [h1, h7])
        clear E
        go_enter Tryz.func86, Tryz.ntmps86
        go_wp2
        go_ret
        exact ⟨by rw [E2.out]; rfl, (Fr.refl _ _).alloc _⟩
      · have E2 := Lib.hid (show (ins m : Int) = 0 by rw [E.out]; simp [h7])
        clear E
        go_enter Tryz.func86, Tryz.ntmps86
        go_wp2
        go_ret
        exact ⟨by rw [E2.out]; rfl, (Fr.refl _ _).alloc _⟩
    · have E2 := Lib.hid (show (ins m : Int) = 0 by rw [E.out]; simp [h1])
      clear E
      go_enter Tryz.func86, Tryz.ntmps86
      go_wp2
      go_ret
      exact ⟨by rw [E2.out]; rfl, (Fr.refl _ _).alloc _⟩

theorem main_at {f : Folder} {k : Nat} (hk : k < f.coders.length) (hA : ∀ j, j < k → (j : Int) ∈ f.binds.map (·.2)) (hm : (k : Int) ∉ f.binds.map (·.2)) : mainOf f = (k : Int) := by
  have e : mainIdx f = some k := by
    unfold mainIdx
    rw [List.find?_range_eq_some]
    refine ⟨by simpa using hm, by simpa using hk, fun j hj => ?_⟩
    simpa using hA j hj
  unfold mainOf
  rw [e]
theorem main_none {f : Folder} (hA : ∀ j, j < f.coders.length → (j : Int) ∈ f.binds.map (·.2)) : mainOf f = -1 := by
  have e : mainIdx f = none := by
    unfold mainIdx
    rw [List.find?_eq_none]
    intro i hi
    rw [List.mem_range] at hi
    simpa using hA i (by omega)
  unfold mainOf
  rw [e]

set_option maxRecDepth 100000 in
set_option maxHeartbeats 2000000 in
theorem rmain_any (w : World) (v : Value) (f : Folder) (hf : Fo w v f) (hn : f.coders.length ≤ 100000) (hb : f.binds.length ≤ 100000) :
    Calls Tryz.prog 87 #[v] w fun e w' => e = .returned (.int .i64 (mainOf f)) ∧ Fr [] w w' := by
  obtain ⟨cv, bv', p, s, h, k0, rfl, hV⟩ := hf
  obtain ⟨ao, cap, rfl, -, -, -⟩ := hV.co.out
  obtain ⟨aob, capb, rfl, -, -, o⟩ := hV.bi.out
  have HO := Lib.hid o
  clear hV o
  obtain ⟨wB, hwB⟩ : ∃ wB, wB = w.alloc (.cells #[.slice ao f.coders.length cap, .slice aob f.binds.length capb, p, s, h, k0] 70) := ⟨_, rfl⟩
  have F0 : Fr [] w wB := hwB ▸ (Fr.refl _ _).alloc _
  have HBX := Lib.hid (fun wx (F : Fr [] wB wx) => box6 (hwB ▸ F : Fr [] (w.alloc (.cells #[.slice ao f.coders.length cap, .slice aob f.binds.length capb, p, s, h, k0] 70)) wx))
  obtain ⟨N, hN⟩ : ∃ N, f.coders.length = N := ⟨_, rfl⟩
  obtain ⟨M, hM⟩ : ∃ M, f.binds.length = M := ⟨_, rfl⟩
  have HN := Lib.hid hN
  have HM := Lib.hid hM
  rw [hN] at hn HBX hwB ⊢
  rw [hM] at hb HBX hwB ⊢
  have hnI : (N : Int) ≤ 100000 := by omega
  have hmI : (M : Int) ≤ 100000 := by omega
  clear hN hM hn hb
  go_enter Tryz.func87, Tryz.ntmps87
  go_wp2_with fail
  rw [← hwB]
  clear hwB
  go_loopw [3] (fun i wr => ∃ k : Nat, k ≤ N ∧ i = .int .i64 k ∧ (∀ j, j < k → (j : Int) ∈ f.binds.map (·.2)) ∧ Fr [] wB wr) (fun i _ => N - (intOf i).toNat)
  case atStart => exact ⟨0, Nat.zero_le _, rfl, fun _ h => by omega, Fr.refl _ _⟩
  case round =>
    obtain ⟨k, hk, rfl, hA, F⟩ := hrel
    obtain ⟨d0, d1, d2, d3, d4, d5⟩ := HBX.out _ F
    by_cases hlt : k < N
    · have hltI : (k : Int) < (N : Int) := by omega
      have HA := Lib.hid hA
      clear hA
      go_wp2_with fail
      clear d0 d1 d2 d3 d4 d5
      go_loopw [4, 5] (fun fr i wq => ∃ m : Nat, m ≤ M ∧ i = .int .i64 m ∧ fr = .bool (decide ((k : Int) ∉ (f.binds.map (·.2)).take m)) ∧ Fr [] wB wq) (fun _ i _ => M - (intOf i).toNat)
      case atStart => exact ⟨0, Nat.zero_le _, rfl, by simp, F⟩
      case round =>
        obtain ⟨m, hm, rfl, rfl, FQ⟩ := hrel
        obtain ⟨d0, d1, d2, d3, d4, d5⟩ := HBX.out _ FQ
        by_cases hlm : m < M
        · have hlmI : (m : Int) < (M : Int) := by omega
          obtain ⟨y, hy⟩ := some_get f.binds m (by rw [HM.out]; exact hlm)
          obtain ⟨b1, o1, rfl, hb1, e0, e1⟩ := HO.out m y hy
          have c1 := ((F0.trans0 FQ).cell (p := ⟨b1, o1 + m * 2 + 1, none⟩) hb1 (by simp)).trans e1
          have HT := Lib.hid (show decide ((k : Int) ∉ (f.binds.map (·.2)).take (m + 1)) = (decide ((k : Int) ∉ (f.binds.map (·.2)).take m) && (y.2 != (k : Int))) by
            have : (f.binds.map (·.2))[m]? = some y.2 := by simp [hy]
            rw [List.take_add_one, this]
            by_cases e : y.2 = (k : Int)
            · simp [e]
            · have e' : (k : Int) ≠ y.2 := fun h => e h.symm
              simp [e', e])
          obtain ⟨y1, y2⟩ := y
          dsimp only at c1 HT
          clear e0 e1 hy
          generalize decide ((k : Int) ∉ (f.binds.map (·.2)).take m) = fr at *
          cases fr with
          | true =>
            by_cases e : y2 = (k : Int)
            · have t0 : (y2 == (k : Int)) = true := by rw [beq_iff_eq]; exact e
              have HT2 := Lib.hid (show decide ((k : Int) ∉ (f.binds.map (·.2)).take (m + 1)) = false by rw [HT.out, e]; simp)
              clear e
              go_wp2_with fail
              go_roundw
              case rel => exact ⟨m + 1, by omega, by go_num, by rw [HT2.out]; first | rfl | (simp; first | exact beq_iff_eq.1 t0 | exact beq_eq_false_iff_ne.1 t0), FQ⟩
              case measure => simp [intOf]; omega
            · have t0 : (y2 == (k : Int)) = false := by rw [beq_eq_false_iff_ne]; exact e
              have HT2 := Lib.hid (show decide ((k : Int) ∉ (f.binds.map (·.2)).take (m + 1)) = true by rw [HT.out]; simp [e])
              clear e
              go_wp2_with fail
              go_roundw
              case rel => exact ⟨m + 1, by omega, by go_num, by rw [HT2.out]; first | rfl | (simp; first | exact beq_iff_eq.1 t0 | exact beq_eq_false_iff_ne.1 t0), FQ⟩
              case measure => simp [intOf]; omega
          | false =>
            have HT2 := Lib.hid (show decide ((k : Int) ∉ (f.binds.map (·.2)).take (m + 1)) = false by rw [HT.out]; rfl)
            go_wp2_with fail
            go_roundw
            case rel => exact ⟨m + 1, by omega, by go_num, by rw [HT2.out], FQ⟩
            case measure => simp [intOf]; omega
        · have hme : m = M := by omega
          subst hme
          rw [List.take_of_length_le (by rw [List.length_map, HM.out]; exact Nat.le_refl _)]
          by_cases hin : (k : Int) ∈ f.binds.map (·.2)
          · rw [show decide ((k : Int) ∉ f.binds.map (·.2)) = false by simpa using hin]
            have HA2 := Lib.hid (show ∀ j, j < k + 1 → (j : Int) ∈ f.binds.map (·.2) from fun j hj => by
              by_cases e : j = k
              · rw [e]; exact hin
              · exact HA.out j (by omega))
            clear hin
            go_wp2_with fail
            go_roundw
            case rel => exact ⟨k + 1, by omega, by go_num, HA2.out, FQ⟩
            case measure => simp [intOf]; omega
          · rw [show decide ((k : Int) ∉ f.binds.map (·.2)) = true by simpa using hin]
            have HE := Lib.hid (main_at (by rw [HN.out]; exact hlt) HA.out hin)
            clear hin
            go_wp2_with fail
            go_ret
            exact ⟨by rw [HE.out]; rfl, F0.trans0 FQ⟩
    · have HE := Lib.hid (main_none (f := f) (fun j hj => hA j (by rw [HN.out] at hj; omega)))
      have hltI : (N : Int) ≤ (k : Int) := by omega
      clear hA
      go_wp2_with fail
      go_ret
      exact ⟨by rw [HE.out]; rfl, F0.trans0 F⟩
end Go.Proofs.YtkodindajfdagaaGreatDoor
