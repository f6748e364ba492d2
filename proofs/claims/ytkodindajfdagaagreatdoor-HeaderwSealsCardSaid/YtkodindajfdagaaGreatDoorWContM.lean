/- Contract: slices.Contains of a true. No condition. -/
import Derived.Test.YtkodindajfdagaaGreatDoorSrcTM
namespace Go.Proofs.YtkodindajfdagaaGreatDoor
open Go.RowKit

def IdxTrue (row : List Bool) (w : World) (e : Ending) (w' : World) : Prop :=
  ∃ n : Int, e = .returned (.int .i64 n) ∧ decide (0 ≤ n) = decide (true ∈ row) ∧ w = w'

theorem indext_any (w : World) (v : Value) (row : List Bool) (h : Sl w v (tv row)) :
    Calls Tryz.prog 125 #[v, .bool true] w (IdxTrue row w) := by
  obtain ⟨ao, cap, rfl, hc1, hc2, hel⟩ := h.out
  rw [tv_length] at *
  have HEL := Lib.hid hel
  clear hel h
  go_enter Tryz.func125, Tryz.ntmps125
  go_wp2
  go_loop [8] (fun i => ∃ k : Nat, k ≤ row.length ∧ i = .int .i64 k ∧ Hid (true ∉ row.take k)) (fun i => row.length - (intOf i).toNat)
  case atStart => exact ⟨0, Nat.zero_le _, rfl, by show true ∉ row.take 0; simp⟩
  case round =>
    obtain ⟨k, hk, rfl, hall⟩ := hrel
    by_cases hlt : k < row.length
    · have hlt' : (k : Int) < (row.length : Int) := by omega
      obtain ⟨b1, of1, rfl, hbl, cc⟩ := HEL.out k hlt
      obtain ⟨x, hx⟩ := some_get row k hlt
      have d1 : w.cell? ⟨b1, of1 + k, none⟩ = some (.bool x) := by rw [cc _ hlt, tv_get _ _ _ hx]
      have HX := Lib.hid hx
      clear cc hx
      cases x
      · go_wp2
        go_round
        case rel => exact ⟨k + 1, by omega, by go_num, by show true ∉ row.take (k + 1); rw [List.take_add_one, HX.out]; have := hall.out; simp [this]⟩
        case measure => simp [intOf]; omega
      · go_wp2
        go_ret
        exact ⟨k, rfl, by rw [decide_eq_true (List.mem_of_getElem? HX.out)]; simp, rfl⟩
    · have hlt' : (row.length : Int) ≤ (k : Int) := by omega
      go_wp2
      go_ret
      have hall' := hall.out
      rw [List.take_of_length_le (by omega)] at hall'
      exact ⟨-1, rfl, by rw [decide_eq_false hall']; rfl, rfl⟩

theorem containst_any (w : World) (v : Value) (row : List Bool) (h : Sl w v (tv row)) :
    Calls Tryz.prog 98 #[v, .bool true] w fun e w' => e = .returned (.bool (decide (true ∈ row))) ∧ w = w' := by
  go_enter Tryz.func98, Tryz.ntmps98
  go_wp2_with fail
  refine (indext_any w v row h).mono ?_
  rintro e w1 ⟨n, rfl, hn, rfl⟩
  have HN := Lib.hid hn
  clear hn
  go_wp2_with fail
  go_ret
  exact ⟨by rw [← HN.out]; rfl, rfl⟩
end Go.Proofs.YtkodindajfdagaaGreatDoor
