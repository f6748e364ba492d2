/- The law SrcRows: the walk. No condition. -/
import Derived.Test.YtklbocdeifebkaaRowA
namespace Go.Proofs.Ytklbocdeifebkaa
open Go.RowKit

theorem walk_SrcRows (w : World) (v : Value) (row : List Bool) (hv : Sl w v (tv row)) :
    Calls Try.prog 6 #[v] w fun e w' => e = .returned (.bool true) ∧ Fr [] w w' := by
  obtain ⟨ao, cap, rfl, hc1, hc2, hel⟩ := hv.out
  rw [tv_length] at *
  have HEL := Lib.hid hel
  clear hel
  by_cases hbig : 16384 < row.length
  · have hbig' : (16384 : Int) < (row.length : Int) := by omega
    go_enter Try.func6, Try.ntmps6
    go_wp2_with fail
    refine (awake_any w).mono ?_
    rintro e w1 ⟨rfl, hf1⟩
    go_wp2_with fail
    go_ret
    exact ⟨rfl, hf1⟩
  · have hbig' : (row.length : Int) ≤ 16384 := by omega
    go_enter Try.func6, Try.ntmps6
    go_wp2_with fail
    refine (awake_any w).mono ?_
    rintro e w1 ⟨rfl, F1⟩
    go_wp2_with fail
    refine (putbits_any w1 _ _ [] row (Sl.nil w1) (hv.fr0 F1) (by simp) (by omega)).mono ?_
    rintro e w2 ⟨r, rfl, hown, hf2⟩
    have F2 := F1.trans0 hf2
    rw [List.nil_append] at hown
    have hlen : (packBits row).length = (row.length + 7) / 8 := by simp [packBits, packF_length]
    have hs2 := Sl.of_own hown
    obtain ⟨ao2, cap2, rfl, hd1, hd2, hel2⟩ := hs2.out
    obtain ⟨m, hm⟩ : ∃ m, m = (row.length + 7) / 8 := ⟨_, rfl⟩
    rw [bv_length, hlen, ← hm] at hd1 hel2 ⊢
    have h1 : row.length ≤ 8 * m := by omega
    have h2 : 8 * m ≤ row.length + 7 := by omega
    have h1' : (row.length : Int) ≤ 8 * (m : Int) := by omega
    have h2' : 8 * (m : Int) ≤ (row.length : Int) + 7 := by omega
    have HEL2 := Lib.hid hel2
    have HM := Lib.hid hm
    clear hel2 hs2 hown hlen hf2 F1 hm
    go_wp2_with fail
    go_loopw [4] (fun i wr => ∃ k : Nat, k ≤ 8 * m ∧ i = .int .i64 k ∧ w2 = wr) (fun i _ => 8 * m - (intOf i).toNat)
    case atStart => exact ⟨0, Nat.zero_le _, rfl, rfl⟩
    case round =>
      obtain ⟨k, hk, rfl, rfl⟩ := hrel
      by_cases hlt : k < 8 * m
      · have hlt' : (k : Int) < 8 * (m : Int) := by omega
        have hj : k / 8 < m := by omega
        obtain ⟨b1, of1, rfl, -, cc⟩ := HEL2.out (k / 8) hj
        have hx : (packBits row)[k / 8]? = some (UInt8.ofNat (byteOf (bitAt row) (k / 8))) := packF_get _ _ _ (by rw [← HM.out]; exact hj)
        have hb256 := byteOf_lt (bitAt row) (k / 8)
        have hbit := byteOf_bit (bitAt row) (k / 8) (k % 8) (by omega)
        rw [show 8 * (k / 8) + k % 8 = k from by omega] at hbit
        obtain ⟨y, hy⟩ : ∃ y, y = byteOf (bitAt row) (k / 8) := ⟨_, rfl⟩
        rw [← hy] at hx hb256 hbit
        have d1 : w2.cell? ⟨b1, of1 + k / 8, none⟩ = some (.int .u8 y) := by
          rw [cc _ hj, bv_get _ _ _ hx]; simp; omega
        obtain ⟨s, hs⟩ : ∃ s, s = 128 / 2 ^ (k % 8) := ⟨_, rfl⟩
        have hs1 : 1 ≤ s ∧ s ≤ 128 := by rw [hs]; exact sh_bounds (k % 8) (by omega)
        have hsI : (128 : Int) / 2 ^ (k % 8) = (s : Int) := by rw [hs]; simp
        rw [← hs] at hbit
        have hq0 : (0 : Int) ≤ (y : Int) / (s : Int) := Int.ediv_nonneg (by omega) (by omega)
        have hq1 : (y : Int) / (s : Int) ≤ 255 := by
          have : y / s ≤ y := Nat.div_le_self _ _
          have h3 : ((y / s : Nat) : Int) = (y : Int) / (s : Int) := by simp
          omega
        have hsp : (1 : Int) ≤ (s : Int) := by omega
        have hq2 : (y : Int) / (s : Int) % 2 = ((bitAt row k).toNat : Int) := by rw [← hbit]; simp
        have HSI := Lib.hid hs
        clear cc hx hy hbit hs
        by_cases hlr : k < row.length
        · have hlr' : (k : Int) < (row.length : Int) := by omega
          obtain ⟨b3, of3, rfl, hbl3, cc3⟩ := HEL.out k hlr
          obtain ⟨x, hx⟩ := some_get row k hlr
          have hfx : bitAt row k = x := by unfold bitAt; simp [hx]
          have d3 : w2.cell? ⟨b3, of3 + k, none⟩ = some (.bool x) := by rw [F2.cell (p := ⟨b3, of3 + k, none⟩) hbl3 (by simp), cc3 _ hlr, tv_get _ _ _ hx]
          rw [hfx] at hq2
          have hq3 : ((y : Int) / (s : Int) % 2 == 1) = x := by rw [hq2]; cases x <;> rfl
          clear hx hfx cc3 hq2
          cases x <;> go_wp2_with fail
          all_goals
            go_roundw
            case rel => exact ⟨k + 1, by omega, by go_num, by trivial⟩
            case measure => simp [intOf]; omega
        · have hlr' : (row.length : Int) ≤ (k : Int) := by omega
          have hfx : bitAt row k = false := by unfold bitAt; rw [List.getD_eq_getElem?_getD, List.getElem?_eq_none (by omega)]; rfl
          rw [hfx] at hq2
          have hq3 : ((y : Int) / (s : Int) % 2 == 1) = false := by rw [hq2]; rfl
          clear hfx hq2
          go_wp2_with fail
          go_roundw
          case rel => exact ⟨k + 1, by omega, by go_num, by trivial⟩
          case measure => simp [intOf]; omega
      · have hlt' : 8 * (m : Int) ≤ (k : Int) := by omega
        go_wp2_with fail
        go_ret
        exact ⟨rfl, F2⟩
end Go.Proofs.Ytklbocdeifebkaa
