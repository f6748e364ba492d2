/- Contracts: the reference's sums. No condition. -/
import Derived.Test.YtkodindajfdagaaGreatDoorJC
import Derived.Test.YtkodindajfdagaaGreatDoorSrcBM
namespace Go.Proofs.YtkodindajfdagaaGreatDoor
open Go.RowKit

set_option maxRecDepth 100000 in
theorem rstep_any (w : World) (x : Nat) (b : UInt8) (hx : x < 4294967296) :
    Calls Tryz.prog 54 #[.int .u32 (x : Int), .int .u8 (b.toNat : Int)] w fun e w' => e = .returned (.int .u32 (crcStep x b : Int)) ∧ w' = w := by
  have hb := b.toNat_lt
  have h0 : x ^^^ b.toNat < 4294967296 := Nat.xor_lt_two_pow (n := 32) (by omega) (by omega)
  have E0 := Lib.hid (xor_u32_nat x b.toNat hx (by omega))
  have e0 : ((b.toNat : Int) % 4294967296) = (b.toNat : Int) := by omega
  have HC := Lib.hid (show crcStep x b = bitN 8 (x ^^^ b.toNat) from rfl)
  obtain ⟨z, hz⟩ : ∃ z, x ^^^ b.toNat = z := ⟨_, rfl⟩
  rw [hz] at h0 E0 HC
  clear hz
  go_enter Tryz.func54, Tryz.ntmps54
  go_wp2_with fail
  go_loopw [0, 5] (fun x i wr => ∃ (j : Nat), j ≤ 8 ∧ x = .int .u32 (bitN j z : Int) ∧ i = .int .i64 (j : Int) ∧ wr = w) (fun _ i _ => 8 - (intOf i).toNat)
  case atStart => exact ⟨0, by omega, by first | (rw [E0.out]; rfl) | (rw [e0, E0.out]; rfl), rfl, rfl⟩
  case round =>
    obtain ⟨j, hj, rfl, rfl, rfl⟩ := hrel
    by_cases hlt : j < 8
    · have hltI : (j : Int) < 8 := by omega
      have hy := bitN_lt h0 j
      obtain ⟨y, hyy⟩ : ∃ y, bitN j z = y := ⟨_, rfl⟩
      have HY := Lib.hid (show bitN (j + 1) z = bit1 y by rw [← hyy]; rfl)
      rw [hyy] at hy ⊢
      have e1 : ((y : Int) / 2) = ((y / 2 : Nat) : Int) := by omega
      by_cases hp : y % 2 = 1
      · have t0 : ((y : Int) % 2 == 1) = true := by rw [beq_iff_eq]; omega
        have HB := Lib.hid (show bits .xor .u32 ((y : Int) / 2) 3988292384 = (bit1 y : Int) by
          rw [e1]
          have := xor_u32_nat (y / 2) 3988292384 (by omega) (by decide)
          unfold bit1
          rw [if_pos hp]
          exact this)
        clear hp e1 hyy
        go_wp2_with fail
        go_roundw
        case rel => exact ⟨j + 1, by omega, by rw [HB.out, HY.out], by go_num, by trivial⟩
        case measure => simp [intOf]; omega
      · have t0 : ((y : Int) % 2 == 1) = false := by rw [beq_eq_false_iff_ne]; omega
        have HB := Lib.hid (show ((y : Int) / 2) = (bit1 y : Int) by rw [e1, bit1_even (by omega)])
        clear hp e1 hyy
        go_wp2_with fail
        go_roundw
        case rel => exact ⟨j + 1, by omega, by rw [HB.out, HY.out], by go_num, by trivial⟩
        case measure => simp [intOf]; omega
    · obtain rfl : j = 8 := by omega
      go_wp2_with fail
      go_ret
      exact ⟨by rw [HC.out]; rfl, rfl⟩

set_option maxRecDepth 100000 in
set_option maxHeartbeats 1000000 in
theorem rof_any (w : World) (v : Value) (l : List UInt8) (hv : Sl w v (bv l)) (hl : l.length ≤ 140737488355328) :
    Calls Tryz.prog 23 #[v] w fun e w' => e = .returned (.int .u32 (crcL l : Int)) ∧ w' = w := by
  obtain ⟨ao, cap, rfl, hcm, hcb, ho⟩ := hv.out
  simp only [bv_length] at *
  have HO := Lib.hid ho
  have hlI : (l.length : Int) ≤ 140737488355328 := by omega
  clear hv ho
  go_enter Tryz.func23, Tryz.ntmps23
  go_wp2_with fail
  go_loopw [3, 4] (fun x i wr => ∃ k : Nat, k ≤ l.length ∧ i = .int .i64 (k : Int) ∧ x = .int .u32 (crcGo 4294967295 (l.take k) : Int) ∧ wr = w) (fun _ i _ => l.length - (intOf i).toNat)
  case atStart => exact ⟨0, Nat.zero_le _, rfl, rfl, rfl⟩
  case round =>
    obtain ⟨k, hk, rfl, rfl, rfl⟩ := hrel
    have hg := crcGo_lt (l.take k) (x := 4294967295) (by decide)
    by_cases hlt : k < l.length
    · have hltI : (k : Int) < (l.length : Int) := by omega
      obtain ⟨b1, of1, rfl, hb1, c1⟩ := HO.out k hlt
      obtain ⟨x, hx⟩ := some_get l k hlt
      have d1 : wr.cell? ⟨b1, of1 + k, none⟩ = some (.int .u8 x.toNat) := by rw [c1 k hlt, bv_get _ _ _ hx]
      have HB := Lib.hid (rstep_any wr _ x hg)
      have HT := Lib.hid (show crcStep (crcGo 4294967295 (l.take k)) x = crcGo 4294967295 (l.take (k + 1)) by
        rw [← crcGo_snoc, List.take_add_one, hx]; rfl)
      rw [HT.out] at HB
      clear c1 hx hg
      generalize crcGo 4294967295 (l.take k) = y at *
      go_wp2_with (go_at_call 54; refine HB.out.mono ?_; rintro e w3 ⟨rfl, rfl⟩)
      go_roundw
      case rel => exact ⟨k + 1, by omega, by go_num, rfl, by trivial⟩
      case measure => simp [intOf]; omega
    · have hltI : ¬ (k : Int) < (l.length : Int) := by omega
      obtain rfl : k = l.length := by omega
      have HC := Lib.hid (show crcL l = 4294967295 - crcGo 4294967295 (l.take l.length) by rw [List.take_of_length_le (Nat.le_refl _)]; rfl)
      generalize crcGo 4294967295 (l.take l.length) = y at *
      have e1 : IntKind.u32.wrap (4294967295 - (y : Int)) = ((4294967295 - y : Nat) : Int) := by simp [IntKind.wrap, IntKind.bits, IntKind.signed]; omega
      have e2 : (4294967295 - (y : Int)) % 4294967296 = ((4294967295 - y : Nat) : Int) := by omega
      go_wp2_with fail
      go_ret
      exact ⟨by rw [HC.out]; rfl, by trivial⟩
end Go.Proofs.YtkodindajfdagaaGreatDoor
