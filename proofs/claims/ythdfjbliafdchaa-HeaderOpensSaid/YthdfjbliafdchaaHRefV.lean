/- Contracts: the reference's Power, Value. No condition but that lengths fit. -/
import Derived.Test.YthdfjbliafdchaaSrcB
import Derived.Test.YthdfjbliafdchaaRefSpec
import Derived.Deep.RegionHeld3
namespace Go.Proofs.Ythdfjbliafdchaa
open Go.RowKit

theorem power_any (w : World) (k : Nat) (P : Nat) (hk : k < 8) (hP : P = 256 ^ k) :
    Calls Try.prog 47 #[.int .i64 k] w fun e w' => e = .returned (.int .u64 P) ∧ w = w' := by
  have HP := Lib.hid hP
  clear hP
  go_enter Try.func47, Try.ntmps47
  go_wp2
  go_loop [3, 4] (fun v i => ∃ j Q : Nat, j ≤ k ∧ i = .int .i64 j ∧ v = .int .u64 Q ∧ Hid (Q = 256 ^ j)) (fun _ i => k - (intOf i).toNat)
  case atStart => exact ⟨0, 1, Nat.zero_le _, rfl, rfl, rfl⟩
  case round =>
    obtain ⟨j, Q, hj, rfl, rfl, HQ⟩ := hrel
    by_cases hlt : j < k
    · have hlt' : (j : Int) < (k : Int) := by omega
      have hb : Q ≤ 281474976710656 := by have := pow256_le (k := j) (m := 6) (by omega); rw [HQ.out]; simpa using this
      go_wp2
      go_round
      case rel => exact ⟨j + 1, Q * 256, by omega, by go_num, by simp, by have := HQ.out; show Q * 256 = 256 ^ (j + 1); rw [this, Nat.pow_succ]⟩
      case measure => simp [intOf]; omega
    · have hlt' : (k : Int) ≤ (j : Int) := by omega
      have hjk : j = k := by omega
      have hQP : Q = P := by rw [HQ.out, HP.out, hjk]
      subst hQP
      clear hjk HQ HP
      go_wp2
      go_ret
      exact ⟨rfl, rfl⟩

theorem value_any (w : World) (v : Value) (bs : List UInt8) (h : Sl w v (bv bs)) (hb : bs.length ≤ 8) :
    Calls Try.prog 27 #[v] w fun e w' => e = .returned (.int .u64 (leNat bs)) ∧ Same w w' := by
  obtain ⟨ao, cap, rfl, g, m, o⟩ := h.out
  clear h
  rw [bv_length] at *
  have HO := Lib.hid o
  clear o
  go_enter Try.func27, Try.ntmps27
  go_wp2_with fail
  go_loopw [3, 4] (fun v i wr => ∃ (k Q : Nat), k ≤ bs.length ∧ i = .int .i64 k ∧ v = .int .u64 Q ∧ Hid (Q = leNat (bs.take k)) ∧ Same w wr) (fun _ i _ => bs.length - (intOf i).toNat)
  case atStart => exact ⟨0, 0, Nat.zero_le _, rfl, rfl, rfl, Same.refl w⟩
  case round =>
    obtain ⟨k, Q, hk, rfl, rfl, HQ, hS⟩ := hrel
    by_cases hlt : k < bs.length
    · have hlt' : (k : Int) < (bs.length : Int) := by omega
      obtain ⟨b1, of1, rfl, -, c1⟩ := HO.out k hlt
      obtain ⟨x, hx⟩ := some_get bs k hlt
      have d0 : w.cell? ⟨b1, of1 + k, none⟩ = some (.int .u8 x.toNat) := by rw [c1 k hlt, bv_get _ _ _ hx]
      have d1 : wr.cell? ⟨b1, of1 + k, none⟩ = some (.int .u8 x.toNat) := by rw [hS.cell, d0]
      have hs := leNat_take bs k x hx
      have hx8 := x.toNat_lt
      obtain ⟨P, hP⟩ : ∃ P, P = 256 ^ k := ⟨_, rfl⟩
      have hbh := byte_high k x.toNat (by omega) (by omega)
      have hQl : Q < P := by
        have := leNat_lt (bs.take k)
        rwa [List.length_take_of_le (by omega), ← HQ.out, ← hP] at this
      rw [← hP] at hs hbh
      obtain ⟨R, hR⟩ : ∃ R, R = x.toNat * P := ⟨_, rfl⟩
      have hRb : R < 18446744073709551616 := by rw [hR, Nat.mul_comm]; exact hbh.1
      have hRI : (x.toNat : Int) * (P : Int) = (R : Int) := by rw [hR]; simp
      have hQR : Q + R < 18446744073709551616 := by
        have h1 := leNat_lt (bs.take (k + 1))
        rw [List.length_take_of_le (by omega)] at h1
        have h2 : 256 ^ (k + 1) ≤ 256 ^ 8 := pow256_le (by omega)
        have h3 : (256 : Nat) ^ 8 = 18446744073709551616 := by decide
        rw [hs, ← HQ.out, Nat.mul_comm, ← hR] at h1
        omega
      have hnx : leNat (bs.take (k + 1)) = Q + R := by rw [hs, ← HQ.out, Nat.mul_comm, ← hR]
      have HNX := Lib.hid hnx
      have D0 := Lib.hid d0
      have hw1 : IntKind.u64.wrap (R : Int) = (R : Int) := wrap_u64_nat _ hRb
      have hw2 : IntKind.u64.wrap ((Q : Int) + (R : Int)) = (Q : Int) + (R : Int) := by
        have := wrap_u64_nat _ hQR
        rwa [Int.natCast_add] at this
      have hw3 : IntKind.u64.wrap (x.toNat : Int) = (x.toNat : Int) := wrap_u64_nat _ (by omega)
      have HP := fun w => Lib.hid (power_any w k P (by omega) hP)
      clear c1 hx hs hP hbh hR hnx d0 hQl
      go_wp2_with fail
      go_region_held3 (fun w' => w'.cell? ⟨b1, of1 + k, none⟩ = some (.int .u8 x.toNat)) (go_keep)
        (first | (go_at_call 47; refine (HP _).out.mono ?_; rintro e wx ⟨rfl, rfl⟩))
      clear HP hw1 hw2 hw3
      go_wp2_with fail
      go_roundw
      case rel => exact ⟨k + 1, Q + R, by omega, by go_num, by simp, HNX.out.symm, hS.trans Same.drew⟩
      case measure => simp [intOf]; omega
    · have hlt' : (bs.length : Int) ≤ (k : Int) := by omega
      go_wp2_with fail
      go_ret
      have hq := HQ.out
      rw [List.take_of_length_le (by omega)] at hq
      exact ⟨by rw [← hq]; rfl, hS⟩

theorem bytes_any (w : World) (v1 v2 : Value) (a b : List UInt8) (h1 : Sl w v1 (bv a)) (h2 : Sl w v2 (bv b)) :
    Calls Try.prog 11 #[v1, v2] w fun e w' => e = .returned (.bool (decide (a = b))) ∧ Same w w' := by
  obtain ⟨ao1, cap1, rfl, g1, m1, o1⟩ := h1.out
  obtain ⟨ao2, cap2, rfl, g2, m2, o2⟩ := h2.out
  clear h1 h2
  simp only [bv_length] at *
  by_cases hl : a.length = b.length
  · have hb : ((a.length : Int) != (b.length : Int)) = false := by simp [hl]
    have HL := Lib.hid hl
    clear hl
    go_enter Try.func11, Try.ntmps11
    go_wp2
    go_loopw [5] (fun i wr => ∃ k : Nat, k ≤ a.length ∧ i = .int .i64 k ∧ a.take k = b.take k ∧ Same w wr) (fun i _ => a.length - (intOf i).toNat)
    case atStart => exact ⟨0, Nat.zero_le _, rfl, rfl, Same.refl w⟩
    case round =>
      obtain ⟨k, hk, rfl, htk, hsw⟩ := hrel
      by_cases hlt : k < a.length
      · obtain ⟨b1, of1, rfl, -, c1⟩ := o1 k hlt
        obtain ⟨b2, of2, rfl, -, c2⟩ := o2 k (by rw [← HL.out]; exact hlt)
        obtain ⟨x, hx⟩ := some_get a k hlt
        obtain ⟨y, hy⟩ := some_get b k (by rw [← HL.out]; exact hlt)
        have d1 : wr.cell? ⟨b1, of1 + k, none⟩ = some (.int .u8 x.toNat) := by rw [hsw.cell, c1 k hlt, bv_get _ _ _ hx]
        have d2 : wr.cell? ⟨b2, of2 + k, none⟩ = some (.int .u8 y.toNat) := by rw [hsw.cell, c2 k (by rw [← HL.out]; exact hlt), bv_get _ _ _ hy]
        have hlt2 : (k : Int) < (b.length : Int) := by have := HL.out; omega
        have hlt1 : (k : Int) < (a.length : Int) := by omega
        have HX := Lib.hid hx
        have HY := Lib.hid hy
        have HT := Lib.hid htk
        clear o1 o2 c1 c2 hx hy htk
        by_cases hxy : x = y
        · have hne : ((x.toNat : Int) != (y.toNat : Int)) = false := by simp [hxy]
          have HXY := Lib.hid hxy
          clear hxy
          go_wp2
          go_quiet (fail)
          go_wp2
          go_roundw
          case rel => exact ⟨k + 1, by omega, by go_num, take_eq_step _ _ _ _ _ HX.out HY.out HT.out HXY.out, hsw.trans (Same.drewN _)⟩
          case measure => simp [intOf]; omega
        · have hne : ((x.toNat : Int) != (y.toNat : Int)) = true := by
            rw [bne_iff_ne]; intro h; exact hxy (UInt8.toNat_inj.1 (by omega))
          have HXY := Lib.hid hxy
          clear hxy
          go_wp2
          go_quiet (fail)
          go_wp2
          go_ret
          exact ⟨by simp [ne_at _ _ _ _ _ HX.out HY.out HXY.out], hsw.trans (Same.drewN _)⟩
      · clear o1 o2
        have hk2 : k = a.length := by omega
        have HT := Lib.hid htk
        have HK := Lib.hid hk2
        clear htk hk2
        go_wp2
        go_ret
        refine ⟨?_, hsw⟩
        have e : a = b := by
          have := HT.out
          rw [HK.out, List.take_of_length_le (Nat.le_refl _), HL.out, List.take_of_length_le (Nat.le_refl _)] at this
          exact this
        simp [e]
  · have hb : ((a.length : Int) != (b.length : Int)) = true := by rw [bne_iff_ne]; omega
    have hne : a ≠ b := by rintro rfl; exact hl rfl
    have HN := Lib.hid hne
    clear hl hne o1 o2
    go_enter Try.func11, Try.ntmps11
    go_wp2
    go_ret
    exact ⟨by simp [HN.out], Same.refl w⟩
end Go.Proofs.Ythdfjbliafdchaa
