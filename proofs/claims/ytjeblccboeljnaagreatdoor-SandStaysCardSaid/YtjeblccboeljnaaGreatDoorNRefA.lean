/- Contracts: the reference's Fold, Split. No condition but that lengths fit. -/
import Derived.Test.YtjeblccboeljnaaGreatDoorNClean
namespace Go.Proofs.YtjeblccboeljnaaGreatDoor
open Go.RowKit

theorem low_up (b : UInt8) (h : 65 ≤ b.toNat ∧ b.toNat ≤ 90) : ((lowB b).toNat : Int) = (b.toNat : Int) + 32 := by
  have := b.toNat_lt
  simp [lowB, h]
  omega

theorem rfold_any (w : World) (l : List UInt8) (hl : l.length ≤ 100000) : Calls Tryz.prog 66 #[.string ⟨l.toArray⟩] w fun e w' => e = .returned (.string ⟨(foldL l).toArray⟩) ∧ Fr [] w w' := by
  obtain ⟨cap, wB, hcv, F0, sB, hcell⟩ := conv_sb w ⟨l.toArray⟩
  have hsz : (⟨l.toArray⟩ : ByteArray).size = l.length := by simp [ByteArray.size]
  rw [hsz] at hcv
  have HC := Lib.hid (show ∀ (j : Nat) b, l[j]? = some b → wB.cell? ⟨w.heap.size, j, none⟩ = some (.int .u8 b.toNat) ∧ wB.frozen? ⟨w.heap.size, j, none⟩ = false from fun j b hb => hcell j b (by simpa [ls] using hb))
  clear hcell hsz
  generalize hn : l.length = n at *
  have HN := Lib.hid hn
  clear hn
  go_enter Tryz.func66, Tryz.ntmps66
  go_wp2_with fail
  clear hcv
  go_loopw [4] (fun i wr => ∃ k : Nat, k ≤ n ∧ i = .int .i64 k ∧ Fr [w.heap.size] wB wr ∧ (∀ (j : Nat) b, l[j]? = some b → wr.cell? ⟨w.heap.size, j, none⟩ = some (.int .u8 (if j < k then lowB b else b).toNat) ∧ wr.frozen? ⟨w.heap.size, j, none⟩ = false)) (fun i _ => n - (intOf i).toNat)
  case atStart => exact ⟨0, Nat.zero_le _, rfl, Fr.refl _ _, fun j b hb => by simpa using HC.out j b hb⟩
  case round =>
    obtain ⟨k, hk, rfl, F, hcl⟩ := hrel
    by_cases hlt : k < n
    · obtain ⟨x, hx⟩ := some_get l k (by rw [HN.out]; exact hlt)
      obtain ⟨c0, f0⟩ := hcl k x hx
      rw [if_neg (by omega)] at c0
      have hlt' : (k : Int) < (n : Int) := by omega
      have HCL := Lib.hid hcl
      have HX := Lib.hid hx
      have hxl := x.toNat_lt
      clear hcl hx
      by_cases hup : 65 ≤ x.toNat ∧ x.toNat ≤ 90
      · have u1 : (65 : Int) ≤ (x.toNat : Int) := by omega
        have u2 : (x.toNat : Int) ≤ 90 := by omega
        have HL := Lib.hid (low_up x hup)
        clear hup
        go_wp2_with fail
        go_roundw
        case rel =>
          refine ⟨k + 1, by omega, by go_num, F.setCell (.inl (by simp)) _, fun j b hb => ?_⟩
          by_cases hjk : j = k
          · subst hjk
            obtain rfl : x = b := Option.some.inj (HX.out.symm.trans hb)
            rw [if_pos (by omega), HL.out]
            exact ⟨World.cell?_setCell_same _ _ _ c0, by rw [World.frozen?_setCell]; exact f0⟩
          · obtain ⟨c1, f1⟩ := HCL.out j b hb
            refine ⟨?_, by rw [World.frozen?_setCell]; exact f1⟩
            rw [World.cell?_setCell_other _ _ _ _ (by intro e; injection e with _ e2 _; omega), c1]
            by_cases h2 : j < k
            · rw [if_pos h2, if_pos (by omega)]
            · rw [if_neg h2, if_neg (by omega)]
        case measure => simp [intOf]; omega
      · have HL := Lib.hid (show lowB x = x by simp only [lowB, if_neg hup])
        have HR := Lib.hid (show ∀ (j : Nat) b, l[j]? = some b → wr.cell? ⟨w.heap.size, j, none⟩ = some (.int .u8 (if j < k + 1 then lowB b else b).toNat) ∧ wr.frozen? ⟨w.heap.size, j, none⟩ = false from fun j b hb => by
          obtain ⟨c1, f1⟩ := HCL.out j b hb
          refine ⟨?_, f1⟩
          by_cases hjk : j = k
          · subst hjk
            obtain rfl : x = b := Option.some.inj (HX.out.symm.trans hb)
            rw [if_pos (by omega), HL.out, c0]
          · rw [c1]
            by_cases h2 : j < k
            · rw [if_pos h2, if_pos (by omega)]
            · rw [if_neg h2, if_neg (by omega)])
        rcases (show x.toNat < 65 ∨ (65 ≤ x.toNat ∧ 90 < x.toNat) by omega) with h1 | ⟨h1, h2⟩
        · have u1 : (x.toNat : Int) < 65 := by omega
          clear hup h1
          go_wp2_with fail
          go_roundw
          case rel => exact ⟨k + 1, by omega, by go_num, F, HR.out⟩
          case measure => simp [intOf]; omega
        · have u1 : (65 : Int) ≤ (x.toNat : Int) := by omega
          have u2 : (90 : Int) < (x.toNat : Int) := by omega
          clear hup h1 h2
          go_wp2_with fail
          go_roundw
          case rel => exact ⟨k + 1, by omega, by go_num, F, HR.out⟩
          case measure => simp [intOf]; omega
    · have hke : k = n := by omega
      subst hke
      have hcv := conv_bs wr w.heap.size cap (foldL l) k (by simp [foldL, HN.out]) (fun j y hy => by
        unfold foldL at hy
        rw [List.getElem?_map] at hy
        obtain ⟨b, hb, rfl⟩ := Option.map_eq_some_iff.1 hy
        have hjl : j < l.length := (List.getElem?_eq_some_iff.1 hb).1
        rw [HN.out] at hjl
        have := (hcl j b hb).1
        rwa [if_pos hjl] at this)
      clear hcl
      go_wp2_with fail
      go_ret
      exact ⟨rfl, F0.trans1 F (.inr (Nat.le_refl _))⟩
end Go.Proofs.YtjeblccboeljnaaGreatDoor
