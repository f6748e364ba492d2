/- Contract: the references' Bytes. No condition. -/
import Derived.Test.YtjfoccbbjhigbaaGreatSrcSpec
import Derived.Test.YtjfoccbbjhigbaaGreatBase
namespace Go.Proofs.YtjfoccbbjhigbaaGreat
open Go.RowKit

theorem bytes_any (w : World) (v1 v2 : Value) (a b : List UInt8) (h1 : Sl w v1 (bv a)) (h2 : Sl w v2 (bv b)) :
    Calls Tryz.prog 14 #[v1, v2] w fun e w' => e = .returned (.bool (decide (a = b))) ∧ Same w w' := by
  obtain ⟨ao1, cap1, rfl, g1, m1, o1⟩ := h1.out
  obtain ⟨ao2, cap2, rfl, g2, m2, o2⟩ := h2.out
  clear h1 h2
  simp only [bv_length] at *
  by_cases hl : a.length = b.length
  · have hb : ((a.length : Int) != (b.length : Int)) = false := by simp [hl]
    have HL := Lib.hid hl
    clear hl
    go_enter Tryz.func14, Tryz.ntmps14
    go_wp2
    go_loopw [5] (fun i wr => ∃ k : Nat, k ≤ a.length ∧ i = .int .i64 k ∧ a.take k = b.take k ∧ Same w wr) (fun i _ => a.length - (intOf i).toNat)
    case atStart => exact ⟨0, Nat.zero_le _, rfl, rfl, Same.refl w⟩
    case round =>
      obtain ⟨k, hk, rfl, htk, hsw⟩ := hrel
      by_cases hlt : k < a.length
      · obtain ⟨b1, of1, rfl, -, c1⟩ := o1 k hlt
        obtain ⟨b2, of2, rfl, -, c2⟩ := o2 k (by rw [← HL.out]; exact hlt)
        obtain ⟨x, hx⟩ := some_get a k hlt
        obtain ⟨y, hy⟩ := some_get b k (by rw [← HL.out]; exact hlt)
        have d1 : wr.cell? ⟨b1, of1 + k, none⟩ = some (.int .u8 x.toNat) := by rw [hsw.cell, c1 k hlt, bv_get _ _ _ hx]
        have d2 : wr.cell? ⟨b2, of2 + k, none⟩ = some (.int .u8 y.toNat) := by rw [hsw.cell, c2 k (by rw [← HL.out]; exact hlt), bv_get _ _ _ hy]
        have hlt2 : (k : Int) < (b.length : Int) := by have := HL.out; omega
        have hlt1 : (k : Int) < (a.length : Int) := by omega
        have HX := Lib.hid hx
        have HY := Lib.hid hy
        have HT := Lib.hid htk
        clear o1 o2 c1 c2 hx hy htk
        by_cases hxy : x = y
        · have hne : ((x.toNat : Int) != (y.toNat : Int)) = false := by simp [hxy]
          have HXY := Lib.hid hxy
          clear hxy
          go_wp2
          go_quiet (fail)
          go_wp2
          go_roundw
          case rel => exact ⟨k + 1, by omega, by go_num, take_eq_step _ _ _ _ _ HX.out HY.out HT.out HXY.out, hsw.trans (Same.drewN _)⟩
          case measure => simp [intOf]; omega
        · have hne : ((x.toNat : Int) != (y.toNat : Int)) = true := by
            rw [bne_iff_ne]; intro h; exact hxy (UInt8.toNat_inj.1 (by omega))
          have HXY := Lib.hid hxy
          clear hxy
          go_wp2
          go_quiet (fail)
          go_wp2
          go_ret
          exact ⟨by simp [ne_at _ _ _ _ _ HX.out HY.out HXY.out], hsw.trans (Same.drewN _)⟩
      · clear o1 o2
        have hk2 : k = a.length := by omega
        have HT := Lib.hid htk
        have HK := Lib.hid hk2
        clear htk hk2
        go_wp2
        go_ret
        refine ⟨?_, hsw⟩
        have e : a = b := by
          have := HT.out
          rw [HK.out, List.take_of_length_le (Nat.le_refl _), HL.out, List.take_of_length_le (Nat.le_refl _)] at this
          exact this
        simp [e]
  · have hb : ((a.length : Int) != (b.length : Int)) = true := by rw [bne_iff_ne]; omega
    have hne : a ≠ b := by rintro rfl; exact hl rfl
    have HN := Lib.hid hne
    clear hl hne o1 o2
    go_enter Tryz.func14, Tryz.ntmps14
    go_wp2
    go_ret
    exact ⟨by simp [HN.out], Same.refl w⟩
end Go.Proofs.YtjfoccbbjhigbaaGreat
