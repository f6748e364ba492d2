/- Contract: the reference's Props. No condition but that lengths fit. -/
import Derived.Test.YtakpeffpocjgoaaGRefP
namespace Go.Proofs.Ytakpeffpocjgoaa
open Go.RowKit

theorem rprops_any (w : World) (m : Int) (pv : Value) (b : List UInt8) (hb : Sl w pv (bv b)) :
    Calls Try.prog 12 #[.agg #[.int .i64 m, pv]] w fun e w' => e = .returned (.int .i64 (codeOf (propsOk m b))) ∧ Fr [] w w' := by
  have hS : ∀ w', Fr [] w w' → Sl w' pv (bv b) := fun w' F => hb.fr0 F
  obtain ⟨ao, cap, rfl, g, mm, o⟩ := hb.out
  simp only [bv_length] at *
  have F0 : Fr [] w (w.alloc (.cells #[.int .i64 m, .slice ao b.length cap] 38)) := (Fr.refl _ _).alloc _
  have HS := Lib.hid (hS _ F0)
  generalize hok : propsOk m b = ok
  by_cases h2 : m = 2
  · subst h2
    have e0 : ok = (b.length == 1) := by rw [← hok]; simp [propsOk]
    by_cases hl1 : b.length = 1
    · have E := Lib.hid (show codeOf ok = 0 by rw [e0]; simp [codeOf, hl1])
      have t1 : ((b.length : Int) != 1) = false := by simp [hl1]
      clear o hS hb g mm hl1 e0 hok
      go_enter Try.func12, Try.ntmps12
      go_wp2
      go_ret
      exact ⟨by rw [E.out]; rfl, F0⟩
    · have E := Lib.hid (show codeOf ok = 11 by rw [e0]; simp [codeOf, hl1])
      have t1 : ((b.length : Int) != 1) = true := by rw [bne_iff_ne]; omega
      clear o hS hb g mm hl1 e0 hok
      go_enter Try.func12, Try.ntmps12
      go_wp2
      go_ret
      exact ⟨by rw [E.out]; rfl, F0⟩
  have q2 : (m == 2) = false := by simp [h2]
  by_cases h4 : m = 4
  · subst h4
    have E := Lib.hid (show ok = (b.length == 5 && decide ((b.getD 0 0).toNat < 225)) by rw [← hok]; simp [propsOk])
    clear o hS hb g mm q2 hok
    go_enter Try.func12, Try.ntmps12
    go_wp2_with (go_at_call 26; refine (rlzma_parse _ _ b HS.out).mono ?_; rintro e w1 ⟨x, rfl, F1⟩)
    go_ret
    exact ⟨by rw [E.out]; rfl, F0.trans0 F1⟩
  have q4 : (m == 4) = false := by simp [h4]
  by_cases h7 : m = 7
  · subst h7
    have E := Lib.hid (show ok = ppmdOk b by rw [← hok]; simp [propsOk])
    clear o hS hb g mm q2 q4 hok
    go_enter Try.func12, Try.ntmps12
    go_wp2_with (go_at_call 27; refine (rppmd_parse _ _ b HS.out).mono ?_; rintro e w1 ⟨x, rfl, F1⟩)
    go_ret
    exact ⟨by rw [E.out]; rfl, F0.trans0 F1⟩
  have q7 : (m == 7) = false := by simp [h7]
  by_cases h5 : m = 5
  · subst h5
    clear q2 q4 q7
    by_cases hl1 : b.length = 1
    · obtain ⟨b1, o1, rfl, hb1, c1⟩ := o 0 (by omega)
      obtain ⟨x, hx⟩ := some_get b 0 (by omega)
      have d1 : w.cell? ⟨b1, o1, none⟩ = some (.int .u8 x.toNat) := by
        have := c1 0 (by omega)
        rw [bv_get _ _ _ hx] at this
        exact this
      have d2 := (F0.cell (p := ⟨b1, o1, none⟩) hb1 (by simp)).trans d1
      have hxd : b.getD 0 0 = x := by simp [List.getD_eq_getElem?_getD, hx]
      have e0 : ok = decide (x.toNat ≤ 40) := by rw [← hok]; unfold propsOk; rw [hxd]; simp [hl1]
      have t1 : ((b.length : Int) != 1) = false := by simp [hl1]
      have t2 : (b.length : Int) = 1 := by omega
      clear o hS hb g mm hl1 c1 hx hxd d1 hok
      by_cases h40 : x.toNat ≤ 40
      · have E := Lib.hid (show codeOf ok = 0 by rw [e0]; simp [codeOf, h40])
        have h40' : (x.toNat : Int) ≤ 40 := by omega
        clear e0 h40
        go_enter Try.func12, Try.ntmps12
        go_wp2
        go_ret
        exact ⟨by rw [E.out]; rfl, F0⟩
      · have E := Lib.hid (show codeOf ok = 11 by rw [e0]; simp [codeOf, h40])
        have h40' : (40 : Int) < (x.toNat : Int) := by omega
        clear e0 h40
        go_enter Try.func12, Try.ntmps12
        go_wp2
        go_ret
        exact ⟨by rw [E.out]; rfl, F0⟩
    · have E := Lib.hid (show codeOf ok = 11 by rw [← hok]; simp [propsOk, hl1, codeOf])
      have t1 : ((b.length : Int) != 1) = true := by rw [bne_iff_ne]; omega
      clear o hS hb g mm hl1 hok
      go_enter Try.func12, Try.ntmps12
      go_wp2
      go_ret
      exact ⟨by rw [E.out]; rfl, F0⟩
  have q5 : (m == 5) = false := by simp [h5]
  have e0 : ok = (b.length == 0) := by rw [← hok]; simp [propsOk, h2, h4, h5, h7]
  clear h2 h4 h5 h7 hok
  by_cases hl0 : b.length = 0
  · have E2 := Lib.hid (show codeOf ok = 0 by rw [e0]; simp [hl0, codeOf])
    have t1 : ((b.length : Int) != 0) = false := by simp [hl0]
    clear o hS hb g mm hl0 e0
    go_enter Try.func12, Try.ntmps12
    go_wp2
    go_ret
    exact ⟨by rw [E2.out]; rfl, F0⟩
  · have E2 := Lib.hid (show codeOf ok = 11 by rw [e0]; simp [hl0, codeOf])
    have t1 : ((b.length : Int) != 0) = true := by rw [bne_iff_ne]; omega
    clear o hS hb g mm hl0 e0
    go_enter Try.func12, Try.ntmps12
    go_wp2
    go_ret
    exact ⟨by rw [E2.out]; rfl, F0⟩
end Go.Proofs.Ytakpeffpocjgoaa
