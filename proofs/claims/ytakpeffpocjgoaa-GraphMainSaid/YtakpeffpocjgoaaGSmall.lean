/- Contract: law 22's small. No condition. -/
import Derived.Test.YtakpeffpocjgoaaGHangs
namespace Go.Proofs.Ytakpeffpocjgoaa
open Go.RowKit

/-- A folder such as is gone through. -/
def SmallP (f : Folder) : Prop := Small f ∧ ∀ c ∈ f.coders, c.props.length ≤ 1000

theorem small_any (w : World) (v : Value) (f : Folder) (hf : Fo w v f) :
    Calls Try.prog 8 #[v] w (Tells (SmallP f) w) := by
  obtain ⟨cv, bv', p, s, h, k0, rfl, hV⟩ := hf
  obtain ⟨ao, cap, rfl, g1, m1, o⟩ := hV.co.out
  obtain ⟨aob, capb, rfl, g2, m2, -⟩ := hV.bi.out
  obtain ⟨aop, capp, rfl, g3, m3, -⟩ := hV.pa.out
  obtain ⟨aos, caps, rfl, g4, m4, -⟩ := hV.si.out
  simp only [iv_length, u64v_length] at *
  clear hV g2 m2 g3 m3 g4 m4
  obtain ⟨wB, hwB⟩ : ∃ wB, wB = w.alloc (.cells #[.slice ao f.coders.length cap, .slice aob f.binds.length capb, .slice aop f.packs.length capp, .slice aos f.sizes.length caps, h, k0] 30) := ⟨_, rfl⟩
  have F0 : Fr [] w wB := hwB ▸ (Fr.refl _ _).alloc _
  have hb := box6 (hwB ▸ Fr.refl [] wB : Fr [] (w.alloc (.cells #[.slice ao f.coders.length cap, .slice aob f.binds.length capb, .slice aop f.packs.length capp, .slice aos f.sizes.length caps, h, k0] 30)) wB)
  obtain ⟨d0, d1, d2, d3, d4, d5⟩ := hb
  by_cases h1 : 100 < f.coders.length
  · have HN := Lib.hid (show ¬ SmallP f from fun H => by have := H.1.co; omega)
    clear o hwB
    go_enter Try.func8, Try.ntmps8
    go_wp2_with fail
    go_ret
    exact ⟨false, rfl, by simp [HN.out], (Fr.refl _ _).alloc _⟩
  by_cases h2 : 100 < f.binds.length
  · have HN := Lib.hid (show ¬ SmallP f from fun H => by have := H.1.bi; omega)
    clear o hwB
    go_enter Try.func8, Try.ntmps8
    go_wp2_with fail
    go_ret
    exact ⟨false, rfl, by simp [HN.out], (Fr.refl _ _).alloc _⟩
  by_cases h3 : 400 < f.packs.length
  · have HN := Lib.hid (show ¬ SmallP f from fun H => by have := H.1.pa; omega)
    clear o hwB
    go_enter Try.func8, Try.ntmps8
    go_wp2_with fail
    go_ret
    exact ⟨false, rfl, by simp [HN.out], (Fr.refl _ _).alloc _⟩
  by_cases h4 : 100 < f.sizes.length
  · have HN := Lib.hid (show ¬ SmallP f from fun H => by have := H.1.si; omega)
    clear o hwB
    go_enter Try.func8, Try.ntmps8
    go_wp2_with fail
    go_ret
    exact ⟨false, rfl, by simp [HN.out], (Fr.refl _ _).alloc _⟩
  have HS := Lib.hid (show Small f from ⟨by omega, by omega, by omega, by omega⟩)
  have h1' : (f.coders.length : Int) ≤ 100 := by omega
  have h2' : (f.binds.length : Int) ≤ 100 := by omega
  have h3' : (f.packs.length : Int) ≤ 400 := by omega
  have h4' : (f.sizes.length : Int) ≤ 100 := by omega
  clear h1 h2 h3 h4
  go_enter Try.func8, Try.ntmps8
  go_wp2_with fail
  rw [← hwB]
  clear hwB
  go_loopw [3] (fun i wr => ∃ k : Nat, k ≤ f.coders.length ∧ i = .int .i64 k ∧ (∀ c ∈ f.coders.take k, c.props.length ≤ 1000) ∧ wr = wB) (fun i _ => f.coders.length - (intOf i).toNat)
  case atStart => exact ⟨0, Nat.zero_le _, rfl, by simp, rfl⟩
  case round =>
    obtain ⟨k, hk, rfl, hP, hwr⟩ := hrel
    subst hwr
    by_cases hlt : k < f.coders.length
    · obtain ⟨x, hx⟩ := some_get f.coders k hlt
      obtain ⟨b1, o1, pv, rfl, hb1, hC⟩ := o k x hx
      obtain ⟨pao2, pcap2, rfl, -⟩ := hC.2.2.out
      obtain ⟨c0, c1, -⟩ := hC.fr hb1 F0
      simp only [bv_length] at c1
      have HX := Lib.hid hx
      have HP := Lib.hid hP
      clear o hx hP hC
      by_cases hq : 1000 < x.props.length
      · have HN := Lib.hid (show ¬ SmallP f from fun H => by have := H.2 x (List.mem_of_getElem? HX.out); omega)
        have hq' : (1000 : Int) < (x.props.length : Int) := by omega
        clear hq
        go_wp2_with fail
        go_ret
        exact ⟨false, rfl, by simp [HN.out], F0⟩
      · have HP2 := Lib.hid (show ∀ c ∈ f.coders.take (k + 1), c.props.length ≤ 1000 from fun c hc => by
          rw [take_succ3 _ _ _ HX.out] at hc
          rcases List.mem_append.1 hc with hc | hc
          · exact HP.out c hc
          · rw [List.mem_singleton] at hc; subst hc; omega)
        have hq' : (x.props.length : Int) ≤ 1000 := by omega
        clear hq
        go_wp2_with fail
        go_roundw
        case rel => exact ⟨k + 1, by omega, by go_num, HP2.out, by trivial⟩
        case measure => simp [intOf]; omega
    · rw [List.take_of_length_le (by omega)] at hP
      have HP := Lib.hid hP
      clear o hP
      go_wp2_with fail
      go_ret
      exact ⟨true, rfl, by simp only [true_iff]; exact ⟨HS.out, HP.out⟩, F0⟩
end Go.Proofs.Ytakpeffpocjgoaa
