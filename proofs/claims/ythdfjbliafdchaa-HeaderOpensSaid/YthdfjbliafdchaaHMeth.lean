/- Contract: the reader's method. No condition but that lengths fit. -/
import Derived.Test.YthdfjbliafdchaaHPacks
import Derived.Laws.BytesString
namespace Go.Proofs.Ythdfjbliafdchaa
open Go.RowKit

set_option maxRecDepth 100000 in
/-- 'string(b)'. -/
theorem conv_sl (w : World) (ao : Option Addr) (n cap : Nat) (l : List UInt8) (hn : n = l.length) (h : Sl w (.slice ao n cap) (bv l)) :
    (convert 22 9 (.slice ao n cap)).run Try.prog w = .ok (.string ⟨l.toArray⟩) w := by
  subst hn
  obtain ⟨ao', cap', he, h1, h2, h3, h4⟩ := h
  rw [bv_length] at he h1
  injection he with e1 e2 e3
  subst e1 e3
  cases ao with
  | none =>
    have hc := h3 rfl
    have : l = [] := List.eq_nil_of_length_eq_zero (by omega)
    subst this
    subst hc
    rfl
  | some a =>
    refine run_convert_bytes_back w 22 9 5 a cap l Try.underlying22 Try.underlying5 Try.underlying9 (fun j hj => ?_)
    obtain ⟨q1, q2, q3⟩ := h4 a rfl (by omega)
    obtain ⟨b, o, s⟩ := a
    dsimp only at q1 q2 q3
    subst q1
    have e : (⟨b, o, none⟩ : Addr).add j = ⟨b, o + j, none⟩ := by unfold Addr.add; split <;> simp_all
    rw [e, q3 j (by rw [bv_length]; exact hj)]
    exact bv_get _ _ _ (by simp)

def methodOf (l : List UInt8) : Nat :=
  if l = [0] then 1 else if l = [3] then 2 else if l = [3, 3, 1, 3] then 3 else if l = [3, 1, 1] then 4 else if l = [33] then 5 else if l = [3, 3, 1, 27] then 6 else if l = [3, 4, 1] then 7 else 0
def Rs.method (s : Rs) (l : List UInt8) : Nat × Rs :=
  if methodOf l ≠ 0 then (methodOf l, s) else if l = [6, 241, 7, 1] then (0, s.fail 9) else (0, s.fail 8)

set_option maxRecDepth 100000 in
set_option maxHeartbeats 4000000 in
theorem method_any (w : World) (p cp : Nat) (q : Option Nat) (s : Rs) (d : DV) (v : Value) (l : List UInt8) (h : RdAt w p cp q s d) (hv : Sl w v (bv l)) :
    Calls Try.prog 84 #[.pointer (some ⟨p, 0, none⟩), v] w fun e w' => e = .returned (.int .i64 ((s.method l).1 : Int)) ∧ RdAt w' p cp q (s.method l).2 d ∧ Fr [p] w w' := by
  have HR := Lib.hid h
  obtain ⟨ao, cap, rfl, -⟩ := hv.out
  rw [bv_length] at hv ⊢
  have hcv := conv_sl w ao l.length cap l rfl hv
  clear h hv
  by_cases h0 : l = [0]
  · have HE := Lib.hid (show s.method l = (1, s) by rw [h0]; rfl)
    have t0 : (l == [0]) = true := by rw [beq_iff_eq]; exact h0
    clear h0
    go_enter Try.func84, Try.ntmps84
    go_wp2_with fail
    go_ret
    exact ⟨by rw [HE.out]; rfl, by rw [HE.out]; exact HR.out, Fr.refl _ _⟩
  have t0 : (l == [0]) = false := by rw [beq_eq_false_iff_ne]; exact h0
  by_cases h1 : l = [3]
  · have HE := Lib.hid (show s.method l = (2, s) by rw [h1]; rfl)
    have t1 : (l == [3]) = true := by rw [beq_iff_eq]; exact h1
    clear h0 h1
    go_enter Try.func84, Try.ntmps84
    go_wp2_with fail
    go_ret
    exact ⟨by rw [HE.out]; rfl, by rw [HE.out]; exact HR.out, Fr.refl _ _⟩
  have t1 : (l == [3]) = false := by rw [beq_eq_false_iff_ne]; exact h1
  by_cases h2 : l = [3, 3, 1, 3]
  · have HE := Lib.hid (show s.method l = (3, s) by rw [h2]; rfl)
    have t2 : (l == [3, 3, 1, 3]) = true := by rw [beq_iff_eq]; exact h2
    clear h0 h1 h2
    go_enter Try.func84, Try.ntmps84
    go_wp2_with fail
    go_ret
    exact ⟨by rw [HE.out]; rfl, by rw [HE.out]; exact HR.out, Fr.refl _ _⟩
  have t2 : (l == [3, 3, 1, 3]) = false := by rw [beq_eq_false_iff_ne]; exact h2
  by_cases h3 : l = [3, 1, 1]
  · have HE := Lib.hid (show s.method l = (4, s) by rw [h3]; rfl)
    have t3 : (l == [3, 1, 1]) = true := by rw [beq_iff_eq]; exact h3
    clear h0 h1 h2 h3
    go_enter Try.func84, Try.ntmps84
    go_wp2_with fail
    go_ret
    exact ⟨by rw [HE.out]; rfl, by rw [HE.out]; exact HR.out, Fr.refl _ _⟩
  have t3 : (l == [3, 1, 1]) = false := by rw [beq_eq_false_iff_ne]; exact h3
  by_cases h4 : l = [33]
  · have HE := Lib.hid (show s.method l = (5, s) by rw [h4]; rfl)
    have t4 : (l == [33]) = true := by rw [beq_iff_eq]; exact h4
    clear h0 h1 h2 h3 h4
    go_enter Try.func84, Try.ntmps84
    go_wp2_with fail
    go_ret
    exact ⟨by rw [HE.out]; rfl, by rw [HE.out]; exact HR.out, Fr.refl _ _⟩
  have t4 : (l == [33]) = false := by rw [beq_eq_false_iff_ne]; exact h4
  by_cases h5 : l = [3, 3, 1, 27]
  · have HE := Lib.hid (show s.method l = (6, s) by rw [h5]; rfl)
    have t5 : (l == [3, 3, 1, 27]) = true := by rw [beq_iff_eq]; exact h5
    clear h0 h1 h2 h3 h4 h5
    go_enter Try.func84, Try.ntmps84
    go_wp2_with fail
    go_ret
    exact ⟨by rw [HE.out]; rfl, by rw [HE.out]; exact HR.out, Fr.refl _ _⟩
  have t5 : (l == [3, 3, 1, 27]) = false := by rw [beq_eq_false_iff_ne]; exact h5
  by_cases h6 : l = [3, 4, 1]
  · have HE := Lib.hid (show s.method l = (7, s) by rw [h6]; rfl)
    have t6 : (l == [3, 4, 1]) = true := by rw [beq_iff_eq]; exact h6
    clear h0 h1 h2 h3 h4 h5 h6
    go_enter Try.func84, Try.ntmps84
    go_wp2_with fail
    go_ret
    exact ⟨by rw [HE.out]; rfl, by rw [HE.out]; exact HR.out, Fr.refl _ _⟩
  have t6 : (l == [3, 4, 1]) = false := by rw [beq_eq_false_iff_ne]; exact h6
  have HM := Lib.hid (show methodOf l = 0 by unfold methodOf; rw [if_neg h0, if_neg h1, if_neg h2, if_neg h3, if_neg h4, if_neg h5, if_neg h6])
  by_cases h7 : l = [6, 241, 7, 1]
  · have HE := Lib.hid (show s.method l = (0, s.fail 9) by unfold Rs.method; rw [if_neg (by rw [HM.out]; simp), if_pos h7])
    have t7 : (l == [6, 241, 7, 1]) = true := by rw [beq_iff_eq]; exact h7
    clear h0 h1 h2 h3 h4 h5 h6 h7
    go_enter Try.func84, Try.ntmps84
    go_wp2_with (go_at_call 32; refine (rfail_any _ p cp q s d 9 HR.out).mono ?_; rintro e w4 ⟨rfl, R4, F4⟩)
    go_ret
    exact ⟨by rw [HE.out]; rfl, by rw [HE.out]; exact R4, F4⟩
  · have HE := Lib.hid (show s.method l = (0, s.fail 8) by unfold Rs.method; rw [if_neg (by rw [HM.out]; simp), if_neg h7])
    have t7 : (l == [6, 241, 7, 1]) = false := by rw [beq_eq_false_iff_ne]; exact h7
    clear h0 h1 h2 h3 h4 h5 h6 h7
    go_enter Try.func84, Try.ntmps84
    go_wp2_with (go_at_call 32; refine (rfail_any _ p cp q s d 8 HR.out).mono ?_; rintro e w4 ⟨rfl, R4, F4⟩)
    go_ret
    exact ⟨by rw [HE.out]; rfl, by rw [HE.out]; exact R4, F4⟩
end Go.Proofs.Ythdfjbliafdchaa
