/- GraphOne: for every input the law returns true, and its arguments read as they did. No condition. -/
import Derived.Test.YtakpeffpocjgoaaRows
import Derived.Test.YtakpeffpocjgoaaOpen
import Derived.Test.YtakpeffpocjgoaaGOpen
import Derived.Test.YtakpeffpocjgoaaGOne
import Derived.WalkKit
import Derived.ProofKit
import Derived.OpenShut
import Derived.ShutString
import Derived.ChangeOld
import Derived.Below
import Derived.Deep.Grids
namespace Go.Proofs.Ytakpeffpocjgoaa.graphOne
open Go.ChangeShapes Go.WideShapes Go.ChangeAt Go.RowKit
open Go.ChangeMaps (open_string shut_string)
set_option linter.unusedVariables false

theorem own : ownKnob Try.prog.godebug = none := by kernel_rfl
theorem laidOut : laidOutB Try.prog = true := by kernel_rfl

set_option maxRecDepth 100000 in
set_option maxHeartbeats 2000000 in
theorem lifted (os : Os) (started : os.Started) (H : Type) (enc : TypeId × Value → H) :
    ReturnsInHanded {} Try.checked os 4 .any (Rows.graphOneSpec.pre6 enc Try.prog Try.f4 Rows.graphOneRow.domain false) (Rows.graphOneSpec.post enc Try.prog Try.f4 false true false false) := by
  refine returnsInHanded_of_change (C := Try.checked) own started (by kernel_rfl) Try.func4
    (ChangeSpec.witness6 (enc := enc) (C := Try.checked) false ⟨#[], #[.agg #[.int .i64 0, .slice none 0 0], .int .u64 0, .agg #[.int .u64 0, .int .u64 0, .int .u64 0, .int .u64 0]], []⟩ 8 (by kernel_rfl) (by kernel_rfl) (by kernel_rfl) (by kernel_rfl)) ?_
  intro W base args ds gs before hval0 hW hcnd _
  have hval : ∀ (j : Nat) t v, Try.f4.params[j]? = some t → args[j]? = some v → Value.okWide Try.prog W .any base t v := hval0
  have hW' := hW
  obtain ⟨p, q, hA0, hV, rfl, hfz, hnd⟩ := hW
  have hA : DataW.TrodAll enc Try.prog W 0 (fun _ => true) true Try.f4.params.toList args.toList ds p := hA0
  rw [Try.params4] at hA hval
  obtain ⟨v0, vs0, d0, ds0, p0, q0, hargs, rfl, rfl, h0, r0⟩ := trodAll_cons hA
  obtain ⟨v1, vs1, d1, ds1, p1, q1, rfl, rfl, rfl, h1, r1⟩ := trodAll_cons r0
  obtain ⟨v2, vs2, d2, ds2, p2, q2, rfl, rfl, rfl, h2, r2⟩ := trodAll_cons r1
  obtain ⟨rfl, rfl, rfl⟩ := trodAll_nil r2
  obtain rfl : args = #[v0, v1, v2] := by cases args; simp_all
  obtain ⟨rfl, rfl⟩ := trodVars_none hV
  obtain ⟨cs0, rfl, hz0⟩ := okWide_struct Try.underlying38 (hval 0 38 v0 rfl rfl)
  have k0 := h0
  have lt0 : ∀ x ∈ p0, x.block < W.heap.size := by obtain ⟨m, hm⟩ := k0; exact DataW.trod_lt m _ _ _ hm
  obtain ⟨m0, pv0, x0, e0, w0⟩ : ∃ m v bs, cs0.toList = [.int .i64 m, v] ∧ Sl W v (bv bs) := by obtain ⟨fuel, hf⟩ := h0; exact coder_of hf
  obtain rfl : cs0 = #[.int .i64 m0, pv0] := by rw [← Array.toArray_toList (xs := cs0), e0]
  obtain ⟨n1, rfl, rfl, rfl, wf1⟩ := open_int Try.underlying39 (hval 1 39 v1 rfl rfl) h1
  obtain ⟨x1, rfl⟩ : ∃ x : UInt64, n1 = x.toNat := ⟨UInt64.ofNat n1.toNat, by have := bounds_u64 wf1; simp; omega⟩
  obtain ⟨cs2, rfl⟩ := okWide_arr Try.underlying40 (hval 2 40 v2 rfl rfl)
  have k2 := h2
  have lt2 : ∀ x ∈ p2, x.block < W.heap.size := by obtain ⟨m, hm⟩ := k2; exact DataW.trod_lt m _ _ _ hm
  obtain ⟨x2, y2, z2, u2, e2⟩ : ∃ a0 a1 a2 a3 : UInt64, cs2.toList = [.int .u64 a0.toNat, .int .u64 a1.toNat, .int .u64 a2.toNat, .int .u64 a3.toNat] := by obtain ⟨fuel, hf⟩ := h2; exact arr4_of hf
  obtain rfl : cs2 = #[.int .u64 x2.toNat, .int .u64 y2.toNat, .int .u64 z2.toNat, .int .u64 u2.toNat] := by rw [← Array.toArray_toList (xs := cs2), e2]
  clear hA0 hval0
  refine (walk_GraphOne W m0 pv0 x0 w0 x1 x2 y2 z2 u2).mono fun e W' ⟨he, hfr⟩ => ?_
  subst he
  have bel := hfr.below
  exact ⟨_, rfl, _, _, _, [], _, [], hW', trodAll_mk1 (shut_bool Try.underlying4 _), (trodAll_cons_mk (Below.trod laidOut (by kernel_rfl) (of_decide_eq_true (by kernel_rfl)) k0 bel lt0) (trodAll_cons_mk (shut_int Try.underlying39 wf1) (trodAll_cons_mk (Below.trod laidOut (by kernel_rfl) (of_decide_eq_true (by kernel_rfl)) k2 bel lt2) trodAll_mk0))), rfl, bel.frame _, fun h => by cases h⟩

theorem over : Rows.graphOneRow.holds Try.pinned (OpenSpec.ofChange Rows.graphOneSpec) :=
  OpenClaim.holds_of_wide 4 Try.f4 rfl rfl rfl rfl rfl rfl rfl ⟨rfl, rfl, rfl, rfl, rfl⟩ rfl rfl rfl rfl rfl (by kernel_rfl) Try.func4 (by kernel_rfl)
    (of_decide_eq_true (by kernel_rfl)) (by unfold Func.isWrapper; first | (rw [if_pos (by decide +kernel)]; kernel_rfl) | (rw [if_neg (by decide +kernel)]; exact ⟨rfl, rfl⟩))
    (fun os started H enc _ => lifted os started H enc)

/-- The statement. -/
theorem proved : Rows.GraphOneSaid := over
#print axioms proved
end Go.Proofs.Ytakpeffpocjgoaa.graphOne
