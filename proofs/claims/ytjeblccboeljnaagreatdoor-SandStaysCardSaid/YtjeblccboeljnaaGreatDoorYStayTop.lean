/- SandStays: for every input the law returns true, and its arguments read as they did; what the two tables of unicode/utf8 hold is tied to the program's text (given). No other condition. -/
import Derived.Test.YtjeblccboeljnaaGreatDoorRows
import Derived.Test.YtjeblccboeljnaaGreatDoorCards
import Derived.Test.YtjeblccboeljnaaGreatDoorTie
import Derived.Test.YtjeblccboeljnaaGreatDoorYStayW
import Derived.Test.YtjeblccboeljnaaGreatDoorYOpen
import Derived.Lib.LaidIn
import Derived.Lib.LaidU8T
import Derived.Deep.DeepHandedRow
import Derived.Deep.DeepWitnessRowRef
import Derived.ProofKit
import Derived.SizedLaws
import Derived.PinnedBridge
import Derived.SevenTiedAt
import Derived.OpenShut
import Derived.ShutString
import Derived.ChangeOld
import Derived.Deep.Grids
namespace Go.Proofs.YtjeblccboeljnaaGreatDoor.sandStays
open Go.ChangeShapes Go.WideShapes Go.ChangeAt Go.RowKit Go.Lib Go.Shelf
open Go.ChangeMaps (open_string shut_string)
set_option linter.unusedVariables false

theorem own : ownKnob Tryz.prog.godebug = none := by kernel_rfl
theorem laidOut : laidOutB Tryz.prog = true := by kernel_rfl

noncomputable def laidWorld (os : Os) : World :=
  let w0 := World.holding Tryz.prog os ⟨#[], #[], []⟩
  let put (h : Array Obj) (g : Nat) (cs : Array Value) : Array Obj := h.modify g fun
    | .cells _ t frozen => .cells cs t frozen
    | o => o
  let h1 := put w0.heap 0 (Lib.firstTab.map fun z => Value.int .u8 z).toArray
  let h2 := put h1 1 ((List.range 16).flatMap fun i => [Value.int .u8 (Lib.accLo i), Value.int .u8 (Lib.accHi i)]).toArray
  { w0 with heap := h2 }

def sp : OpenSpec := OpenSpec.ofChange Rows.sandStaysSpec

theorem laid_met (os : Os) (args : Array Value) : laidMet Tryz.prog Rows.sandStaysRow.laid ((laidWorld os).forCall (fun _ _ => 0) ⟨#[], args, []⟩).memory :=
  (LaidIn.of_run (l := Rows.sandStaysRow.laid) [1, 0] 8 (by kernel_rfl) (by kernel_rfl) (by kernel_rfl) (by kernel_rfl)).met

theorem witness_row (os : Os) {H : Type} (enc : TypeId × Value → H) :
    sp.preRow enc Tryz.prog Tryz.f3 Rows.sandStaysRow.domain false Rows.sandStaysRow.laid ((laidWorld os).forCall (fun _ _ => 0) ⟨#[], #[.slice none 0 0, .slice none 0 0, .agg #[.int .i64 0, .string ⟨#[]⟩, .string ⟨#[]⟩, .slice none 0 0]], []⟩).memory #[.slice none 0 0, .slice none 0 0, .agg #[.int .i64 0, .string ⟨#[]⟩, .string ⟨#[]⟩, .slice none 0 0]] := by
  have hw : (DataW.whole enc Tryz.prog ((laidWorld os).forCall (fun _ _ => 0) ⟨#[], #[.slice none 0 0, .slice none 0 0, .agg #[.int .i64 0, .string ⟨#[]⟩, .string ⟨#[]⟩, .slice none 0 0]], []⟩).memory Tryz.f3.params.toList sp.vars false (#[.slice none 0 0, .slice none 0 0, .agg #[.int .i64 0, .string ⟨#[]⟩, .string ⟨#[]⟩, .slice none 0 0]] : Array Value).toList 8).map (fun x => (x.1, x.2.1)) =
      some ([.nil, .nil, .agg [.lit (.int .i64 0), .lit (.string []), .lit (.string []), .nil]], []) := by kernel_rfl
  obtain ⟨⟨x1, x2, x3⟩, hx, hx1⟩ := Option.map_eq_some_iff.1 hw
  simp only [Prod.mk.injEq] at hx1
  obtain ⟨rfl, rfl⟩ := hx1
  exact OpenSpec.preRow_of_cond 8 hx (by kernel_rfl) (fun k hk => by cases hk) (by kernel_rfl) (laid_met os _)

set_option maxRecDepth 100000 in
set_option maxHeartbeats 2000000 in
theorem lifted (os : Os) (started : os.Started) (H : Type) (enc : TypeId × Value → H) (F : Stop.Interp) :
    ReturnsInHanded {} Tryz.checked os 3 .any (sp.preRow enc Tryz.prog Tryz.f3 Rows.sandStaysRow.domain false Rows.sandStaysRow.laid) ((sp.at F).post enc Tryz.prog Tryz.f3 false true false false) := by
  refine returnsInHanded_of_row (C := Tryz.checked) (s := sp) own started (by kernel_rfl) Tryz.func3
    (witness_row_atRef (enc := enc) (C := Tryz.checked) false (laidWorld os) #[.slice none 0 0, .slice none 0 0, .agg #[.int .i64 0, .string ⟨#[]⟩, .string ⟨#[]⟩, .slice none 0 0]] rfl (by kernel_rfl) (by kernel_rfl) (by kernel_rfl) (witness_row os enc)) ?_
  intro W base args ds gs before hval0 hW _ _ hZ hL hsh _
  have hval : ∀ (j : Nat) t v, Tryz.f3.params[j]? = some t → args[j]? = some v → Value.okWide Tryz.prog W .any base t v := hval0
  have hW' := hW
  obtain ⟨p, q, hA0, hV0, rfl, _, _⟩ := hW
  have hA : DataW.TrodAll enc Tryz.prog W 0 (fun _ => true) true Tryz.f3.params.toList args.toList ds p := hA0
  rw [Tryz.params3] at hA hval
  obtain ⟨v0, vs0, d0, ds0, p0, q0, hargs, rfl, rfl, h0, r0⟩ := trodAll_cons hA
  obtain ⟨v1, vs1, d1, ds1, p1, q1, rfl, rfl, rfl, h1, r1⟩ := trodAll_cons r0
  obtain ⟨v2, vs2, d2, ds2, p2, q2, rfl, rfl, rfl, h2, r2⟩ := trodAll_cons r1
  obtain ⟨rfl, rfl, rfl⟩ := trodAll_nil r2
  obtain rfl : args = #[v0, v1, v2] := by cases args; simp_all
  obtain ⟨rfl, rfl⟩ := trodVars_none hV0
  obtain ⟨a0, len0, cap0, rfl⟩ := okWide_slice Tryz.underlying22 (hval 0 22 v0 rfl rfl)
  have k0 := h0
  have lt0 : ∀ x ∈ p0, x.block < W.heap.size := by obtain ⟨m, hm⟩ := k0; exact DataW.trod_lt m _ _ _ hm
  obtain ⟨x0, w0⟩ : ∃ x, ThAt W W.heap.size (.slice a0 len0 cap0) x := by
    obtain ⟨fuel, hf⟩ := h0
    obtain ⟨v, x, hcs, hx⟩ := ths_of hf
    simp [Value.cells] at hcs
    subst hcs
    exact ⟨x, hx⟩
  obtain ⟨a1, len1, cap1, rfl⟩ := okWide_slice Tryz.underlying23 (hval 1 23 v1 rfl rfl)
  have k1 := h1
  have lt1 : ∀ x ∈ p1, x.block < W.heap.size := by obtain ⟨m, hm⟩ := k1; exact DataW.trod_lt m _ _ _ hm
  obtain ⟨x1, w1, z1⟩ : ∃ fl, Sl W (.slice a1 len1 cap1) (tv fl) ∧ fl.length ≤ 140737488355328 := by
    obtain ⟨fuel, hf⟩ := h1
    have hz : Sz 23 d1 := fun n hn => of_decide_eq_true (List.all_eq_true.1 hZ n (DataW.weights_mem_each (j := 1) (by rw [Tryz.params3]; rfl) rfl n hn))
    exact bools_of hf hz rfl
  obtain ⟨cs2, rfl, hz2⟩ := okWide_struct Tryz.underlying26 (hval 2 26 v2 rfl rfl)
  have k2 := h2
  have lt2 : ∀ x ∈ p2, x.block < W.heap.size := by obtain ⟨m, hm⟩ := k2; exact DataW.trod_lt m _ _ _ hm
  obtain ⟨x2, eo2, ec2, w2, e2⟩ : ∃ (d : Dv) (bo : Option Addr) (bc : Nat), Sl W (.slice bo d.by_.length bc) (bv d.by_) ∧ cs2.toList = [.int .i64 d.kind, .string ⟨d.path.toArray⟩, .string ⟨d.to_.toArray⟩, .slice bo d.by_.length bc] := by
    obtain ⟨fuel, hf⟩ := h2
    obtain ⟨⟨d, dv⟩, e, hs⟩ := do_of hf
    dsimp only at e hs
    obtain ⟨bo, bc, e', -, -⟩ := hs.out
    rw [bv_length] at e'
    subst e'
    exact ⟨d, bo, bc, hs, by simpa [Value.cells] using e⟩
  obtain rfl : cs2 = #[.int .i64 x2.kind, .string ⟨x2.path.toArray⟩, .string ⟨x2.to_.toArray⟩, .slice eo2 x2.by_.length ec2] := by rw [← Array.toArray_toList (xs := cs2), e2]
  clear hA0 hV0 hval0
  have h1 : Rows.laid_unicode_utf8_first = firstData := Pinned.utf8First_eq
  have h2 : Rows.laid_unicode_utf8_acceptRanges = acceptData := by kernel_rfl
  have e1 := Lib.laidMet.reads hL (.tail _ (.head _))
  have e2 := Lib.laidMet.reads hL (.head _)
  have htab : Lib.Utf8Tabs 0 1 W :=
    utf8Tabs_of_readsT (U8Types.of196 Tryz.lays196) ⟨by kernel_rfl, by kernel_rfl, by kernel_rfl, by kernel_rfl, by kernel_rfl, by kernel_rfl, by kernel_rfl⟩ (h1 ▸ e1) (h2 ▸ e2)
  have hml : ∃ m, W.cell? ⟨2, 0, none⟩ = some (.int .i64 m) := Tryz.laysM145.s1_3 W hsh
  have hG : Gl W := ⟨htab, hml, by obtain ⟨m, hm⟩ := hml; have := World.block_lt_of_cell? _ _ hm; dsimp only at this; omega⟩
  refine (walk_SandStays W _ x0 _ x1 x2 eo2 ec2 hG w0 w1 z1 w2).mono ?_
  rintro e W' ⟨rfl, hfr⟩
  have bel := hfr.below
  exact ⟨_, rfl, _, _, _, [], _, [], hW', trodAll_mk1 (shut_bool Tryz.underlying4 _), (trodAll_cons_mk (Below.trod laidOut (by kernel_rfl) (of_decide_eq_true (by kernel_rfl)) k0 bel lt0) (trodAll_cons_mk (Below.trod laidOut (by kernel_rfl) (of_decide_eq_true (by kernel_rfl)) k1 bel lt1) (trodAll_cons_mk (Below.trod laidOut (by kernel_rfl) (of_decide_eq_true (by kernel_rfl)) k2 bel lt2) trodAll_mk0))), rfl, bel.frame _, fun h => by cases h⟩

theorem holds : Rows.SandStaysSaid :=
  OpenClaim.holds_of_cond 3 Tryz.f3 rfl rfl rfl rfl rfl rfl rfl ⟨rfl, rfl, rfl, rfl, rfl⟩ rfl rfl rfl rfl rfl (by kernel_rfl) Tryz.func3 (by kernel_rfl)
    (of_decide_eq_true (by kernel_rfl)) (by unfold Func.isWrapper; rw [if_neg (of_decide_eq_false (by kernel_rfl))]; exact ⟨rfl, rfl⟩)
    (fun os started H enc _ F0 => by rw [OpenClaim.pre_eq_preRow]; exact lifted os started H enc F0)

theorem proved : Rows.SandStaysCardSaid :=
  Claim7.holds_tied_plain_at .later [] [.data, .pinned] true Rows.sandStaysCard.stood.harness true
    holds (fun _ h => by cases h) (by kernel_rfl) (fun _ h => by cases h) sandStays_row_tie rfl ⟨rfl, rfl⟩ (by kernel_rfl) rfl
    (fun f fn hf hfn => by
      obtain rfl : f = 3 := (Option.some.inj ((show Tryz.prog.funcNamed "garbler/garblerlaw25.SandStays" = some 3 by kernel_rfl).symm.trans hf)).symm
      obtain rfl : fn = Tryz.f3 := (Option.some.inj (Tryz.func3.symm.trans hfn)).symm
      exact ⟨by kernel_rfl, fun j t ht => by
        rw [Tryz.params3] at ht
        have h3 : t = 22 ∨ t = 23 ∨ t = 26 := by
          have hm := Array.mem_of_getElem? ht
          simpa using hm
        rcases h3 with rfl | rfl | rfl
        · exact (show Tryz.prog.wantsStandIn 22 = false by kernel_rfl)
        · exact (show Tryz.prog.wantsStandIn 23 = false by kernel_rfl)
        · exact (show Tryz.prog.wantsStandIn 26 = false by kernel_rfl)⟩)
    (by kernel_rfl)
end Go.Proofs.YtjeblccboeljnaaGreatDoor.sandStays
