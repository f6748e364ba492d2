/- BookMagic: for every input the law returns true, and its arguments read as they did; what the two tables of unicode/utf8 hold is tied to the program's text (given). No other condition. -/
import Derived.Test.YtcnangcbffoabaaGreatDoorRows
import Derived.Test.YtcnangcbffoabaaGreatDoorCards
import Derived.Test.YtcnangcbffoabaaGreatDoorTie
import Derived.Test.YtcnangcbffoabaaGreatDoorEMagW
import Derived.Test.YtcnangcbffoabaaGreatDoorOpen
import Derived.Test.YtcnangcbffoabaaGreatDoorEMagFa
import Derived.Test.YtcnangcbffoabaaGreatDoorEMagFb
import Derived.Test.YtcnangcbffoabaaGreatDoorEMagFc
import Derived.Test.YtcnangcbffoabaaGreatDoorEMagFd
import Derived.Test.YtcnangcbffoabaaGreatDoorEMagFe
import Derived.Test.YtcnangcbffoabaaGreatDoorEMagFf
import Derived.Test.YtcnangcbffoabaaGreatDoorEMagFg
import Derived.Test.YtcnangcbffoabaaGreatDoorEMagFh
import Derived.Test.YtcnangcbffoabaaGreatDoorEMagFi
import Derived.Test.YtcnangcbffoabaaGreatDoorEMagFj
import Derived.Lib.LaidIn
import Derived.Lib.LaidU8T
import Derived.Deep.DeepHandedRow
import Derived.Deep.DeepWitnessRowRef
import Derived.ProofKit
import Derived.SizedLaws
import Derived.PinnedBridge
import Derived.SevenTiedAt
import Derived.OpenShut
import Derived.ShutString
import Derived.ChangeOld
import Derived.Deep.Grids
namespace Go.Proofs.YtcnangcbffoabaaGreatDoor.bookMagic
open Go.ChangeShapes Go.WideShapes Go.ChangeAt Go.RowKit Go.Lib Go.Shelf
open Go.ChangeMaps (open_string shut_string)
set_option linter.unusedVariables false

theorem own : ownKnob Tryz.prog.godebug = none := by kernel_rfl
theorem laidOut : laidOutB Tryz.prog = true := by kernel_rfl

noncomputable def laidWorld (os : Os) : World :=
  let w0 := World.holding Tryz.prog os ⟨#[], #[], []⟩
  let put (h : Array Obj) (g : Nat) (cs : Array Value) : Array Obj := h.modify g fun
    | .cells _ t frozen => .cells cs t frozen
    | o => o
  let h1 := put w0.heap 0 (Lib.firstTab.map fun z => Value.int .u8 z).toArray
  let h2 := put h1 1 ((List.range 16).flatMap fun i => [Value.int .u8 (Lib.accLo i), Value.int .u8 (Lib.accHi i)]).toArray
  { w0 with heap := h2 }

def sp : OpenSpec := OpenSpec.ofChange Rows.bookMagicSpec

theorem laid_met (os : Os) (args : Array Value) : laidMet Tryz.prog Rows.bookMagicRow.laid ((laidWorld os).forCall (fun _ _ => 0) ⟨#[], args, []⟩).memory :=
  (LaidIn.of_run (l := Rows.bookMagicRow.laid) [1, 0] 8 (by kernel_rfl) (by kernel_rfl) (by kernel_rfl) (by kernel_rfl)).met

theorem witness_row (os : Os) {H : Type} (enc : TypeId × Value → H) :
    sp.preRow enc Tryz.prog Tryz.f3 Rows.bookMagicRow.domain false Rows.bookMagicRow.laid ((laidWorld os).forCall (fun _ _ => 0) ⟨#[], #[.slice none 0 0, .int .u8 0], []⟩).memory #[.slice none 0 0, .int .u8 0] := by
  have hw : (DataW.whole enc Tryz.prog ((laidWorld os).forCall (fun _ _ => 0) ⟨#[], #[.slice none 0 0, .int .u8 0], []⟩).memory Tryz.f3.params.toList sp.vars false (#[.slice none 0 0, .int .u8 0] : Array Value).toList 8).map (fun x => (x.1, x.2.1)) =
      some ([.nil, .lit (.int .u8 0)], []) := by kernel_rfl
  obtain ⟨⟨x1, x2, x3⟩, hx, hx1⟩ := Option.map_eq_some_iff.1 hw
  simp only [Prod.mk.injEq] at hx1
  obtain ⟨rfl, rfl⟩ := hx1
  exact OpenSpec.preRow_of_cond 8 hx (by kernel_rfl) (fun k hk => by cases hk) (by kernel_rfl) (laid_met os _)

set_option maxRecDepth 100000 in
set_option maxHeartbeats 2000000 in
theorem lifted (os : Os) (started : os.Started) (H : Type) (enc : TypeId × Value → H) (F : Stop.Interp) :
    ReturnsInHanded {} Tryz.checked os 3 .any (sp.preRow enc Tryz.prog Tryz.f3 Rows.bookMagicRow.domain false Rows.bookMagicRow.laid) ((sp.at F).post enc Tryz.prog Tryz.f3 false true false false) := by
  refine returnsInHanded_of_row (C := Tryz.checked) (s := sp) own started (by kernel_rfl) Tryz.func3
    (witness_row_atRef (enc := enc) (C := Tryz.checked) false (laidWorld os) #[.slice none 0 0, .int .u8 0] rfl (by kernel_rfl) (by kernel_rfl) (by kernel_rfl) (witness_row os enc)) ?_
  intro W base args ds gs before hval0 hW _ _ _ hL hsh _
  have hval : ∀ (j : Nat) t v, Tryz.f3.params[j]? = some t → args[j]? = some v → Value.okWide Tryz.prog W .any base t v := hval0
  have hW' := hW
  obtain ⟨p, q, hA0, hV0, rfl, _, _⟩ := hW
  have hA : DataW.TrodAll enc Tryz.prog W 0 (fun _ => true) true Tryz.f3.params.toList args.toList ds p := hA0
  rw [Tryz.params3] at hA hval
  obtain ⟨v0, vs0, d0, ds0, p0, q0, hargs, rfl, rfl, h0, r0⟩ := trodAll_cons hA
  obtain ⟨v1, vs1, d1, ds1, p1, q1, rfl, rfl, rfl, h1, r1⟩ := trodAll_cons r0
  obtain ⟨rfl, rfl, rfl⟩ := trodAll_nil r1
  obtain rfl : args = #[v0, v1] := by cases args; simp_all
  obtain ⟨rfl, rfl⟩ := trodVars_none hV0
  obtain ⟨a0, len0, cap0, rfl⟩ := okWide_slice Tryz.underlying22 (hval 0 22 v0 rfl rfl)
  have k0 := h0
  have lt0 : ∀ x ∈ p0, x.block < W.heap.size := by obtain ⟨m, hm⟩ := k0; exact DataW.trod_lt m _ _ _ hm
  obtain ⟨x0, w0⟩ : ∃ x, Sl W (.slice a0 len0 cap0) (bv x) := by
    obtain ⟨fuel, hf⟩ := h0
    rcases open_ints Tryz.underlying22 Tryz.underlying5 (by kernel_rfl) hf with ⟨hcs, _⟩ | ⟨x, l, c, zs, hcs, _, hl, hm, hz, _, hcell, hwz⟩
    · simp [Value.cells] at hcs
      obtain ⟨rfl, rfl, rfl⟩ := hcs
      exact open_bytes (.inl ⟨rfl, rfl, rfl, (rfl : ([] : List Int) = [])⟩)
    · simp [Value.cells] at hcs
      obtain ⟨rfl, rfl, rfl⟩ := hcs
      exact open_bytes (.inr ⟨_, rfl, hl, hm, by simpa using hz, hcell, hwz⟩)
  obtain ⟨n1, rfl, rfl, rfl, wf1⟩ := open_int Tryz.underlying5 (hval 1 5 v1 rfl rfl) h1
  obtain ⟨x1, rfl⟩ : ∃ x : UInt8, n1 = x.toNat := ⟨UInt8.ofNat n1.toNat, by have := bounds_u8 wf1; simp; omega⟩
  clear hA0 hV0 hval0
  refine (walk_BookMagic W _ x0 x1 w0).mono ?_
  rintro e W' ⟨rfl, hfr⟩
  have bel := hfr.below
  exact ⟨_, rfl, _, _, _, [], _, [], hW', trodAll_mk1 (shut_bool Tryz.underlying4 _), (trodAll_cons_mk (Below.trod laidOut (by kernel_rfl) (of_decide_eq_true (by kernel_rfl)) k0 bel lt0) (trodAll_cons_mk (shut_int Tryz.underlying5 wf1) trodAll_mk0)), rfl, bel.frame _, fun h => by cases h⟩

theorem andI {a b : Bool} (h : a = true) (k : b = true) : (a && b) = true := by rw [h, k]; rfl
set_option maxRecDepth 100000 in
theorem closed : joinedFacts Tryz.pinned.checked.prog 3 Tryz.f3 (OpenSpec.ofChange Rows.bookMagicSpec).bare Rows.bookMagicRow = true := by
  unfold joinedFacts
  exact (andI (andI (andI (andI (andI (andI (andI (andI (andI (andI (andI (andI (andI (andI (andI (andI (andI (andI (andI (andI (andI (andI (andI (andI (andI (andI (andI (andI (andI (andI (andI fact_wf fact_lay) fact_mr) fact_rd) fact_nt) fact_st) fact_st2) fact_kn) fact_kn2) fact_inp) fact_unf) fact_rec) fact_nam) fact_mps) fact_ifs) fact_mpo) fact_lps) fact_wks) fact_vrd) fact_rst) fact_ifo) fact_lpo) fact_pk) fact_sht) fact_sth) fact_may) fact_lft) fact_mk) fact_knd) fact_pin) fact_vei) fact_vef)

theorem holds : Rows.BookMagicSaid :=
  OpenClaim.holds_of_cond 3 Tryz.f3 rfl rfl rfl rfl rfl rfl rfl ⟨rfl, rfl, rfl, rfl, rfl⟩ rfl rfl rfl rfl rfl fact_name Tryz.func3 closed
    (of_decide_eq_true (by kernel_rfl)) (by unfold Func.isWrapper; rw [if_neg (of_decide_eq_false (by kernel_rfl))]; exact ⟨rfl, rfl⟩)
    (fun os started H enc _ F0 => by rw [OpenClaim.pre_eq_preRow]; exact lifted os started H enc F0)

theorem proved : Rows.BookMagicCardSaid :=
  Claim7.holds_tied_plain_at .later [] [.data, .pinned] true Rows.bookMagicCard.stood.harness false
    holds (fun _ h => by cases h) fact_text (fun _ h => by cases h) bookMagic_row_tie rfl ⟨rfl, rfl⟩ fact_main rfl
    (fun f fn hf hfn => by
      obtain rfl : f = 3 := (Option.some.inj (fact_name.symm.trans hf)).symm
      obtain rfl : fn = Tryz.f3 := (Option.some.inj (Tryz.func3.symm.trans hfn)).symm
      exact ⟨fact_looks, fun j t ht => by
        rw [Tryz.params3] at ht
        have h3 : t = 22 ∨ t = 5 := by
          have hm := Array.mem_of_getElem? ht
          simpa using hm
        rcases h3 with rfl | rfl
        · exact (show Tryz.prog.wantsStandIn 22 = false by kernel_rfl)
        · exact (show Tryz.prog.wantsStandIn 5 = false by kernel_rfl)⟩)
    fact_goes
end Go.Proofs.YtcnangcbffoabaaGreatDoor.bookMagic
