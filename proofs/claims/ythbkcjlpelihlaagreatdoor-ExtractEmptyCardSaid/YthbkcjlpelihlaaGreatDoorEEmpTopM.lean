/- ExtractEmpty: for every input the law returns true, and its arguments read as they did; what the five listed tables of the library hold is tied to the program's text (given). No other condition. -/
import Derived.Test.YthbkcjlpelihlaaGreatDoorRows
import Derived.Test.YthbkcjlpelihlaaGreatDoorCards
import Derived.Test.YthbkcjlpelihlaaGreatDoorTie
import Derived.Test.YthbkcjlpelihlaaGreatDoorEEmpWM
import Derived.Test.YthbkcjlpelihlaaGreatDoorGAX
import Derived.Test.YthbkcjlpelihlaaGreatDoorEEmpFaM
import Derived.Test.YthbkcjlpelihlaaGreatDoorEEmpFbM
import Derived.Test.YthbkcjlpelihlaaGreatDoorEEmpFcM
import Derived.Test.YthbkcjlpelihlaaGreatDoorEEmpFdM
import Derived.Test.YthbkcjlpelihlaaGreatDoorEEmpFeM
import Derived.Test.YthbkcjlpelihlaaGreatDoorEEmpFfM
import Derived.Test.YthbkcjlpelihlaaGreatDoorEEmpFgM
import Derived.Test.YthbkcjlpelihlaaGreatDoorEEmpFhM
import Derived.Test.YthbkcjlpelihlaaGreatDoorEEmpFiM
import Derived.Test.YthbkcjlpelihlaaGreatDoorEEmpFjM
import Derived.Lib.LaidIn
import Derived.Lib.LaidU8T
import Derived.Deep.DeepHandedRow
import Derived.Deep.DeepWitnessRowRef
import Derived.ProofKit
import Derived.SizedLaws
import Derived.PinnedBridge
import Derived.SevenTiedAt
import Derived.OpenShut
import Derived.ShutString
import Derived.ChangeOld
import Derived.Deep.Grids
namespace Go.Proofs.YthbkcjlpelihlaaGreatDoor.extractEmpty
open Go.ChangeShapes Go.WideShapes Go.ChangeAt Go.RowKit Go.Lib Go.Shelf
open Go.ChangeMaps (open_string shut_string)
set_option linter.unusedVariables false

theorem own : ownKnob Tryz.prog.godebug = none := by kernel_rfl
theorem laidOut : laidOutB Tryz.prog = true := by kernel_rfl

noncomputable def laidWorld (os : Os) : World :=
  let w0 := World.holding Tryz.prog os ⟨#[], #[], []⟩
  let put (h : Array Obj) (g : Nat) (cs : Array Value) : Array Obj := h.modify g fun
    | .cells _ t frozen => .cells cs t frozen
    | o => o
  let h1 := put w0.heap 0 (Lib.firstTab.map fun z => Value.int .u8 z).toArray
  let h2 := put h1 1 ((List.range 16).flatMap fun i => [Value.int .u8 (Lib.accLo i), Value.int .u8 (Lib.accHi i)]).toArray
  let h3 := put h2 4 #[.int .u8 0, .int .u8 1, .int .u8 28, .int .u8 2, .int .u8 29, .int .u8 14, .int .u8 24, .int .u8 3, .int .u8 30, .int .u8 22, .int .u8 20, .int .u8 15, .int .u8 25, .int .u8 17, .int .u8 4, .int .u8 8, .int .u8 31, .int .u8 27, .int .u8 13, .int .u8 23, .int .u8 21, .int .u8 19, .int .u8 16, .int .u8 7, .int .u8 26, .int .u8 12, .int .u8 18, .int .u8 6, .int .u8 11, .int .u8 5, .int .u8 10, .int .u8 9]
  let h4 := put h3 5 #[.int .u8 0, .int .u8 1, .int .u8 56, .int .u8 2, .int .u8 57, .int .u8 49, .int .u8 28, .int .u8 3, .int .u8 61, .int .u8 58, .int .u8 42, .int .u8 50, .int .u8 38, .int .u8 29, .int .u8 17, .int .u8 4, .int .u8 62, .int .u8 47, .int .u8 59, .int .u8 36, .int .u8 45, .int .u8 43, .int .u8 51, .int .u8 22, .int .u8 53, .int .u8 39, .int .u8 33, .int .u8 30, .int .u8 24, .int .u8 18, .int .u8 12, .int .u8 5, .int .u8 63, .int .u8 55, .int .u8 48, .int .u8 27, .int .u8 60, .int .u8 41, .int .u8 37, .int .u8 16, .int .u8 46, .int .u8 35, .int .u8 44, .int .u8 21, .int .u8 52, .int .u8 32, .int .u8 23, .int .u8 11, .int .u8 54, .int .u8 26, .int .u8 40, .int .u8 15, .int .u8 34, .int .u8 20, .int .u8 31, .int .u8 10, .int .u8 25, .int .u8 14, .int .u8 19, .int .u8 9, .int .u8 13, .int .u8 8, .int .u8 7, .int .u8 6]
  let h5 := put h4 3 #[.int .u64 1, .int .u64 10, .int .u64 100, .int .u64 1000, .int .u64 10000, .int .u64 100000, .int .u64 1000000, .int .u64 10000000, .int .u64 100000000, .int .u64 1000000000, .int .u64 10000000000, .int .u64 100000000000, .int .u64 1000000000000, .int .u64 10000000000000, .int .u64 100000000000000, .int .u64 1000000000000000, .int .u64 10000000000000000, .int .u64 100000000000000000, .int .u64 1000000000000000000, .int .u64 10000000000000000000]
  { w0 with heap := h5 }

def sp : OpenSpec := OpenSpec.ofChange Rows.extractEmptySpec

theorem laid_met (os : Os) (args : Array Value) : laidMet Tryz.prog Rows.extractEmptyRow.laid ((laidWorld os).forCall (fun _ _ => 0) ⟨#[], args, []⟩).memory :=
  (LaidIn.of_run (l := Rows.extractEmptyRow.laid) [4, 5, 3, 1, 0] 8 (by kernel_rfl) (by kernel_rfl) (by kernel_rfl) (by kernel_rfl)).met

theorem witness_row (os : Os) {H : Type} (enc : TypeId × Value → H) :
    sp.preRow enc Tryz.prog Tryz.f3 Rows.extractEmptyRow.domain false Rows.extractEmptyRow.laid ((laidWorld os).forCall (fun _ _ => 0) ⟨#[], #[.agg #[.slice none 0 0, .slice none 0 0, .string ⟨#[]⟩], .slice none 0 0, .bool false], []⟩).memory #[.agg #[.slice none 0 0, .slice none 0 0, .string ⟨#[]⟩], .slice none 0 0, .bool false] := by
  have hw : (DataW.whole enc Tryz.prog ((laidWorld os).forCall (fun _ _ => 0) ⟨#[], #[.agg #[.slice none 0 0, .slice none 0 0, .string ⟨#[]⟩], .slice none 0 0, .bool false], []⟩).memory Tryz.f3.params.toList sp.vars false (#[.agg #[.slice none 0 0, .slice none 0 0, .string ⟨#[]⟩], .slice none 0 0, .bool false] : Array Value).toList 8).map (fun x => (x.1, x.2.1)) =
      some ([.agg [.nil, .nil, .lit (.string [])], .nil, .lit (.bool false)], []) := by kernel_rfl
  obtain ⟨⟨x1, x2, x3⟩, hx, hx1⟩ := Option.map_eq_some_iff.1 hw
  simp only [Prod.mk.injEq] at hx1
  obtain ⟨rfl, rfl⟩ := hx1
  exact OpenSpec.preRow_of_cond 8 hx (by kernel_rfl) (fun k hk => by cases hk) (by kernel_rfl) (laid_met os _)

set_option maxRecDepth 100000 in
set_option maxHeartbeats 2000000 in
theorem lifted (os : Os) (started : os.Started) (H : Type) (enc : TypeId × Value → H) (F : Stop.Interp) :
    ReturnsInHanded {} Tryz.checked os 3 .any (sp.preRow enc Tryz.prog Tryz.f3 Rows.extractEmptyRow.domain false Rows.extractEmptyRow.laid) ((sp.at F).post enc Tryz.prog Tryz.f3 false true false false) := by
  refine returnsInHanded_of_row (C := Tryz.checked) (s := sp) own started (by kernel_rfl) Tryz.func3
    (witness_row_atRef (enc := enc) (C := Tryz.checked) false (laidWorld os) #[.agg #[.slice none 0 0, .slice none 0 0, .string ⟨#[]⟩], .slice none 0 0, .bool false] rfl (by kernel_rfl) (by kernel_rfl) (by kernel_rfl) (witness_row os enc)) ?_
  intro W base args ds gs before hval0 hW _ _ _ hL hsh _
  have hval : ∀ (j : Nat) t v, Tryz.f3.params[j]? = some t → args[j]? = some v → Value.okWide Tryz.prog W .any base t v := hval0
  have hW' := hW
  obtain ⟨p, q, hA0, hV0, rfl, _, _⟩ := hW
  have hA : DataW.TrodAll enc Tryz.prog W 0 (fun _ => true) true Tryz.f3.params.toList args.toList ds p := hA0
  rw [Tryz.params3] at hA hval
  obtain ⟨v0, vs0, d0, ds0, p0, q0, hargs, rfl, rfl, h0, r0⟩ := trodAll_cons hA
  obtain ⟨v1, vs1, d1, ds1, p1, q1, rfl, rfl, rfl, h1, r1⟩ := trodAll_cons r0
  obtain ⟨v2, vs2, d2, ds2, p2, q2, rfl, rfl, rfl, h2, r2⟩ := trodAll_cons r1
  obtain ⟨rfl, rfl, rfl⟩ := trodAll_nil r2
  obtain rfl : args = #[v0, v1, v2] := by cases args; simp_all
  obtain ⟨rfl, rfl⟩ := trodVars_none hV0
  obtain ⟨cs0, rfl, hz0⟩ := okWide_struct Tryz.underlying25 (hval 0 25 v0 rfl rfl)
  have k0 := h0
  have lt0 : ∀ x ∈ p0, x.block < W.heap.size := by obtain ⟨m, hm⟩ := k0; exact DataW.trod_lt m _ _ _ hm
  obtain ⟨tv0, fv0, x0, r0r, e0, w0⟩ : ∃ (tv fv : Value) (L : List Th) (root : List UInt8), cs0.toList = [tv, fv, .string ⟨root.toArray⟩] ∧ ThAt W W.heap.size tv L := by
    obtain ⟨fuel, hf⟩ := h0
    obtain ⟨tv, fv, L, root, e, hT⟩ := wo_of hf
    exact ⟨tv, fv, L, root, by simpa [Value.cells] using e, hT⟩
  obtain rfl : cs0 = #[tv0, fv0, .string ⟨r0r.toArray⟩] := by rw [← Array.toArray_toList (xs := cs0), e0]
  obtain ⟨a1, len1, cap1, rfl⟩ := okWide_slice Tryz.underlying26 (hval 1 26 v1 rfl rfl)
  have k1 := h1
  have lt1 : ∀ x ∈ p1, x.block < W.heap.size := by obtain ⟨m, hm⟩ := k1; exact DataW.trod_lt m _ _ _ hm
  obtain ⟨x1, w1⟩ : ∃ x, Sl W (.slice a1 len1 cap1) (bv x) := by
    obtain ⟨fuel, hf⟩ := h1
    rcases open_ints Tryz.underlying26 Tryz.underlying5 (by kernel_rfl) hf with ⟨hcs, _⟩ | ⟨x, l, c, zs, hcs, _, hl, hm, hz, _, hcell, hwz⟩
    · simp [Value.cells] at hcs
      obtain ⟨rfl, rfl, rfl⟩ := hcs
      exact open_bytes (.inl ⟨rfl, rfl, rfl, (rfl : ([] : List Int) = [])⟩)
    · simp [Value.cells] at hcs
      obtain ⟨rfl, rfl, rfl⟩ := hcs
      exact open_bytes (.inr ⟨_, rfl, hl, hm, by simpa using hz, hcell, hwz⟩)
  obtain ⟨x2, rfl, rfl, rfl⟩ := open_bool Tryz.underlying4 (hval 2 4 v2 rfl rfl) h2
  clear hA0 hV0 hval0
  have h1 : Rows.laid_unicode_utf8_first = firstData := Pinned.utf8First_eq
  have h2 : Rows.laid_unicode_utf8_acceptRanges = acceptData := by kernel_rfl
  have e1 := Lib.laidMet.reads hL (.tail _ (.tail _ (.tail _ (.tail _ (.head _)))))
  have e2 := Lib.laidMet.reads hL (.tail _ (.tail _ (.tail _ (.head _))))
  have htab : Lib.Utf8Tabs 0 1 W :=
    utf8Tabs_of_readsT (U8Types.of196 Tryz.lays196) ⟨by kernel_rfl, by kernel_rfl, by kernel_rfl, by kernel_rfl, by kernel_rfl, by kernel_rfl, by kernel_rfl⟩ (h1 ▸ e1) (h2 ▸ e2)
  have hml : ∃ m, W.cell? ⟨2, 0, none⟩ = some (.int .i64 m) := Tryz.laysM145.s1_3 W hsh
  have hG : Gl W := ⟨htab, hml, by obtain ⟨m, hm⟩ := hml; have := World.block_lt_of_cell? _ _ hm; dsimp only at this; omega⟩
  refine (walk_ExtractEmpty W tv0 fv0 x0 r0r _ x1 x2 hG w0 w1).mono ?_
  rintro e W' ⟨rfl, hfr⟩
  have bel := hfr.below
  exact ⟨_, rfl, _, _, _, [], _, [], hW', trodAll_mk1 (shut_bool Tryz.underlying4 _), (trodAll_cons_mk (Below.trod laidOut (by kernel_rfl) (of_decide_eq_true (by kernel_rfl)) k0 bel lt0) (trodAll_cons_mk (Below.trod laidOut (by kernel_rfl) (of_decide_eq_true (by kernel_rfl)) k1 bel lt1) (trodAll_cons_mk (shut_bool Tryz.underlying4 x2) trodAll_mk0))), rfl, bel.frame _, fun h => by cases h⟩

theorem andI {a b : Bool} (h : a = true) (k : b = true) : (a && b) = true := by rw [h, k]; rfl
set_option maxRecDepth 100000 in
theorem closed : joinedFacts Tryz.pinned.checked.prog 3 Tryz.f3 (OpenSpec.ofChange Rows.extractEmptySpec).bare Rows.extractEmptyRow = true := by
  unfold joinedFacts
  exact (andI (andI (andI (andI (andI (andI (andI (andI (andI (andI (andI (andI (andI (andI (andI (andI (andI (andI (andI (andI (andI (andI (andI (andI (andI (andI (andI (andI (andI (andI (andI fact_wf fact_lay) fact_mr) fact_rd) fact_nt) fact_st) fact_st2) fact_kn) fact_kn2) fact_inp) fact_unf) fact_rec) fact_nam) fact_mps) fact_ifs) fact_mpo) fact_lps) fact_wks) fact_vrd) fact_rst) fact_ifo) fact_lpo) fact_pk) fact_sht) fact_sth) fact_may) fact_lft) fact_mk) fact_knd) fact_pin) fact_vei) fact_vef)

theorem holds : Rows.ExtractEmptySaid :=
  OpenClaim.holds_of_cond 3 Tryz.f3 rfl rfl rfl rfl rfl rfl rfl ⟨rfl, rfl, rfl, rfl, rfl⟩ rfl rfl rfl rfl rfl fact_name Tryz.func3 closed
    (of_decide_eq_true (by kernel_rfl)) (by unfold Func.isWrapper; rw [if_neg (of_decide_eq_false (by kernel_rfl))]; exact ⟨rfl, rfl⟩)
    (fun os started H enc _ F0 => by rw [OpenClaim.pre_eq_preRow]; exact lifted os started H enc F0)

theorem proved : Rows.ExtractEmptyCardSaid :=
  Claim7.holds_tied_plain_at .later [] [.data, .data, .data, .data, .pinned] true Rows.extractEmptyCard.stood.harness true
    holds (fun _ h => by cases h) fact_text (fun _ h => by cases h) extractEmpty_row_tie rfl ⟨rfl, rfl⟩ fact_main rfl
    (fun f fn hf hfn => by
      obtain rfl : f = 3 := (Option.some.inj (fact_name.symm.trans hf)).symm
      obtain rfl : fn = Tryz.f3 := (Option.some.inj (Tryz.func3.symm.trans hfn)).symm
      exact ⟨fact_looks, fun j t ht => by
        rw [Tryz.params3] at ht
        have h3 : t = 25 ∨ t = 26 ∨ t = 4 := by
          have hm := Array.mem_of_getElem? ht
          simpa using hm
        rcases h3 with rfl | rfl | rfl
        · exact (show Tryz.prog.wantsStandIn 25 = false by kernel_rfl)
        · exact (show Tryz.prog.wantsStandIn 26 = false by kernel_rfl)
        · exact (show Tryz.prog.wantsStandIn 4 = false by kernel_rfl)⟩)
    fact_goes
end Go.Proofs.YthbkcjlpelihlaaGreatDoor.extractEmpty
