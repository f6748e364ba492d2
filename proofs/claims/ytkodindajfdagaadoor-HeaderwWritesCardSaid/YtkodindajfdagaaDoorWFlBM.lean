/- The reference's files: one round. No condition but that lengths fit. -/
import Derived.Test.YtkodindajfdagaaDoorGAV
namespace Go.Proofs.YtkodindajfdagaaDoor
open Go.RowKit
set_option linter.unusedVariables false

noncomputable def fc (l : List Bool) : Code := cpart l (Tryd.f15.body.getD .skip)
/-- The rows' values. -/
structure FV where
  v3 : Value
  v4 : Value
  v5 : Value
  v6 : Value
  v7 : Value
  v8 : Value
  v9 : Value
  v10 : Value
/-- What was gathered. -/
structure FD where
  b : List UInt8
  e : List Bool
  p : List Bool
  tm : List Bool
  td : List Bool
  tx : List UInt8
  ts : List UInt8
  at_ : List UInt8
  ap : Bool
  atm : Bool
  aat : Bool
def R8 (V : FV) (D : FD) : List RowD := [bR V.v3 D.b, tR V.v4 D.e, tR V.v5 D.p, tR V.v6 D.tm, tR V.v7 D.td, bR V.v8 D.tx, bR V.v9 D.ts, bR V.v10 D.at_]
/-- It is not too long. -/
structure FD.Ok (D : FD) : Prop where
  b : D.b.length ≤ 500000000
  e : D.e.length ≤ 500000000
  p : D.p.length ≤ 500000000
  tm : D.tm.length ≤ 500000000
  td : D.td.length ≤ 500000000
  tx : D.tx.length ≤ 500000000
  ts : D.ts.length ≤ 500000000
  at_ : D.at_.length ≤ 500000000
def FS (w0 : World) (lv : Value) (D : FD) (i : Nat) (a : Act) (w' : World) : Prop :=
  ∃ A V, a = ⟨A, []⟩ ∧ A.size = 137 ∧ Slots A [(0, lv), (3, V.v3), (4, V.v4), (5, V.v5), (6, V.v6), (7, V.v7), (8, V.v8), (9, V.v9), (10, V.v10), (11, .bool D.ap), (12, .bool D.atm), (13, .bool D.aat), (14, .int .i64 (i : Int))] ∧ OwnL w0.heap.size w' (R8 V D) ∧ Fr [] w0 w'
def FSx (w0 : World) (lv : Value) (D : FD) (i g : Nat) (x : Fil) (a : Act) (w' : World) : Prop :=
  ∃ A V, a = ⟨A, []⟩ ∧ A.size = 137 ∧ Slots A [(0, lv), (3, V.v3), (4, V.v4), (5, V.v5), (6, V.v6), (7, V.v7), (8, V.v8), (9, V.v9), (10, V.v10), (11, .bool D.ap), (12, .bool D.atm), (13, .bool D.aat), (14, .int .i64 (i : Int)), (15, .pointer (some ⟨g, 0, none⟩))] ∧ OwnL w0.heap.size w' (R8 V D) ∧ Fr [] w0 w' ∧ w'.heap[g]? = some (.cells #[.string ⟨x.name.toArray⟩, .bool x.stream, .bool x.dir, .bool x.hasAttr, .int .u32 x.attr.toNat, .bool x.hasTime, .int .u64 x.time.toNat] 39 (0, 0))
def FSu (w0 : World) (lv : Value) (D : FD) (i g : Nat) (x : Fil) (u : Value) (us : List Nat) (a : Act) (w' : World) : Prop :=
  ∃ A V, a = ⟨A, []⟩ ∧ A.size = 137 ∧ Slots A [(0, lv), (3, V.v3), (4, V.v4), (5, V.v5), (6, V.v6), (7, V.v7), (8, V.v8), (9, V.v9), (10, V.v10), (11, .bool D.ap), (12, .bool D.atm), (13, .bool D.aat), (14, .int .i64 (i : Int)), (15, .pointer (some ⟨g, 0, none⟩)), (16, u)] ∧ OwnL w0.heap.size w' (R8 V D) ∧ Fr [] w0 w' ∧ w'.heap[g]? = some (.cells #[.string ⟨x.name.toArray⟩, .bool x.stream, .bool x.dir, .bool x.hasAttr, .int .u32 x.attr.toNat, .bool x.hasTime, .int .u64 x.time.toNat] 39 (0, 0)) ∧ w'.ownsRow w0.heap.size 64 1 u us.length (hv us)
def FSk (w0 : World) (lv : Value) (D : FD) (i g : Nat) (x : Fil) (u : Value) (us : List Nat) (k : Nat) (a : Act) (w' : World) : Prop :=
  ∃ A V, a = ⟨A, []⟩ ∧ A.size = 137 ∧ Slots A [(0, lv), (3, V.v3), (4, V.v4), (5, V.v5), (6, V.v6), (7, V.v7), (8, V.v8), (9, V.v9), (10, V.v10), (11, .bool D.ap), (12, .bool D.atm), (13, .bool D.aat), (14, .int .i64 (i : Int)), (15, .pointer (some ⟨g, 0, none⟩)), (16, u), (18, .int .i64 (k : Int))] ∧ OwnL w0.heap.size w' (R8 V D) ∧ Fr [] w0 w' ∧ w'.heap[g]? = some (.cells #[.string ⟨x.name.toArray⟩, .bool x.stream, .bool x.dir, .bool x.hasAttr, .int .u32 x.attr.toNat, .bool x.hasTime, .int .u64 x.time.toNat] 39 (0, 0)) ∧ w'.ownsRow w0.heap.size 64 1 u us.length (hv us)

theorem fil_cells {w : World} {g : Nat} {x : Fil} (h : w.heap[g]? = some (.cells #[.string ⟨x.name.toArray⟩, .bool x.stream, .bool x.dir, .bool x.hasAttr, .int .u32 x.attr.toNat, .bool x.hasTime, .int .u64 x.time.toNat] 39 (0, 0))) :
    w.cell? ⟨g, 0, none⟩ = some (.string ⟨x.name.toArray⟩) ∧ w.cell? ⟨g, 1, none⟩ = some (.bool x.stream) ∧ w.cell? ⟨g, 2, none⟩ = some (.bool x.dir) ∧ w.cell? ⟨g, 3, none⟩ = some (.bool x.hasAttr) ∧ w.cell? ⟨g, 4, none⟩ = some (.int .u32 x.attr.toNat) ∧ w.cell? ⟨g, 5, none⟩ = some (.bool x.hasTime) ∧ w.cell? ⟨g, 6, none⟩ = some (.int .u64 x.time.toNat) :=
  ⟨by simp [Go.Joins.cell_of_block h], by simp [Go.Joins.cell_of_block h], by simp [Go.Joins.cell_of_block h], by simp [Go.Joins.cell_of_block h], by simp [Go.Joins.cell_of_block h], by simp [Go.Joins.cell_of_block h], by simp [Go.Joins.cell_of_block h]⟩
theorem heap_keep {w w' : World} {g : Nat} {o : Obj} (F : Fr [] w w') (h : w.heap[g]? = some o) : w'.heap[g]? = some o := (F.block g (Array.getElem?_eq_some_iff.1 h).1 (by simp)).trans h

set_option maxRecDepth 100000 in
set_option maxHeartbeats 1000000 in
/-- Whether it has no stream. -/
theorem fl_empty {w0 : World} {lv : Value} {D : FD} {i g : Nat} {x : Fil} (hD : D.Ok) (a : Act) (w : World) (hS : FSx w0 lv D i g x a w) :
    (fc [true, true, true, true, true, true, true, true, true, true, true, true, false, true, false, false, true, false, false, true, false]).wp Tryd.prog (Only (FSx w0 lv { D with e := D.e ++ [!x.stream] } i g x)) a w := by
  obtain ⟨A, V, rfl, hz, ⟨h0, h3, h4, h5, h6, h7, h8, h9, h10, h11, h12, h13, h14, h15, -⟩, H, FA, B15⟩ := hS
  obtain ⟨c0, c1, c2, c3, c4, c5, c6⟩ := fil_cells B15
  have HD := Lib.hid hD
  clear hD
  have HH := Lib.hid H
  have HF := Lib.hid FA
  have HB := Lib.hid B15
  clear H FA B15 
  conv => arg 2; whnf
  refine only_hide fun R HR => ?_
  go_wp2_with (at_builtin; refine wpList_append_rt sty_boolW rfl (.tmp 35) (.tmp 39) (by rfl) (HH.out.fr ((Fr.refl _ _).alloc _)) 1 rfl (by go_simp) _ [!x.stream] (by go_simp) (sl_one _ _ _) (Nat.le_trans HF.out.size ((Fr.refl [] _).alloc _).size) (by have := HD.out.e; simp only [List.length_cons, List.length_nil]; omega) ?_; intro v7 w7 H7 F7)
  exact only_mk (HR.out _ _ ⟨_, { V with v4 := v7 }, rfl, by simp [hz], ⟨fun _ => by simp [slot_set, h0], fun _ => by simp [slot_set, h3], fun _ => by simp, fun _ => by simp [slot_set, h5], fun _ => by simp [slot_set, h6], fun _ => by simp [slot_set, h7], fun _ => by simp [slot_set, h8], fun _ => by simp [slot_set, h9], fun _ => by simp [slot_set, h10], fun _ => by simp [slot_set, h11], fun _ => by simp [slot_set, h12], fun _ => by simp [slot_set, h13], fun _ => by simp [slot_set, h14], fun _ => by simp [slot_set, h15], trivial⟩, H7, (HH.out.fr ((Fr.refl _ _).alloc _)).above (i := 1) rfl (HF.out.alloc _) F7, (HH.out.fr ((Fr.refl _ _).alloc _)).far (i := 1) rfl F7 (heap_keep ((Fr.refl _ _).alloc _) HB.out) (show 4 ≠ 39 from by decide)⟩)

set_option maxRecDepth 100000 in
set_option maxHeartbeats 1000000 in
/-- Whether it has a time. -/
theorem fl_timed {w0 : World} {lv : Value} {D : FD} {i g : Nat} {x : Fil} (hD : D.Ok) (a : Act) (w : World) (hS : FSx w0 lv D i g x a w) :
    (fc [true, true, true, true, true, true, true, true, true, true, true, true, false, true, false, false, true, false, false, true, true, true, true, true, true, false]).wp Tryd.prog (Only (FSx w0 lv { D with tm := D.tm ++ [x.hasTime] } i g x)) a w := by
  obtain ⟨A, V, rfl, hz, ⟨h0, h3, h4, h5, h6, h7, h8, h9, h10, h11, h12, h13, h14, h15, -⟩, H, FA, B15⟩ := hS
  obtain ⟨c0, c1, c2, c3, c4, c5, c6⟩ := fil_cells B15
  have HD := Lib.hid hD
  clear hD
  have HH := Lib.hid H
  have HF := Lib.hid FA
  have HB := Lib.hid B15
  clear H FA B15 
  conv => arg 2; whnf
  refine only_hide fun R HR => ?_
  go_wp2_with (at_builtin; refine wpList_append_rt sty_boolW rfl (.tmp 78) (.tmp 81) (by rfl) (HH.out.fr ((Fr.refl _ _).alloc _)) 3 rfl (by go_simp) _ [x.hasTime] (by go_simp) (sl_one _ _ _) (Nat.le_trans HF.out.size ((Fr.refl [] _).alloc _).size) (by have := HD.out.tm; simp only [List.length_cons, List.length_nil]; omega) ?_; intro v7 w7 H7 F7)
  exact only_mk (HR.out _ _ ⟨_, { V with v6 := v7 }, rfl, by simp [hz], ⟨fun _ => by simp [slot_set, h0], fun _ => by simp [slot_set, h3], fun _ => by simp [slot_set, h4], fun _ => by simp [slot_set, h5], fun _ => by simp, fun _ => by simp [slot_set, h7], fun _ => by simp [slot_set, h8], fun _ => by simp [slot_set, h9], fun _ => by simp [slot_set, h10], fun _ => by simp [slot_set, h11], fun _ => by simp [slot_set, h12], fun _ => by simp [slot_set, h13], fun _ => by simp [slot_set, h14], fun _ => by simp [slot_set, h15], trivial⟩, H7, (HH.out.fr ((Fr.refl _ _).alloc _)).above (i := 3) rfl (HF.out.alloc _) F7, (HH.out.fr ((Fr.refl _ _).alloc _)).far (i := 3) rfl F7 (heap_keep ((Fr.refl _ _).alloc _) HB.out) (show 4 ≠ 39 from by decide)⟩)

set_option maxRecDepth 100000 in
set_option maxHeartbeats 1000000 in
/-- Whether it has an attribute. -/
theorem fl_told {w0 : World} {lv : Value} {D : FD} {i g : Nat} {x : Fil} (hD : D.Ok) (a : Act) (w : World) (hS : FSx w0 lv D i g x a w) :
    (fc [true, true, true, true, true, true, true, true, true, true, true, true, false, true, false, false, true, false, false, true, true, true, true, true, true, true, false]).wp Tryd.prog (Only (FSx w0 lv { D with td := D.td ++ [x.hasAttr] } i g x)) a w := by
  obtain ⟨A, V, rfl, hz, ⟨h0, h3, h4, h5, h6, h7, h8, h9, h10, h11, h12, h13, h14, h15, -⟩, H, FA, B15⟩ := hS
  obtain ⟨c0, c1, c2, c3, c4, c5, c6⟩ := fil_cells B15
  have HD := Lib.hid hD
  clear hD
  have HH := Lib.hid H
  have HF := Lib.hid FA
  have HB := Lib.hid B15
  clear H FA B15 
  conv => arg 2; whnf
  refine only_hide fun R HR => ?_
  go_wp2_with (at_builtin; refine wpList_append_rt sty_boolW rfl (.tmp 83) (.tmp 86) (by rfl) (HH.out.fr ((Fr.refl _ _).alloc _)) 4 rfl (by go_simp) _ [x.hasAttr] (by go_simp) (sl_one _ _ _) (Nat.le_trans HF.out.size ((Fr.refl [] _).alloc _).size) (by have := HD.out.td; simp only [List.length_cons, List.length_nil]; omega) ?_; intro v7 w7 H7 F7)
  exact only_mk (HR.out _ _ ⟨_, { V with v7 := v7 }, rfl, by simp [hz], ⟨fun _ => by simp [slot_set, h0], fun _ => by simp [slot_set, h3], fun _ => by simp [slot_set, h4], fun _ => by simp [slot_set, h5], fun _ => by simp [slot_set, h6], fun _ => by simp, fun _ => by simp [slot_set, h8], fun _ => by simp [slot_set, h9], fun _ => by simp [slot_set, h10], fun _ => by simp [slot_set, h11], fun _ => by simp [slot_set, h12], fun _ => by simp [slot_set, h13], fun _ => by simp [slot_set, h14], fun _ => by simp [slot_set, h15], trivial⟩, H7, (HH.out.fr ((Fr.refl _ _).alloc _)).above (i := 4) rfl (HF.out.alloc _) F7, (HH.out.fr ((Fr.refl _ _).alloc _)).far (i := 4) rfl F7 (heap_keep ((Fr.refl _ _).alloc _) HB.out) (show 4 ≠ 39 from by decide)⟩)

set_option maxRecDepth 100000 in
set_option maxHeartbeats 1000000 in
/-- Whether it is plain. -/
theorem fl_plain1 {w0 : World} {lv : Value} {D : FD} {i g : Nat} {x : Fil} (hD : D.Ok) (a : Act) (w : World) (hS : FSx w0 lv D i g x a w) :
    (fc [true, true, true, true, true, true, true, true, true, true, true, true, false, true, false, false, true, false, false, true, true, false, true, false, false]).wp Tryd.prog (Only (FSx w0 lv { D with p := D.p ++ [!x.dir] } i g x)) a w := by
  obtain ⟨A, V, rfl, hz, ⟨h0, h3, h4, h5, h6, h7, h8, h9, h10, h11, h12, h13, h14, h15, -⟩, H, FA, B15⟩ := hS
  obtain ⟨c0, c1, c2, c3, c4, c5, c6⟩ := fil_cells B15
  have HD := Lib.hid hD
  clear hD
  have HH := Lib.hid H
  have HF := Lib.hid FA
  have HB := Lib.hid B15
  clear H FA B15 
  conv => arg 2; whnf
  refine only_hide fun R HR => ?_
  go_wp2_with (at_builtin; refine wpList_append_rt sty_boolW rfl (.tmp 44) (.tmp 48) (by rfl) (HH.out.fr ((Fr.refl _ _).alloc _)) 2 rfl (by go_simp) _ [!x.dir] (by go_simp) (sl_one _ _ _) (Nat.le_trans HF.out.size ((Fr.refl [] _).alloc _).size) (by have := HD.out.p; simp only [List.length_cons, List.length_nil]; omega) ?_; intro v7 w7 H7 F7)
  exact only_mk (HR.out _ _ ⟨_, { V with v5 := v7 }, rfl, by simp [hz], ⟨fun _ => by simp [slot_set, h0], fun _ => by simp [slot_set, h3], fun _ => by simp [slot_set, h4], fun _ => by simp, fun _ => by simp [slot_set, h6], fun _ => by simp [slot_set, h7], fun _ => by simp [slot_set, h8], fun _ => by simp [slot_set, h9], fun _ => by simp [slot_set, h10], fun _ => by simp [slot_set, h11], fun _ => by simp [slot_set, h12], fun _ => by simp [slot_set, h13], fun _ => by simp [slot_set, h14], fun _ => by simp [slot_set, h15], trivial⟩, H7, (HH.out.fr ((Fr.refl _ _).alloc _)).above (i := 2) rfl (HF.out.alloc _) F7, (HH.out.fr ((Fr.refl _ _).alloc _)).far (i := 2) rfl F7 (heap_keep ((Fr.refl _ _).alloc _) HB.out) (show 4 ≠ 39 from by decide)⟩)

set_option maxRecDepth 100000 in
set_option maxHeartbeats 1000000 in
/-- Whether one is plain. -/
theorem fl_plain2 {w0 : World} {lv : Value} {D : FD} {i g : Nat} {x : Fil}  (a : Act) (w : World) (hS : FSx w0 lv D i g x a w) :
    (fc [true, true, true, true, true, true, true, true, true, true, true, true, false, true, false, false, true, false, false, true, true, false, true, false, true]).wp Tryd.prog (Only (FSx w0 lv { D with ap := D.ap || !x.dir } i g x)) a w := by
  obtain ⟨A, V, rfl, hz, ⟨h0, h3, h4, h5, h6, h7, h8, h9, h10, h11, h12, h13, h14, h15, -⟩, H, FA, B15⟩ := hS
  obtain ⟨c0, c1, c2, c3, c4, c5, c6⟩ := fil_cells B15
  have HH := Lib.hid H
  have HF := Lib.hid FA
  have HB := Lib.hid B15
  clear H FA B15 
  conv => arg 2; whnf
  obtain ⟨Db, De, Dp, Dtm, Dtd, Dtx, Dts, Dat, ap, atm, aat⟩ := D
  dsimp only at *
  cases ap with
  | true =>
    refine only_hide fun R HR => ?_
    go_wp2_with fail
    exact only_mk (HR.out _ _ ⟨_, V, rfl, by simp [hz], ⟨fun _ => by simp [slot_set, h0], fun _ => by simp [slot_set, h3], fun _ => by simp [slot_set, h4], fun _ => by simp [slot_set, h5], fun _ => by simp [slot_set, h6], fun _ => by simp [slot_set, h7], fun _ => by simp [slot_set, h8], fun _ => by simp [slot_set, h9], fun _ => by simp [slot_set, h10], fun _ => by simp, fun _ => by simp [slot_set, h12], fun _ => by simp [slot_set, h13], fun _ => by simp [slot_set, h14], fun _ => by simp [slot_set, h15], trivial⟩, HH.out, HF.out, HB.out⟩)
  | false =>
    refine only_hide fun R HR => ?_
    go_wp2_with fail
    exact only_mk (HR.out _ _ ⟨_, V, rfl, by simp [hz], ⟨fun _ => by simp [slot_set, h0], fun _ => by simp [slot_set, h3], fun _ => by simp [slot_set, h4], fun _ => by simp [slot_set, h5], fun _ => by simp [slot_set, h6], fun _ => by simp [slot_set, h7], fun _ => by simp [slot_set, h8], fun _ => by simp [slot_set, h9], fun _ => by simp [slot_set, h10], fun _ => by simp, fun _ => by simp [slot_set, h12], fun _ => by simp [slot_set, h13], fun _ => by simp [slot_set, h14], fun _ => by simp [slot_set, h15], trivial⟩, HH.out, HF.out, HB.out⟩)

set_option maxRecDepth 100000 in
set_option maxHeartbeats 1000000 in
theorem fl_if17 {w0 : World} {lv : Value} {D : FD} {i g : Nat} {x : Fil} (hD : D.Ok) (a : Act) (w : World) (hS : FSx w0 lv D i g x a w) :
    (fc [true, true, true, true, true, true, true, true, true, true, true, true, false, true, false, false, true, false, false, true, true, false]).wp Tryd.prog (Only (FSx w0 lv (if x.stream then D else { D with p := D.p ++ [!x.dir], ap := D.ap || !x.dir }) i g x)) a w := by
  conv => arg 2; whnf
  refine only_seq (R := fun a' w' => a'.eval (.tmp 43) = .bool (!x.stream) ∧ FSx w0 lv D i g x a' w') ?_ ?_
  · obtain ⟨A, V, rfl, hz, ⟨h0, h3, h4, h5, h6, h7, h8, h9, h10, h11, h12, h13, h14, h15, -⟩, H, FA, B15⟩ := hS
    obtain ⟨c0, c1, c2, c3, c4, c5, c6⟩ := fil_cells B15
    have HH := Lib.hid H
    have HF := Lib.hid FA
    have HB := Lib.hid B15
    clear H FA B15 
    refine only_hide fun R HR => ?_
    go_wp2_with fail
    exact only_mk (HR.out _ _ ⟨by simp [Act.eval, hz], _, V, rfl, by simp [hz], ⟨fun _ => by simp [slot_set, h0], fun _ => by simp [slot_set, h3], fun _ => by simp [slot_set, h4], fun _ => by simp [slot_set, h5], fun _ => by simp [slot_set, h6], fun _ => by simp [slot_set, h7], fun _ => by simp [slot_set, h8], fun _ => by simp [slot_set, h9], fun _ => by simp [slot_set, h10], fun _ => by simp [slot_set, h11], fun _ => by simp [slot_set, h12], fun _ => by simp [slot_set, h13], fun _ => by simp [slot_set, h14], fun _ => by simp [slot_set, h15], trivial⟩, HH.out, HF.out, HB.out⟩)
  clear hS a w
  rintro a w ⟨he, h⟩
  cases hst : x.stream with
  | true =>
    rw [hst] at he
    exact wp_cond_false he (wp_skip (only_mk h))
  | false =>
    rw [hst] at he
    exact wp_cond_true he (only_seq (fl_plain1 hD a w h) (fun a w h => fl_plain2 a w h))

set_option maxRecDepth 100000 in
set_option maxHeartbeats 1000000 in
theorem fl_if28a {w0 : World} {lv : Value} {D : FD} {i g : Nat} {x : Fil}  (a : Act) (w : World) (hS : FSx w0 lv D i g x a w) :
    (fc [true, true, true, true, true, true, true, true, true, true, true, true, false, true, false, false, true, false, false, true, true, true, true, true, true, true, true, false, true, false, false]).wp Tryd.prog (Only (FSx w0 lv { D with atm := true } i g x)) a w := by
  obtain ⟨A, V, rfl, hz, ⟨h0, h3, h4, h5, h6, h7, h8, h9, h10, h11, h12, h13, h14, h15, -⟩, H, FA, B15⟩ := hS
  obtain ⟨c0, c1, c2, c3, c4, c5, c6⟩ := fil_cells B15
  have HH := Lib.hid H
  have HF := Lib.hid FA
  have HB := Lib.hid B15
  clear H FA B15 
  conv => arg 2; whnf
  refine only_hide fun R HR => ?_
  go_wp2_with fail
  exact only_mk (HR.out _ _ ⟨_, V, rfl, by simp [hz], ⟨fun _ => by simp [slot_set, h0], fun _ => by simp [slot_set, h3], fun _ => by simp [slot_set, h4], fun _ => by simp [slot_set, h5], fun _ => by simp [slot_set, h6], fun _ => by simp [slot_set, h7], fun _ => by simp [slot_set, h8], fun _ => by simp [slot_set, h9], fun _ => by simp [slot_set, h10], fun _ => by simp [slot_set, h11], fun _ => by simp, fun _ => by simp [slot_set, h13], fun _ => by simp [slot_set, h14], fun _ => by simp [slot_set, h15], trivial⟩, HH.out, HF.out, HB.out⟩)

set_option maxRecDepth 100000 in
set_option maxHeartbeats 1000000 in
/-- A time. -/
theorem fl_if28b {w0 : World} {lv : Value} {D : FD} {i g : Nat} {x : Fil} (hD : D.Ok) (a : Act) (w : World) (hS : FSx w0 lv D i g x a w) :
    (fc [true, true, true, true, true, true, true, true, true, true, true, true, false, true, false, false, true, false, false, true, true, true, true, true, true, true, true, false, true, false, true]).wp Tryd.prog (Only (FSx w0 lv { D with ts := D.ts ++ leBytes 8 x.time.toNat } i g x)) a w := by
  obtain ⟨A, V, rfl, hz, ⟨h0, h3, h4, h5, h6, h7, h8, h9, h10, h11, h12, h13, h14, h15, -⟩, H, FA, B15⟩ := hS
  obtain ⟨c0, c1, c2, c3, c4, c5, c6⟩ := fil_cells B15
  have HD := Lib.hid hD
  clear hD
  have HH := Lib.hid H
  have HF := Lib.hid FA
  have HB := Lib.hid B15
  clear H FA B15 
  have HPE := Lib.hid (put_le D.ts 8 x.time.toNat (by decide))
  have hn64 : x.time.toNat < 18446744073709551616 := by have := x.time.toNat_lt; omega
  conv => arg 2; whnf
  refine only_hide fun R HR => ?_
  go_wp2_with (go_at_call 33; refine (refput_any _ _ D.ts 8 x.time.toNat (Sl.of_own (HH.out.own 6 _ rfl)) (by have := HD.out.ts; omega) hn64).mono ?_; rintro e w7 hNB; rw [show put D.ts 8 x.time.toNat = D.ts ++ leBytes 8 x.time.toNat from HPE.out] at hNB; obtain ⟨r7, rfl, H7, F7⟩ := HH.out.new_ (i := 6) rfl HF.out.size hNB)
  exact only_mk (HR.out _ _ ⟨_, { V with v9 := r7 }, rfl, by simp [hz], ⟨fun _ => by simp [slot_set, h0], fun _ => by simp [slot_set, h3], fun _ => by simp [slot_set, h4], fun _ => by simp [slot_set, h5], fun _ => by simp [slot_set, h6], fun _ => by simp [slot_set, h7], fun _ => by simp [slot_set, h8], fun _ => by simp, fun _ => by simp [slot_set, h10], fun _ => by simp [slot_set, h11], fun _ => by simp [slot_set, h12], fun _ => by simp [slot_set, h13], fun _ => by simp [slot_set, h14], fun _ => by simp [slot_set, h15], trivial⟩, H7, HF.out.trans0 F7, heap_keep F7 HB.out⟩)

set_option maxRecDepth 100000 in
set_option maxHeartbeats 1000000 in
theorem fl_if28 {w0 : World} {lv : Value} {D : FD} {i g : Nat} {x : Fil} (hD : D.Ok) (a : Act) (w : World) (hS : FSx w0 lv D i g x a w) :
    (fc [true, true, true, true, true, true, true, true, true, true, true, true, false, true, false, false, true, false, false, true, true, true, true, true, true, true, true, false]).wp Tryd.prog (Only (FSx w0 lv (if x.hasTime then { D with ts := D.ts ++ leBytes 8 x.time.toNat, atm := true } else D) i g x)) a w := by
  conv => arg 2; whnf
  refine only_seq (R := fun a' w' => a'.eval (.tmp 89) = .bool x.hasTime ∧ FSx w0 lv D i g x a' w') ?_ ?_
  · obtain ⟨A, V, rfl, hz, ⟨h0, h3, h4, h5, h6, h7, h8, h9, h10, h11, h12, h13, h14, h15, -⟩, H, FA, B15⟩ := hS
    obtain ⟨c0, c1, c2, c3, c4, c5, c6⟩ := fil_cells B15
    have HH := Lib.hid H
    have HF := Lib.hid FA
    have HB := Lib.hid B15
    clear H FA B15 
    refine only_hide fun R HR => ?_
    go_wp2_with fail
    exact only_mk (HR.out _ _ ⟨by simp [Act.eval, hz], _, V, rfl, by simp [hz], ⟨fun _ => by simp [slot_set, h0], fun _ => by simp [slot_set, h3], fun _ => by simp [slot_set, h4], fun _ => by simp [slot_set, h5], fun _ => by simp [slot_set, h6], fun _ => by simp [slot_set, h7], fun _ => by simp [slot_set, h8], fun _ => by simp [slot_set, h9], fun _ => by simp [slot_set, h10], fun _ => by simp [slot_set, h11], fun _ => by simp [slot_set, h12], fun _ => by simp [slot_set, h13], fun _ => by simp [slot_set, h14], fun _ => by simp [slot_set, h15], trivial⟩, HH.out, HF.out, HB.out⟩)
  clear hS a w
  rintro a w ⟨he, h⟩
  cases hst : x.hasTime with
  | false =>
    rw [hst] at he
    exact wp_cond_false he (wp_skip (only_mk h))
  | true =>
    rw [hst] at he
    exact wp_cond_true he (only_seq (fl_if28a a w h) (fun a w h => fl_if28b (D := { D with atm := true }) ⟨hD.b, hD.e, hD.p, hD.tm, hD.td, hD.tx, hD.ts, hD.at_⟩ a w h))

set_option maxRecDepth 100000 in
set_option maxHeartbeats 1000000 in
theorem fl_if31a {w0 : World} {lv : Value} {D : FD} {i g : Nat} {x : Fil}  (a : Act) (w : World) (hS : FSx w0 lv D i g x a w) :
    (fc [true, true, true, true, true, true, true, true, true, true, true, true, false, true, false, false, true, false, false, true, true, true, true, true, true, true, true, true, true, false, false]).wp Tryd.prog (Only (FSx w0 lv { D with aat := true } i g x)) a w := by
  obtain ⟨A, V, rfl, hz, ⟨h0, h3, h4, h5, h6, h7, h8, h9, h10, h11, h12, h13, h14, h15, -⟩, H, FA, B15⟩ := hS
  obtain ⟨c0, c1, c2, c3, c4, c5, c6⟩ := fil_cells B15
  have HH := Lib.hid H
  have HF := Lib.hid FA
  have HB := Lib.hid B15
  clear H FA B15 
  conv => arg 2; whnf
  refine only_hide fun R HR => ?_
  go_wp2_with fail
  exact only_mk (HR.out _ _ ⟨_, V, rfl, by simp [hz], ⟨fun _ => by simp [slot_set, h0], fun _ => by simp [slot_set, h3], fun _ => by simp [slot_set, h4], fun _ => by simp [slot_set, h5], fun _ => by simp [slot_set, h6], fun _ => by simp [slot_set, h7], fun _ => by simp [slot_set, h8], fun _ => by simp [slot_set, h9], fun _ => by simp [slot_set, h10], fun _ => by simp [slot_set, h11], fun _ => by simp [slot_set, h12], fun _ => by simp, fun _ => by simp [slot_set, h14], fun _ => by simp [slot_set, h15], trivial⟩, HH.out, HF.out, HB.out⟩)

set_option maxRecDepth 100000 in
set_option maxHeartbeats 1000000 in
/-- An attribute. -/
theorem fl_if31b {w0 : World} {lv : Value} {D : FD} {i g : Nat} {x : Fil} (hD : D.Ok) (a : Act) (w : World) (hS : FSx w0 lv D i g x a w) :
    (fc [true, true, true, true, true, true, true, true, true, true, true, true, false, true, false, false, true, false, false, true, true, true, true, true, true, true, true, true, true, false, true]).wp Tryd.prog (Only (FSx w0 lv { D with at_ := D.at_ ++ leBytes 4 x.attr.toNat } i g x)) a w := by
  obtain ⟨A, V, rfl, hz, ⟨h0, h3, h4, h5, h6, h7, h8, h9, h10, h11, h12, h13, h14, h15, -⟩, H, FA, B15⟩ := hS
  obtain ⟨c0, c1, c2, c3, c4, c5, c6⟩ := fil_cells B15
  have HD := Lib.hid hD
  clear hD
  have HH := Lib.hid H
  have HF := Lib.hid FA
  have HB := Lib.hid B15
  clear H FA B15 
  have HPE := Lib.hid (put_le D.at_ 4 x.attr.toNat (by decide))
  have hn64 : x.attr.toNat < 18446744073709551616 := by have := x.attr.toNat_lt; omega
  have hwr : IntKind.u64.wrap (x.attr.toNat : Int) = (x.attr.toNat : Int) := by have := x.attr.toNat_lt; simp [IntKind.wrap, IntKind.bits, IntKind.signed]; omega
  conv => arg 2; whnf
  refine only_hide fun R HR => ?_
  go_wp2_with (go_at_call 33; refine (refput_any _ _ D.at_ 4 x.attr.toNat (Sl.of_own (HH.out.own 7 _ rfl)) (by have := HD.out.at_; omega) hn64).mono ?_; rintro e w7 hNB; rw [show put D.at_ 4 x.attr.toNat = D.at_ ++ leBytes 4 x.attr.toNat from HPE.out] at hNB; obtain ⟨r7, rfl, H7, F7⟩ := HH.out.new_ (i := 7) rfl HF.out.size hNB)
  exact only_mk (HR.out _ _ ⟨_, { V with v10 := r7 }, rfl, by simp [hz], ⟨fun _ => by simp [slot_set, h0], fun _ => by simp [slot_set, h3], fun _ => by simp [slot_set, h4], fun _ => by simp [slot_set, h5], fun _ => by simp [slot_set, h6], fun _ => by simp [slot_set, h7], fun _ => by simp [slot_set, h8], fun _ => by simp [slot_set, h9], fun _ => by simp, fun _ => by simp [slot_set, h11], fun _ => by simp [slot_set, h12], fun _ => by simp [slot_set, h13], fun _ => by simp [slot_set, h14], fun _ => by simp [slot_set, h15], trivial⟩, H7, HF.out.trans0 F7, heap_keep F7 HB.out⟩)

set_option maxRecDepth 100000 in
set_option maxHeartbeats 1000000 in
theorem fl_if31 {w0 : World} {lv : Value} {D : FD} {i g : Nat} {x : Fil} (hD : D.Ok) (a : Act) (w : World) (hS : FSx w0 lv D i g x a w) :
    (fc [true, true, true, true, true, true, true, true, true, true, true, true, false, true, false, false, true, false, false, true, true, true, true, true, true, true, true, true]).wp Tryd.prog (Only (FSx w0 lv (if x.hasAttr then { D with at_ := D.at_ ++ leBytes 4 x.attr.toNat, aat := true } else D) i g x)) a w := by
  conv => arg 2; whnf
  refine only_seq (R := fun a' w' => a'.eval (.tmp 95) = .bool x.hasAttr ∧ FSx w0 lv D i g x a' w') ?_ ?_
  · obtain ⟨A, V, rfl, hz, ⟨h0, h3, h4, h5, h6, h7, h8, h9, h10, h11, h12, h13, h14, h15, -⟩, H, FA, B15⟩ := hS
    obtain ⟨c0, c1, c2, c3, c4, c5, c6⟩ := fil_cells B15
    have HH := Lib.hid H
    have HF := Lib.hid FA
    have HB := Lib.hid B15
    clear H FA B15 
    refine only_hide fun R HR => ?_
    go_wp2_with fail
    exact only_mk (HR.out _ _ ⟨by simp [Act.eval, hz], _, V, rfl, by simp [hz], ⟨fun _ => by simp [slot_set, h0], fun _ => by simp [slot_set, h3], fun _ => by simp [slot_set, h4], fun _ => by simp [slot_set, h5], fun _ => by simp [slot_set, h6], fun _ => by simp [slot_set, h7], fun _ => by simp [slot_set, h8], fun _ => by simp [slot_set, h9], fun _ => by simp [slot_set, h10], fun _ => by simp [slot_set, h11], fun _ => by simp [slot_set, h12], fun _ => by simp [slot_set, h13], fun _ => by simp [slot_set, h14], fun _ => by simp [slot_set, h15], trivial⟩, HH.out, HF.out, HB.out⟩)
  clear hS a w
  rintro a w ⟨he, h⟩
  cases hst : x.hasAttr with
  | false =>
    rw [hst] at he
    exact wp_cond_false he (wp_skip (only_mk h))
  | true =>
    rw [hst] at he
    exact wp_cond_true he (only_seq (fl_if31a a w h) (fun a w h => fl_if31b (D := { D with aat := true }) ⟨hD.b, hD.e, hD.p, hD.tm, hD.td, hD.tx, hD.ts, hD.at_⟩ a w h))

set_option maxRecDepth 100000 in
set_option maxHeartbeats 1000000 in
/-- The name's units. -/
theorem fl_units {w0 : World} {lv : Value} {D : FD} {i g : Nat} {x : Fil} (hnl : x.name.length ≤ 100000) (hru : (runesL x.name).isSome = true) (a : Act) (w : World) (hS : FSx w0 lv D i g x a w) :
    (fc [true, true, true, true, true, true, true, true, true, true, true, true, false, true, false, false, true, false, false, true, true, true, false]).wp Tryd.prog (Only (fun a' w' => ∃ u, FSu w0 lv D i g x u (nameU x.name) a' w')) a w := by
  obtain ⟨A, V, rfl, hz, ⟨h0, h3, h4, h5, h6, h7, h8, h9, h10, h11, h12, h13, h14, h15, -⟩, H, FA, B15⟩ := hS
  obtain ⟨c0, c1, c2, c3, c4, c5, c6⟩ := fil_cells B15
  have HN := Lib.hid hnl
  have HRU := Lib.hid hru
  clear hnl hru
  have HH := Lib.hid H
  have HF := Lib.hid FA
  have HB := Lib.hid B15
  clear H FA B15 
  have HU := Lib.hid (runits_any w x.name HN.out)
  conv => arg 2; whnf
  refine only_hide fun R HR => ?_
  go_wp2_with (go_at_call 20; refine HU.out.mono ?_; rintro e w7 (⟨v7, rs, hr, rfl, O7, F7⟩ | ⟨hr, rfl, F7⟩))
  · have e1 : nameU x.name = unitsR rs := by unfold nameU; rw [hr]; rfl
    refine only_mk (HR.out _ _ ⟨v7, ⟨_, V, rfl, by simp [hz], ⟨fun _ => by simp [slot_set, h0], fun _ => by simp [slot_set, h3], fun _ => by simp [slot_set, h4], fun _ => by simp [slot_set, h5], fun _ => by simp [slot_set, h6], fun _ => by simp [slot_set, h7], fun _ => by simp [slot_set, h8], fun _ => by simp [slot_set, h9], fun _ => by simp [slot_set, h10], fun _ => by simp [slot_set, h11], fun _ => by simp [slot_set, h12], fun _ => by simp [slot_set, h13], fun _ => by simp [slot_set, h14], fun _ => by simp [slot_set, h15], fun _ => by simp [slot_set], trivial⟩, HH.out.fr F7, HF.out.trans0 F7, heap_keep F7 HB.out, ?_⟩⟩)
    rw [e1]
    exact own_mono O7 HF.out.size
  · rw [hr] at HRU
    exact absurd HRU.out (by simp)

theorem flat_take' {α : Type} (f : α → List UInt8) {l : List α} {k : Nat} {x : α} (h : l[k]? = some x) : (l.take (k + 1)).flatMap f = (l.take k).flatMap f ++ f x := by
  rw [List.take_add_one, h, List.flatMap_append]
  congr 1
  simp only [Option.toList_some, List.flatMap_cons, List.flatMap_nil, List.append_nil]
theorem unitsB_len3 (us : List Nat) : (unitsB us).length = 2 * us.length := by
  unfold unitsB
  induction us with
  | nil => rfl
  | cons y t ih => rw [List.flatMap_cons, List.length_append, ih, leBytes_length, List.length_cons]; omega
theorem usl_get {w : World} {base : Nat} {uo : Option Addr} {uc : Nat} {us : List Nat} (h : w.ownsRow base 64 1 (.slice uo us.length uc) us.length (hv us)) {k y : Nat} (hy : us[k]? = some y) : ∃ b o, uo = some ⟨b, o, none⟩ ∧ b < w.heap.size ∧ w.cell? ⟨b, o + k, none⟩ = some (.int .u16 (y : Int)) := by
  obtain ⟨ao, cap, he, -, -, hc⟩ := (Sl.of_own h).out
  have hk := (List.getElem?_eq_some_iff.1 hy).1
  have hl : (hv us).length = us.length := by simp [hv]
  obtain ⟨b, o, e1, h1, h2⟩ := hc k (by rw [hl]; exact hk)
  injection he with e2 e3 e4
  rw [← e2] at e1
  exact ⟨b, o, e1, h1, (h2 k (by rw [hl]; exact hk)).trans (by simp [hv, hy])⟩

set_option maxRecDepth 100000 in
set_option maxHeartbeats 1000000 in
/-- The units' bytes. -/
theorem fl_names {w0 : World} {lv : Value} {D : FD} {i g : Nat} {x : Fil} {u : Value} {us : List Nat} (hlen : D.tx.length ≤ 500000000 ∧ us.length ≤ 200000) (hlt : ∀ y ∈ us, y < 65536) (a : Act) (w : World) (hS : FSu w0 lv D i g x u us a w) :
    (fc [true, true, true, true, true, true, true, true, true, true, true, true, false, true, false, false, true, false, false, true, true, true, true, false]).wp Tryd.prog (Only (FSx w0 lv { D with tx := D.tx ++ unitsB us } i g x)) a w := by
  have HLN := Lib.hid hlen
  have HLT := Lib.hid hlt
  clear hlen hlt
  conv => arg 2; whnf
  refine only_seq (R := FSk w0 lv { D with tx := D.tx ++ unitsB (us.take 0) } i g x u us 0) ?_ ?_
  · obtain ⟨A, V, rfl, hz, ⟨h0, h3, h4, h5, h6, h7, h8, h9, h10, h11, h12, h13, h14, h15, h16, -⟩, H, FA, B15, OU⟩ := hS
    have HH := Lib.hid H
    have HF := Lib.hid FA
    have HB := Lib.hid B15
    have HO := Lib.hid OU
    clear H FA B15 OU
    refine only_hide fun R HR => ?_
    go_wp2_with fail
    refine only_mk (HR.out _ _ ⟨_, V, rfl, by simp [hz], ⟨fun _ => by simp [slot_set, h0], fun _ => by simp [slot_set, h3], fun _ => by simp [slot_set, h4], fun _ => by simp [slot_set, h5], fun _ => by simp [slot_set, h6], fun _ => by simp [slot_set, h7], fun _ => by simp [slot_set, h8], fun _ => by simp [slot_set, h9], fun _ => by simp [slot_set, h10], fun _ => by simp [slot_set, h11], fun _ => by simp [slot_set, h12], fun _ => by simp [slot_set, h13], fun _ => by simp [slot_set, h14], fun _ => by simp [slot_set, h15], fun _ => by simp [slot_set, h16], fun _ => by simp, trivial⟩, ?_, HF.out, HB.out, HO.out⟩)
    rw [List.take_zero, show unitsB [] = [] from rfl, List.append_nil]
    exact HH.out
  clear hS a w
  intro a w hI
  refine for_count (N := us.length) (fun k => FSk w0 lv { D with tx := D.tx ++ unitsB (us.take k) } i g x u us k) (fun k => FSk w0 lv { D with tx := D.tx ++ unitsB (us.take (k + 1)) } i g x u us k) hI ?_ ?_ ?_ ?_
  · clear hI a w
    rintro k _ wr hk ⟨A, V, rfl, hz, ⟨h0, h3, h4, h5, h6, h7, h8, h9, h10, h11, h12, h13, h14, h15, h16, h18, -⟩, H, FA, B15, OU⟩
    obtain ⟨uo, uc, rfl, -⟩ := own_out OU
    have HH := Lib.hid H
    have HF := Lib.hid FA
    have HB := Lib.hid B15
    have HO := Lib.hid OU
    clear H FA B15 OU
    refine only_hide fun R HR => ?_
    go_wp2_with fail
    exact only_mk (HR.out _ _ ⟨by simp [Act.eval, hz], _, V, rfl, by simp [hz], ⟨fun _ => by simp [slot_set, h0], fun _ => by simp [slot_set, h3], fun _ => by simp [slot_set, h4], fun _ => by simp [slot_set, h5], fun _ => by simp [slot_set, h6], fun _ => by simp [slot_set, h7], fun _ => by simp [slot_set, h8], fun _ => by simp [slot_set, h9], fun _ => by simp [slot_set, h10], fun _ => by simp [slot_set, h11], fun _ => by simp [slot_set, h12], fun _ => by simp [slot_set, h13], fun _ => by simp [slot_set, h14], fun _ => by simp [slot_set, h15], fun _ => by simp [slot_set, h16], fun _ => by simp [slot_set, h18], trivial⟩, HH.out, HF.out, HB.out, HO.out⟩)
  · clear hI a w
    rintro k _ wr hk ⟨A, V, rfl, hz, ⟨h0, h3, h4, h5, h6, h7, h8, h9, h10, h11, h12, h13, h14, h15, h16, h18, -⟩, H, FA, B15, OU⟩
    obtain ⟨y, hy⟩ := some_get us k hk
    have hyl := HLT.out y (List.mem_of_getElem? hy)
    have HTX := Lib.hid (show D.tx ++ unitsB (us.take (k + 1)) = (D.tx ++ unitsB (us.take k)) ++ leBytes 2 y by unfold unitsB; rw [flat_take' (leBytes 2) hy, List.append_assoc])
    have HPE := Lib.hid (put_le (D.tx ++ unitsB (us.take k)) 2 y (by decide))
    have HYL := Lib.hid (show (D.tx ++ unitsB (us.take k)).length ≤ 700000000 by have h1 := HLN.out; have h2 := unitsB_len3 (us.take k); have h3 := List.length_take_le k us; rw [List.length_append]; omega)
    obtain ⟨uo, uc, rfl, -⟩ := own_out OU
    obtain ⟨b1, o1, hao, hb1, ec⟩ := usl_get OU hy
    subst hao
    have hwr : IntKind.u64.wrap (y : Int) = (y : Int) := by simp [IntKind.wrap, IntKind.bits, IntKind.signed]; omega
    have hn64 : y < 18446744073709551616 := by omega
    have hkI : (k : Int) < (us.length : Int) := by omega
    rw [HTX.out]
    have HH := Lib.hid H
    have HF := Lib.hid FA
    have HB := Lib.hid B15
    have HO := Lib.hid OU
    clear H FA B15 OU hy
    generalize D.tx ++ unitsB (us.take k) = Y at *
    refine only_hide fun R HR => ?_
    go_wp2_with (go_at_call 33; refine (refput_any _ _ Y 2 y (Sl.of_own (HH.out.own 5 _ rfl)) (by have := HYL.out; omega) hn64).mono ?_; rintro e w7 hNB; rw [show put Y 2 y = Y ++ leBytes 2 y from HPE.out] at hNB; obtain ⟨r7, rfl, H7, F7⟩ := HH.out.new_ (i := 5) rfl HF.out.size hNB)
    exact only_mk (HR.out _ _ ⟨_, { V with v8 := r7 }, rfl, by simp [hz], ⟨fun _ => by simp [slot_set, h0], fun _ => by simp [slot_set, h3], fun _ => by simp [slot_set, h4], fun _ => by simp [slot_set, h5], fun _ => by simp [slot_set, h6], fun _ => by simp [slot_set, h7], fun _ => by simp, fun _ => by simp [slot_set, h9], fun _ => by simp [slot_set, h10], fun _ => by simp [slot_set, h11], fun _ => by simp [slot_set, h12], fun _ => by simp [slot_set, h13], fun _ => by simp [slot_set, h14], fun _ => by simp [slot_set, h15], fun _ => by simp [slot_set, h16], fun _ => by simp [slot_set, h18], trivial⟩, H7, HF.out.trans0 F7, heap_keep F7 HB.out, own_frS HO.out F7 (by simp)⟩)
  · clear hI a w
    rintro k _ wr hk ⟨A, V, rfl, hz, ⟨h0, h3, h4, h5, h6, h7, h8, h9, h10, h11, h12, h13, h14, h15, h16, h18, -⟩, H, FA, B15, OU⟩
    have HH := Lib.hid H
    have HF := Lib.hid FA
    have HB := Lib.hid B15
    have HO := Lib.hid OU
    clear H FA B15 OU
    have hk2 : k ≤ 200000 := by have := HLN.out; omega
    clear hk
    refine only_hide fun R HR => ?_
    go_wp2_with fail
    exact only_mk (HR.out _ _ ⟨_, V, rfl, by simp [hz], ⟨fun _ => by simp [slot_set, h0], fun _ => by simp [slot_set, h3], fun _ => by simp [slot_set, h4], fun _ => by simp [slot_set, h5], fun _ => by simp [slot_set, h6], fun _ => by simp [slot_set, h7], fun _ => by simp [slot_set, h8], fun _ => by simp [slot_set, h9], fun _ => by simp [slot_set, h10], fun _ => by simp [slot_set, h11], fun _ => by simp [slot_set, h12], fun _ => by simp [slot_set, h13], fun _ => by simp [slot_set, h14], fun _ => by simp [slot_set, h15], fun _ => by simp [slot_set, h16], fun _ => by simp, trivial⟩, HH.out, HF.out, HB.out, HO.out⟩)
  · rintro _ wr ⟨A, V, rfl, hz, ⟨h0, h3, h4, h5, h6, h7, h8, h9, h10, h11, h12, h13, h14, h15, h16, h18, -⟩, H, FA, B15, OU⟩
    rw [List.take_of_length_le (Nat.le_refl _)] at H
    exact ⟨A, V, rfl, hz, ⟨h0, h3, h4, h5, h6, h7, h8, h9, h10, h11, h12, h13, h14, h15, trivial⟩, H, FA, B15⟩

set_option maxRecDepth 100000 in
set_option maxHeartbeats 1000000 in
/-- The name's end. -/
theorem fl_zero {w0 : World} {lv : Value} {D : FD} {i g : Nat} {x : Fil} (hD : D.tx.length ≤ 900000000) (a : Act) (w : World) (hS : FSx w0 lv D i g x a w) :
    (fc [true, true, true, true, true, true, true, true, true, true, true, true, false, true, false, false, true, false, false, true, true, true, true, true, false]).wp Tryd.prog (Only (FSx w0 lv { D with tx := D.tx ++ [0, 0] } i g x)) a w := by
  obtain ⟨A, V, rfl, hz, ⟨h0, h3, h4, h5, h6, h7, h8, h9, h10, h11, h12, h13, h14, h15, -⟩, H, FA, B15⟩ := hS
  obtain ⟨c0, c1, c2, c3, c4, c5, c6⟩ := fil_cells B15
  have HD := Lib.hid hD
  clear hD
  have HH := Lib.hid H
  have HF := Lib.hid FA
  have HB := Lib.hid B15
  clear H FA B15 
  conv => arg 2; whnf
  refine only_hide fun R HR => ?_
  go_wp2_with (at_builtin; refine wpList_append_rb sty_u8 rfl (.tmp 75) (.tmp 76) (by rfl) (HH.out.fr ((Fr.refl _ _).alloc _)) 5 rfl (by go_simp) _ [0, 0] (by go_simp) (sl_lit _ _ (bv [0, 0]) 2 rfl (by decide)) (Nat.le_trans HF.out.size ((Fr.refl [] _).alloc _).size) (by have := HD.out; simp only [List.length_cons, List.length_nil]; omega) ?_; intro v7 w7 H7 F7)
  exact only_mk (HR.out _ _ ⟨_, { V with v8 := v7 }, rfl, by simp [hz], ⟨fun _ => by simp [slot_set, h0], fun _ => by simp [slot_set, h3], fun _ => by simp [slot_set, h4], fun _ => by simp [slot_set, h5], fun _ => by simp [slot_set, h6], fun _ => by simp [slot_set, h7], fun _ => by simp, fun _ => by simp [slot_set, h9], fun _ => by simp [slot_set, h10], fun _ => by simp [slot_set, h11], fun _ => by simp [slot_set, h12], fun _ => by simp [slot_set, h13], fun _ => by simp [slot_set, h14], fun _ => by simp [slot_set, h15], trivial⟩, H7, (HH.out.fr ((Fr.refl _ _).alloc _)).above (i := 5) rfl (HF.out.alloc _) F7, (HH.out.fr ((Fr.refl _ _).alloc _)).far (i := 5) rfl F7 (heap_keep ((Fr.refl _ _).alloc _) HB.out) (show 5 ≠ 39 from by decide)⟩)
end Go.Proofs.YtkodindajfdagaaDoor
