/- Contract: the reference's files. No condition but that lengths fit. -/
import Derived.Test.YtkodindajfdagaaDoorWFlBM
namespace Go.Proofs.YtkodindajfdagaaDoor
open Go.RowKit
set_option linter.unusedVariables false

def FSl (w0 : World) (D : FD) (a : Act) (w' : World) : Prop :=
  ∃ A V, a = ⟨A, []⟩ ∧ A.size = 137 ∧ Slots A [(3, V.v3), (4, V.v4), (5, V.v5), (6, V.v6), (7, V.v7), (8, V.v8), (9, V.v9), (10, V.v10), (11, .bool D.ap), (12, .bool D.atm), (13, .bool D.aat)] ∧ OwnL w0.heap.size w' (R8 V D) ∧ Fr [] w0 w'
def FS0 (w0 : World) (lv : Value) (D : FD) (a : Act) (w' : World) : Prop :=
  ∃ A V, a = ⟨A, []⟩ ∧ A.size = 137 ∧ Slots A [(0, lv), (3, V.v3), (4, V.v4), (5, V.v5), (6, V.v6), (7, V.v7), (8, V.v8), (9, V.v9), (10, V.v10), (11, .bool D.ap), (12, .bool D.atm), (13, .bool D.aat)] ∧ OwnL w0.heap.size w' (R8 V D) ∧ Fr [] w0 w'

/-- What is gathered of one file. -/
def FD.add (D : FD) (x : Fil) : FD :=
  let D1 : FD := { D with e := D.e ++ [!x.stream] }
  let D2 : FD := if x.stream then D1 else { D1 with p := D1.p ++ [!x.dir], ap := D1.ap || !x.dir }
  let D3 : FD := { D2 with tx := (D2.tx ++ unitsB (nameU x.name)) ++ [0, 0] }
  let D4 : FD := { D3 with tm := D3.tm ++ [x.hasTime] }
  let D5 : FD := { D4 with td := D4.td ++ [x.hasAttr] }
  let D6 : FD := if x.hasTime then { D5 with ts := D5.ts ++ leBytes 8 x.time.toNat, atm := true } else D5
  if x.hasAttr then { D6 with at_ := D6.at_ ++ leBytes 4 x.attr.toNat, aat := true } else D6
/-- It may be added to. -/
structure FD.Fit (D : FD) (n : Nat) : Prop where
  b : D.b.length ≤ n
  e : D.e.length ≤ n
  p : D.p.length ≤ n
  tm : D.tm.length ≤ n
  td : D.td.length ≤ n
  tx : D.tx.length ≤ n
  ts : D.ts.length ≤ n
  at_ : D.at_.length ≤ n
theorem FD.Fit.up {D : FD} {n m : Nat} (hn : n ≤ m) (h : D.Fit n) : D.Fit m := ⟨Nat.le_trans h.b hn, Nat.le_trans h.e hn, Nat.le_trans h.p hn, Nat.le_trans h.tm hn, Nat.le_trans h.td hn, Nat.le_trans h.tx hn, Nat.le_trans h.ts hn, Nat.le_trans h.at_ hn⟩
theorem FD.Fit.ok {D : FD} {n : Nat} (h : D.Fit n) (hn : n ≤ 500000000) : D.Ok := ⟨Nat.le_trans h.b hn, Nat.le_trans h.e hn, Nat.le_trans h.p hn, Nat.le_trans h.tm hn, Nat.le_trans h.td hn, Nat.le_trans h.tx hn, Nat.le_trans h.ts hn, Nat.le_trans h.at_ hn⟩

set_option maxRecDepth 100000 in
set_option maxHeartbeats 1000000 in
theorem fl_round {w0 : World} {ao : Option Addr} {N cap hi i : Nat} {F : List Fil} {D : FD} {x : Fil} (hF : RowAt w0 hi 7 (.slice ao N cap) N (fiV F)) (hx : F[i]? = some x) (hi : i < N) (hD : D.Fit 100000000) (hnl : x.name.length ≤ 100000) (hru : (runesL x.name).isSome = true) (hul : (nameU x.name).length ≤ 200000) (hut : ∀ y ∈ nameU x.name, y < 65536) (a : Act) (w : World) (hS : FS w0 (.slice ao N cap) D i a w) :
    (fc [true, true, true, true, true, true, true, true, true, true, true, true, false, true, false, false, true, false]).wp Tryd.prog (Only (FS w0 (.slice ao N cap) (D.add x) i)) a w := by
  obtain ⟨A, V, rfl, hz, ⟨h0, h3, h4, h5, h6, h7, h8, h9, h10, h11, h12, h13, h14, -⟩, H, FA⟩ := hS
  obtain ⟨b1, o1, hao, hb1, z0, z1, z2, z3, z4, z5, z6⟩ := hF.fil hx hi
  subst hao
  have k : ∀ j, w.cell? ⟨b1, j, none⟩ = w0.cell? ⟨b1, j, none⟩ := fun j => FA.cell (p := ⟨b1, j, none⟩) hb1 (by simp)
  have e0 := (k _).trans z0
  have e1 := (k _).trans z1
  have e2 := (k _).trans z2
  have e3 := (k _).trans z3
  have e4 := (k _).trans z4
  have e5 := (k _).trans z5
  have e6 := (k _).trans z6
  have hb2 := Nat.lt_of_lt_of_le hb1 FA.size
  have hiI : (i : Int) < (N : Int) := by omega
  have HX := Lib.hid (And.intro hnl (And.intro hru (And.intro hul hut)))
  clear k z0 z1 z2 z3 z4 z5 z6 hx hF hnl hru hul hut
  conv => arg 2; whnf
  refine only_block ?_
  refine only_seq (R := fun a w => ∃ g, FSx w0 (.slice (some ⟨b1, o1, none⟩) N cap) D i g x a w) ?_ ?_
  · have HH := Lib.hid H
    have HF := Lib.hid FA
    clear H FA
    refine only_hide fun R HR => ?_
    go_wp2_with fail
    exact only_mk (HR.out _ _ ⟨w.heap.size, ⟨_, V, rfl, by simp [hz], ⟨fun _ => by simp [slot_set, h0], fun _ => by simp [slot_set, h3], fun _ => by simp [slot_set, h4], fun _ => by simp [slot_set, h5], fun _ => by simp [slot_set, h6], fun _ => by simp [slot_set, h7], fun _ => by simp [slot_set, h8], fun _ => by simp [slot_set, h9], fun _ => by simp [slot_set, h10], fun _ => by simp [slot_set, h11], fun _ => by simp [slot_set, h12], fun _ => by simp [slot_set, h13], fun _ => by simp [slot_set, h14], fun _ => by simp, trivial⟩, HH.out.fr ((Fr.refl _ _).alloc _), HF.out.alloc _, heap_alloc_new w _⟩⟩)
  clear h0 h3 h4 h5 h6 h7 h8 h9 h10 h11 h12 h13 h14 hz A H FA V e0 e1 e2 e3 e4 e5 e6 hb2 w
  rintro a w ⟨g, h⟩
  obtain ⟨hnl, hru, hul, hut⟩ := HX.out
  have h1 := hD.b
  have h2 := hD.e
  have h3 := hD.p
  have h4 := hD.tm
  have h5 := hD.td
  have h6 := hD.tx
  have h7 := hD.ts
  have h8 := hD.at_
  refine only_seq (fl_empty (hD.ok (by decide)) a w h) (fun a w h => ?_)
  obtain ⟨D1, hD1⟩ : ∃ D1 : FD, D1 = { D with e := D.e ++ [!x.stream] } := ⟨_, rfl⟩
  rw [← hD1] at h
  have f1 : D1.Fit 200000000 := by rw [hD1]; constructor <;> (try dsimp only) <;> (try simp only [List.length_append, List.length_cons, List.length_nil]) <;> omega
  refine only_seq (fl_if17 (f1.ok (by decide)) a w h) (fun a w h => ?_)
  obtain ⟨D2, hD2⟩ : ∃ D2 : FD, D2 = if x.stream then D1 else { D1 with p := D1.p ++ [!x.dir], ap := D1.ap || !x.dir } := ⟨_, rfl⟩
  rw [← hD2] at h
  have f2 : D2.Fit 200000000 := by
    rw [hD2]
    split
    · exact f1
    · exact ⟨f1.b, f1.e, by have : D1.p.length ≤ 100000000 := by rw [hD1]; exact h3
                            simp only [List.length_append, List.length_cons, List.length_nil]; omega, f1.tm, f1.td, f1.tx, f1.ts, f1.at_⟩
  refine only_seq (fl_units hnl hru a w h) (fun a w h => ?_)
  obtain ⟨u, h⟩ := h
  refine only_seq (fl_names ⟨Nat.le_trans f2.tx (by decide), hul⟩ hut a w h) (fun a w h => ?_)
  refine only_seq (fl_zero (by have := f2.tx; have := unitsB_len3 (nameU x.name); show (D2.tx ++ unitsB (nameU x.name)).length ≤ 900000000; rw [List.length_append]; omega) a w h) (fun a w h => ?_)
  obtain ⟨D3, hD3⟩ : ∃ D3 : FD, D3 = { D2 with tx := (D2.tx ++ unitsB (nameU x.name)) ++ [0, 0] } := ⟨_, rfl⟩
  have h' : FSx w0 (.slice (some ⟨b1, o1, none⟩) N cap) D3 i g x a w := by rw [hD3]; exact h
  clear h
  have f3 : D3.Fit 300000000 := by
    rw [hD3]
    have t1 := f2.b; have t2 := f2.e; have t3 := f2.p; have t4 := f2.tm; have t5 := f2.td; have t6 := f2.tx; have t7 := f2.ts; have t8 := f2.at_
    have := unitsB_len3 (nameU x.name)
    constructor <;> (try dsimp only) <;> (try simp only [List.length_append, List.length_cons, List.length_nil]) <;> omega
  refine only_seq (fl_timed (f3.ok (by decide)) a w h') (fun a w h => ?_)
  obtain ⟨D4, hD4⟩ : ∃ D4 : FD, D4 = { D3 with tm := D3.tm ++ [x.hasTime] } := ⟨_, rfl⟩
  rw [← hD4] at h
  have f4 : D4.Fit 300000001 := by
    rw [hD4]
    have t1 := f3.b; have t2 := f3.e; have t3 := f3.p; have t4 := f3.tm; have t5 := f3.td; have t6 := f3.tx; have t7 := f3.ts; have t8 := f3.at_
    constructor <;> (try dsimp only) <;> (try simp only [List.length_append, List.length_cons, List.length_nil]) <;> omega
  refine only_seq (fl_told (f4.ok (by decide)) a w h) (fun a w h => ?_)
  obtain ⟨D5, hD5⟩ : ∃ D5 : FD, D5 = { D4 with td := D4.td ++ [x.hasAttr] } := ⟨_, rfl⟩
  rw [← hD5] at h
  have f5 : D5.Fit 300000002 := by
    rw [hD5]
    have t1 := f4.b; have t2 := f4.e; have t3 := f4.p; have t4 := f4.tm; have t5 := f4.td; have t6 := f4.tx; have t7 := f4.ts; have t8 := f4.at_
    constructor <;> (try dsimp only) <;> (try simp only [List.length_append, List.length_cons, List.length_nil]) <;> omega
  refine only_seq (fl_if28 (f5.ok (by decide)) a w h) (fun a w h => ?_)
  obtain ⟨D6, hD6⟩ : ∃ D6 : FD, D6 = if x.hasTime then { D5 with ts := D5.ts ++ leBytes 8 x.time.toNat, atm := true } else D5 := ⟨_, rfl⟩
  rw [← hD6] at h
  have f6 : D6.Fit 300000010 := by
    have t1 := f5.b; have t2 := f5.e; have t3 := f5.p; have t4 := f5.tm; have t5 := f5.td; have t6 := f5.tx; have t7 := f5.ts; have t8 := f5.at_
    rw [hD6]
    split
    · constructor <;> (try dsimp only) <;> (try simp only [List.length_append, leBytes_length]) <;> omega
    · constructor <;> (try dsimp only) <;> omega
  refine only_mono (fl_if31 (f6.ok (by decide)) a w h) (fun a w h => ?_)
  have hE : (if x.hasAttr then { D6 with at_ := D6.at_ ++ leBytes 4 x.attr.toNat, aat := true } else D6) = D.add x := by
    rw [hD6, hD5, hD4, hD3, hD2, hD1]
    rfl
  rw [hE] at h
  obtain ⟨A, V, rfl, hz, ⟨h0, h3, h4, h5, h6, h7, h8, h9, h10, h11, h12, h13, h14, h15, -⟩, H, FA, B15⟩ := h
  exact ⟨A, V, rfl, hz, ⟨h0, h3, h4, h5, h6, h7, h8, h9, h10, h11, h12, h13, h14, trivial⟩, H, FA⟩

def FDof (b : List UInt8) (F : List Fil) : FD := ⟨b, emptyB F, plainB F, hasV timeOf F, hasV attrOf F, namesW F, valsV timeOf 8 F, valsV attrOf 4 F, (plainB F).any id, (hasV timeOf F).any id, (hasV attrOf F).any id⟩
theorem unitsB_end (us : List Nat) : unitsB (us ++ [0]) = unitsB us ++ [0, 0] := by unfold unitsB; rw [List.flatMap_append]; rfl
theorem FDof_add (b : List UInt8) (F : List Fil) (x : Fil) : FDof b (F ++ [x]) = (FDof b F).add x := by
  obtain ⟨nm, st, dir, ha, attr, ht, tm⟩ := x
  have hn : namesW (F ++ [⟨nm, st, dir, ha, attr, ht, tm⟩]) = (namesW F ++ unitsB (nameU nm)) ++ [0, 0] := by
    unfold namesW
    rw [List.flatMap_append, List.flatMap_cons, List.flatMap_nil, List.append_nil]
    unfold nameB
    rw [unitsB_end]
    simp
  unfold FDof FD.add
  rw [hn]
  cases st <;> cases ha <;> cases ht <;> simp [emptyB, plainB, hasV, valsV, timeOf, attrOf, List.filter_append]
theorem FDof_take {b : List UInt8} {F : List Fil} {k : Nat} {x : Fil} (h : F[k]? = some x) : FDof b (F.take (k + 1)) = (FDof b (F.take k)).add x := by
  rw [List.take_add_one, h]
  exact FDof_add b (F.take k) x
theorem flat_len {α : Type} (f : α → List UInt8) (c : Nat) (l : List α) (h : ∀ x ∈ l, (f x).length ≤ c) : (l.flatMap f).length ≤ l.length * c := by
  induction l with
  | nil => simp
  | cons y t ih =>
    rw [List.flatMap_cons, List.length_append, List.length_cons]
    have h1 := h y (by simp)
    have h2 := ih (fun x hx => h x (by simp [hx]))
    rw [Nat.add_mul]
    omega
theorem FDof_fit (b : List UInt8) (F : List Fil) (hb : b.length ≤ 1000) (hn : F.length ≤ 1000) (hu : ∀ x ∈ F, (nameU x.name).length ≤ 10000) : (FDof b F).Fit 30000000 := by
  have h1 : (F.flatMap fun f => nameB f.name).length ≤ F.length * 20002 := flat_len _ _ F (fun x hx => by
    have := hu x hx
    unfold nameB
    rw [unitsB_end, List.length_append, unitsB_len3]
    simp
    omega)
  have h2 : (valsV timeOf 8 F).length ≤ F.length * 8 := flat_len _ _ F (fun x hx => by split <;> simp [leBytes_length])
  have h3 : (valsV attrOf 4 F).length ≤ F.length * 4 := flat_len _ _ F (fun x hx => by split <;> simp [leBytes_length])
  have h4 : (plainB F).length ≤ F.length := by unfold plainB; rw [List.length_map]; exact List.length_filter_le _ _
  constructor <;> dsimp only [FDof]
  · omega
  · simp [emptyB]; omega
  · omega
  · simp [hasV]; omega
  · simp [hasV]; omega
  · simp [namesW]; simp at h1; omega
  · omega
  · omega

set_option maxRecDepth 100000 in
set_option maxHeartbeats 1000000 in
theorem fl_loop {w0 : World} {ao : Option Addr} {N cap hi : Nat} {F : List Fil} {b : List UInt8} (hNF : F.length = N) (hF : RowAt w0 hi 7 (.slice ao N cap) N (fiV F)) (hb : b.length ≤ 1000) (hN : N ≤ 1000) (hnm : ∀ x ∈ F, x.name.length ≤ 100000 ∧ (runesL x.name).isSome = true ∧ (nameU x.name).length ≤ 10000 ∧ ∀ y ∈ nameU x.name, y < 65536) (a : Act) (w : World) (hS : FS0 w0 (.slice ao N cap) (FDof b []) a w) :
    (fc [true, true, true, true, true, true, true, true, true, true, true, true, false]).wp Tryd.prog (Only (FSl w0 (FDof b F))) a w := by
  conv => arg 2; whnf
  refine only_seq (R := FS w0 (.slice ao N cap) (FDof b (F.take 0)) 0) ?_ ?_
  · obtain ⟨A, V, rfl, hz, ⟨h0, h3, h4, h5, h6, h7, h8, h9, h10, h11, h12, h13, -⟩, H, FA⟩ := hS
    have HH := Lib.hid H
    have HF := Lib.hid FA
    clear H FA hF hnm hNF
    refine only_hide fun R HR => ?_
    go_wp2_with fail
    exact only_mk (HR.out _ _ ⟨_, V, rfl, by simp [hz], ⟨fun _ => by simp [slot_set, h0], fun _ => by simp [slot_set, h3], fun _ => by simp [slot_set, h4], fun _ => by simp [slot_set, h5], fun _ => by simp [slot_set, h6], fun _ => by simp [slot_set, h7], fun _ => by simp [slot_set, h8], fun _ => by simp [slot_set, h9], fun _ => by simp [slot_set, h10], fun _ => by simp [slot_set, h11], fun _ => by simp [slot_set, h12], fun _ => by simp [slot_set, h13], fun _ => by simp, trivial⟩, HH.out, HF.out⟩)
  clear hS a w
  intro a w hI
  refine for_count (N := N) (fun k => FS w0 (.slice ao N cap) (FDof b (F.take k)) k) (fun k => FS w0 (.slice ao N cap) (FDof b (F.take (k + 1))) k) hI ?_ ?_ ?_ ?_
  · clear hI a w
    rintro k _ wr hk ⟨A, V, rfl, hz, ⟨h0, h3, h4, h5, h6, h7, h8, h9, h10, h11, h12, h13, h14, -⟩, H, FA⟩
    have HH := Lib.hid H
    have HF := Lib.hid FA
    clear H FA hF hnm hNF
    generalize FDof b (F.take k) = D at *
    refine only_hide fun R HR => ?_
    go_wp2_with fail
    exact only_mk (HR.out _ _ ⟨by simp [Act.eval, hz], _, V, rfl, by simp [hz], ⟨fun _ => by simp [slot_set, h0], fun _ => by simp [slot_set, h3], fun _ => by simp [slot_set, h4], fun _ => by simp [slot_set, h5], fun _ => by simp [slot_set, h6], fun _ => by simp [slot_set, h7], fun _ => by simp [slot_set, h8], fun _ => by simp [slot_set, h9], fun _ => by simp [slot_set, h10], fun _ => by simp [slot_set, h11], fun _ => by simp [slot_set, h12], fun _ => by simp [slot_set, h13], fun _ => by simp [slot_set, h14], trivial⟩, HH.out, HF.out⟩)
  · intro k a wr hk h
    obtain ⟨x, hx⟩ := some_get F k (by omega)
    obtain ⟨n1, n2, n3, n4⟩ := hnm x (List.mem_of_getElem? hx)
    rw [FDof_take hx]
    exact fl_round hF hx hk (FD.Fit.up (by decide) <| FDof_fit b _ hb (by rw [List.length_take]; omega) (fun y hy => (hnm y (List.mem_of_mem_take hy)).2.2.1)) n1 n2 (by omega) n4 a wr h
  · clear hI a w
    rintro k _ wr hk ⟨A, V, rfl, hz, ⟨h0, h3, h4, h5, h6, h7, h8, h9, h10, h11, h12, h13, h14, -⟩, H, FA⟩
    have HH := Lib.hid H
    have HF := Lib.hid FA
    clear H FA hF hnm hNF
    generalize FDof b (F.take (k + 1)) = D at *
    have hk2 : k ≤ 1000 := by omega
    clear hk
    refine only_hide fun R HR => ?_
    go_wp2_with fail
    exact only_mk (HR.out _ _ ⟨_, V, rfl, by simp [hz], ⟨fun _ => by simp [slot_set, h0], fun _ => by simp [slot_set, h3], fun _ => by simp [slot_set, h4], fun _ => by simp [slot_set, h5], fun _ => by simp [slot_set, h6], fun _ => by simp [slot_set, h7], fun _ => by simp [slot_set, h8], fun _ => by simp [slot_set, h9], fun _ => by simp [slot_set, h10], fun _ => by simp [slot_set, h11], fun _ => by simp [slot_set, h12], fun _ => by simp [slot_set, h13], fun _ => by simp, trivial⟩, HH.out, HF.out⟩)
  · rintro _ wr ⟨A, V, rfl, hz, ⟨h0, h3, h4, h5, h6, h7, h8, h9, h10, h11, h12, h13, h14, -⟩, H, FA⟩
    rw [List.take_of_length_le (by omega)] at H h11 h12 h13
    exact ⟨A, V, rfl, hz, ⟨h3, h4, h5, h6, h7, h8, h9, h10, h11, h12, h13, trivial⟩, H, FA⟩
end Go.Proofs.YtkodindajfdagaaDoor
