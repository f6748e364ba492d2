/- A description that came in. No condition. -/
import Derived.Test.YtkodindajfdagaaDoorGAW
import Derived.Test.YtkodindajfdagaaDoorWSmallM
import Derived.SizedLaws
namespace Go.Proofs.YtkodindajfdagaaDoor
open Go.RowKit Go.Deep Go.ChangeShapes Go.WideShapes Go.ChangeAt

/-- What a reading weighs. -/
def Sz {H : Type} (t : TypeId) (d : DataW H) : Prop := ∀ n ∈ d.weights Tryd.prog t, n ≤ reachBytes
theorem weights_all {H : Type} {P : Program} {e : TypeId} : ∀ {l : List (DataW H)} {y : DataW H}, y ∈ l → ∀ n ∈ y.weights P e, n ∈ DataW.weightsAll P e l
  | [], _, h, _, _ => by simp at h
  | d :: r, y, h, n, hn => by
    simp only [DataW.weightsAll, List.mem_append]
    rcases List.mem_cons.1 h with rfl | h
    · exact .inl hn
    · exact .inr (weights_all h n hn)
theorem Sz.elem {H : Type} {t e : TypeId} (ht : Tryd.prog.underlying t = some (.slice e)) {elems spare : List (DataW H)} (h : Sz t (.slice elems spare)) {y : DataW H} (hy : y ∈ elems) : Sz e y := fun n hn =>
  h n (by simp only [DataW.weights, ht, List.mem_cons, List.mem_append]; exact .inr (.inl (weights_all hy n hn)))
theorem Sz.len {H : Type} {t e : TypeId} (ht : Tryd.prog.underlying t = some (.slice e)) {elems spare : List (DataW H)} (h : Sz t (.slice elems spare)) : (elems.length + spare.length) * Tryd.prog.bytesOf e ≤ reachBytes :=
  h _ (by simp only [DataW.weights, ht, List.mem_cons]; first | exact .inl trivial | exact .inl rfl)
theorem Sz.part {H : Type} {e : TypeId} {fs : Array Field} (he : Tryd.prog.underlying e = some (.struct fs)) {parts : List (DataW H)} (h : Sz e (.agg parts)) {j : Nat} {f : Field} {y : DataW H} (hf : fs[j]? = some f) (hy : parts[j]? = some y) : Sz f.type y := fun n hn =>
  h n (by
    simp only [DataW.weights, he]
    exact DataW.weights_mem_each (j := j) (by rw [List.getElem?_map, Array.getElem?_toList, hf]; rfl) hy n hn)

variable {H : Type} {enc : TypeId × Value → H} {w : World} {base : Nat} {held : Bool} {fuel : Nat} {cs : List Value} {x : DataW H × List MemPlace}

/-- A row that came in: its elements' cells, each of which reads. -/
theorem open_row {t e : TypeId} {m : Nat} (ht : Tryd.prog.underlying t = some (.slice e)) (ce : Tryd.prog.cellsOf e = m) (hm0 : 0 < m) (hby : 0 < Tryd.prog.bytesOf e)
    (h : DataW.trod enc Tryd.prog w base (fun _ => true) held fuel t cs = some x) (hz : Sz t x.1) :
    ∃ ao len cap, cs = [.slice ao len cap] ∧ len ≤ cap ∧ cap ≤ 9223372036854775807 ∧ len ≤ 140737488355328 ∧ ∀ i, i < len → ∃ b o ys n y, ao = some ⟨b, o, none⟩ ∧ b < w.heap.size ∧ ys.length = m ∧ (∀ j, j < m → w.cell? ⟨b, o + i * m + j, none⟩ = ys[j]?) ∧
      DataW.trod enc Tryd.prog w base (fun _ => true) held n e ys = some y ∧ Sz e y.1 := by
  rcases open_slice ht h with ⟨hcs, _⟩ | ⟨a, len, cap, k, n, D, Pl, hcs, hb, hl, hc, hk, hx, hel⟩
  · exact ⟨none, 0, 0, hcs, by simp, by simp, by simp, fun i hi => by omega⟩
  · have hx1 : x.1 = .slice ((List.range len).map D) ((List.range (k - len)).map fun j => D (len + j)) := by rw [hx]
    rw [hx1] at hz
    have hlen := hz.len ht
    rw [List.length_map, List.length_range] at hlen
    have hreach : reachBytes < 140737488355328 := by decide
    have hle : len ≤ (len + ((List.range (k - len)).map fun j => D (len + j)).length) * Tryd.prog.bytesOf e := by
      have h1 := Nat.le_mul_of_pos_right (len + ((List.range (k - len)).map fun j => D (len + j)).length) hby
      omega
    refine ⟨some a, len, cap, hcs, hl, by unfold maxLen at hc; omega, by omega, fun i hi => ?_⟩
    have hik : i < k := by rw [hk]; show i < cap; omega
    have h0k : 0 < k := by omega
    obtain ⟨cs0, g1, g2⟩ := hel 0 h0k
    obtain ⟨cs', h1, h2⟩ := hel i hik
    rw [ce] at h1 g1
    obtain ⟨_, hlen', hcell⟩ := World.cells?_some h1
    obtain ⟨_, glen', gcell⟩ := World.cells?_some g1
    have hc0 := gcell 0 (by omega)
    obtain ⟨v0, hv0⟩ := some_get cs0 0 (by omega)
    have ha0 : w.cell? (a.add 0) = some v0 := by
      have e : (a.add (0 * m)).add 0 = a.add 0 := by rw [add_add]; simp
      rw [e] at hc0
      exact hc0.trans hv0
    obtain ⟨b, o, rfl, hbl⟩ := addr_out ha0
    refine ⟨b, o, cs', n, (D i, Pl i), rfl, hbl, hlen', fun j hj => ?_, h2, hz.elem ht (List.mem_map_of_mem (List.mem_range.2 hi))⟩
    have := hcell j (by omega)
    rw [add_add, add_out, ← Nat.add_assoc] at this
    exact this
theorem rows_list {α : Type} [Inhabited α] {len : Nat} {P : Nat → α → Prop} (h : ∀ i, i < len → ∃ q, P i q) : ∃ l : List α, l.length = len ∧ ∀ (i : Nat) x, l[i]? = some x → P i x := by
  obtain ⟨q, hq⟩ := choose_lt h
  refine ⟨(List.range len).map q, by simp, fun i x hx => ?_⟩
  have hi : i < len := by have := (List.getElem?_eq_some_iff.1 hx).1; simpa using this
  have : x = q i := by simp [hi] at hx; exact hx.symm
  rw [this]
  exact hq i hi
theorem flat_at {α : Type} (f : α → List Value) (m : Nat) (hf : ∀ x, (f x).length = m) : ∀ (l : List α) (j : Nat) (x : α), l[j]? = some x → ∀ k, k < m → (l.flatMap f)[j * m + k]? = (f x)[k]?
  | [], _, _, h, _, _ => by simp at h
  | y :: t, 0, x, h, k, hk => by
    simp only [List.getElem?_cons_zero, Option.some.injEq] at h
    subst h
    rw [List.flatMap_cons, List.getElem?_append_left (by rw [hf]; omega), Nat.zero_mul, Nat.zero_add]
  | y :: t, j + 1, x, h, k, hk => by
    rw [List.flatMap_cons, List.getElem?_append_right (by rw [hf, Nat.succ_mul]; omega), hf, show (j + 1) * m + k - m = j * m + k by rw [Nat.succ_mul]; omega]
    exact flat_at f m hf t j x (by simpa using h) k hk
/-- A row of structs. -/
theorem row_of {α : Type} [Inhabited α] {t e : TypeId} {m : Nat} (f : α → List Value) (hf : ∀ x, (f x).length = m) (ht : Tryd.prog.underlying t = some (.slice e)) (ce : Tryd.prog.cellsOf e = m) (hm0 : 0 < m) (hby : 0 < Tryd.prog.bytesOf e)
    (each : ∀ n ys y, DataW.trod enc Tryd.prog w base (fun _ => true) held n e ys = some y → Sz e y.1 → ∃ q : α, ys = f q)
    (h : DataW.trod enc Tryd.prog w base (fun _ => true) held fuel t cs = some x) (hz : Sz t x.1) : ∃ (v : Value) (l : List α), cs = [v] ∧ RowAt w w.heap.size m v l.length (l.flatMap f) ∧ l.length ≤ 140737488355328 := by
  obtain ⟨ao, len, cap, hcs, hl, hc, h47, hel⟩ := open_row ht ce hm0 hby h hz
  have each2 : ∀ i, i < len → ∃ q : α, ∃ b o, ao = some ⟨b, o, none⟩ ∧ b < w.heap.size ∧ ∀ j, j < m → w.cell? ⟨b, o + i * m + j, none⟩ = (f q)[j]? := fun i hi => by
    obtain ⟨b, o, ys, n, y, e1, e2, e3, e4, e5, e6⟩ := hel i hi
    obtain ⟨q, rfl⟩ := each n ys y e5 e6
    exact ⟨q, b, o, e1, e2, e4⟩
  obtain ⟨l, hll, hlp⟩ := rows_list each2
  refine ⟨_, l, hcs, ⟨ao, cap, by rw [hll], by omega, hc, fun j hj => ?_⟩, by omega⟩
  obtain ⟨q, hq⟩ := some_get l j hj
  obtain ⟨b, o, e1, e2, e3⟩ := hlp j q hq
  exact ⟨b, o, e1, e2, e2, fun k hk => by rw [e3 k hk, flat_at f m hf l j q hq k hk]⟩

set_option maxRecDepth 100000 in
theorem ck_of {n : Nat} {ys : List Value} {y : DataW H × List MemPlace} (h : DataW.trod enc Tryd.prog w base (fun _ => true) held n 44 ys = some y) : ∃ c : Ck, ys = [.bool c.has, .int .u32 c.sum.toNat] := by
  obtain ⟨y0, y1, n, _, hl, h0, h1⟩ := trod_struct2 Tryd.underlying44 h
  have ce : Tryd.prog.cellsOf 44 = 2 := by kernel_rfl
  have c0 : Tryd.prog.cellsOf 4 = 1 := by kernel_rfl
  have c1 : Tryd.prog.cellsOf 37 = 1 := by kernel_rfl
  rw [ce] at hl
  match ys, hl with
  | [a, b], _ =>
    simp [c0, c1] at h0 h1
    obtain ⟨d, e0, _⟩ := DataW.trod_bool Tryd.underlying4 h0
    obtain ⟨kk, e1, _, wf1⟩ := DataW.trod_int Tryd.underlying37 h1
    injection e0 with e0
    injection e1 with e1
    have hb := bounds_u32 wf1
    refine ⟨⟨d, UInt32.ofNat kk.toNat⟩, ?_⟩
    rw [e0, e1]
    simp
    omega
set_option maxRecDepth 100000 in
theorem sb_of {n : Nat} {ys : List Value} {y : DataW H × List MemPlace} (h : DataW.trod enc Tryd.prog w base (fun _ => true) held n 75 ys = some y) : ∃ s : Sub, ys = [.int .u64 s.size.toNat, .bool s.ck.has, .int .u32 s.ck.sum.toNat] := by
  obtain ⟨y0, y1, n, _, hl, h0, h1⟩ := trod_struct2 Tryd.underlying75 h
  have ce : Tryd.prog.cellsOf 75 = 3 := by kernel_rfl
  have c0 : Tryd.prog.cellsOf 22 = 1 := by kernel_rfl
  have c1 : Tryd.prog.cellsOf 44 = 2 := by kernel_rfl
  rw [ce] at hl
  match ys, hl with
  | [a, b, c], _ =>
    simp [c0, c1] at h0 h1
    obtain ⟨kk, e0, _, wf0⟩ := DataW.trod_int Tryd.underlying22 h0
    obtain ⟨k, e1⟩ := ck_of h1
    injection e0 with e0
    injection e1 with e1 e2
    injection e2 with e2
    have hb := bounds_u64 wf0
    refine ⟨⟨UInt64.ofNat kk.toNat, k⟩, ?_⟩
    rw [e0, e1, e2]
    simp
    omega
theorem u64_of {n : Nat} {ys : List Value} {y : DataW H × List MemPlace} (hl : ys.length = 1) (h : DataW.trod enc Tryd.prog w base (fun _ => true) held n 22 ys = some y) : ∃ s : UInt64, ys = [.int .u64 s.toNat] := by
  match ys, hl with
  | [a], _ =>
    obtain ⟨kk, e0, _, wf0⟩ := DataW.trod_int Tryd.underlying22 h
    injection e0 with e0
    have hb := bounds_u64 wf0
    refine ⟨UInt64.ofNat kk.toNat, ?_⟩
    rw [e0]
    simp
    omega
set_option maxRecDepth 100000 in
theorem fi_of {n : Nat} {ys : List Value} {y : DataW H × List MemPlace} (h : DataW.trod enc Tryd.prog w base (fun _ => true) held n 39 ys = some y) : ∃ f : Fil, ys = f.cells := by
  obtain ⟨xs, n, _, _, hl, hlen, hf⟩ := DataW.trod_struct Tryd.underlying39 h
  have ce : Tryd.prog.cellsOf 39 = 7 := by kernel_rfl
  have c0 : Tryd.prog.cellsOf 4 = 1 := by kernel_rfl
  have c1 : Tryd.prog.cellsOf 37 = 1 := by kernel_rfl
  have c2 : Tryd.prog.cellsOf 22 = 1 := by kernel_rfl
  have c3 : Tryd.prog.cellsOf 9 = 1 := by kernel_rfl
  rw [ce] at hl
  match ys, hl, xs, hlen with
  | [a0, a1, a2, a3, a4, a5, a6], _, [y0, y1, y2, y3, y4, y5, y6], _ =>
    have g0 := hf 0 _ rfl
    have g1 := hf 1 _ rfl
    have g2 := hf 2 _ rfl
    have g3 := hf 3 _ rfl
    have g4 := hf 4 _ rfl
    have g5 := hf 5 _ rfl
    have g6 := hf 6 _ rfl
    simp [c0, c1, c2, c3] at g0 g1 g2 g3 g4 g5 g6
    obtain ⟨s, e0, _⟩ := DataW.trod_string Tryd.underlying9 g0
    obtain ⟨b1, e1, _⟩ := DataW.trod_bool Tryd.underlying4 g1
    obtain ⟨b2, e2, _⟩ := DataW.trod_bool Tryd.underlying4 g2
    obtain ⟨b3, e3, _⟩ := DataW.trod_bool Tryd.underlying4 g3
    obtain ⟨k4, e4, _, wf4⟩ := DataW.trod_int Tryd.underlying37 g4
    obtain ⟨b5, e5, _⟩ := DataW.trod_bool Tryd.underlying4 g5
    obtain ⟨k6, e6, _, wf6⟩ := DataW.trod_int Tryd.underlying22 g6
    injection e0 with e0
    injection e1 with e1
    injection e2 with e2
    injection e3 with e3
    injection e4 with e4
    injection e5 with e5
    injection e6 with e6
    have hb4 := bounds_u32 wf4
    have hb6 := bounds_u64 wf6
    refine ⟨⟨s.data.toList, b1, b2, b3, UInt32.ofNat k4.toNat, b5, UInt64.ofNat k6.toNat⟩, ?_⟩
    rw [e0, e1, e2, e3, e4, e5, e6]
    simp [Fil.cells]
    omega
/-- The length of a row that came in. -/
theorem len_of {t e : TypeId} {m : Nat} (ht : Tryd.prog.underlying t = some (.slice e)) (ce : Tryd.prog.cellsOf e = m) (hm0 : 0 < m) (hby : 0 < Tryd.prog.bytesOf e)
    (h : DataW.trod enc Tryd.prog w base (fun _ => true) held fuel t cs = some x) (hz : Sz t x.1) {ao : Option Addr} {n cap : Nat} (hv : cs = [.slice ao n cap]) : n ≤ 140737488355328 := by
  obtain ⟨ao', len, cap', hcs, -, -, h47, -⟩ := open_row ht ce hm0 hby h hz
  rw [hv] at hcs
  injection hcs with h1
  injection h1 with _ h2 _
  omega
set_option maxRecDepth 100000 in
theorem fol_of {n : Nat} {ys : List Value} {y : DataW H × List MemPlace} (h : DataW.trod enc Tryd.prog w base (fun _ => true) held n 46 ys = some y) (hz : Sz 46 y.1) :
    ∃ (q : Fol × Value × Value × Value × Value), ys = [q.2.1, q.2.2.1, q.2.2.2.1, q.2.2.2.2, .bool q.1.ck.has, .int .u32 q.1.ck.sum.toNat] ∧ FoV w q.2.1 q.2.2.1 q.2.2.2.1 q.2.2.2.2 q.1.f ∧
      q.1.f.coders.length ≤ 140737488355328 ∧ q.1.f.binds.length ≤ 140737488355328 ∧ q.1.f.packs.length ≤ 140737488355328 ∧ q.1.f.sizes.length ≤ 140737488355328 := by
  obtain ⟨xs, n, _, hxy, hl, hlen, hf⟩ := DataW.trod_struct Tryd.underlying46 h
  have ce : Tryd.prog.cellsOf 46 = 6 := by kernel_rfl
  have c0 : Tryd.prog.cellsOf 40 = 1 := by kernel_rfl
  have c1 : Tryd.prog.cellsOf 41 = 1 := by kernel_rfl
  have c2 : Tryd.prog.cellsOf 42 = 1 := by kernel_rfl
  have c3 : Tryd.prog.cellsOf 23 = 1 := by kernel_rfl
  have c4 : Tryd.prog.cellsOf 44 = 2 := by kernel_rfl
  rw [ce] at hl
  match ys, hl, xs, hlen with
  | [a0, a1, a2, a3, a4, a5], _, [y0, y1, y2, y3, y4], _ =>
    have g0 := hf 0 _ rfl
    have g1 := hf 1 _ rfl
    have g2 := hf 2 _ rfl
    have g3 := hf 3 _ rfl
    have g4 := hf 4 _ rfl
    simp [c0, c1, c2, c3, c4] at g0 g1 g2 g3 g4
    have hz' : Sz 46 (.agg [y0.1, y1.1, y2.1, y3.1, y4.1]) := by rw [hxy] at hz; exact hz
    have z0 := hz'.part Tryd.underlying46 (j := 0) rfl rfl
    have z1 := hz'.part Tryd.underlying46 (j := 1) rfl rfl
    have z2 := hz'.part Tryd.underlying46 (j := 2) rfl rfl
    have z3 := hz'.part Tryd.underlying46 (j := 3) rfl rfl
    obtain ⟨v0, l0, e0, h0⟩ := co_of g0
    obtain ⟨v1, l1, e1, h1⟩ := bi_of g1
    obtain ⟨v2, l2, e2, h2⟩ := sl_int_of g2
    obtain ⟨v3, l3, e3, h3⟩ := sl_u64_of g3
    obtain ⟨k, e4⟩ := ck_of g4
    injection e0 with e0
    injection e1 with e1
    injection e2 with e2
    injection e3 with e3
    injection e4 with e4 e5
    injection e5 with e5
    obtain ⟨o0, q0, r0, -⟩ := h0.out
    obtain ⟨o1, q1, r1, -⟩ := h1.out
    obtain ⟨o2, q2, r2, -⟩ := h2.out
    obtain ⟨o3, q3, r3, -⟩ := h3.out
    rw [iv_length] at r2
    rw [u64v_length] at r3
    have m0 := len_of Tryd.underlying40 (m := 4 - 2) (by kernel_rfl) (by decide) (of_decide_eq_true (by kernel_rfl)) g0 z0 (by rw [e0, r0])
    have m1 := len_of Tryd.underlying41 (m := 2) (by kernel_rfl) (by decide) (of_decide_eq_true (by kernel_rfl)) g1 z1 (by rw [e1, r1])
    have m2 := len_of Tryd.underlying42 (m := 1) (by kernel_rfl) (by decide) (of_decide_eq_true (by kernel_rfl)) g2 z2 (by rw [e2, r2])
    have m3 := len_of Tryd.underlying23 (m := 1) (by kernel_rfl) (by decide) (of_decide_eq_true (by kernel_rfl)) g3 z3 (by rw [e3, r3])
    exact ⟨(⟨⟨l0, l1, l2, l3⟩, k⟩, v0, v1, v2, v3), by rw [e0, e1, e2, e3, e4, e5], ⟨h0, h1, h2, h3⟩, m0, m1, m2, m3⟩
set_option maxRecDepth 100000 in
theorem fols_of (h : DataW.trod enc Tryd.prog w base (fun _ => true) held fuel 25 cs = some x) (hz : Sz 25 x.1) : ∃ v L, cs = [v] ∧ FolR w v L ∧ L.length ≤ 140737488355328 ∧
    ∀ y ∈ L, y.f.coders.length ≤ 140737488355328 ∧ y.f.binds.length ≤ 140737488355328 ∧ y.f.packs.length ≤ 140737488355328 ∧ y.f.sizes.length ≤ 140737488355328 := by
  obtain ⟨ao, len, cap, hcs, hl, hc, h47, hel⟩ := open_row Tryd.underlying25 (m := 6) (by kernel_rfl) (by decide) (of_decide_eq_true (by kernel_rfl)) h hz
  have each2 : ∀ i, i < len → ∃ q : Fol × Value × Value × Value × Value, (∃ b o, ao = some ⟨b, o, none⟩ ∧ b < w.heap.size ∧ ∀ j, j < 6 → w.cell? ⟨b, o + i * 6 + j, none⟩ = [q.2.1, q.2.2.1, q.2.2.2.1, q.2.2.2.2, .bool q.1.ck.has, .int .u32 q.1.ck.sum.toNat][j]?) ∧ FoV w q.2.1 q.2.2.1 q.2.2.2.1 q.2.2.2.2 q.1.f ∧
      q.1.f.coders.length ≤ 140737488355328 ∧ q.1.f.binds.length ≤ 140737488355328 ∧ q.1.f.packs.length ≤ 140737488355328 ∧ q.1.f.sizes.length ≤ 140737488355328 := fun i hi => by
    obtain ⟨b, o, ys, n, y, e1, e2, e3, e4, e5, e6⟩ := hel i hi
    obtain ⟨q, rfl, hq⟩ := fol_of e5 e6
    exact ⟨q, ⟨b, o, e1, e2, e4⟩, hq⟩
  haveI : Inhabited (Fol × Value × Value × Value × Value) := ⟨(⟨⟨[], [], [], []⟩, ⟨false, 0⟩⟩, .bool false, .bool false, .bool false, .bool false)⟩
  obtain ⟨l, hll, hlp⟩ := rows_list each2
  refine ⟨_, l.map (·.1), hcs, ⟨ao, cap, by rw [List.length_map, hll], by rw [List.length_map]; omega, hc, fun j y hy => ?_⟩, by rw [List.length_map]; omega, fun y hy => ?_⟩
  · rw [List.getElem?_map] at hy
    obtain ⟨q, hq, rfl⟩ := Option.map_eq_some_iff.1 hy
    obtain ⟨⟨b, o, e1, e2, e3⟩, e4, -⟩ := hlp j q hq
    exact ⟨b, o, _, _, _, _, e1, e2, e3 0 (by decide), e3 1 (by decide), e3 2 (by decide), e3 3 (by decide), e3 4 (by decide), e3 5 (by decide), e4⟩
  · obtain ⟨q, hq, rfl⟩ := List.mem_map.1 hy
    obtain ⟨i, hi⟩ := List.mem_iff_getElem?.1 hq
    exact (hlp i q hi).2.2
theorem u64v_flat : ∀ ps : List UInt64, (ps.flatMap fun s : UInt64 => [Value.int .u64 s.toNat]) = u64v ps
  | [] => rfl
  | x :: t => by rw [List.flatMap_cons, u64v_flat t]; rfl
instance : Inhabited Ck := ⟨⟨false, 0⟩⟩
instance : Inhabited Sub := ⟨⟨0, ⟨false, 0⟩⟩⟩
instance : Inhabited Fil := ⟨⟨[], false, false, false, 0, false, 0⟩⟩
set_option maxRecDepth 100000 in
theorem subs_of (h : DataW.trod enc Tryd.prog w base (fun _ => true) held fuel 26 cs = some x) (hz : Sz 26 x.1) : ∃ v S, cs = [v] ∧ WSubsR w v S := by
  obtain ⟨ao, len, cap, hcs, hl, hc, h47, hel⟩ := open_row Tryd.underlying26 (m := 1) (by kernel_rfl) (by decide) (of_decide_eq_true (by kernel_rfl)) h hz
  have each2 : ∀ i, i < len → ∃ q : List Sub, ∃ b o v, ao = some ⟨b, o, none⟩ ∧ b < w.heap.size ∧ w.cell? ⟨b, o + i, none⟩ = some v ∧ RowAt w w.heap.size 3 v q.length (sbV q) := fun i hi => by
    obtain ⟨b, o, ys, n, y, e1, e2, e3, e4, e5, e6⟩ := hel i hi
    obtain ⟨v, l, rfl, hr, -⟩ := row_of (fun s : Sub => [.int .u64 s.size.toNat, .bool s.ck.has, .int .u32 s.ck.sum.toNat]) (fun _ => rfl) Tryd.underlying49 (m := 3) (by kernel_rfl) (by decide) (of_decide_eq_true (by kernel_rfl)) (fun n ys y h _ => sb_of h) e5 e6
    have := e4 0 (by decide)
    simp only [Nat.mul_one, Nat.add_zero] at this
    exact ⟨l, b, o, v, e1, e2, this, hr⟩
  obtain ⟨l, hll, hlp⟩ := rows_list each2
  refine ⟨_, l, hcs, ⟨ao, cap, by rw [hll], by omega, hc, fun j y hy => hlp j y hy⟩⟩
set_option maxRecDepth 100000 in
/-- A description, by value. -/
theorem de_of (h : DataW.trod enc Tryd.prog w base (fun _ => true) held fuel 29 cs = some x) (hz : Sz 29 x.1) : ∃ pk D F, DeR w (.agg cs.toArray) pk D F ∧ DeSz D F := by
  obtain ⟨xs, n, _, hxy, hl, hlen, hf⟩ := DataW.trod_struct Tryd.underlying29 h
  have ce : Tryd.prog.cellsOf 29 = 7 := by kernel_rfl
  have c0 : Tryd.prog.cellsOf 4 = 1 := by kernel_rfl
  have c1 : Tryd.prog.cellsOf 22 = 1 := by kernel_rfl
  have c2 : Tryd.prog.cellsOf 23 = 1 := by kernel_rfl
  have c3 : Tryd.prog.cellsOf 24 = 1 := by kernel_rfl
  have c4 : Tryd.prog.cellsOf 25 = 1 := by kernel_rfl
  have c5 : Tryd.prog.cellsOf 26 = 1 := by kernel_rfl
  have c6 : Tryd.prog.cellsOf 27 = 1 := by kernel_rfl
  rw [ce] at hl
  match cs, hl, xs, hlen with
  | [a0, a1, a2, a3, a4, a5, a6], _, [y0, y1, y2, y3, y4, y5, y6], _ =>
    have g0 := hf 0 _ rfl
    have g1 := hf 1 _ rfl
    have g2 := hf 2 _ rfl
    have g3 := hf 3 _ rfl
    have g4 := hf 4 _ rfl
    have g5 := hf 5 _ rfl
    have g6 := hf 6 _ rfl
    simp [c0, c1, c2, c3, c4, c5, c6] at g0 g1 g2 g3 g4 g5 g6
    have hz' : Sz 29 (.agg [y0.1, y1.1, y2.1, y3.1, y4.1, y5.1, y6.1]) := by rw [hxy] at hz; exact hz
    have z2 := hz'.part Tryd.underlying29 (j := 2) rfl rfl
    have z3 := hz'.part Tryd.underlying29 (j := 3) rfl rfl
    have z4 := hz'.part Tryd.underlying29 (j := 4) rfl rfl
    have z5 := hz'.part Tryd.underlying29 (j := 5) rfl rfl
    have z6 := hz'.part Tryd.underlying29 (j := 6) rfl rfl
    obtain ⟨pk, e0, _⟩ := DataW.trod_bool Tryd.underlying4 g0
    obtain ⟨k1, e1, _, wf1⟩ := DataW.trod_int Tryd.underlying22 g1
    haveI : Inhabited UInt64 := ⟨0⟩
    obtain ⟨v2, ps, e2, h2, m2⟩ := row_of (fun s : UInt64 => [.int .u64 s.toNat]) (fun _ => rfl) Tryd.underlying23 (m := 1) (by kernel_rfl) (by decide) (of_decide_eq_true (by kernel_rfl)) (fun n ys y h _ => by
      have : ys.length = 1 := by
        obtain ⟨kk, e, _, _⟩ := DataW.trod_int Tryd.underlying22 h
        rw [e]; rfl
      exact u64_of this h) g2 z2
    obtain ⟨v3, ks, e3, h3, m3⟩ := row_of (fun c : Ck => [.bool c.has, .int .u32 c.sum.toNat]) (fun _ => rfl) Tryd.underlying24 (m := 2) (by kernel_rfl) (by decide) (of_decide_eq_true (by kernel_rfl)) (fun n ys y h _ => ck_of h) g3 z3
    obtain ⟨v4, L, e4, h4, m4, m5⟩ := fols_of g4 z4
    obtain ⟨v5, S, e5, h5⟩ := subs_of g5 z5
    obtain ⟨v6, F, e6, h6, m6⟩ := row_of Fil.cells (fun _ => rfl) Tryd.underlying27 (m := 7) (by kernel_rfl) (by decide) (of_decide_eq_true (by kernel_rfl)) (fun n ys y h _ => fi_of h) g6 z6
    injection e0 with e0
    injection e1 with e1
    injection e2 with e2
    injection e3 with e3
    injection e4 with e4
    injection e5 with e5
    injection e6 with e6
    have hb := bounds_u64 wf1
    have h2' : RowAt w w.heap.size 1 v2 ps.length (u64v ps) := by
      have e := u64v_flat ps
      rw [← e]
      exact h2
    refine ⟨pk, ⟨UInt64.ofNat k1.toNat, ps, ks, L, S⟩, F, ⟨⟨.bool pk, .int .u64 (UInt64.ofNat k1.toNat).toNat, v2, v3, v4, v5, v6⟩, ?_, rfl, ⟨rfl, h2', h3, h4, h5⟩, h6⟩, ⟨m2, m4, m6, m5⟩⟩
    rw [e0, e1, e2, e3, e4, e5, e6]
    have hk : (k1 : Int) = ((UInt64.ofNat k1.toNat).toNat : Int) := by simp; omega
    simp only [← hk]
end Go.Proofs.YtkodindajfdagaaDoor
