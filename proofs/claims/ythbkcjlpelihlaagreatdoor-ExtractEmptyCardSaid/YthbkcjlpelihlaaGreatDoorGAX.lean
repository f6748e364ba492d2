/- Arguments that came in, read as lists. No condition. -/
import Derived.Test.YthbkcjlpelihlaaGreatDoorBaseM
import Derived.ProofKit
import Derived.OpenShut
import Derived.ShutString
import Derived.ChangeOld
import Derived.Deep.Grids
import Derived.Test.YthbkcjlpelihlaaGreatDoorGAO
import Derived.SizedLaws
namespace Go.Proofs.YthbkcjlpelihlaaGreatDoor
open Go.RowKit Go.ChangeShapes Go.WideShapes Go.ChangeAt

theorem sl_of_cells {w : World} {x : Addr} {len cap : Nat} {vs : List Value} (hl : len ≤ cap) (hm : cap ≤ maxLen) (hz : vs.length = cap)
    (hcell : ∀ i, i < vs.length → w.cell? (x.add i) = vs[i]?) : Sl w (.slice (some x) len cap) (vs.take len) := by
  have hlen : (vs.take len).length = len := by simp; omega
  refine ⟨some x, cap, by rw [hlen], by omega, by unfold maxLen at hm; omega, by simp, fun a ha hc => ?_⟩
  obtain rfl := Option.some.inj ha
  have h0 := hcell 0 (by omega)
  obtain ⟨b, o, s⟩ := x
  have e0 : (⟨b, o, s⟩ : Addr).add 0 = ⟨b, o, s⟩ := by simp [Addr.add]
  rw [e0] at h0
  have hv : vs[0]? = some vs[0] := by simp
  rw [hv] at h0
  have hsp := World.cell?_spot h0
  dsimp only at hsp
  subst hsp
  refine ⟨rfl, World.block_lt_of_cell? _ _ h0, fun j hj => ?_⟩
  rw [hlen] at hj
  have hadd : (⟨b, o, none⟩ : Addr).add j = ⟨b, o + j, none⟩ := by unfold Addr.add; split <;> simp_all
  dsimp only
  rw [← hadd, hcell j (by omega), List.getElem?_take, if_pos hj]

theorem bytes_of_ints (zs : List Int) (h : ∀ n ∈ zs, (Lit.int .u8 n).wf = true) : ∃ bs : List UInt8, zs.map (Value.int .u8) = bv bs := by
  refine ⟨zs.map fun z => UInt8.ofNat z.toNat, ?_⟩
  simp only [bv, List.map_map]
  apply List.map_congr_left
  intro n hn
  have := bounds_u8 (h n hn)
  simp
  omega

/-- A slice of bytes that came in. -/
theorem open_bytes {w : World} {a : Option Addr} {len cap : Nat} {zs : List Int}
    (h : (a = none ∧ len = 0 ∧ cap = 0 ∧ zs = []) ∨ ∃ x, a = some x ∧ len ≤ cap ∧ cap ≤ maxLen ∧ zs.length = cap ∧ (∀ i, i < zs.length → w.cell? (x.add i) = some (.int .u8 (zs.getD i 0))) ∧ ∀ n ∈ zs, (Lit.int .u8 n).wf = true) :
    ∃ bs, Sl w (.slice a len cap) (bv bs) := by
  rcases h with ⟨rfl, rfl, rfl, rfl⟩ | ⟨x, rfl, hl, hm, hz, hcell, hwf⟩
  · exact ⟨[], Sl.nil w⟩
  · obtain ⟨bs, hbs⟩ := bytes_of_ints (zs.take len) (fun n hn => hwf n (List.mem_of_mem_take hn))
    refine ⟨bs, ?_⟩
    rw [← hbs, List.map_take]
    refine sl_of_cells hl hm (by simpa using hz) (fun i hi => ?_)
    simp at hi
    rw [hcell i hi]
    simp [hi]

/-- A slice of bits that came in. -/
theorem open_bools' {H : Type} {enc : TypeId × Value → H} {P : Program} {w : World} {base : Nat} {held : Bool} {t e : TypeId} {fuel : Nat} {a : Option Addr} {len cap : Nat} {x : DataW H × List MemPlace}
    (ht : P.underlying t = some (.slice e)) (he : P.underlying e = some .bool) (hc : P.cellsOf e = 1)
    (h : DataW.trod enc P w base (fun _ => true) held fuel t (Value.slice a len cap).cells.toList = some x) : ∃ bs, Sl w (.slice a len cap) (tv bs) := by
  rcases Go.Deep.open_bools ht he hc h with ⟨hcs, _⟩ | ⟨x, l, c, B, hcs, _, hl, hm, _, hcell⟩
  · simp [Value.cells] at hcs
    obtain ⟨rfl, rfl, rfl⟩ := hcs
    exact ⟨[], Sl.nil w⟩
  · simp [Value.cells] at hcs
    obtain ⟨rfl, rfl, rfl⟩ := hcs
    have hs := sl_of_cells (w := w) (x := x) (vs := (List.range cap).map fun i => Value.bool (B i)) hl hm (by simp) (fun i hi => by
      simp at hi
      rw [hcell i hi]
      simp [hi])
    exact ⟨((List.range cap).map B).take len, by unfold tv; rw [List.map_take, List.map_map]; exact hs⟩

theorem words_of_ints (zs : List Int) (h : ∀ n ∈ zs, (Lit.int .u64 n).wf = true) : ∃ ws : List UInt64, zs.map (Value.int .u64) = u64v ws := by
  refine ⟨zs.map fun z => UInt64.ofNat z.toNat, ?_⟩
  simp only [u64v, List.map_map]
  apply List.map_congr_left
  intro n hn
  have := bounds_u64 (h n hn)
  simp
  omega

/-- A slice of words that came in. -/
theorem open_list_u64 {w : World} {a : Option Addr} {len cap : Nat} {zs : List Int}
    (h : (a = none ∧ len = 0 ∧ cap = 0 ∧ zs = []) ∨ ∃ x, a = some x ∧ len ≤ cap ∧ cap ≤ maxLen ∧ zs.length = cap ∧ (∀ i, i < zs.length → w.cell? (x.add i) = some (.int .u64 (zs.getD i 0))) ∧ ∀ n ∈ zs, (Lit.int .u64 n).wf = true) :
    ∃ ws, Sl w (.slice a len cap) (u64v ws) := by
  rcases h with ⟨rfl, rfl, rfl, rfl⟩ | ⟨x, rfl, hl, hm, hz, hcell, hwf⟩
  · exact ⟨[], Sl.nil w⟩
  · obtain ⟨ws, hws⟩ := words_of_ints (zs.take len) (fun n hn => hwf n (List.mem_of_mem_take hn))
    refine ⟨ws, ?_⟩
    rw [← hws, List.map_take]
    refine sl_of_cells hl hm (by simpa using hz) (fun i hi => ?_)
    simp at hi
    rw [hcell i hi]
    simp [hi]

/-- The block of a slice that came in lies in the memory. -/
theorem slice_block_lt {P : Program} {w : World} {r : Reach} {base : Nat} {t e : TypeId} {a : Option Addr} {len cap : Nat} (ht : P.underlying t = some (.slice e)) (h : Value.okWide P w r base t (.slice a len cap)) :
    ∀ k, (Value.slice a len cap).ownBlock = some k → k < w.heap.size := by
  intro k hk
  cases a with
  | none => simp [Value.ownBlock] at hk
  | some x =>
    simp only [Value.okWide, ht, Cell.okWide, Cell.ok] at h
    obtain ⟨_, _, _, _, row, cells, hs, _⟩ := h
    simp [Value.ownBlock] at hk
    subst hk
    unfold World.shape? at hs
    cases hx : w.heap[x.block]? with
    | none => simp [hx] at hs
    | some o => exact (Array.getElem?_eq_some_iff.1 hx).1
end Go.Proofs.YthbkcjlpelihlaaGreatDoor
/- Things that came in. No condition. -/
namespace Go.Proofs.YthbkcjlpelihlaaGreatDoor
open Go.RowKit Go.Deep Go.ChangeShapes Go.WideShapes Go.ChangeAt

variable {H : Type} {enc : TypeId × Value → H} {w : World} {base : Nat} {held : Bool} {fuel : Nat} {cs : List Value} {x : DataW H × List MemPlace}

theorem sl_u8_of (h : DataW.trod enc Tryz.prog w base (fun _ => true) held fuel 26 cs = some x) : ∃ v bs, cs = [v] ∧ Sl w v (bv bs) := by
  rcases open_ints Tryz.underlying26 Tryz.underlying5 (by kernel_rfl) h with ⟨hcs, _⟩ | ⟨x, l, c, zs, hcs, _, hl, hm, hz, _, hcell, hwz⟩
  · exact ⟨_, [], hcs, Sl.nil w⟩
  · obtain ⟨bs, hb⟩ := open_bytes (.inr ⟨_, rfl, hl, hm, by simpa using hz, hcell, hwz⟩ : (some x = none ∧ _ ∧ _ ∧ _) ∨ _)
    exact ⟨_, bs, hcs, hb⟩
theorem addr_out {w : World} {a : Addr} {v : Value} (h : w.cell? (a.add 0) = some v) : ∃ b o, a = ⟨b, o, none⟩ ∧ b < w.heap.size := by
  obtain ⟨b, o, s⟩ := a
  have e0 : (⟨b, o, s⟩ : Addr).add 0 = ⟨b, o, s⟩ := by simp [Addr.add]
  rw [e0] at h
  have hsp := World.cell?_spot h
  dsimp only at hsp
  subst hsp
  exact ⟨b, o, rfl, World.block_lt_of_cell? _ _ h⟩
theorem add_out (b o k : Nat) : (⟨b, o, none⟩ : Addr).add k = ⟨b, o + k, none⟩ := by unfold Addr.add; split <;> simp_all
/-- A row that came in: its elements' cells, each of which reads. -/
theorem open_row {t e : TypeId} {m : Nat} (ht : Tryz.prog.underlying t = some (.slice e)) (ce : Tryz.prog.cellsOf e = m) (hm0 : 0 < m)
    (h : DataW.trod enc Tryz.prog w base (fun _ => true) held fuel t cs = some x) :
    ∃ ao len cap, cs = [.slice ao len cap] ∧ len ≤ cap ∧ cap ≤ 9223372036854775807 ∧ ∀ i, i < len → ∃ b o ys n y, ao = some ⟨b, o, none⟩ ∧ b < w.heap.size ∧ ys.length = m ∧ (∀ j, j < m → w.cell? ⟨b, o + i * m + j, none⟩ = ys[j]?) ∧
      DataW.trod enc Tryz.prog w base (fun _ => true) held n e ys = some y := by
  rcases open_slice ht h with ⟨hcs, _⟩ | ⟨a, len, cap, k, n, D, Pl, hcs, hb, hl, hc, hk, hx, hel⟩
  · exact ⟨none, 0, 0, hcs, by simp, by simp, fun i hi => by omega⟩
  · refine ⟨some a, len, cap, hcs, hl, by unfold maxLen at hc; omega, fun i hi => ?_⟩
    have hik : i < k := by rw [hk]; show i < cap; omega
    have h0k : 0 < k := by omega
    obtain ⟨cs0, g1, g2⟩ := hel 0 h0k
    obtain ⟨cs', h1, h2⟩ := hel i hik
    rw [ce] at h1 g1
    obtain ⟨_, hlen', hcell⟩ := World.cells?_some h1
    obtain ⟨_, glen', gcell⟩ := World.cells?_some g1
    have hc0 := gcell 0 (by omega)
    obtain ⟨v0, hv0⟩ := some_get cs0 0 (by omega)
    have ha0 : w.cell? (a.add 0) = some v0 := by
      have e : (a.add (0 * m)).add 0 = a.add 0 := by rw [add_add]; simp
      rw [e] at hc0
      exact hc0.trans hv0
    obtain ⟨b, o, rfl, hbl⟩ := addr_out ha0
    refine ⟨b, o, cs', n, (D i, Pl i), rfl, hbl, hlen', fun j hj => ?_, h2⟩
    have := hcell j (by omega)
    rw [add_add, add_out, ← Nat.add_assoc] at this
    exact this
theorem rows_list {α : Type} [Inhabited α] {len : Nat} {P : Nat → α → Prop} (h : ∀ i, i < len → ∃ q, P i q) : ∃ l : List α, l.length = len ∧ ∀ (i : Nat) x, l[i]? = some x → P i x := by
  obtain ⟨q, hq⟩ := choose_lt h
  refine ⟨(List.range len).map q, by simp, fun i x hx => ?_⟩
  have hi : i < len := by have := (List.getElem?_eq_some_iff.1 hx).1; simpa using this
  have : x = q i := by simp [hi] at hx; exact hx.symm
  rw [this]
  exact hq i hi
/-- A slice's block is there, if it has room. -/
theorem Sl.room {w : World} {ao : Option Addr} {n cap : Nat} {xs : List Value} (h : Sl w (.slice ao n cap) xs) (h0 : 0 < cap) (k : Nat) (hk : (Value.slice ao n cap).ownBlock = some k) : k < w.heap.size := by
  obtain ⟨ao', cap', e, h1, h2, h3, h4⟩ := h
  injection e with e1 e2 e3
  subst e1 e3
  cases ao with
  | none => simp [Value.ownBlock] at hk
  | some a =>
    obtain ⟨-, q2, -⟩ := h4 a rfl h0
    simp [Value.ownBlock] at hk
    omega
set_option maxRecDepth 100000 in
theorem th_of {n : Nat} {ys : List Value} {y : DataW H × List MemPlace} (h : DataW.trod enc Tryz.prog w base (fun _ => true) held n 49 ys = some y) :
    ∃ q : Th × Value, ys = [.string ⟨q.1.path.toArray⟩, .int .i64 q.1.tv.kind, q.2, .string ⟨q.1.tv.ln.toArray⟩] ∧ Sl w q.2 (bv q.1.tv.data) := by
  obtain ⟨xs, n, _, hxy, hl, hlen, hf⟩ := DataW.trod_struct Tryz.underlying49 h
  have ce : Tryz.prog.cellsOf 49 = 4 := by kernel_rfl
  have c0 : Tryz.prog.cellsOf 9 = 1 := by kernel_rfl
  have c1 : Tryz.prog.cellsOf 3 = 1 := by kernel_rfl
  have c2 : Tryz.prog.cellsOf 26 = 1 := by kernel_rfl
  rw [ce] at hl
  match ys, hl, xs, hlen with
  | [a0, a1, a2, a3], _, [y0, y1, y2, y3], _ =>
    have g0 := hf 0 _ rfl
    have g1 := hf 1 _ rfl
    have g2 := hf 2 _ rfl
    have g3 := hf 3 _ rfl
    simp [c0, c1, c2] at g0 g1 g2 g3
    obtain ⟨s0, e0, _⟩ := DataW.trod_string Tryz.underlying9 g0
    obtain ⟨k1, e1, _, wf1⟩ := DataW.trod_int Tryz.underlying3 g1
    obtain ⟨v2, bs, e2, h2⟩ := sl_u8_of g2
    obtain ⟨s3, e3, _⟩ := DataW.trod_string Tryz.underlying9 g3
    injection e0 with e0
    injection e1 with e1
    injection e2 with e2
    injection e3 with e3
    refine ⟨(⟨s0.data.toList, ⟨k1, bs, s3.data.toList⟩⟩, v2), ?_, h2⟩
    rw [e0, e1, e2, e3]
theorem ths_of (h : DataW.trod enc Tryz.prog w base (fun _ => true) held fuel 22 cs = some x) : ∃ v L, cs = [v] ∧ ThAt w w.heap.size v L := by
  obtain ⟨ao, len, cap, hcs, hl, hc, hel⟩ := open_row Tryz.underlying22 (m := 4) (by kernel_rfl) (by decide) h
  have each2 : ∀ i, i < len → ∃ q : Th × Value, (∃ b o, ao = some ⟨b, o, none⟩ ∧ b < w.heap.size ∧ ∀ j, j < 4 → w.cell? ⟨b, o + i * 4 + j, none⟩ = [Value.string ⟨q.1.path.toArray⟩, .int .i64 q.1.tv.kind, q.2, .string ⟨q.1.tv.ln.toArray⟩][j]?) ∧ Sl w q.2 (bv q.1.tv.data) := fun i hi => by
    obtain ⟨b, o, ys, n, y, e1, e2, e3, e4, e5⟩ := hel i hi
    obtain ⟨q, rfl, hq⟩ := th_of e5
    exact ⟨q, ⟨b, o, e1, e2, e4⟩, hq⟩
  haveI : Inhabited (Th × Value) := ⟨(⟨[], ⟨0, [], []⟩⟩, .bool false)⟩
  obtain ⟨l, hll, hlp⟩ := rows_list each2
  refine ⟨_, l.map (·.1), hcs, ⟨ao, cap, by rw [List.length_map, hll], by rw [List.length_map]; omega, hc, fun j y hy => ?_⟩⟩
  rw [List.getElem?_map] at hy
  obtain ⟨q, hq, rfl⟩ := Option.map_eq_some_iff.1 hy
  obtain ⟨⟨b, o, e1, e2, e3⟩, e4⟩ := hlp j q hq
  obtain ⟨dao, dcap, ed, -, -⟩ := e4.out
  rw [bv_length] at ed
  obtain ⟨t, dv⟩ := q
  dsimp only at ed e3 e4
  subst ed
  exact ⟨b, o, dao, dcap, e1, e2, e2, e3 0 (by decide), e3 1 (by decide), e3 2 (by decide), e3 3 (by decide), e4, e4.room⟩
theorem ths_nil (h : DataW.trod enc Tryz.prog w base (fun _ => true) held fuel 22 cs = some x) {n c : Nat} (hcs : cs = [.slice none n c]) : c = 0 := by
  rcases open_slice Tryz.underlying22 h with ⟨e, _⟩ | ⟨a, len, cap, k, n', D, Pl, e, -⟩
  · rw [e] at hcs
    injection hcs with h1
    injection h1 with _ _ h3
    exact h3.symm
  · rw [e] at hcs
    injection hcs with h1
    injection h1 with h2 _ _
    cases h2
/-- What a reading weighs. -/
def Sz {H : Type} (t : TypeId) (d : DataW H) : Prop := ∀ n ∈ d.weights Tryz.prog t, n ≤ reachBytes
theorem Sz.len {H : Type} {t e : TypeId} (ht : Tryz.prog.underlying t = some (.slice e)) {elems spare : List (DataW H)} (h : Sz t (.slice elems spare)) : (elems.length + spare.length) * Tryz.prog.bytesOf e ≤ reachBytes :=
  h _ (by simp only [DataW.weights, ht, List.mem_cons]; first | exact .inl trivial | exact .inl rfl)
theorem bools_of (h : DataW.trod enc Tryz.prog w base (fun _ => true) held fuel 23 cs = some x) (hz : Sz 23 x.1) {ao : Option Addr} {n c : Nat} (hcs : cs = [.slice ao n c]) : ∃ fl, Sl w (.slice ao n c) (tv fl) ∧ fl.length ≤ 140737488355328 := by
  subst hcs
  obtain ⟨fl, hf⟩ := open_bools' Tryz.underlying23 Tryz.underlying4 (by kernel_rfl) h
  refine ⟨fl, hf, ?_⟩
  have hn : fl.length = n := by
    obtain ⟨_, _, e, -⟩ := hf
    injection e with _ e2 _
    rw [e2, tv_length]
  rcases open_slice Tryz.underlying23 h with ⟨e, _⟩ | ⟨a, len, cap, k, n', D, Pl, e, hb, hl, hc, hk, hx, hel⟩
  · injection e with h1
    injection h1 with _ h2 _
    omega
  · injection e with h1
    injection h1 with _ h2 _
    have hx1 : x.1 = .slice ((List.range len).map D) ((List.range (k - len)).map fun j => D (len + j)) := by rw [hx]
    rw [hx1] at hz
    have hlen := hz.len Tryz.underlying23
    rw [List.length_map, List.length_range] at hlen
    have hreach : reachBytes < 140737488355328 := by decide
    have hle : len ≤ (len + ((List.range (k - len)).map fun j => D (len + j)).length) * Tryz.prog.bytesOf 4 := by
      have h1 := Nat.le_mul_of_pos_right (len + ((List.range (k - len)).map fun j => D (len + j)).length) (show 0 < Tryz.prog.bytesOf 4 from of_decide_eq_true (by kernel_rfl))
      omega
    omega
end Go.Proofs.YthbkcjlpelihlaaGreatDoor
/- A world that came in (layer 26). No condition. -/
namespace Go.Proofs.YthbkcjlpelihlaaGreatDoor
open Go.RowKit Go.Deep Go.ChangeShapes Go.WideShapes Go.ChangeAt

variable {H : Type} {enc : TypeId × Value → H} {w : World} {base : Nat} {held : Bool} {fuel : Nat} {cs : List Value} {x : DataW H × List MemPlace}

set_option maxRecDepth 100000 in
theorem wo_of (h : DataW.trod enc Tryz.prog w base (fun _ => true) held fuel 25 cs = some x) :
    ∃ (tv fv : Value) (L : List Th) (root : List UInt8), cs = [tv, fv, .string ⟨root.toArray⟩] ∧ ThAt w w.heap.size tv L := by
  obtain ⟨xs, n, _, hxy, hl, hlen, hf⟩ := DataW.trod_struct Tryz.underlying25 h
  have ce : Tryz.prog.cellsOf 25 = 3 := by kernel_rfl
  have c0 : Tryz.prog.cellsOf 22 = 1 := by kernel_rfl
  have c2 : Tryz.prog.cellsOf 9 = 1 := by kernel_rfl
  rw [ce] at hl
  match cs, hl, xs, hlen with
  | [a0, a1, a2], _, [y0, y1, y2], _ =>
    have g0 := hf 0 _ rfl
    have g2 := hf 2 _ rfl
    simp [c0, c2] at g0 g2
    obtain ⟨v, L, e0, hT⟩ := ths_of g0
    obtain ⟨s2, e2, _⟩ := DataW.trod_string Tryz.underlying9 g2
    injection e0 with e0
    injection e2 with e2
    exact ⟨a0, a1, L, s2.data.toList, by rw [e2], by rw [e0]; exact hT⟩
end Go.Proofs.YthbkcjlpelihlaaGreatDoor
