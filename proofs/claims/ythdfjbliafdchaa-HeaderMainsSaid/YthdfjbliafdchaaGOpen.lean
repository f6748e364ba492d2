/- Folders and coders that came in. No condition. -/
import Derived.Test.YthdfjbliafdchaaGBase
import Derived.Test.YthdfjbliafdchaaOpen
import Derived.Deep.SlicePairs
namespace Go.Proofs.Ythdfjbliafdchaa
open Go.RowKit Go.Deep Go.ChangeShapes Go.WideShapes Go.ChangeAt

variable {H : Type} {enc : TypeId × Value → H} {w : World} {base : Nat} {held : Bool} {fuel : Nat} {cs : List Value} {x : DataW H × List MemPlace}

theorem sl_u8_of (h : DataW.trod enc Try.prog w base (fun _ => true) held fuel 22 cs = some x) : ∃ v bs, cs = [v] ∧ Sl w v (bv bs) := by
  rcases open_ints Try.underlying22 Try.underlying5 (by kernel_rfl) h with ⟨hcs, _⟩ | ⟨x, l, c, zs, hcs, _, hl, hm, hz, _, hcell, hwz⟩
  · exact ⟨_, [], hcs, Sl.nil w⟩
  · obtain ⟨bs, hb⟩ := open_bytes (.inr ⟨_, rfl, hl, hm, by simpa using hz, hcell, hwz⟩ : (some x = none ∧ _ ∧ _ ∧ _) ∨ _)
    exact ⟨_, bs, hcs, hb⟩

theorem sl_u64_of (h : DataW.trod enc Try.prog w base (fun _ => true) held fuel 30 cs = some x) : ∃ v bs, cs = [v] ∧ Sl w v (u64v bs) := by
  rcases open_ints Try.underlying30 Try.underlying29 (by kernel_rfl) h with ⟨hcs, _⟩ | ⟨x, l, c, zs, hcs, _, hl, hm, hz, _, hcell, hwz⟩
  · exact ⟨_, [], hcs, Sl.nil w⟩
  · obtain ⟨bs, hb⟩ := open_list_u64 (.inr ⟨_, rfl, hl, hm, by simpa using hz, hcell, hwz⟩ : (some x = none ∧ _ ∧ _ ∧ _) ∨ _)
    exact ⟨_, bs, hcs, hb⟩

theorem sl_int_of (h : DataW.trod enc Try.prog w base (fun _ => true) held fuel 42 cs = some x) : ∃ v bs, cs = [v] ∧ Sl w v (iv bs) := by
  rcases open_ints Try.underlying42 Try.underlying3 (by kernel_rfl) h with ⟨hcs, _⟩ | ⟨x, l, c, zs, hcs, _, hl, hm, hz, _, hcell, _⟩
  · exact ⟨_, [], hcs, Sl.nil w⟩
  · have hz' : zs.length = c := by simpa using hz
    refine ⟨_, zs.take l, hcs, ?_⟩
    unfold iv
    rw [List.map_take]
    refine sl_of_cells hl hm (by simpa using hz') (fun i hi => ?_)
    simp at hi
    rw [hcell i (by omega)]
    simp [hi]

theorem addr_out {w : World} {a : Addr} {v : Value} (h : w.cell? (a.add 0) = some v) : ∃ b o, a = ⟨b, o, none⟩ ∧ b < w.heap.size := by
  obtain ⟨b, o, s⟩ := a
  have e0 : (⟨b, o, s⟩ : Addr).add 0 = ⟨b, o, s⟩ := by simp [Addr.add]
  rw [e0] at h
  have hsp := World.cell?_spot h
  dsimp only at hsp
  subst hsp
  exact ⟨b, o, rfl, World.block_lt_of_cell? _ _ h⟩

theorem add_out (b o k : Nat) : (⟨b, o, none⟩ : Addr).add k = ⟨b, o + k, none⟩ := by unfold Addr.add; split <;> simp_all

theorem bi_of (h : DataW.trod enc Try.prog w base (fun _ => true) held fuel 41 cs = some x) : ∃ v l, cs = [v] ∧ Bi w v l := by
  rcases open_slice_pairs Try.underlying41 Try.underlying50 (by kernel_rfl) rfl rfl (by kernel_rfl) (by kernel_rfl) h with ⟨hcs, _⟩ | ⟨a, len, cap, m, n, V0, V1, D0, D1, P0, P1, hcs, _, hl, hm, hmm, _, hx⟩
  · exact ⟨_, [], hcs, ⟨none, 0, rfl, by simp, by simp, fun j x hx => by simp at hx⟩⟩
  · have each : ∀ i, i < len → ∃ q : Int × Int, w.cell? (a.add (i * 2)) = some (.int .i64 q.1) ∧ w.cell? (a.add (i * 2 + 1)) = some (.int .i64 q.2) := by
      intro i hi
      obtain ⟨g0, g1, t0, t1⟩ := hx i (by rw [hmm]; split <;> omega)
      obtain ⟨kk, e0, _, wf0⟩ := DataW.trod_int Try.underlying3 t0
      obtain ⟨mm, e1, _, wf1⟩ := DataW.trod_int Try.underlying3 t1
      injection e0 with e0
      injection e1 with e1
      rw [e0] at g0
      rw [e1] at g1
      exact ⟨(kk, mm), g0, g1⟩
    obtain ⟨q, hq⟩ := choose_lt each
    refine ⟨_, (List.range len).map q, hcs, ⟨some a, cap, by simp, by simpa using hl, by unfold maxLen at hm; omega, fun j y hy => ?_⟩⟩
    have hj : j < len := by have := (List.getElem?_eq_some_iff.1 hy).1; simpa using this
    have hyq : y = q j := by simp [hj] at hy; exact hy.symm
    subst hyq
    obtain ⟨b, o, rfl, hb⟩ := addr_out (by simpa using (hq 0 (by omega)).1)
    have h1 := (hq j hj).1
    have h2 := (hq j hj).2
    rw [add_out] at h1 h2
    exact ⟨b, o, rfl, hb, h1, h2⟩

theorem co_of (h : DataW.trod enc Try.prog w base (fun _ => true) held fuel 40 cs = some x) : ∃ v l, cs = [v] ∧ Co w v l := by
  rcases open_slice_pairs Try.underlying40 Try.underlying61 (by kernel_rfl) rfl rfl (by kernel_rfl) (by kernel_rfl) h with ⟨hcs, _⟩ | ⟨a, len, cap, m, n, V0, V1, D0, D1, P0, P1, hcs, _, hl, hm, hmm, _, hx⟩
  · exact ⟨_, [], hcs, ⟨none, 0, rfl, by simp, by simp, fun j x hx => by simp at hx⟩⟩
  · have each : ∀ i, i < len → ∃ q : Coder × Value, w.cell? (a.add (i * 2)) = some (.int .i64 q.1.method) ∧ w.cell? (a.add (i * 2 + 1)) = some q.2 ∧ Sl w q.2 (bv q.1.props) := by
      intro i hi
      obtain ⟨g0, g1, t0, t1⟩ := hx i (by rw [hmm]; split <;> omega)
      obtain ⟨kk, e0, _, wf0⟩ := DataW.trod_int Try.underlying3 t0
      obtain ⟨v, bs, e1, hs⟩ := sl_u8_of t1
      injection e0 with e0
      injection e1 with e1
      rw [e0] at g0
      rw [e1] at g1
      exact ⟨(⟨kk, bs⟩, v), g0, g1, hs⟩
    haveI : Inhabited (Coder × Value) := ⟨(⟨0, []⟩, .bool false)⟩
    obtain ⟨q, hq⟩ := choose_lt each
    refine ⟨_, (List.range len).map fun i => (q i).1, hcs, ⟨some a, cap, by simp, by simpa using hl, by unfold maxLen at hm; omega, fun j y hy => ?_⟩⟩
    have hj : j < len := by have := (List.getElem?_eq_some_iff.1 hy).1; simpa using this
    have hyq : y = (q j).1 := by simp [hj] at hy; exact hy.symm
    subst hyq
    obtain ⟨b, o, rfl, hb⟩ := addr_out (by simpa using (hq 0 (by omega)).1)
    obtain ⟨h1, h2, h3⟩ := hq j hj
    rw [add_out] at h1 h2
    exact ⟨b, o, _, rfl, hb, h1, h2, h3⟩

set_option maxRecDepth 100000 in
/-- A coder, by value. -/
theorem coder_of (h : DataW.trod enc Try.prog w base (fun _ => true) held fuel 61 cs = some x) : ∃ m v bs, cs = [.int .i64 m, v] ∧ Sl w v (bv bs) := by
  obtain ⟨y0, y1, n, _, hl, h0, h1⟩ := trod_struct2 Try.underlying61 h
  have ce : Try.prog.cellsOf 61 = 2 := by kernel_rfl
  have c0 : Try.prog.cellsOf 3 = 1 := by kernel_rfl
  have c1 : Try.prog.cellsOf 22 = 1 := by kernel_rfl
  rw [ce] at hl
  match cs, hl with
  | [a, b], _ =>
    simp [c0, c1] at h0 h1
    obtain ⟨kk, e0, _, wf0⟩ := DataW.trod_int Try.underlying3 h0
    obtain ⟨v, bs, e1, hs⟩ := sl_u8_of h1
    injection e0 with e0
    injection e1 with e1
    subst e0 e1
    exact ⟨kk, _, bs, rfl, hs⟩

set_option maxRecDepth 100000 in
/-- A folder, by value. -/
theorem fo_of (h : DataW.trod enc Try.prog w base (fun _ => true) held fuel 47 cs = some x) : ∃ v f, v = .agg cs.toArray ∧ Fo w v f := by
  obtain ⟨xs, n, _, _, hl, hlen, hf⟩ := DataW.trod_struct Try.underlying47 h
  have ce : Try.prog.cellsOf 47 = 6 := by kernel_rfl
  have c0 : Try.prog.cellsOf 40 = 1 := by kernel_rfl
  have c1 : Try.prog.cellsOf 41 = 1 := by kernel_rfl
  have c2 : Try.prog.cellsOf 42 = 1 := by kernel_rfl
  have c3 : Try.prog.cellsOf 30 = 1 := by kernel_rfl
  rw [ce] at hl
  match cs, hl, xs, hlen with
  | [a0, a1, a2, a3, a4, a5], _, [y0, y1, y2, y3, y4], _ =>
    have g0 := hf 0 _ rfl
    have g1 := hf 1 _ rfl
    have g2 := hf 2 _ rfl
    have g3 := hf 3 _ rfl
    simp [c0, c1, c2, c3] at g0 g1 g2 g3
    obtain ⟨v0, l0, e0, h0⟩ := co_of g0
    obtain ⟨v1, l1, e1, h1⟩ := bi_of g1
    obtain ⟨v2, l2, e2, h2⟩ := sl_int_of g2
    obtain ⟨v3, l3, e3, h3⟩ := sl_u64_of g3
    injection e0 with e0
    injection e1 with e1
    injection e2 with e2
    injection e3 with e3
    subst e0 e1 e2 e3
    exact ⟨_, ⟨l0, l1, l2, l3⟩, rfl, _, _, _, _, _, _, rfl, h0, h1, h2, h3⟩
end Go.Proofs.Ythdfjbliafdchaa
