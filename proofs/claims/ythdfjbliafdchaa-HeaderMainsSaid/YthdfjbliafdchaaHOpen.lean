/- Folders that came in, with their binds' bounds. No condition. -/
import Derived.Test.YthdfjbliafdchaaGOpen
namespace Go.Proofs.Ythdfjbliafdchaa
open Go.RowKit Go.Deep Go.ChangeShapes Go.WideShapes Go.ChangeAt

variable {H : Type} {enc : TypeId × Value → H} {w : World} {base : Nat} {held : Bool} {fuel : Nat} {cs : List Value} {x : DataW H × List MemPlace}

theorem bi_ofW (h : DataW.trod enc Try.prog w base (fun _ => true) held fuel 41 cs = some x) : ∃ v l, cs = [v] ∧ Bi w v l ∧ ∀ b ∈ l, (Lit.int .i64 b.2).wf = true := by
  rcases open_slice_pairs Try.underlying41 Try.underlying50 (by kernel_rfl) rfl rfl (by kernel_rfl) (by kernel_rfl) h with ⟨hcs, _⟩ | ⟨a, len, cap, m, n, V0, V1, D0, D1, P0, P1, hcs, _, hl, hm, hmm, _, hx⟩
  · exact ⟨_, [], hcs, ⟨none, 0, rfl, by simp, by simp, fun j x hx => by simp at hx⟩, by simp⟩
  · have each : ∀ i, i < len → ∃ q : Int × Int, w.cell? (a.add (i * 2)) = some (.int .i64 q.1) ∧ w.cell? (a.add (i * 2 + 1)) = some (.int .i64 q.2) ∧ (Lit.int .i64 q.2).wf = true := by
      intro i hi
      obtain ⟨g0, g1, t0, t1⟩ := hx i (by rw [hmm]; split <;> omega)
      obtain ⟨kk, e0, _, wf0⟩ := DataW.trod_int Try.underlying3 t0
      obtain ⟨mm, e1, _, wf1⟩ := DataW.trod_int Try.underlying3 t1
      injection e0 with e0
      injection e1 with e1
      rw [e0] at g0
      rw [e1] at g1
      exact ⟨(kk, mm), g0, g1, wf1⟩
    obtain ⟨q, hq⟩ := choose_lt each
    refine ⟨_, (List.range len).map q, hcs, ⟨some a, cap, by simp, by simpa using hl, by unfold maxLen at hm; omega, fun j y hy => ?_⟩, fun b hb => ?_⟩
    · have hj : j < len := by have := (List.getElem?_eq_some_iff.1 hy).1; simpa using this
      have hyq : y = q j := by simp [hj] at hy; exact hy.symm
      subst hyq
      obtain ⟨b, o, rfl, hb⟩ := addr_out (by simpa using (hq 0 (by omega)).1)
      have h1 := (hq j hj).1
      have h2 := (hq j hj).2.1
      rw [add_out] at h1 h2
      exact ⟨b, o, rfl, hb, h1, h2⟩
    · obtain ⟨j, hj, rfl⟩ := List.mem_map.1 hb
      exact (hq j (List.mem_range.1 hj)).2.2

set_option maxRecDepth 100000 in
/-- A folder, by value; its binds' numbers are numbers of 64 bits. -/
theorem fo_ofW (h : DataW.trod enc Try.prog w base (fun _ => true) held fuel 47 cs = some x) : ∃ v f, v = .agg cs.toArray ∧ Fo w v f ∧ ∀ b ∈ f.binds, (Lit.int .i64 b.2).wf = true := by
  obtain ⟨xs, n, _, _, hl, hlen, hf⟩ := DataW.trod_struct Try.underlying47 h
  have ce : Try.prog.cellsOf 47 = 6 := by kernel_rfl
  have c0 : Try.prog.cellsOf 40 = 1 := by kernel_rfl
  have c1 : Try.prog.cellsOf 41 = 1 := by kernel_rfl
  have c2 : Try.prog.cellsOf 42 = 1 := by kernel_rfl
  have c3 : Try.prog.cellsOf 30 = 1 := by kernel_rfl
  rw [ce] at hl
  match cs, hl, xs, hlen with
  | [a0, a1, a2, a3, a4, a5], _, [y0, y1, y2, y3, y4], _ =>
    have g0 := hf 0 _ rfl
    have g1 := hf 1 _ rfl
    have g2 := hf 2 _ rfl
    have g3 := hf 3 _ rfl
    simp [c0, c1, c2, c3] at g0 g1 g2 g3
    obtain ⟨v0, l0, e0, h0⟩ := co_of g0
    obtain ⟨v1, l1, e1, h1, hw1⟩ := bi_ofW g1
    obtain ⟨v2, l2, e2, h2⟩ := sl_int_of g2
    obtain ⟨v3, l3, e3, h3⟩ := sl_u64_of g3
    injection e0 with e0
    injection e1 with e1
    injection e2 with e2
    injection e3 with e3
    subst e0 e1 e2 e3
    exact ⟨_, ⟨l0, l1, l2, l3⟩, rfl, ⟨_, _, _, _, _, _, rfl, h0, h1, h2, h3⟩, hw1⟩
end Go.Proofs.Ythdfjbliafdchaa
