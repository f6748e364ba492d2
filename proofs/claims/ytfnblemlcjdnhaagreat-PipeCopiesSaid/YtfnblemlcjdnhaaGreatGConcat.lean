/- Contracts: slices.Grow of nil, slices.Concat of two. No condition but that lengths fit. -/
import Derived.Test.YtfnblemlcjdnhaaGreatGBase
import Derived.Lib.AppendZerosOnto
import Derived.LoopN
namespace Go.Proofs.YtfnblemlcjdnhaaGreat
open Go.RowKit Go.Lib

theorem info_u64 : (Tryz.prog.info? 39).map (fun i => (i.zero, i.size, i.bytes)) = some (some (.int .u64 0), 1, 8) := by kernel_rfl
theorem sty_u64 : SlTy Tryz.prog 32 39 (.int .u64 0) 8 := ⟨Tryz.underlying32, by obtain ⟨i, h⟩ := info_parts info_u64; exact ⟨i, h⟩, rfl⟩
theorem u64v_one (l : List UInt64) : ∀ u ∈ u64v l, u.oneCell' = true := by intro u hu; simp [u64v] at hu; obtain ⟨x, _, rfl⟩ := hu; rfl

/-- 'append(nil, make([]uint64, n)...)'. -/
theorem wpList_zeros {w : World} {ops : Array Oper} {rest : List Oper} {o : Oper} {a : Act} {Q : Exit → Act → World → Prop} (hgd : o.guard = none) (s x : Operand)
    (ho : o.op = .call { callee := .builtin .append, args := #[s, x], argTypes := #[32, 3] }) (n : Nat) (hs : a.eval s = .slice none 0 0) (hx : a.eval x = .int .i64 n) (h0 : 0 < n) (hn : n ≤ 1000000000)
    (h : ∀ G w', n ≤ G → G ≤ 9223372036854775807 → w'.ownsRow w.heap.size 39 1 (.slice (some ⟨w.heap.size, 0, none⟩) 0 G) 0 [] → Fr [] w w' → wpList Tryz.prog ops Q rest (a.put o.dst (.slice (some ⟨w.heap.size, 0, none⟩) n G)) w') :
    wpList Tryz.prog ops Q (o :: rest) a w := by
  obtain ⟨i0, hi, hz0, hz1, hz2⟩ := info_parts info_u64
  have hrun := fun ty => run_append_grow_zeros (P := Tryz.prog) w 32 3 ty 39 i0 (.int .u64 0) .i64 .i64 Tryz.underlying32 Tryz.underlying3 hi hz0 none 0 0 [] (run_firstCells_none w.drew _ 0 0 0) n (by omega) (by omega) (by omega) (by omega) (by rw [hz2]; omega) (by rw [hz2]; have := nextslicecap_le (need := 0 + n) (old := 0) (by omega); omega)
  simp only [Nat.zero_add] at hrun
  have hge := grownCap_ge w n 0 39
  have hle := grownCap_le_maxLen w n 0 39 (by unfold maxLen; omega)
  generalize grownCap w n 0 39 = G at hrun hge hle
  refine wpList_plain hgd fun K hK => ?_
  unfold Oper.wp
  simp [execOp, ho, resolve, invoke, builtin, hs, hx, hrun, Result.andThen]
  refine hK _ _ (h G _ hge (by unfold maxLen at hle; omega) ?_ ?_)
  · refine ⟨rfl, .inr ⟨w.heap.size, G, _, rfl, Nat.le_refl _, heap_alloc_new w.drew _, Nat.zero_le _, hle, ?_, by simp⟩⟩
    simp [Builtin.zeroCells, Value.cells]
    omega
  · exact ((Fr.refl _ _).drew).alloc _

theorem grow_any (w : World) (n : Nat) (hn : n ≤ 1000000000) :
    Calls Tryz.prog 55 #[.slice none 0 0, .int .i64 n] w fun e w' => ∃ r, e = .returned r ∧ w'.ownsRow w.heap.size 39 1 r 0 [] ∧ Fr [] w w' := by
  by_cases h0 : n = 0
  · subst h0
    go_enter Tryz.func55, Tryz.ntmps55
    go_wp2
    go_ret
    exact ⟨_, rfl, World.ownsRow_nil _ _ _ _, Fr.refl _ _⟩
  · have hpos : (0 : Int) < n := by omega
    go_enter Tryz.func55, Tryz.ntmps55
    go_wp2_with (at_builtin; refine wpList_zeros rfl _ _ (by rfl) n (by rfl) (by rfl) (by omega) hn ?_; intro G w1 hge hle hown F1)
    go_ret
    exact ⟨_, rfl, hown, F1⟩

/-- 'slices.Concat(a, b)'. -/
theorem concat_any (w : World) (g : Nat) (hg : g < w.heap.size) (av bv' : Value) (a b : List UInt64) (c0 : w.cell? ⟨g, 0, none⟩ = some av) (c1 : w.cell? ⟨g, 1, none⟩ = some bv') (ha : Sl w av (u64v a)) (hb : Sl w bv' (u64v b)) (la : a.length ≤ 100000) (lb : b.length ≤ 100000) :
    Calls Tryz.prog 31 #[.slice (some ⟨g, 0, none⟩) 2 2] w fun e w' => ∃ r, e = .returned r ∧ Sl w' r (u64v (a ++ b)) ∧ Fr [] w w' := by
  have HA := Lib.hid ha
  have HB := Lib.hid hb
  obtain ⟨aoa, capa, rfl, ga, ma, -⟩ := ha.out
  obtain ⟨aob, capb, rfl, gb, mb, -⟩ := hb.out
  clear ha hb
  simp only [u64v_length] at *
  go_enter Tryz.func31, Tryz.ntmps31
  go_wp2_with fail
  refine wp_loop_rounds 3 ?_
  rw [rounds_succ]
  go_wp2_with fail
  rw [rounds_succ]
  go_wp2_with fail
  rw [rounds_succ]
  go_wp2_with fail
  rw [show ((a.length : Int) + (b.length : Int)) = ((a.length + b.length : Nat) : Int) from (Int.natCast_add _ _).symm]
  refine (grow_any w _ (by omega)).mono ?_
  rintro e w1 ⟨r, rfl, own1, F1⟩
  have d0 := (F1.cell (p := ⟨g, 0, none⟩) hg (by simp)).trans c0
  have d1 := (F1.cell (p := ⟨g, 1, none⟩) hg (by simp)).trans c1
  go_wp2_with fail
  refine wp_loop_rounds 3 ?_
  rw [rounds_succ]
  go_wp2_with (at_builtin; refine wpList_append_sl sty_u64 rfl _ _ (by rfl) w.heap.size _ _ _ (by rfl) own1 _ _ (by rfl) (HA.out.fr0 F1) (u64v_one _) (by simp [u64v_length]; omega) (by simp [u64v_length]; omega) F1.size ?_)
  intro v2 w2 own2 g2
  have F2 : Fr [] w w2 := F1.grown g2 (fun k hk => .inr (own1.lt k hk).1)
  have q0 := (F2.cell (p := ⟨g, 0, none⟩) hg (by simp)).trans c0
  have q1 := (F2.cell (p := ⟨g, 1, none⟩) hg (by simp)).trans c1
  clear d0 d1 g2
  go_wp2_with fail
  rw [rounds_succ]
  go_wp2_with (at_builtin; refine wpList_append_sl sty_u64 rfl _ _ (by rfl) w.heap.size _ _ _ (by rfl) own2 _ _ (by rfl) (HB.out.fr0 F2) (u64v_one _) (by simp [u64v_length]; omega) (by simp [u64v_length]; omega) F2.size ?_)
  intro v3 w3 own3 g3
  have F3 : Fr [] w w3 := F2.grown g3 (fun k hk => .inr (own2.lt k hk).1)
  clear q0 q1 g3
  go_wp2_with fail
  rw [rounds_succ]
  go_wp2_with fail
  go_ret
  refine ⟨_, rfl, ?_, F3⟩
  have := Sl.of_own own3
  simpa [u64v] using this
end Go.Proofs.YtfnblemlcjdnhaaGreat
