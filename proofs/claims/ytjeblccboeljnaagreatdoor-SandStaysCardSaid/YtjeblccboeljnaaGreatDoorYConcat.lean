/- Contracts: slices.Grow of nil, slices.Concat of two rows of bytes (XGConcat, turned). No condition but that lengths fit. -/
import Derived.Test.YtjeblccboeljnaaGreatDoorYLook
import Derived.Lib.AppendZerosOnto
import Derived.LoopN
namespace Go.Proofs.YtjeblccboeljnaaGreatDoor
open Go.RowKit Go.Lib

theorem info_by : (Tryz.prog.info? 5).map (fun i => (i.zero, i.size, i.bytes)) = some (some (.int .u8 0), 1, 1) := by kernel_rfl
theorem sty_by : SlTy Tryz.prog 24 5 (.int .u8 0) 1 := ⟨Tryz.underlying24, by obtain ⟨i, h⟩ := info_parts info_by; exact ⟨i, h⟩, rfl⟩

/-- 'append(nil, make([]uint8, n)...)'. -/
theorem wpList_zeros {w : World} {ops : Array Oper} {rest : List Oper} {o : Oper} {a : Act} {Q : Exit → Act → World → Prop} (hgd : o.guard = none) (s x : Operand)
    (ho : o.op = .call { callee := .builtin .append, args := #[s, x], argTypes := #[24, 3] }) (n : Nat) (hs : a.eval s = .slice none 0 0) (hx : a.eval x = .int .i64 n) (h0 : 0 < n) (hn : n ≤ 1000000000)
    (h : ∀ G w', n ≤ G → G ≤ 9223372036854775807 → w'.ownsRow w.heap.size 5 1 (.slice (some ⟨w.heap.size, 0, none⟩) 0 G) 0 [] → Fr [] w w' → wpList Tryz.prog ops Q rest (a.put o.dst (.slice (some ⟨w.heap.size, 0, none⟩) n G)) w') :
    wpList Tryz.prog ops Q (o :: rest) a w := by
  obtain ⟨i0, hi, hz0, hz1, hz2⟩ := info_parts info_by
  have hrun := fun ty => run_append_grow_zeros (P := Tryz.prog) w 24 3 ty 5 i0 (.int .u8 0) .i64 .i64 Tryz.underlying24 Tryz.underlying3 hi hz0 none 0 0 [] (run_firstCells_none w.drew _ 0 0 0) n (by omega) (by omega) (by omega) (by omega) (by rw [hz2]; omega) (by rw [hz2]; have := nextslicecap_le (need := 0 + n) (old := 0) (by omega); omega)
  simp only [Nat.zero_add] at hrun
  have hge := grownCap_ge w n 0 5
  have hle := grownCap_le_maxLen w n 0 5 (by unfold maxLen; omega)
  generalize grownCap w n 0 5 = G at hrun hge hle
  refine wpList_plain hgd fun K hK => ?_
  unfold Oper.wp
  simp [execOp, ho, resolve, invoke, builtin, hs, hx, hrun, Result.andThen]
  refine hK _ _ (h G _ hge (by unfold maxLen at hle; omega) ?_ ?_)
  · refine ⟨rfl, .inr ⟨w.heap.size, G, _, rfl, Nat.le_refl _, heap_alloc_new w.drew _, Nat.zero_le _, hle, ?_, by simp⟩⟩
    simp [Builtin.zeroCells, Value.cells]
    omega
  · exact ((Fr.refl _ _).drew).alloc _

theorem grow_any (w : World) (n : Nat) (hn : n ≤ 1000000000) :
    Calls Tryz.prog 53 #[.slice none 0 0, .int .i64 n] w fun e w' => ∃ r, e = .returned r ∧ w'.ownsRow w.heap.size 5 1 r 0 [] ∧ Fr [] w w' := by
  by_cases h0 : n = 0
  · subst h0
    go_enter Tryz.func53, Tryz.ntmps53
    go_wp2
    go_ret
    exact ⟨_, rfl, World.ownsRow_nil _ _ _ _, Fr.refl _ _⟩
  · have hpos : (0 : Int) < n := by omega
    go_enter Tryz.func53, Tryz.ntmps53
    go_wp2_with (at_builtin; refine wpList_zeros rfl _ _ (by rfl) n (by rfl) (by rfl) (by omega) hn ?_; intro G w1 hge hle hown F1)
    go_ret
    exact ⟨_, rfl, hown, F1⟩

/-- 'slices.Concat(a, b)'. -/
theorem concat_any (w : World) (g : Nat) (hg : g < w.heap.size) (av bv' : Value) (a b : List UInt8) (c0 : w.cell? ⟨g, 0, none⟩ = some av) (c1 : w.cell? ⟨g, 1, none⟩ = some bv') (ha : Sl w av (bv a)) (hb : Sl w bv' (bv b)) (la : a.length ≤ 10000000) (lb : b.length ≤ 10000000) :
    Calls Tryz.prog 40 #[.slice (some ⟨g, 0, none⟩) 2 2] w fun e w' => ∃ r, e = .returned r ∧ w'.ownsRow w.heap.size 5 1 r (a ++ b).length (bv (a ++ b)) ∧ Fr [] w w' := by
  have HA := Lib.hid ha
  have HB := Lib.hid hb
  obtain ⟨aoa, capa, rfl, ga, ma, -⟩ := ha.out
  obtain ⟨aob, capb, rfl, gb, mb, -⟩ := hb.out
  clear ha hb
  simp only [bv_length] at *
  go_enter Tryz.func40, Tryz.ntmps40
  go_wp2_with fail
  refine wp_loop_rounds 3 ?_
  rw [rounds_succ]
  go_wp2_with fail
  rw [rounds_succ]
  go_wp2_with fail
  rw [rounds_succ]
  go_wp2_with fail
  rw [show ((a.length : Int) + (b.length : Int)) = ((a.length + b.length : Nat) : Int) from (Int.natCast_add _ _).symm]
  refine (grow_any w _ (by omega)).mono ?_
  rintro e w1 ⟨r, rfl, own1, F1⟩
  have d0 := (F1.cell (p := ⟨g, 0, none⟩) hg (by simp)).trans c0
  have d1 := (F1.cell (p := ⟨g, 1, none⟩) hg (by simp)).trans c1
  go_wp2_with fail
  refine wp_loop_rounds 3 ?_
  rw [rounds_succ]
  go_wp2_with (at_builtin; refine wpList_append_sl sty_by rfl _ _ (by rfl) w.heap.size _ _ _ (by rfl) own1 _ _ (by rfl) (HA.out.fr0 F1) (bv_one _) (by simp [bv_length]; omega) (by simp [bv_length]; omega) F1.size ?_)
  intro v2 w2 own2 g2
  have F2 : Fr [] w w2 := F1.grown g2 (fun k hk => .inr (own1.lt k hk).1)
  have q0 := (F2.cell (p := ⟨g, 0, none⟩) hg (by simp)).trans c0
  have q1 := (F2.cell (p := ⟨g, 1, none⟩) hg (by simp)).trans c1
  clear d0 d1 g2
  go_wp2_with fail
  rw [rounds_succ]
  go_wp2_with (at_builtin; refine wpList_append_sl sty_by rfl _ _ (by rfl) w.heap.size _ _ _ (by rfl) own2 _ _ (by rfl) (HB.out.fr0 F2) (bv_one _) (by simp [bv_length]; omega) (by simp [bv_length]; omega) F2.size ?_)
  intro v3 w3 own3 g3
  have F3 : Fr [] w w3 := F2.grown g3 (fun k hk => .inr (own2.lt k hk).1)
  clear q0 q1 g3
  go_wp2_with fail
  rw [rounds_succ]
  go_wp2_with fail
  go_ret
  refine ⟨_, rfl, ?_, F3⟩
  simpa [bv, Nat.add_comm] using own3
end Go.Proofs.YtjeblccboeljnaaGreatDoor
