/- 'append(v, x)' of one text: the old slice still reads as it did. No condition. -/
import Derived.Test.YtjeblccboeljnaaGreatDoorYAppend
import Derived.Test.YtjeblccboeljnaaGreatDoorYLay
namespace Go.Proofs.YtjeblccboeljnaaGreatDoor
open Go.RowKit Go.Maps

theorem run_append_keep (w : World) (base : Nat) (ty : TypeId) (v : Value) (n : Nat) (xs : List Value) (hown : w.ownsRow base 9 1 v n xs) (u : Value) (g c : Nat) (hc : w.cell? ⟨g, 0, none⟩ = some u) (h1 : u.oneCell' = true) (hn : n ≤ 1000000) (hbase : base ≤ w.heap.size) :
    ∃ v' w', (Builtin.append_ #[64, 64] ty #[v, .slice (some ⟨g, 0, none⟩) 1 c]).run Tryz.prog w = .ok v' w' ∧ w'.ownsRow base 9 1 v' (n + 1) (xs ++ [u]) ∧ Sl w' v xs ∧ w.grownBy w' v.ownBlock := by
  obtain ⟨i, hi, hz, hsz, hby⟩ := (sty_string).info
  have hT := (sty_string).under
  have hz1 := (sty_string).one
  have hnews : ∀ j x, [u][j]? = some x → w.cell? ((⟨g, 0, none⟩ : Addr).add j) = some x := by
    intro j x hj
    match j, hj with
    | 0, hj =>
      simp at hj
      subst hj
      have e0 : (⟨g, 0, none⟩ : Addr).add 0 = ⟨g, 0, none⟩ := rfl
      rw [e0]
      exact hc
  have hones : ∀ x ∈ [u], x.oneCell' = true := by
    intro x hx
    simp at hx
    subst hx
    exact h1
  obtain ⟨v', w', hr, own, gr, -⟩ := run_append_own (P := Tryz.prog) w base 64 ty 9 i (.string ⟨#[]⟩) 1 16 hT hi hz hsz hby hz1 (by decide) v n xs hown ⟨g, 0, none⟩ 1 c [u] (by simp) hnews hones (by unfold maxLen; omega) (by omega) hbase
  refine ⟨v', w', hr, own, ?_, gr⟩
  have hxl : xs.length = n := by have := hown.1; omega
  rcases hown.2 with ⟨rfl, rfl⟩ | ⟨gb, cap, cur, rfl, hbg, hg, hnc, hcm, hcs, htake⟩
  · have hx : xs = [] := List.eq_nil_of_length_eq_zero hxl
    subst hx
    exact Sl.nil _
  · by_cases hroom : n + 1 ≤ cap
    · have hr2 := run_append_room (P := Tryz.prog) w 64 ty 9 i hT hi gb n cap cur hg ⟨g, 0, none⟩ 1 c [u] (by rw [hsz]; rfl) hnews hones hroom (by rw [hsz, hcs]; simp; omega)
      rw [hr] at hr2
      injection hr2 with e1 e2
      have hS := Sl.of_own own
      rw [e1] at hS
      have := Sl.first hS n (by omega)
      rw [List.take_left' hxl] at this
      exact this
    · have holds : ∀ j x, xs[j]? = some x → w.cell? ((⟨gb, 0, none⟩ : Addr).add j) = some x := hown.cells (g := gb) rfl
      have hr2 := run_append_grow (P := Tryz.prog) w 64 ty 9 i (.string ⟨#[]⟩) hT hi hz ⟨gb, 0, none⟩ n cap xs (by rw [hsz]; omega) holds ⟨g, 0, none⟩ 1 c [u] (by rw [hsz]; rfl) hnews (by omega) (by omega) (growslice_fits (by omega) (by rw [hby]; omega))
      rw [hr] at hr2
      injection hr2 with e1 e2
      have F : Fr [] w w' := by rw [e2]; exact ((Fr.refl _ _).drew).alloc _
      exact (Sl.of_own hown).fr0 F
/-- At the operation. -/
theorem wpList_append_keep {w : World} {ops : Array Oper} {rest : List Oper} {o : Oper} {a : Act} {Q : Exit → Act → World → Prop} (hgd : o.guard = none) (s x : Operand)
    (ho : o.op = .call { callee := .builtin .append, args := #[s, x], argTypes := #[64, 64] })
    (base : Nat) (v : Value) (n : Nat) (xs : List Value) (hs : a.eval s = v) (hown : w.ownsRow base 9 1 v n xs) (u : Value) (g c : Nat) (hx : a.eval x = .slice (some ⟨g, 0, none⟩) 1 c) (hc : w.cell? ⟨g, 0, none⟩ = some u) (h1 : u.oneCell' = true) (hn : n ≤ 1000000) (hbase : base ≤ w.heap.size)
    (h : ∀ v' w', w'.ownsRow base 9 1 v' (n + 1) (xs ++ [u]) → Sl w' v xs → w.grownBy w' v.ownBlock → wpList Tryz.prog ops Q rest (a.put o.dst v') w') : wpList Tryz.prog ops Q (o :: rest) a w := by
  refine wpList_plain hgd fun K hK => ?_
  obtain ⟨v', w', hr, h2, h3, h4⟩ := run_append_keep w base o.type v n xs hown u g c hc h1 hn hbase
  unfold Oper.wp execOp
  simp only [ho, resolve, invoke, builtin, Sem.run_bind, Sem.run_pure, Result.andThen_ok, List.map_toArray, List.map_cons, List.map_nil, hs, hx, hr]
  exact hK _ _ (h v' w' h2 h3 h4)
/-- As one step of a region that draws its order. -/
theorem step_append_keep {w : World} {ops : Array Oper} {o : Oper} {a : Act} {K : Act → World → Prop} {Q : Exit → Act → World → Prop} {E : Prop} (hgd : o.guard = none) (s x : Operand)
    (ho : o.op = .call { callee := .builtin .append, args := #[s, x], argTypes := #[64, 64] })
    (base : Nat) (v : Value) (n : Nat) (xs : List Value) (hs : a.eval s = v) (hown : w.ownsRow base 9 1 v n xs) (u : Value) (g c : Nat) (hx : a.eval x = .slice (some ⟨g, 0, none⟩) 1 c) (hc : w.cell? ⟨g, 0, none⟩ = some u) (h1 : u.oneCell' = true) (hn : n ≤ 1000000) (hbase : base ≤ w.heap.size)
    (h : ∀ v' w', w'.ownsRow base 9 1 v' (n + 1) (xs ++ [u]) → Sl w' v xs → w.grownBy w' v.ownBlock → K (a.put o.dst v') w') :
    if Region.wanted o (yielded ops a.tmps) = true then Oper.wp Tryz.prog o a w K Q else E := by
  have hw : Region.wanted o (yielded ops a.tmps) = true := by simp [Region.wanted, hgd]
  rw [if_pos hw]
  obtain ⟨v', w', hr, h2, h3, h4⟩ := run_append_keep w base o.type v n xs hown u g c hc h1 hn hbase
  unfold Oper.wp execOp
  simp only [ho, resolve, invoke, builtin, Sem.run_bind, Sem.run_pure, Result.andThen_ok, List.map_toArray, List.map_cons, List.map_nil, hs, hx, hr]
  exact h v' w' h2 h3 h4
end Go.Proofs.YtjeblccboeljnaaGreatDoor
