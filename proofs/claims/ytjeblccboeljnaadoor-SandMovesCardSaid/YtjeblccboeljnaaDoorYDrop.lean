/- Contract: Drop. No condition but that lengths fit. -/
import Derived.Test.YtjeblccboeljnaaDoorYTree
import Derived.Deep.DeepCutAuto
namespace Go.Proofs.YtjeblccboeljnaaDoor
open Go.RowKit Go.Maps

/-- What Drop does. -/
def drpK (K : Tree) (q : List UInt8) : Int × Tree := if (K q).isSome then (0, dropK K q) else (202, K)
theorem KeysAre.lens {K : Tree} {ks : List (List UInt8)} (h : KeysAre K ks) (hK : MayK K) : ∀ x ∈ ks, x.length ≤ 1024 := by
  intro x hx
  have h1 := (h.mem x).1 hx
  obtain ⟨t, ht⟩ := Option.isSome_iff_exists.1 h1
  have := (hK x t ht).1
  unfold cleanL at this
  simp only [Bool.and_eq_true, decide_eq_true_eq] at this
  exact this.1.1.2
theorem clean_len {x : List UInt8} (h : cleanL foldL x = true) : x.length ≤ 1024 := by
  unfold cleanL at h
  simp only [Bool.and_eq_true, decide_eq_true_eq] at h
  exact h.1.1.2
/-- What a look-up finds, in later worlds too. -/
theorem SandIn.looks {w : World} {lo p b : Nat} {fv cv : Value} {n nc : Nat} {fl : List Bool} {KV : List UInt8 → Option Value} {K : Tree} (h : SandIn w lo p b fv cv n nc fl KV K) (q : List UInt8) (hq : q.length ≤ 100000) :
    ∃ kd ao dn cap sv, (∀ wx, Fr [] w wx → (Instr.lookup 44 (.map (some b)) (.string ⟨q.toArray⟩) true).run Tryd.prog wx = .ok (.tuple #[.agg #[.int .i64 kd, .slice ao dn cap, .string sv], .bool (K q).isSome]) wx) ∧ kindK K q = kd := by
  have hrun := fun wx (F : Fr [] w wx) => (h.mp.fr F (by simp)).look q hq
  rw [h.rd.is] at hrun
  cases hk : K q with
  | none =>
    rw [(h.rd.no _).2 hk, hk] at hrun
    exact ⟨_, _, _, _, _, hrun, by unfold kindK; rw [hk]; rfl⟩
  | some t =>
    obtain ⟨v, hv, dv, rfl, ho⟩ := h.rd.get hk
    obtain ⟨ao, cap, rfl, -⟩ := own_outS ho
    rw [hv, hk] at hrun
    exact ⟨_, _, _, _, _, hrun, by unfold kindK; rw [hk]; rfl⟩
/-- Deleted, at the operation. -/
theorem wpList_sand_del {w : World} {lo p b : Nat} {fv cv : Value} {n nc : Nat} {fl : List Bool} {KV : List UInt8 → Option Value} {K : Tree} {ops : Array Oper} {rest : List Oper} {o : Oper} {a : Act} {Q : Exit → Act → World → Prop} (hgd : o.guard = none) (m x : Operand)
    (ho : o.op = .call { callee := .builtin .delete, args := #[m, x], argTypes := #[44, 9] }) (h : SandIn w lo p b fv cv n nc fl KV K) (q : List UInt8) (hq : q.length ≤ 100000) (hm : a.eval m = .map (some b)) (hx : a.eval x = .string ⟨q.toArray⟩)
    (hK : ∀ w', SandIn w' lo p b fv cv n nc fl (fun y => if y = q then none else KV y) (delK K q) → Fr [b] w w' → wpList Tryd.prog ops Q rest (a.put o.dst (.tuple #[])) w') : wpList Tryd.prog ops Q (o :: rest) a w := by
  refine wpList_plain hgd fun K' hK' => ?_
  obtain ⟨w', hrun, h2, h3⟩ := h.mp.del q hq o.type
  have F := fr_turned h3
  unfold Oper.wp
  simp [execOp, ho, resolve, invoke, builtin, hm, hx, hrun, Result.andThen]
  exact hK' _ _ (hK w' (h.turn F h2 (h.rd.del q)) F)
theorem MTh.nobs {w : World} {b n : Nat} {KV : List UInt8 → Option Value} (h : MTh w b n KV) (lo e : Nat) : ∀ i ∈ [b], i < lo ∨ ∀ cs z, w.heap[i]? ≠ some (.cells cs e z) := by
  intro i hi
  simp at hi
  subst hi
  obtain ⟨D, ⟨es, clock, h1, -⟩, -⟩ := h
  exact .inr fun cs z hc => by rw [h1] at hc; cases hc
/-- A map is no cell. -/
theorem MTh.nocell {w : World} {b n : Nat} {KV : List UInt8 → Option Value} (h : MTh w b n KV) {B i : Nat} {x : Value} (hc : w.cell? ⟨B, i, none⟩ = some x) : B ≠ b := by
  rintro rfl
  obtain ⟨D, ⟨es, clock, h1, -⟩, -⟩ := h
  simp [World.cell?, h1] at hc
/-- What Drop answers, its path looked at too. -/
def dropA (K : Tree) (q : List UInt8) : Int × Tree := if cleanL foldL q = true then drpK K q else (301, K)
end Go.Proofs.YtjeblccboeljnaaDoor
