/- Contract: Look. No condition but that lengths fit. -/
import Derived.Test.YtjeblccboeljnaaDoorYMk
namespace Go.Proofs.YtjeblccboeljnaaDoor
open Go.RowKit Go.Maps

/-- A box of another type may change. -/
theorem SandIn.box {w w' : World} {lo p b B t : Nat} {c : Array Value} {fv cv : Value} {n nc : Nat} {fl : List Bool} {KV : List UInt8 → Option Value} {K : Tree} (h : SandIn w lo p b fv cv n nc fl KV K) (hB : w.heap[B]? = some (.cells c t (0, 0))) (h1 : t ≠ 5) (h2 : t ≠ 4) (h3 : t ≠ 68) (h4 : t ≠ 47)
    (F : Fr [B] w w') : SandIn w' lo p b fv cv n nc fl KV K := by
  have hS : ∀ e, t ≠ e → ∀ i ∈ [B], i < lo ∨ ∀ cs z, w.heap[i]? ≠ some (.cells cs e z) := fun e he i hi => by
    simp at hi
    subst hi
    refine .inr fun cs z hh => ?_
    rw [hB] at hh
    injection hh with hh
    injection hh with _ h5 _
    exact he h5
  have hp : p ∉ [B] := fun hm => by
    simp at hm
    subst hm
    rw [h.blk] at hB
    injection hB with hB
    injection hB with _ h5 _
    exact h4 h5.symm
  have hb : b ∉ [B] := fun hm => by
    simp at hm
    subst hm
    obtain ⟨D, ⟨es, clock, q1, -⟩, -⟩ := h.mp
    rw [q1] at hB
    cases hB
  obtain ⟨xs, hc⟩ := h.ca
  exact ⟨(F.block p h.ltp hp).trans h.blk, h.mp.fr F hb, h.rd.fr F (hS _ h1), own_frT h.fa F (hS _ h2), ⟨xs, own_frT hc F (hS _ h3)⟩, h.lp, h.lb⟩
/-- What Look answers. -/
def lookK (K : Tree) (q : List UInt8) : Int × Int := if cleanL foldL q = true then (kindK K q, 0) else (0, 301)
end Go.Proofs.YtjeblccboeljnaaDoor
