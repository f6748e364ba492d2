/- The reference's block of bits, in memory. No condition. -/
import Derived.Test.YtakpeffpocjgoaaGRefL
import Derived.Test.YtakpeffpocjgoaaGBase
namespace Go.Proofs.Ytakpeffpocjgoaa
open Go.RowKit

def RB (w : World) (g : Nat) (R : Nat → Nat → Bool) : Prop := g < w.heap.size ∧ (∀ j, w.frozen? ⟨g, j, none⟩ = false) ∧ ∀ a b, a < 8 → b < 8 → w.cell? ⟨g, a * 8 + b, none⟩ = some (.bool (R a b))

theorem RB.made (w : World) (t : TypeId) : RB (w.alloc (.cells (Array.replicate 64 (.bool false)) t)) w.heap.size (fun _ _ => false) := by
  refine ⟨by simp, fun j => frozen_of_row _ _ _ _ _ (heap_alloc_new w _), fun a b ha hb => ?_⟩
  rw [Go.Joins.cell_of_block (heap_alloc_new w _), Array.getElem?_replicate, if_pos (by omega)]

theorem RB.fr {w w' : World} {g : Nat} {R : Nat → Nat → Bool} {S : List Nat} (h : RB w g R) (F : Fr S w w') (hg : g ∉ S) : RB w' g R :=
  ⟨Nat.lt_of_lt_of_le h.1 F.size, fun j => (World.frozen?_of_block (F.block g h.1 hg)).trans (h.2.1 j), fun a b ha hb => (F.cell (p := ⟨g, _, none⟩) h.1 hg).trans (h.2.2 a b ha hb)⟩

theorem RB.set {w : World} {g : Nat} {R : Nat → Nat → Bool} (h : RB w g R) (a b : Nat) (ha : a < 8) (hb : b < 8) (x : Bool) : RB (w.setCell ⟨g, a * 8 + b, none⟩ (.bool x)) g (upd R a b x) := by
  refine ⟨by simpa using h.1, fun j => (World.frozen?_setCell _ _ _ _).trans (h.2.1 j), fun a' b' ha' hb' => ?_⟩
  by_cases e : a' = a ∧ b' = b
  · obtain ⟨rfl, rfl⟩ := e
    rw [World.cell?_setCell_same _ _ _ (h.2.2 a' b' ha' hb')]
    simp [upd]
  · rw [World.cell?_setCell_other _ _ _ _ (by intro e2; have := congrArg Addr.off e2; dsimp only at this; omega), h.2.2 a' b' ha' hb']
    unfold upd
    rw [if_neg e]
end Go.Proofs.Ytakpeffpocjgoaa
