/- A slice of pairs of numbers that came in. No condition. -/
import Derived.Test.YtklbocdeifebkaaReads
import Derived.Test.YtklbocdeifebkaaOpen
import Derived.Deep.SlicePairs
namespace Go.Proofs.Ytklbocdeifebkaa
open Go.RowKit

theorem pair_cells' {w : World} {a : Addr} {i : Nat} {k m : Int} {v0 : Value} (h00 : w.cell? (a.add (0 * 2)) = some v0) (h0 : w.cell? (a.add (i * 2)) = some (.int .i64 k)) (h1 : w.cell? (a.add (i * 2 + 1)) = some (.int .i64 m)) (hm : -9223372036854775808 ≤ m ∧ m ≤ 9223372036854775807) :
    ∃ b o, some a = some ⟨b, o, none⟩ ∧ b < w.heap.size ∧ ∃ k m : Int, (-9223372036854775808 ≤ m ∧ m ≤ 9223372036854775807) ∧ w.cell? ⟨b, o + i * 2, none⟩ = some (.int .i64 k) ∧ w.cell? ⟨b, o + i * 2 + 1, none⟩ = some (.int .i64 m) := by
  obtain ⟨b, o, s⟩ := a
  have e00 : (⟨b, o, s⟩ : Addr).add (0 * 2) = ⟨b, o, s⟩ := by simp [Addr.add]
  rw [e00] at h00
  have hsp := World.cell?_spot h00
  dsimp only at hsp
  subst hsp
  have e0 : (⟨b, o, none⟩ : Addr).add (i * 2) = ⟨b, o + i * 2, none⟩ := by unfold Addr.add; split <;> simp_all
  have e1 : (⟨b, o, none⟩ : Addr).add (i * 2 + 1) = ⟨b, o + i * 2 + 1, none⟩ := by unfold Addr.add; simp [Nat.add_assoc]
  rw [e0] at h0
  rw [e1] at h1
  exact ⟨b, o, rfl, World.block_lt_of_cell? _ _ h00, k, m, hm, h0, h1⟩
end Go.Proofs.Ytklbocdeifebkaa
