/- Rows of structs that the writer reads. No condition. -/
import Derived.Test.YtkodindajfdagaaGreatDoorWNumM
namespace Go.Proofs.YtkodindajfdagaaGreatDoor
open Go.RowKit

/-- A slice of n structs of m cells reads as the cells xs; it lies below hi. -/
def RowAt (w : World) (hi m : Nat) (v : Value) (n : Nat) (xs : List Value) : Prop :=
  ∃ ao cap, v = .slice ao n cap ∧ n ≤ cap ∧ cap ≤ 9223372036854775807 ∧
    ∀ j, j < n → ∃ b o, ao = some ⟨b, o, none⟩ ∧ b < hi ∧ b < w.heap.size ∧ ∀ k, k < m → w.cell? ⟨b, o + j * m + k, none⟩ = xs[j * m + k]?

theorem RowAt.out {w : World} {hi m : Nat} {v : Value} {n : Nat} {xs : List Value} (h : RowAt w hi m v n xs) : ∃ ao cap, v = .slice ao n cap ∧ n ≤ cap ∧ cap ≤ 9223372036854775807 ∧
    ∀ j, j < n → ∃ b o, ao = some ⟨b, o, none⟩ ∧ b < hi ∧ b < w.heap.size ∧ ∀ k, k < m → w.cell? ⟨b, o + j * m + k, none⟩ = xs[j * m + k]? := h
theorem RowAt.nil (w : World) (hi m : Nat) : RowAt w hi m (.slice none 0 0) 0 [] := ⟨none, 0, rfl, by simp, by simp, fun j h => by omega⟩
theorem RowAt.fr {w w' : World} {hi m : Nat} {v : Value} {n : Nat} {xs : List Value} {S : List Nat} (h : RowAt w hi m v n xs) (F : Fr S w w') (hS : ∀ i ∈ S, hi ≤ i) : RowAt w' hi m v n xs := by
  obtain ⟨ao, cap, e, h1, h2, h3⟩ := h
  refine ⟨ao, cap, e, h1, h2, fun j hj => ?_⟩
  obtain ⟨b, o, q1, q2, q3, q4⟩ := h3 j hj
  refine ⟨b, o, q1, q2, Nat.lt_of_lt_of_le q3 F.size, fun k hk => ?_⟩
  rw [F.cell (p := ⟨b, o + j * m + k, none⟩) q3 (fun hm => by have := hS b hm; omega)]
  exact q4 k hk
theorem RowAt.fr0 {w w' : World} {hi m : Nat} {v : Value} {n : Nat} {xs : List Value} (h : RowAt w hi m v n xs) (F : Fr [] w w') : RowAt w' hi m v n xs := h.fr F (by simp)
/-- The writer's steps leave what lies below it. -/
theorem WrAt.above {w : World} {lo p hi : Nat} {v : Value} {bs : List UInt8} {d : DW} (W : WrAt w lo p v bs d) (hp : hi ≤ p) : ∀ i ∈ p :: v.ownBlock.toList, hi ≤ i := fun i hi' => by
  simp only [List.mem_cons, Option.mem_toList] at hi'
  rcases hi' with rfl | h
  · exact hp
  · have := (W.gs i h).1
    have := W.hp
    omega
theorem RowAt.wr {w wx : World} {hi m lo p : Nat} {u v : Value} {n : Nat} {xs : List Value} {bs cs : List UInt8} {d : DW} (h : RowAt w hi m u n xs) (W : WrAt w lo p v bs d) (hp : hi ≤ p) (T : WrTo w lo p v cs d wx) : RowAt wx hi m u n xs :=
  h.fr T.frm (W.above hp)

/-- A file's cells. -/
theorem RowAt.fil {w : World} {hi : Nat} {ao : Option Addr} {n cap : Nat} {F : List Fil} (h : RowAt w hi 7 (.slice ao n cap) n (fiV F)) {k : Nat} {x : Fil} (hx : F[k]? = some x) (hk : k < n) :
    ∃ b o, ao = some ⟨b, o, none⟩ ∧ b < w.heap.size ∧ w.cell? ⟨b, o + k * 7, none⟩ = some (.string ⟨x.name.toArray⟩) ∧ w.cell? ⟨b, o + k * 7 + 1, none⟩ = some (.bool x.stream) ∧ w.cell? ⟨b, o + k * 7 + 2, none⟩ = some (.bool x.dir) ∧ w.cell? ⟨b, o + k * 7 + 3, none⟩ = some (.bool x.hasAttr) ∧
      w.cell? ⟨b, o + k * 7 + 4, none⟩ = some (.int .u32 x.attr.toNat) ∧ w.cell? ⟨b, o + k * 7 + 5, none⟩ = some (.bool x.hasTime) ∧ w.cell? ⟨b, o + k * 7 + 6, none⟩ = some (.int .u64 x.time.toNat) := by
  obtain ⟨ao', cap', e, h1, h2, h3⟩ := h
  injection e with e1 e2 e3
  subst e1 e3
  obtain ⟨b, o, q1, -, q3, q4⟩ := h3 k hk
  have key : ∀ j, j < 7 → w.cell? ⟨b, o + k * 7 + j, none⟩ = x.cells[j]? := fun j hj => (q4 j hj).trans (fiV_get F k x hx j hj)
  exact ⟨b, o, q1, q3, key 0 (by decide), key 1 (by decide), key 2 (by decide), key 3 (by decide), key 4 (by decide), key 5 (by decide), key 6 (by decide)⟩

theorem wbox7 {w wr : World} {t : TypeId} {a0 a1 a2 a3 a4 a5 a6 : Value} {S : List Nat} (F : Fr S (w.alloc (.cells #[a0, a1, a2, a3, a4, a5, a6] t)) wr) (hS : w.heap.size ∉ S) :
    wr.cell? ⟨w.heap.size, 0, none⟩ = some a0 ∧ wr.cell? ⟨w.heap.size, 1, none⟩ = some a1 ∧ wr.cell? ⟨w.heap.size, 2, none⟩ = some a2 ∧ wr.cell? ⟨w.heap.size, 3, none⟩ = some a3 ∧ wr.cell? ⟨w.heap.size, 4, none⟩ = some a4 ∧ wr.cell? ⟨w.heap.size, 5, none⟩ = some a5 ∧ wr.cell? ⟨w.heap.size, 6, none⟩ = some a6 := by
  have key : ∀ (i : Nat), wr.cell? ⟨w.heap.size, i, none⟩ = #[a0, a1, a2, a3, a4, a5, a6][i]? := fun i => by
    rw [F.cell (p := ⟨w.heap.size, i, none⟩) (by simp) hS, Go.Joins.cell_of_block (heap_alloc_new w _)]
  exact ⟨by rw [key]; rfl, by rw [key]; rfl, by rw [key]; rfl, by rw [key]; rfl, by rw [key]; rfl, by rw [key]; rfl, by rw [key]; rfl⟩
end Go.Proofs.YtkodindajfdagaaGreatDoor
