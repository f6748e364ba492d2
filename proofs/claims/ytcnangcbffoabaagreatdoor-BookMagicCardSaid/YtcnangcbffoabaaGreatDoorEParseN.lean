/- Contract: Parse of no bytes. No condition. -/
import Derived.Test.YtcnangcbffoabaaGreatDoorBase
import Derived.Deep.DeepCutAuto
namespace Go.Proofs.YtcnangcbffoabaaGreatDoor
open Go.RowKit

/-- What is handed back lies in a block of seven cells. -/
theorem cells7 {w : World} {g : Nat} {t : TypeId} {a0 a1 a2 a3 a4 a5 a6 : Value} (h : w.heap[g]? = some (.cells #[a0, a1, a2, a3, a4, a5, a6] t (0, 0))) :
    w.cell? ⟨g, 0, none⟩ = some a0 ∧ w.cell? ⟨g, 1, none⟩ = some a1 ∧ w.cell? ⟨g, 2, none⟩ = some a2 ∧ w.cell? ⟨g, 3, none⟩ = some a3 ∧ w.cell? ⟨g, 4, none⟩ = some a4 ∧ w.cell? ⟨g, 5, none⟩ = some a5 ∧ w.cell? ⟨g, 6, none⟩ = some a6 ∧ (∀ j, w.frozen? ⟨g, j, none⟩ = false) :=
  ⟨by simp [Go.Joins.cell_of_block h], by simp [Go.Joins.cell_of_block h], by simp [Go.Joins.cell_of_block h], by simp [Go.Joins.cell_of_block h], by simp [Go.Joins.cell_of_block h], by simp [Go.Joins.cell_of_block h], by simp [Go.Joins.cell_of_block h], fun j => Go.Joins.unfrozen_of_block h j⟩

def zD : Array Value := #[.bool false, .int .u64 0, .slice none 0 0, .slice none 0 0, .slice none 0 0, .slice none 0 0, .slice none 0 0]

/-- The block of what is handed back is written with zeros. -/
def zF (w : World) (g : Nat) : World := ((((((w.setCell ⟨g, 0, none⟩ (.bool false)).setCell ⟨g, 1, none⟩ (.int .u64 0)).setCell ⟨g, 2, none⟩ (.slice none 0 0)).setCell ⟨g, 3, none⟩ (.slice none 0 0)).setCell ⟨g, 4, none⟩ (.slice none 0 0)).setCell ⟨g, 5, none⟩ (.slice none 0 0)).setCell ⟨g, 6, none⟩ (.slice none 0 0)
set_option maxRecDepth 100000 in
set_option maxHeartbeats 2000000 in
theorem zF_cells {w : World} {g : Nat} {t : TypeId} {a0 a1 a2 a3 a4 a5 a6 : Value} (h : w.heap[g]? = some (.cells #[a0, a1, a2, a3, a4, a5, a6] t (0, 0))) :
    (zF w g).cell? ⟨g, 0, none⟩ = some (.bool false) ∧ (zF w g).cell? ⟨g, 1, none⟩ = some (.int .u64 0) ∧ (zF w g).cell? ⟨g, 2, none⟩ = some (.slice none 0 0) ∧ (zF w g).cell? ⟨g, 3, none⟩ = some (.slice none 0 0) ∧ (zF w g).cell? ⟨g, 4, none⟩ = some (.slice none 0 0) ∧ (zF w g).cell? ⟨g, 5, none⟩ = some (.slice none 0 0) ∧ (zF w g).cell? ⟨g, 6, none⟩ = some (.slice none 0 0) ∧ Fr [g] w (zF w g) := by
  have hb : (zF w g).heap[g]? = some (.cells #[.bool false, .int .u64 0, .slice none 0 0, .slice none 0 0, .slice none 0 0, .slice none 0 0, .slice none 0 0] t (0, 0)) :=
    Go.Joins.block_setCell (Go.Joins.block_setCell (Go.Joins.block_setCell (Go.Joins.block_setCell (Go.Joins.block_setCell (Go.Joins.block_setCell (Go.Joins.block_setCell h _) _) _) _) _) _) _
  obtain ⟨r0, r1, r2, r3, r4, r5, r6, -⟩ := cells7 hb
  exact ⟨r0, r1, r2, r3, r4, r5, r6, (((((((Fr.refl _ _).setCell (by simp) _).setCell (by simp) _).setCell (by simp) _).setCell (by simp) _).setCell (by simp) _).setCell (by simp) _).setCell (by simp) _⟩

set_option maxRecDepth 100000 in
set_option maxHeartbeats 4000000 in
theorem parse_nil (w : World) (v : Value) (h : Sl w v (bv [])) :
    Calls Tryz.prog 62 #[v] w fun e w' => e = .returned (.tuple #[.agg #[.bool false, .int .u64 0, .slice none 0 0, .slice none 0 0, .slice none 0 0, .slice none 0 0, .slice none 0 0], .int .i64 0]) ∧ Fr [] w w' := by
  obtain ⟨ao, cap, rfl, -⟩ := h.out
  rw [show (bv []).length = 0 from rfl]
  clear h
  go_enter Tryz.func62, Tryz.ntmps62
  refine wp_seq_k fun K0 hK0 => ?_
  go_cut [2, 3] (fun v2 v3 wx => v2 = .pointer (some ⟨w.heap.size, 0, none⟩) ∧ v3 = .int .i64 0 ∧ wx.heap[w.heap.size]? = some (.cells #[.bool false, .int .u64 0, .slice none 0 0, .slice none 0 0, .slice none 0 0, .slice none 0 0, .slice none 0 0] 46 (0, 0)) ∧ Fr [] w wx)
  case first =>
    clear hK0
    go_wp2_with fail
    go_meet
    case rel => exact ⟨rfl, rfl, heap_alloc_new w _, (Fr.refl _ _).alloc _⟩
  case rest =>
  obtain ⟨rfl, rfl, B1, F1⟩ := hcut
  obtain ⟨i0, i1, i2, i3, i4, i5, i6, iz⟩ := cells7 B1
  go_wp2_with fail
  obtain ⟨r0, r1, r2, r3, r4, r5, r6, FF⟩ := zF_cells B1
  obtain ⟨wF, hwF⟩ : ∃ wF, wF = zF wc w.heap.size := ⟨_, rfl⟩
  rw [← hwF] at r0 r1 r2 r3 r4 r5 r6 FF
  rw [zF] at hwF
  rw [← hwF]
  refine bodyPost_ret (v := .tuple #[.agg #[.bool false, .int .u64 0, .slice none 0 0, .slice none 0 0, .slice none 0 0, .slice none 0 0, .slice none 0 0], .int .i64 0]) (by simp [results, Tryz.results62, go_sem, r0, r1, r2, r3, r4, r5, r6]) rfl ?_
  exact ⟨rfl, F1.trans FF (by simp)⟩
end Go.Proofs.YtcnangcbffoabaaGreatDoor
