/- Contracts: book.Open of bytes that are no archive, and of an archive whose header tells of files without bytes. No condition but that lengths fit. -/
import Derived.Test.YtcnangcbffoabaaGreatDoorEMet
import Derived.Test.YtcnangcbffoabaaGreatDoorHOpenA
import Derived.Deep.DeepCutAuto
namespace Go.Proofs.YtcnangcbffoabaaGreatDoor
open Go.RowKit

/-- A book's eleven cells. -/
theorem cells11 {w : World} {g : Nat} {t : TypeId} {a0 a1 a2 a3 a4 a5 a6 a7 a8 a9 a10 : Value} (h : w.heap[g]? = some (.cells #[a0, a1, a2, a3, a4, a5, a6, a7, a8, a9, a10] t (0, 0))) :
    w.cell? ⟨g, 0, none⟩ = some a0 ∧ w.cell? ⟨g, 1, none⟩ = some a1 ∧ w.cell? ⟨g, 2, none⟩ = some a2 ∧ w.cell? ⟨g, 3, none⟩ = some a3 ∧ w.cell? ⟨g, 4, none⟩ = some a4 ∧ w.cell? ⟨g, 5, none⟩ = some a5 ∧ w.cell? ⟨g, 6, none⟩ = some a6 ∧ w.cell? ⟨g, 7, none⟩ = some a7 ∧ w.cell? ⟨g, 8, none⟩ = some a8 ∧ w.cell? ⟨g, 9, none⟩ = some a9 ∧ w.cell? ⟨g, 10, none⟩ = some a10 ∧ (∀ j, w.frozen? ⟨g, j, none⟩ = false) :=
  ⟨by simp [Go.Joins.cell_of_block h], by simp [Go.Joins.cell_of_block h], by simp [Go.Joins.cell_of_block h], by simp [Go.Joins.cell_of_block h], by simp [Go.Joins.cell_of_block h], by simp [Go.Joins.cell_of_block h], by simp [Go.Joins.cell_of_block h], by simp [Go.Joins.cell_of_block h], by simp [Go.Joins.cell_of_block h], by simp [Go.Joins.cell_of_block h], by simp [Go.Joins.cell_of_block h], fun j => Go.Joins.unfrozen_of_block h j⟩

/-- Bytes lie in no meter. -/
theorem Sl.mt {w w' : World} {v : Value} {b : List UInt8} {p : Nat} {l : List Int} (h : Sl w v (bv b)) (M : MtAt w p l) (F : Fr [p] w w') : Sl w' v (bv b) := by
  obtain ⟨ao, cap, rfl, h1, h2, h3, h4⟩ := h
  refine ⟨ao, cap, rfl, h1, h2, h3, fun a ha hc => ?_⟩
  obtain ⟨q1, q2, q3⟩ := h4 a ha hc
  refine ⟨q1, Nat.lt_of_lt_of_le q2 F.size, fun j hj => ?_⟩
  by_cases hp : a.block = p
  · exfalso
    have q := q3 j hj
    have key : ∀ i : Nat, w.cell? ⟨p, i, none⟩ = (mtC l)[i]? := Go.Joins.cell_of_block M.blk
    rw [hp, key] at q
    rw [bv_length] at hj
    obtain ⟨x, hx⟩ := some_get b j hj
    rw [bv_get _ _ _ hx] at q
    unfold mtC at q
    rw [List.getElem?_toArray, List.getElem?_map] at q
    cases hl : l[a.off + j]? with
    | none => rw [hl] at q; cases q
    | some y =>
      rw [hl] at q
      simp at q
  · rw [F.cell (p := ⟨a.block, a.off + j, none⟩) q2 (by simpa using hp)]
    exact q3 j hj

/-- Bytes that are no archive are refused. -/
def BadR (w : World) (p : Nat) (b : List UInt8) (a o f d s k : Int) (e : Ending) (w' : World) : Prop :=
  e = .returned (.tuple #[.pointer none, .int .i64 (opCode b : Int)]) ∧ MtN w' p a o f d (s + (b.length : Int)) k ∧ Fr [p] w w'
set_option maxRecDepth 100000 in
set_option maxHeartbeats 1000000 in
theorem bopen_bad {w : World} {p : Nat} {a o f d s k : Int} (M : MtN w p a o f d s k) (hs : 0 ≤ s) (hs2 : s ≤ 1000000) (v : Value) (b : List UInt8) (h : Sl w v (bv b)) (hb : b.length ≤ 40000) (hc : opCode b ≠ 0) :
    Calls Tryz.prog 5 #[v, .pointer (some ⟨p, 0, none⟩)] w (BadR w p b a o f d s k) := by
  have HV := Lib.hid h
  obtain ⟨ao, cap, rfl, -⟩ := h.out
  rw [bv_length] at HV ⊢
  have HS := Lib.hid (step_m M (b.length : Int) (by omega) hs (by omega))
  have HO := Lib.hid (fun (wx : World) (F : Fr [p] w wx) => open_any wx _ b (HV.out.mt M F) hb)
  have t1 : ((opCode b : Int) != 0) = true := by simp; omega
  have t2 : ((opCode b : Int) == 0) = false := by simp; omega
  clear h M hb hc
  go_enter Tryz.func5, Tryz.ntmps5
  generalize hcd : opCode b = cd at *
  go_wp2_with (first
    | (have hq := F1; go_at_call 11; refine (HO.out _ F1).mono ?_; rintro e w2 ⟨v1, v2, rfl, -, -, F2⟩; rw [hcd])
    | (go_at_call 9; refine HS.out.mono ?_; rintro e w1 ⟨rfl, M1, F1⟩))
  go_ret2
  exact ⟨by rw [hcd]; rfl, M1.fr F2 (by simp), F1.trans0 F2⟩
end Go.Proofs.YtcnangcbffoabaaGreatDoor
