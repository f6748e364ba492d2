/- Contract: a model is closed (layer 17). -/
import Derived.Test.YtjfoccbbjhigbaaGreatMNew
namespace Go.Proofs.YtjfoccbbjhigbaaGreat
open Go.RowKit
section
variable {w : World} {mo ab mb mp : Nat} {m : Mo} {ar : Ar} {a o f d s k : Int}
set_option maxRecDepth 100000 in
set_option maxHeartbeats 1000000 in
theorem arclose_any (h : ArAt w ab mb mp ar) (hz : ar.size ≤ 70000) (hlen : ar.len ≠ 0) (M : MtN w mp a o f d s k) (hn : mp ≠ ab ∧ mp ≠ mb) (h1 : (ar.size : Int) + 12 ≤ a) (h2 : a ≤ 1000000000) :
    Calls Tryz.prog 56 #[.pointer (some ⟨ab, 0, none⟩)] w fun e w' => e = .returned (.tuple #[]) ∧ MtN w' mp (a - ((ar.size : Int) + 12)) o f d s k ∧ Fr [ab, mp] w w' := by
  have hsh := shut_any h
  rw [show decide (ar.len = 0) = false from by simpa using hlen] at hsh
  have HS := Lib.hid hsh
  have c1 : w.cell? ⟨ab, 1, none⟩ = some (.int .i64 ar.size) := h.blk.cell (j := 1) (by omega)
  have c2 : w.cell? ⟨ab, 2, none⟩ = some (.pointer (some ⟨mp, 0, none⟩)) := h.blk.cell (j := 2) (by omega)
  have HH := Lib.hid h
  have e12 : IntKind.i64.wrap ((ar.size : Int) + 12) = (ar.size : Int) + 12 := IntWalk.i64_in _ (by omega)
  have HM := Lib.hid (fun (wx : World) (S : Same w wx) => show Calls Tryz.prog 53 #[.pointer (some ⟨mp, 0, none⟩), .int .i64 (IntKind.i64.wrap ((ar.size : Int) + 12))] wx (fun e w' => e = .returned (.tuple #[]) ∧ MtN w' mp (a - ((ar.size : Int) + 12)) o f d s k ∧ Fr [mp] wx w') from by
    rw [e12]
    exact free_m (M.fr (S.fr (S := [])) (by simp)) ((ar.size : Int) + 12) (by omega) h1 (by omega))
  clear e12
  clear h M hsh
  go_enter Tryz.func56, Tryz.ntmps56
  go_upto_region 1 with (go_at_call 98; refine HS.out.mono ?_; rintro e w1 ⟨rfl, rfl⟩)
  rename World => w1
  have HK := Lib.hid (fun (w2 : World) (F : Fr [mp] w1 w2) => show w2.cell? ⟨ab, 1, none⟩ = some (.int .i64 ar.size) ∧ w2.cell? ⟨ab, 2, none⟩ = some (.pointer (some ⟨mp, 0, none⟩)) ∧ w2.cell? ⟨ab, 0, none⟩ = some (.slice (some ⟨mb, 0, none⟩) ar.len ar.len) ∧ w2.frozen? ⟨ab, 0, none⟩ = false ∧ ab < w2.heap.size from
    have h := HH.out.fr F (by simpa using hn.1.symm) (by simpa using hn.2.symm)
    ⟨h.blk.cell (j := 1) (by omega), h.blk.cell (j := 2) (by omega), h.blk.cell (j := 0) (by omega), h.blk.free 0, h.blk.lt⟩)
  go_region_held3 (fun wx => wx.cell? ⟨ab, 1, none⟩ = some (.int .i64 ar.size) ∧ wx.cell? ⟨ab, 2, none⟩ = some (.pointer (some ⟨mp, 0, none⟩))) (first | exact ⟨c1, c2⟩ | exact ⟨k1, k2⟩)
    (first | (go_at_call 53; refine (HM.out _ Same.drew).mono ?_; rintro e w2 ⟨rfl, M2, F2⟩; obtain ⟨k1, k2, k0, kz, kl⟩ := HK.out w2 (Same.drew.fr.trans F2 (fun i hi => .inl hi))))
  go_wp2_with fail
  go_end0
  exact ⟨rfl, M2.fr ((Fr.refl [ab] _).setCell (.inl (by simp)) _) (by simpa using hn.1), (((Fr.refl [ab, mp] w1).drew).trans F2 (fun i hi => .inl (by simp at hi; simp [hi]))).setCell (.inl (by simp)) _⟩
/-- A model is closed. -/
theorem mclose_any (h : MoAt w mo ab mb mp m) (hz : m.a.size ≤ 70000) (hlen : m.a.len ≠ 0) (M : MtN w mp a o f d s k) (hn : mp ≠ mo ∧ mp ≠ ab ∧ mp ≠ mb) (h1 : 20480 + ((m.a.size : Int) + 12) ≤ a) (h2 : a ≤ 1000000000) :
    Calls Tryz.prog 32 #[.pointer (some ⟨mo, 0, none⟩)] w fun e w' => e = .returned (.tuple #[]) ∧ MtN w' mp (a - (20480 + ((m.a.size : Int) + 12))) o f d s k ∧ Fr [mo, ab, mp] w w' := by
  have c0 : w.cell? ⟨mo, 0, none⟩ = some (.pointer (some ⟨ab, 0, none⟩)) := h.cell (by omega)
  have c1 : w.cell? ⟨mo, 1, none⟩ = some (.pointer (some ⟨mp, 0, none⟩)) := h.cell (by omega)
  have c9 : w.cell? ⟨mo, 9920, none⟩ = some (.bool true) := h.blk.cell (j := 9920) (by omega)
  have z9 := h.blk.free 9920
  have hl := h.blk.lt
  obtain ⟨w1, hw1⟩ : ∃ w1, w1 = w.setCell ⟨mo, 9920, none⟩ (.bool false) := ⟨_, rfl⟩
  have F1 : Fr [mo] w w1 := hw1 ▸ (Fr.refl _ _).setCell (.inl (by simp)) _
  have HA := Lib.hid (arclose_any (h.ar.fr F1 (by simpa using h.n1.symm) (by simpa using h.n2.symm)) hz hlen (M.fr F1 (by simpa using hn.1)) hn.2 (by omega) h2)
  have HW := Lib.hid hw1
  have HF1 := Lib.hid F1
  have HN := Lib.hid (And.intro h.n1 h.n2)
  have hB1 : Blk w1 mo 127 9921 (upd (moF m ab mp) 9920 (.bool false)) := hw1 ▸ h.blk.put 9920 _
  have k0 : w1.cell? ⟨mo, 0, none⟩ = some (.pointer (some ⟨ab, 0, none⟩)) := hB1.cell (j := 0) (by omega)
  have HK := Lib.hid (fun (w2 : World) (F : Fr [ab, mp] w1 w2) => show w2.cell? ⟨mo, 1, none⟩ = some (.pointer (some ⟨mp, 0, none⟩)) from (hB1.fr F (by simp; exact ⟨h.n1, hn.1.symm⟩)).cell (j := 1) (by omega))
  clear hB1
  clear h M hw1 F1
  go_enter Tryz.func32, Tryz.ntmps32
  go_upto_region 2 with fail
  rw [← HW.out]
  clear c0 c1 c9 z9
  have HFM := Lib.hid (fun (wx : World) (x : Int) (M : MtN wx mp x o f d s k) (hx : 20480 ≤ x) (hx2 : x ≤ 1000000000) => free_m M 20480 (by omega) hx (by omega))
  go_wp2_with (first
    | (have hq := M2; go_at_call 53; refine (HFM.out _ _ M2 (by omega) (by omega)).mono ?_; rintro e w3 ⟨rfl, M3, F3⟩)
    | (go_at_call 56; refine HA.out.mono ?_; rintro e w2 ⟨rfl, M2, F2⟩; have k1 := HK.out w2 F2))
  go_end0
  refine ⟨rfl, ?_, ((((Fr.refl [mo, ab, mp] w).trans HF1.out (fun i hi => .inl (by simp at hi; simp [hi]))).trans F2 (fun i hi => .inl (by simp at hi; rcases hi with h | h <;> simp [h]))).trans F3 (fun i hi => .inl (by simp at hi; simp [hi])))⟩
  rw [show a - (20480 + ((m.a.size : Int) + 12)) = a - ((m.a.size : Int) + 12) - 20480 from by omega]
  exact M3
/-- A model is closed by a deferred call. -/
theorem mclose_d (h : MoAt w mo ab mb mp m) (hz : m.a.size ≤ 70000) (hlen : m.a.len ≠ 0) (M : MtN w mp a o f d s k) (hn : mp ≠ mo ∧ mp ≠ ab ∧ mp ≠ mb) (h1 : 20480 + ((m.a.size : Int) + 12) ≤ a) (h2 : a ≤ 1000000000) (u : FrameMode) :
    CallsD Tryz.prog 32 #[.pointer (some ⟨mo, 0, none⟩)] u w fun e u' w' => u' = u ∧ (e = .returned (.tuple #[]) ∧ MtN w' mp (a - (20480 + ((m.a.size : Int) + 12))) o f d s k ∧ Fr [mo, ab, mp] w w') := by
  have c0 : w.cell? ⟨mo, 0, none⟩ = some (.pointer (some ⟨ab, 0, none⟩)) := h.cell (by omega)
  have c1 : w.cell? ⟨mo, 1, none⟩ = some (.pointer (some ⟨mp, 0, none⟩)) := h.cell (by omega)
  have c9 : w.cell? ⟨mo, 9920, none⟩ = some (.bool true) := h.blk.cell (j := 9920) (by omega)
  have z9 := h.blk.free 9920
  have hl := h.blk.lt
  obtain ⟨w1, hw1⟩ : ∃ w1, w1 = w.setCell ⟨mo, 9920, none⟩ (.bool false) := ⟨_, rfl⟩
  have F1 : Fr [mo] w w1 := hw1 ▸ (Fr.refl _ _).setCell (.inl (by simp)) _
  have HA := Lib.hid (arclose_any (h.ar.fr F1 (by simpa using h.n1.symm) (by simpa using h.n2.symm)) hz hlen (M.fr F1 (by simpa using hn.1)) hn.2 (by omega) h2)
  have HW := Lib.hid hw1
  have HF1 := Lib.hid F1
  have HN := Lib.hid (And.intro h.n1 h.n2)
  have hB1 : Blk w1 mo 127 9921 (upd (moF m ab mp) 9920 (.bool false)) := hw1 ▸ h.blk.put 9920 _
  have k0 : w1.cell? ⟨mo, 0, none⟩ = some (.pointer (some ⟨ab, 0, none⟩)) := hB1.cell (j := 0) (by omega)
  have HK := Lib.hid (fun (w2 : World) (F : Fr [ab, mp] w1 w2) => show w2.cell? ⟨mo, 1, none⟩ = some (.pointer (some ⟨mp, 0, none⟩)) from (hB1.fr F (by simp; exact ⟨h.n1, hn.1.symm⟩)).cell (j := 1) (by omega))
  clear hB1
  clear h M hw1 F1
  go_enter_d Tryz.func32, Tryz.ntmps32
  go_upto_region 2 with fail
  rw [← HW.out]
  clear c0 c1 c9 z9
  have HFM := Lib.hid (fun (wx : World) (x : Int) (M : MtN wx mp x o f d s k) (hx : 20480 ≤ x) (hx2 : x ≤ 1000000000) => free_m M 20480 (by omega) hx (by omega))
  go_wp2_with (first
    | (have hq := M2; go_at_call 53; refine (HFM.out _ _ M2 (by omega) (by omega)).mono ?_; rintro e w3 ⟨rfl, M3, F3⟩)
    | (go_at_call 56; refine HA.out.mono ?_; rintro e w2 ⟨rfl, M2, F2⟩; have k1 := HK.out w2 F2))
  go_end0
  refine ⟨rfl, ?_, ((((Fr.refl [mo, ab, mp] w).trans HF1.out (fun i hi => .inl (by simp at hi; simp [hi]))).trans F2 (fun i hi => .inl (by simp at hi; rcases hi with h | h <;> simp [h]))).trans F3 (fun i hi => .inl (by simp at hi; simp [hi])))⟩
  rw [show a - (20480 + ((m.a.size : Int) + 12)) = a - ((m.a.size : Int) + 12) - 20480 from by omega]
  exact M3
end
end Go.Proofs.YtjfoccbbjhigbaaGreat
