/- Contracts: no bytes are packed (layer 18). -/
import Derived.Test.YtjfoccbbjhigbaaGreatMClo
import Derived.Test.YtjfoccbbjhigbaaGreatMCod
namespace Go.Proofs.YtjfoccbbjhigbaaGreat
open Go.RowKit
theorem finish_zero : Cd.zero.finish = [0, 0, 0, 0, 0] := by decide
theorem Ar.setByte_keep (a : Ar) (p b : Nat) : (a.setByte p b).size = a.size ∧ (a.setByte p b).len = a.len := by
  unfold Ar.setByte
  split <;> exact ⟨rfl, rfl⟩
theorem Ar.setNum_keep (a : Ar) (p v : Nat) : ∀ n, (a.setNum p n v).size = a.size ∧ (a.setNum p n v).len = a.len
  | 0 => ⟨rfl, rfl⟩
  | n + 1 => by
    have h1 := Ar.setByte_keep (a.setNum p n v) (p + n) (v / 256 ^ n % 256)
    have h2 := Ar.setNum_keep a p v n
    exact ⟨h1.1.trans h2.1, h1.2.trans h2.2⟩
theorem Ar.words_keep (a : Ar) (s : Nat) : ∀ n, (a.words s n).size = a.size ∧ (a.words s n).len = a.len
  | 0 => ⟨rfl, rfl⟩
  | n + 1 => by
    have h1 := Ar.setNum_keep (a.words s n) (s + n * 6) (n + 256) 6
    have h2 := Ar.words_keep a s n
    exact ⟨h1.1.trans h2.1, h1.2.trans h2.2⟩
theorem root_keep (a : Ar) (n : Nat) :
    ((let b := a.restart
      let c := b.high - 12
      let s := b.low
      ((((({ b with high := c, low := s + unitsT (whichT 128) * 12 } : Ar).setNum c 2 256).setNum (c + 2) 2 257).setNum (c + 4) 4 s).setNum (c + 8) 4 0).words s n) : Ar).size = a.size ∧
    ((let b := a.restart
      let c := b.high - 12
      let s := b.low
      ((((({ b with high := c, low := s + unitsT (whichT 128) * 12 } : Ar).setNum c 2 256).setNum (c + 2) 2 257).setNum (c + 4) 4 s).setNum (c + 8) 4 0).words s n) : Ar).len = a.len := by
  dsimp only
  rw [(Ar.words_keep _ _ _).1, (Ar.words_keep _ _ _).2, (Ar.setNum_keep _ _ _ _).1, (Ar.setNum_keep _ _ _ _).1, (Ar.setNum_keep _ _ _ _).1, (Ar.setNum_keep _ _ _ _).1, (Ar.setNum_keep _ _ _ _).2, (Ar.setNum_keep _ _ _ _).2, (Ar.setNum_keep _ _ _ _).2, (Ar.setNum_keep _ _ _ _).2]
  exact ⟨rfl, rfl⟩
theorem rootA_keep (a : Ar) : (Mo.rootA a).size = a.size ∧ (Mo.rootA a).len = a.len := root_keep a 256
theorem fresh_keep (order size : Nat) : (Mo.fresh order size).a.size = size ∧ (Mo.fresh order size).a.len = size + 13 := by
  unfold Mo.fresh Mo.restart
  dsimp only
  rw [(rootA_keep _).1, (rootA_keep _).2]
  exact ⟨rfl, rfl⟩
/-- The stream of no bytes. -/
def PackR (mp : Nat) (a o f d s k : Int) (w : World) (e : Ending) (w' : World) : Prop := ∃ v q, e = .returned (.tuple #[v, .int .i64 0]) ∧ Sl w' v (bv [0, 0, 0, 0, 0]) ∧ (∀ j, v.ownBlock = some j → w.heap.size ≤ j) ∧ MtN w' mp a o f d s q ∧ k ≤ q ∧ Fr [mp] w w'
set_option maxRecDepth 100000 in
set_option maxHeartbeats 4000000 in
theorem pack_nil (w : World) (mp order size : Nat) (a o f d s k : Int) (M : MtN w mp a o f d s k) (ha : 0 ≤ a) (ha2 : a ≤ 100000000) (h1 : 2048 ≤ size) (h2 : size ≤ 65536) (h3 : 2 ≤ order) (h4 : order ≤ 64) :
    Calls Tryz.prog 11 #[.slice none 0 0, .agg #[.int .i64 order, .int .i64 size], .pointer (some ⟨mp, 0, none⟩)] w (PackR mp a o f d s k w) := by
  have HM := Lib.hid M
  have HS := Lib.hid (show 2048 ≤ size ∧ size ≤ 65536 ∧ 2 ≤ order ∧ order ≤ 64 ∧ 0 ≤ a ∧ a ≤ 100000000 from ⟨h1, h2, h3, h4, ha, ha2⟩)
  clear M h1 h2 h3 h4 ha ha2
  go_enter_defers Tryz.func11, Tryz.ntmps11
  go_wp2_with (first
    | (have hq := H1; go_at_call 33; refine (newcoder_any w1).mono ?_; rintro e w2 ⟨rfl, C2, F2, -⟩)
    | (go_at_call 31; refine (mnew _ mp order size a o f d s k (HM.out.fr ((Fr.refl [] w).alloc _) (by simp)) HS.out.2.2.2.2.1 HS.out.2.2.2.2.2 HS.out.1 HS.out.2.1 HS.out.2.2.1 HS.out.2.2.2.1).mono ?_; rintro e w1 ⟨mo, ab, mb, b, q, rfl, H1, hb, M1, hq1, hq2, g1, g2, g3, F1⟩))
  have hlw : mp < w.heap.size := HM.out.lt
  have hz1 := F1.size
  rw [World.size_alloc] at hz1 g1 g2 g3
  have HC2 := Lib.hid C2
  have F01 : Fr [mp] w w1 := ((Fr.refl [mp] w).alloc _).trans F1 (fun i hi => .inl hi)
  have HF2 := Lib.hid F2
  have HMo := Lib.hid (H1.fr F2 (by simp) (by simp) (by simp))
  have HM2 := Lib.hid (M1.fr F2 (by simp))
  have HQ := Lib.hid (And.intro hb (And.intro hq1 hq2))
  have HL := Lib.hid (show w.heap.size ≤ ab ∧ w.heap.size ≤ mb ∧ w.heap.size ≤ mo ∧ w.heap.size ≤ w1.heap.size ∧ mo < w1.heap.size ∧ ab < w1.heap.size ∧ mb < w1.heap.size ∧ mp < w.heap.size from ⟨by omega, by omega, by omega, by omega, H1.blk.lt, H1.ar.blk.lt, H1.ar.mem.lt, hlw⟩)
  have F01h := Lib.hid F01
  have HMo1 := Lib.hid H1
  have HM1 := Lib.hid M1
  obtain ⟨fz, fl⟩ := fresh_keep order size
  obtain ⟨m, hm⟩ : ∃ m, m = Mo.fresh order size := ⟨_, rfl⟩
  rw [← hm] at fz fl HMo1
  have HX := Lib.hid (fun (wx : World) (v : Value) (F : Fr [] w1 wx) (hv : wx.ownsRow (w1.heap.size + 1) 5 1 v 5 (bv [0, 0, 0, 0, 0])) => show CallsD Tryz.prog 32 #[.pointer (some ⟨mo, 0, none⟩)] .returning wx (fun e u' w' => u' = .returning ∧ (e = .returned (.tuple #[]) ∧ PackR mp a o f d s k w (.returned (.tuple #[v, .int .i64 0])) w')) from by
    obtain ⟨l1, l2, l3, l4, l5, l6, l7, l8⟩ := HL.out
    obtain ⟨rfl, q1, q2⟩ := HQ.out
    obtain ⟨s1, s2, s3, s4, s5, s6⟩ := HS.out
    have hMo := HMo1.out.fr F (by simp) (by simp) (by simp)
    have hMM := HM1.out.fr F (by simp)
    refine (mclose_d hMo (by rw [fz]; omega) (by rw [fl]; omega) hMM ⟨by omega, by omega, by omega⟩ (by rw [fz]; omega) (by omega) _).mono ?_
    rintro e u' w4 ⟨rfl, rfl, M4, F4⟩
    refine ⟨rfl, rfl, v, q, rfl, ?_, ?_, ?_, q1, ?_⟩
    · exact Sl.of_own (own_frS hv F4 (fun j hj => by have := (own_ltS hv j hj).1; simp; omega))
    · intro j hj
      have := (own_ltS hv j hj).1
      omega
    · rw [fz, show a + 20480 + ((size : Int) + 12) - (20480 + ((size : Int) + 12)) = a from by omega] at M4
      exact M4
    · exact (F01h.out.trans0 F).trans F4 (fun i hi => by simp at hi; rcases hi with rfl | rfl | rfl; exact .inr (by omega); exact .inr (by omega); exact .inl (by simp)))
  clear F01h HMo1 HM1 fz fl hm HMo HM2
  clear H1 hb M1 hq1 hq2 g1 g2 g3 F1 C2 F2 F01 hz1 hlw
  go_loopw [29] (fun i wr => i = .int .i64 0 ∧ wr = w2) (fun _ _ => 0)
  case atStart => exact ⟨rfl, rfl⟩
  case round =>
    obtain ⟨rfl, rfl⟩ := hrel
    rename World => wA
    have HF := Lib.hid (finish_any HC2.out (by decide) (S := []) HF2.out (.inr (Nat.le_refl _)) (by omega))
    go_wp2_with (go_at_call 35; refine HF.out.mono ?_; rintro e w3 ⟨v, rfl, own3, F3⟩)
    rw [finish_zero] at own3
    unfold bodyPostD
    refine leaves_cons (f := 32) (args := #[.pointer (some ⟨mo, 0, none⟩)]) (by simp) (by simp [go_sem]) ?_
    refine (HX.out w3 v F3 own3).mono ?_
    rintro e u' w4 ⟨rfl, rfl, G4⟩
    simp [Leaves, settle, results, Tryz.results11]
    exact G4
end Go.Proofs.YtjfoccbbjhigbaaGreat
