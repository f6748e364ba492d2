/- Contract: five bytes 0 aren't unpacked to a byte (layer 18). -/
import Derived.Test.YtjfoccbbjhigbaaGreatMPu
namespace Go.Proofs.YtjfoccbbjhigbaaGreat
open Go.RowKit
def UnpR (mp : Nat) (a o f d s k : Int) (w : World) (e : Ending) (w' : World) : Prop := ∃ q, e = .returned (.tuple #[.slice none 0 0, .int .i64 12]) ∧ MtN w' mp a o f d s q ∧ k ≤ q ∧ Fr [mp] w w'
set_option maxRecDepth 100000 in
set_option maxHeartbeats 4000000 in
theorem unpack_five (w : World) (v : Value) (hv : Sl w v (bv five)) (mp order size : Nat) (a o f d s k : Int) (M : MtN w mp a o f d s k) (ha : 0 ≤ a) (ha2 : a ≤ 100000000) (h1 : 2048 ≤ size) (h2 : size ≤ 65536) (h3 : 2 ≤ order) (h4 : order ≤ 64) (hvm : ∀ j, v.ownBlock = some j → j ≠ mp) :
    Calls Tryz.prog 13 #[v, .agg #[.int .i64 order, .int .i64 size], .int .i64 1, .pointer (some ⟨mp, 0, none⟩)] w (UnpR mp a o f d s k w) := by
  have HM := Lib.hid M
  have HV := Lib.hid (And.intro hv hvm)
  have HS := Lib.hid (show 2048 ≤ size ∧ size ≤ 65536 ∧ 2 ≤ order ∧ order ≤ 64 ∧ 0 ≤ a ∧ a ≤ 100000000 from ⟨h1, h2, h3, h4, ha, ha2⟩)
  obtain ⟨ao, cap, rfl, -, -, -⟩ := hv.out
  clear M h1 h2 h3 h4 ha ha2 hv hvm
  go_enter_defers Tryz.func13, Tryz.ntmps13
  go_wp2_with (first
    | (go_at_call 19; refine (newdec_any _ mp order size a o f d s k (HM.out.fr ((Fr.refl [] w).alloc _) (by simp)) HS.out.2.2.2.2.1 HS.out.2.2.2.2.2 HS.out.1 HS.out.2.1 HS.out.2.2.1 HS.out.2.2.2.1).mono ?_; rintro e w1 ⟨dp, mo, ab, mb, b, q, rfl, D1, H1, hb, M1, hq1, hg, F1⟩))
  have F01 : Fr [mp] w w1 := ((Fr.refl [mp] w).alloc _).trans F1 (fun i hi => .inl hi)
  have hlw : mp < w.heap.size := HM.out.lt
  rw [World.size_alloc] at hg
  obtain ⟨g1, g2, g3, g4, g5, g6, g7⟩ := hg
  have HL := Lib.hid (show w.heap.size ≤ ab ∧ w.heap.size ≤ mb ∧ w.heap.size ≤ mo ∧ w.heap.size ≤ dp ∧ dp ≠ mo ∧ dp ≠ ab ∧ dp ≠ mb ∧ mo < w1.heap.size ∧ ab < w1.heap.size ∧ mb < w1.heap.size ∧ dp < w1.heap.size ∧ mp < w.heap.size ∧ w.heap.size ≤ w1.heap.size from ⟨by omega, by omega, by omega, by omega, g5, g6, g7, H1.blk.lt, H1.ar.blk.lt, H1.ar.mem.lt, D1.cells.2.2.2.2.2, hlw, F01.size⟩)
  have HNF := Lib.hid (newfeed_any w1 _ five (HV.out.1.fr F01 (fun k hk => by simpa using HV.out.2 k hk)) (by decide))
  obtain ⟨fz, fl⟩ := fresh_keep order size
  obtain ⟨m, hm⟩ : ∃ m, m = Mo.fresh order size := ⟨_, rfl⟩
  obtain ⟨st, hD⟩ := dry5 order size HS.out.1 HS.out.2.1 hm
  rw [← hm] at fz fl H1
  have HDR := Lib.hid hD
  have HMZ := Lib.hid (And.intro fz fl)
  have HF01 := Lib.hid F01
  have HH := Lib.hid (And.intro D1 (And.intro H1 M1))
  have HQ := Lib.hid (And.intro hb hq1)
  clear D1 H1 M1 F1 F01 hlw g1 g2 g3 g4 g5 g6 g7 fz fl hm hD hb hq1
  go_upto_region 6 with (first
    | (have hq := HB2; go_at_call 21; refine HB2.out.mono ?_; rintro e w3 ⟨rp, rfl, D3, R3, gr, F3⟩)
    | (go_at_call 22; refine HNF.out.mono ?_; rintro e w2 ⟨fp, qq, rfl, gf, gq, Fd, F2⟩; have HB2 := Lib.hid (begin_any (HH.out.1.fr F2 (by simp)) Fd (fun k hk => ⟨by have := gq k hk; have := Fd.lt; omega, by have := gq k hk; have := HL.out; omega⟩) (by have := HL.out; omega))))
  obtain ⟨l1, l2, l3, l4, l5, l6, l7, l8, l9, l10, l11, l12, l13⟩ := HL.out
  have hz2 := F2.size
  have hfl := Fd.lt
  have F23 : Fr [dp, fp] w1 w3 := ((Fr.refl [dp, fp] w1).trans0 F2).trans F3 (fun i hi => .inl hi)
  have M3 := HH.out.2.2.fr F23 (by simp; omega)
  have H3 := HH.out.2.1.fr F23 (by simp; omega) (by simp; omega) (by simp; omega)
  have HN := Lib.hid (next_dry D3 H3 R3 ⟨by omega, by omega, by omega, by omega, by omega, by omega⟩ HDR.out ⟨by omega, by omega, l5, l6, l7⟩)
  have HM3 := Lib.hid M3
  have HF3 := Lib.hid F23
  have HG := Lib.hid (show dp < w1.heap.size ∧ w1.heap.size ≤ fp ∧ w1.heap.size ≤ rp from ⟨l11, by omega, by omega⟩)
  clear D3 R3 F3 F2 Fd gf gq gr hz2 hfl F23 M3 H3 HB2 HNF l1 l2 l3 l4 l5 l6 l7 l8 l9 l10 l11 l12 l13
  have HX := Lib.hid (fun (wx : World) (h : NextR dp mo ab mb mp rp fp m w3 (.returned (.tuple #[.int .u8 0, .bool false])) wx) => show CallsD Tryz.prog 24 #[.pointer (some ⟨dp, 0, none⟩)] .returning wx (fun e u' w' => u' = .returning ∧ (e = .returned (.tuple #[]) ∧ UnpR mp a o f d s k w (.returned (.tuple #[.slice none 0 0, .int .i64 12])) w')) from by
    obtain ⟨l1, l2, l3, l4, l5, l6, l7, l8, l9, l10, l11, l12, l13⟩ := HL.out
    obtain ⟨g1, g2, g3⟩ := HG.out
    obtain ⟨rfl, q1⟩ := HQ.out
    obtain ⟨s1, s2, s3, s4, s5, s6⟩ := HS.out
    obtain ⟨-, h2, h3, h4⟩ := h
    obtain ⟨fz, fl⟩ := HMZ.out
    have hM := HM3.out.fr h4 (by simp; omega)
    refine (decclose_d h2 h3 (by rw [fz]; omega) (by rw [fl]; omega) hM ⟨by omega, by omega, by omega⟩ ⟨l5, l6, l7, by omega⟩ (by rw [fz]; omega) (by omega) _).mono ?_
    rintro e u' w4 ⟨rfl, rfl, M4, F4⟩
    refine ⟨rfl, rfl, q, rfl, ?_, q1, ?_⟩
    · rw [fz, show a + 20480 + ((size : Int) + 12) - (20480 + ((size : Int) + 12)) = a from by omega] at M4
      exact M4
    · exact ((HF01.out.trans HF3.out (fun i hi => by simp at hi; rcases hi with rfl | rfl <;> exact .inr (by omega))).trans h4 (fun i hi => by simp at hi; rcases hi with rfl | rfl | rfl <;> exact .inr (by omega))).trans F4 (fun i hi => by simp at hi; rcases hi with rfl | rfl | rfl | rfl; exact .inr (by omega); exact .inr (by omega); exact .inl (by simp); exact .inr (by omega)))
  go_wp2_with fail
  go_loopw [12] (fun i wr => i = .slice none 0 0 ∧ wr = w3) (fun _ _ => 0)
  case atStart => exact ⟨rfl, rfl⟩
  case round =>
    obtain ⟨rfl, rfl⟩ := hrel
    rename World => wA
    go_wp2_with (go_at_call 20; refine HN.out.mono ?_; intro e w4 hN; obtain rfl := hN.1; have HNR := Lib.hid hN; clear hN)
    unfold bodyPostD
    refine leaves_cons (f := 24) (args := #[.pointer (some ⟨dp, 0, none⟩)]) (by simp) (by simp [go_sem]) ?_
    refine (HX.out w4 HNR.out).mono ?_
    rintro e u' w5 ⟨rfl, rfl, G4⟩
    simp [Leaves, settle, results, Tryz.results13]
    exact G4
end Go.Proofs.YtjfoccbbjhigbaaGreat
