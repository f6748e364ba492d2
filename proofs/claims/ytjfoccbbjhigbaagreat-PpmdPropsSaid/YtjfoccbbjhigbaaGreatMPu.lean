/- Contracts: ppmd's decoder is made, begun, asked at its bytes' end (layer 18). -/
import Derived.Test.YtjfoccbbjhigbaaGreatMDry
import Derived.Test.YtjfoccbbjhigbaaGreatMPp
namespace Go.Proofs.YtjfoccbbjhigbaaGreat
open Go.RowKit
/-- The decoder of ppmd in block dp. -/
def DecAt (w : World) (dp mo : Nat) (src rc : Value) (bad : Bool) : Prop := w.heap[dp]? = some (.cells #[.pointer (some ⟨mo, 0, none⟩), src, rc, .bool bad] 102 (0, 0))
theorem DecAt.cells {w : World} {dp mo : Nat} {src rc : Value} {bad : Bool} (h : DecAt w dp mo src rc bad) : w.cell? ⟨dp, 0, none⟩ = some (.pointer (some ⟨mo, 0, none⟩)) ∧ w.cell? ⟨dp, 1, none⟩ = some src ∧ w.cell? ⟨dp, 2, none⟩ = some rc ∧ w.cell? ⟨dp, 3, none⟩ = some (.bool bad) ∧ (∀ j, w.frozen? ⟨dp, j, none⟩ = false) ∧ dp < w.heap.size := by
  unfold DecAt at h
  exact ⟨by simp [Go.Joins.cell_of_block h], by simp [Go.Joins.cell_of_block h], by simp [Go.Joins.cell_of_block h], by simp [Go.Joins.cell_of_block h], fun j => Go.Joins.unfrozen_of_block h j, (Array.getElem?_eq_some_iff.1 h).1⟩
theorem DecAt.fr {w w' : World} {dp mo : Nat} {src rc : Value} {bad : Bool} {S : List Nat} (h : DecAt w dp mo src rc bad) (F : Fr S w w') (hs : dp ∉ S) : DecAt w' dp mo src rc bad := (F.block dp (Array.getElem?_eq_some_iff.1 h).1 hs).trans h
/-- A new decoder. -/
def NewDec (mp order size : Nat) (a o f d s k : Int) (w : World) (e : Ending) (w' : World) : Prop := ∃ dp mo ab mb b q, e = .returned (.tuple #[.pointer (some ⟨dp, 0, none⟩), .int .i64 0]) ∧ DecAt w' dp mo .nilIface (.pointer none) false ∧ MoAt w' mo ab mb mp (Mo.fresh order size) ∧ b = a + 20480 + (size + 12) ∧ MtN w' mp b o f d s q ∧ k ≤ q ∧ (w.heap.size ≤ ab ∧ w.heap.size ≤ mb ∧ w.heap.size ≤ mo ∧ w.heap.size ≤ dp ∧ dp ≠ mo ∧ dp ≠ ab ∧ dp ≠ mb) ∧ Fr [mp] w w'
set_option maxRecDepth 100000 in
set_option maxHeartbeats 4000000 in
theorem newdec_any (w : World) (mp order size : Nat) (a o f d s k : Int) (M : MtN w mp a o f d s k) (ha : 0 ≤ a) (ha2 : a ≤ 100000000) (h1 : 2048 ≤ size) (h2 : size ≤ 65536) (h3 : 2 ≤ order) (h4 : order ≤ 64) :
    Calls Tryz.prog 19 #[.agg #[.int .i64 order, .int .i64 size], .pointer (some ⟨mp, 0, none⟩)] w (NewDec mp order size a o f d s k w) := by
  have HM := Lib.hid M
  have HS := Lib.hid (show 2048 ≤ size ∧ size ≤ 65536 ∧ 2 ≤ order ∧ order ≤ 64 ∧ 0 ≤ a ∧ a ≤ 100000000 from ⟨h1, h2, h3, h4, ha, ha2⟩)
  clear M h1 h2 h3 h4 ha ha2
  go_enter Tryz.func19, Tryz.ntmps19
  go_wp2_with (go_at_call 31; refine (mnew _ mp order size a o f d s k (HM.out.fr ((Fr.refl [] w).alloc _) (by simp)) HS.out.2.2.2.2.1 HS.out.2.2.2.2.2 HS.out.1 HS.out.2.1 HS.out.2.2.1 HS.out.2.2.2.1).mono ?_; rintro e w1 ⟨mo, ab, mb, b, q, rfl, H1, hb, M1, hq1, hq2, g1, g2, g3, F1⟩)
  go_ret2
  have F2 : Fr [] w1 (w1.alloc (.cells #[.pointer (some ⟨mo, 0, none⟩), .nilIface, .pointer none, .bool false] 102)) := (Fr.refl _ _).alloc _
  have hz1 := F1.size
  rw [World.size_alloc] at hz1 g1 g2 g3
  have l1 := H1.blk.lt
  have l2 := H1.ar.blk.lt
  have l3 := H1.ar.mem.lt
  exact ⟨w1.heap.size, mo, ab, mb, _, _, rfl, heap_alloc_new _ _, H1.fr F2 (by simp) (by simp) (by simp), hb, M1.fr F2 (by simp), hq1, ⟨by omega, by omega, by omega, by omega, by omega, by omega, by omega⟩, (((Fr.refl [mp] w).alloc _).trans F1 (fun i hi => .inl hi)).trans0 F2⟩
section
variable {w : World} {dp mo fp : Nat}
/-- It begins. -/
def BegR (dp mo fp : Nat) (q : Option Nat) (bs : List UInt8) (w : World) (e : Ending) (w' : World) : Prop := ∃ rp, e = .returned (.tuple #[]) ∧ DecAt w' dp mo (.iface 52 (.pointer (some ⟨fp, 0, none⟩))) (.pointer (some ⟨rp, 0, none⟩)) false ∧ RcAt w' rp fp q bs (Rd.fresh bs) ∧ w.heap.size ≤ rp ∧ Fr [dp, fp] w w'
set_option maxRecDepth 100000 in
set_option maxHeartbeats 4000000 in
theorem begin_any (h : DecAt w dp mo .nilIface (.pointer none) false) {q : Option Nat} {bs : List UInt8} (hf : FeedAt w fp q bs 0) (hq : ∀ k, q = some k → k < w.heap.size ∧ k ≠ dp) (hn : dp ≠ fp) :
    Calls Tryz.prog 21 #[.pointer (some ⟨dp, 0, none⟩), .iface 52 (.pointer (some ⟨fp, 0, none⟩))] w (BegR dp mo fp q bs w) := by
  obtain ⟨c0, c1, c2, c3, z, hl⟩ := h.cells
  have HH := Lib.hid h
  have HN := Lib.hid (newrc_any w fp q bs hf (fun k hk => (hq k hk).1))
  have HK := Lib.hid (fun (w1 : World) (F : Fr [fp] w w1) => (h.fr F (by simpa using hn)).cells)
  have HQ := Lib.hid hq
  clear h hf hq
  go_enter Tryz.func21, Tryz.ntmps21
  go_wp2_with (go_at_call 42; refine HN.out.mono ?_; rintro e w1 ⟨rp, rfl, R1, g1, F1⟩; obtain ⟨k0, k1, k2, k3, kz, kl⟩ := HK.out w1 F1)
  go_end0
  have hb1 := (HH.out.fr F1 (by simpa using hn))
  refine ⟨rp, rfl, ?_, ?_, g1, ((((Fr.refl [dp, fp] w).trans F1 (fun i hi => .inl (by simp at hi; simp [hi]))).setCell (.inl (by simp)) _).setCell (.inl (by simp)) _)⟩
  · exact Go.Joins.block_setCell (Go.Joins.block_setCell hb1 _) _
  · exact R1.fr (((Fr.refl [dp] w1).setCell (.inl (by simp)) _).setCell (.inl (by simp)) _) (by simp; omega) (by simpa using hn.symm) (fun k hk => by simpa using (HQ.out k hk).2)
/-- Asked at the bytes' end. -/
def NextR (dp mo ab mb mp rp fp : Nat) (m : Mo) (w : World) (e : Ending) (w' : World) : Prop := e = .returned (.tuple #[.int .u8 0, .bool false]) ∧ DecAt w' dp mo (.iface 52 (.pointer (some ⟨fp, 0, none⟩))) (.pointer (some ⟨rp, 0, none⟩)) true ∧ MoAt w' mo ab mb mp m ∧ Fr [dp, rp, fp] w w'
set_option maxRecDepth 100000 in
set_option maxHeartbeats 4000000 in
theorem next_dry {rp ab mb mp : Nat} {m : Mo} (h : DecAt w dp mo (.iface 52 (.pointer (some ⟨fp, 0, none⟩))) (.pointer (some ⟨rp, 0, none⟩)) false) {q : Option Nat} {bs : List UInt8} {r : Rd} {n whole s f : Nat} (hM : MoAt w mo ab mb mp m) (hR : RcAt w rp fp q bs r) (hA : RcApart mo ab mb rp fp) (D : Dry m bs r n whole s f) (hn : dp ≠ fp ∧ dp ≠ rp ∧ dp ≠ mo ∧ dp ≠ ab ∧ dp ≠ mb) :
    Calls Tryz.prog 20 #[.pointer (some ⟨dp, 0, none⟩)] w (NextR dp mo ab mb mp rp fp m w) := by
  obtain ⟨c0, c1, c2, c3, z, hl⟩ := h.cells
  have HD := Lib.hid (fun (wx : World) (S : Same w wx) => decode_dry (hM.same S) (hR.same S) hA D)
  have HH := Lib.hid h
  have HK := Lib.hid (fun (w1 : World) (F : Fr [rp, fp] w w1) => (h.fr F (by simp; exact ⟨hn.2.1, hn.1⟩)).cells)
  clear h hM hR hA D
  go_enter Tryz.func20, Tryz.ntmps20
  go_upto_region 3 with fail
  go_region_held3 (fun wx => wx.cell? ⟨dp, 0, none⟩ = some (.pointer (some ⟨mo, 0, none⟩)) ∧ wx.cell? ⟨dp, 2, none⟩ = some (.pointer (some ⟨rp, 0, none⟩))) (first | exact ⟨c0, c2⟩ | exact ⟨k0, k2⟩)
    (first | (go_at_call 41; refine (HD.out _ Same.drew).mono ?_; rintro e w2 ⟨rfl, M2, R2, F2⟩; obtain ⟨k0, k1, k2, k3, kz, kl⟩ := HK.out w2 (Same.drew.fr.trans F2 (fun i hi => .inl hi))))
  go_wp2_with fail
  go_ret2
  have hF : Fr [rp, fp] w w2 := Same.drew.fr.trans F2 (fun i hi => .inl hi)
  refine ⟨rfl, Go.Joins.block_setCell (HH.out.fr hF (by simp; exact ⟨hn.2.1, hn.1⟩)) _, M2.fr ((Fr.refl [dp] w2).setCell (.inl (by simp)) _) (by simpa using hn.2.2.1.symm) (by simpa using hn.2.2.2.1.symm) (by simpa using hn.2.2.2.2.symm), ?_⟩
  exact (((Fr.refl [dp, rp, fp] w).trans hF (fun i hi => .inl (by simp at hi; rcases hi with h | h <;> simp [h]))).setCell (.inl (by simp)) _)
set_option maxRecDepth 100000 in
set_option maxHeartbeats 4000000 in
/-- It is closed by a deferred call. -/
theorem decclose_d {ab mb mp : Nat} {m : Mo} {src rc : Value} {bad : Bool} {a o f d s k : Int} (h : DecAt w dp mo src rc bad) (hM : MoAt w mo ab mb mp m) (hz : m.a.size ≤ 70000) (hlen : m.a.len ≠ 0) (M : MtN w mp a o f d s k) (hn : mp ≠ mo ∧ mp ≠ ab ∧ mp ≠ mb) (hd : dp ≠ mo ∧ dp ≠ ab ∧ dp ≠ mb ∧ dp ≠ mp) (h1 : 20480 + ((m.a.size : Int) + 12) ≤ a) (h2 : a ≤ 1000000000) (u : FrameMode) :
    CallsD Tryz.prog 24 #[.pointer (some ⟨dp, 0, none⟩)] u w fun e u' w' => u' = u ∧ (e = .returned (.tuple #[]) ∧ MtN w' mp (a - (20480 + ((m.a.size : Int) + 12))) o f d s k ∧ Fr [mo, ab, mp, dp] w w') := by
  obtain ⟨c0, c1, c2, c3, z, hl⟩ := h.cells
  have HC := Lib.hid (mclose_any hM hz hlen M hn h1 h2)
  have HK := Lib.hid (fun (w1 : World) (F : Fr [mo, ab, mp] w w1) => (h.fr F (by simp; exact ⟨hd.1, hd.2.1, hd.2.2.2⟩)).cells)
  clear h hM M
  go_enter_d Tryz.func24, Tryz.ntmps24
  go_wp2_with (go_at_call 32; refine HC.out.mono ?_; rintro e w1 ⟨rfl, M1, F1⟩; obtain ⟨k0, k1, k2, k3, kz, kl⟩ := HK.out w1 F1)
  go_end0
  exact ⟨rfl, M1.fr ((Fr.refl [dp] w1).setCell (.inl (by simp)) _) (by simpa using hd.2.2.2.symm), ((Fr.refl [mo, ab, mp, dp] w).trans F1 (fun i hi => .inl (by simp at hi; rcases hi with h | h | h <;> simp [h]))).setCell (.inl (by simp)) _⟩
end
end Go.Proofs.YtjfoccbbjhigbaaGreat
