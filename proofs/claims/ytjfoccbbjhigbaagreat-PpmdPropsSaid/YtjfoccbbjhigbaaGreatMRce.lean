/- Contracts: the range decoder takes a share; a new one (layer 6). -/
import Derived.Test.YtjfoccbbjhigbaaGreatMRcd
import Derived.Deep.DeepCutAuto
namespace Go.Proofs.YtjfoccbbjhigbaaGreat
open Go.RowKit
section
variable {w : World} {rp fp : Nat} {q : Option Nat} {bs : List UInt8} {r : Rd}
set_option maxRecDepth 100000 in
theorem take_rc (h : RcAt w rp fp q bs r) (start size : Nat) (h1 : r.bad = false → 1 ≤ size * r.rng) (h2 : r.bad = false → start * r.rng ≤ r.code) (h3 : r.bad = false → size * r.rng < 4294967296) : Calls Tryz.prog 79 #[.pointer (some ⟨rp, 0, none⟩), .int .u32 start, .int .u32 size] w fun e w' => e = .returned (.tuple #[]) ∧ RcAt w' rp fp q bs (r.take bs start size) ∧ Fr [rp, fp] w w' := by
  obtain ⟨c0, c1, c2, c3, z⟩ := h.cells
  have hl := h.lt
  have HH := Lib.hid h
  clear h
  by_cases hb : r.bad = true
  · rw [hb] at c3
    have e2 : r.take bs start size = r := by unfold Rd.take; rw [if_pos hb]
    rw [e2]
    clear hb e2 h2 h1 h3
    go_enter Tryz.func79, Tryz.ntmps79
    go_wp2_with fail
    refine bodyPost_ret (results_none rfl _ _ _) rfl ?_
    exact ⟨rfl, HH.out, Fr.refl _ _⟩
  · have hb2 : r.bad = false := by simpa using hb
    rw [hb2] at c3
    have e2 : r.take bs start size = lev bs 4 { r with code := r.code - start * r.rng, rng := r.rng * size } := by unfold Rd.take; rw [hb2]; rfl
    rw [e2]
    have g1 := h1 hb2
    have g2 := h2 hb2
    have g3 := h3 hb2
    clear hb h1 h2 h3 e2
    obtain ⟨S, hS⟩ : ∃ S, S = start * r.rng := ⟨_, rfl⟩
    obtain ⟨Z, hZ⟩ : ∃ Z, Z = r.rng * size := ⟨_, rfl⟩
    have e3 : (start : Int) * (r.rng : Int) = (S : Int) := by rw [hS]; push_cast; rfl
    have e4 : (r.rng : Int) * (size : Int) = (Z : Int) := by rw [hZ]; push_cast; rfl
    rw [← hS, ← hZ]
    rw [← hS] at g2
    rw [Nat.mul_comm, ← hZ] at g1 g3
    have hcl := HH.out.cl
    clear hS hZ hb2
    go_enter Tryz.func79, Tryz.ntmps79
    go_wp2_with fail
    go_region
    have HL := Lib.hid (fun (wx : World) (h : RcAt wx rp fp q bs { r with code := r.code - S, rng := Z }) => level_any h g1)
    have H3 : RcAt ((w.setCell ⟨rp, 2, none⟩ (.int .u32 ((r.code : Int) - (S : Int)))).setCell ⟨rp, 1, none⟩ (.int .u32 Z)) rp fp q bs { r with code := r.code - S, rng := Z } := by
      rw [show (r.code : Int) - (S : Int) = ((r.code - S : Nat) : Int) from by omega]
      exact (HH.out.setCode (r.code - S) (by omega)).setRng Z g3
    have HH3 := Lib.hid H3
    clear H3
    go_wp2_with (go_at_call 128; refine (HL.out _ (HH3.out.same Same.drew)).mono ?_; rintro e w5 ⟨rfl, H5, F5⟩)
    go_end0
    exact ⟨rfl, H5, ((((Fr.refl [rp, fp] w).setCell (.inl (by simp)) _).setCell (.inl (by simp)) _).drew).trans F5 (fun i hi => .inl hi)⟩
end
/-- A range decoder that begins. -/
def Rd.zero : Rd := { rng := 4294967295, code := 0, at_ := 0, bad := false }
def shifts (bs : List UInt8) : Nat → Rd → Rd
  | 0, r => r
  | n + 1, r => Rd.shift bs (shifts bs n r)
def Rd.four (bs : List UInt8) : Rd := shifts bs 4 (Rd.zero.next bs)
def Rd.fresh (bs : List UInt8) : Rd := { Rd.four bs with bad := (Rd.four bs).bad || (Rd.zero.byte bs != 0) || decide ((Rd.four bs).rng ≤ (Rd.four bs).code) }
def NewRc (fp : Nat) (q : Option Nat) (bs : List UInt8) (w : World) (e : Ending) (w' : World) : Prop := ∃ rp, e = .returned (.pointer (some ⟨rp, 0, none⟩)) ∧ RcAt w' rp fp q bs (Rd.fresh bs) ∧ w.heap.size ≤ rp ∧ Fr [fp] w w'
set_option maxRecDepth 100000 in
theorem newrc_any (w : World) (fp : Nat) (q : Option Nat) (bs : List UInt8) (h : FeedAt w fp q bs 0) (hq0 : ∀ k, q = some k → k < w.heap.size) : Calls Tryz.prog 42 #[.iface 52 (.pointer (some ⟨fp, 0, none⟩))] w (NewRc fp q bs w) := by
  obtain ⟨rp, hrp⟩ : ∃ rp, rp = w.heap.size := ⟨_, rfl⟩
  obtain ⟨w1, hw1⟩ : ∃ w1, w1 = w.alloc (.cells #[.iface 52 (.pointer (some ⟨fp, 0, none⟩)), .int .u32 4294967295, .int .u32 0, .bool false] 166) := ⟨_, rfl⟩
  have F1 : Fr [] w w1 := hw1 ▸ (Fr.refl _ _).alloc _
  have hne : rp ≠ fp := by have := h.lt; omega
  have H1 : RcAt w1 rp fp q bs Rd.zero := by
    refine ⟨?_, h.fr F1 (by simp) (by simp), hne, ?_, by decide, by decide⟩
    · rw [hw1, hrp]; exact heap_alloc_new _ _
    · intro k hk
      have := hq0 k hk
      omega
  have HW := Lib.hid hw1
  have HRP := Lib.hid hrp
  have HF1 := Lib.hid F1
  have HH1 := Lib.hid H1
  clear H1 F1 hw1 hrp h hq0
  go_enter Tryz.func42, Tryz.ntmps42
  go_upto_region 2 with fail
  rw [← HW.out, ← HRP.out]
  go_wp2_with (go_at_call 84; refine (rcnext_any HH1.out).mono ?_; rintro e w2 ⟨rfl, H2, F2⟩)
  have hb0 := Rd.byte_lt bs Rd.zero
  obtain ⟨B0, hB0⟩ : ∃ B0, B0 = Rd.zero.byte bs := ⟨_, rfl⟩
  rw [← hB0] at hb0 ⊢
  have HB0 := Lib.hid hB0
  have HF2 := Lib.hid (F2.trans (Fr.refl [rp, fp] _) (fun i hi => .inl hi))
  have HH2 := Lib.hid H2
  clear H2 F2 hB0
  go_loopw [10] (fun a wr => ∃ k : Nat, k ≤ 4 ∧ a = .int .i64 k ∧ Hid (RcAt wr rp fp q bs (shifts bs k (Rd.zero.next bs)) ∧ Fr [rp, fp] w1 wr)) (fun a _ => 4 - (intOf a).toNat)
  case atStart => exact ⟨0, by omega, rfl, Lib.hid ⟨HH2.out, HF2.out⟩⟩
  case round =>
    obtain ⟨k, hk, rfl, HK⟩ := hrel
    rename World => wA
    by_cases hlt : k < 4
    · have hI : (k : Int) < 4 := by omega
      obtain ⟨y, hy⟩ : ∃ y, y = shifts bs k (Rd.zero.next bs) := ⟨_, rfl⟩
      rw [← hy] at HK
      have k2 : wA.cell? ⟨rp, 2, none⟩ = some (.int .u32 y.code) := HK.out.1.cells.2.2.1
      have HN := Lib.hid (fun (wx : World) (s : Same wA wx) => rcnext_any (HK.out.1.same s))
      have HKK := Lib.hid (fun (wx : World) (h : RcAt wx rp fp q bs (y.next bs)) => show wx.cell? ⟨rp, 2, none⟩ = some (.int .u32 y.code) ∧ (∀ j, wx.frozen? ⟨rp, j, none⟩ = false) ∧ rp < wx.heap.size from ⟨by have := h.cells.2.2.1; rw [Rd.next_code] at this; exact this, h.cells.2.2.2.2, h.lt⟩)
      have HY := Lib.hid hy
      clear hy
      go_wp2_with fail
      go_region_law (first
        | (go_simp; go_at_call 84; refine (HN.out _ Same.drew).mono ?_; rintro e w3 ⟨rfl, H3, F3⟩; obtain ⟨kc, kz, kl⟩ := HKK.out _ H3))
      all_goals
        have ev := Lib.hid (shift_u32 y.code (y.byte bs) (Rd.byte_lt bs y))
        rw [ev.out]
        go_wp2_with fail
        go_roundw
        case rel =>
          have H5 := H3.setCode (y.code % 16777216 * 256 + y.byte bs) (by have := Rd.byte_lt bs y; omega)
          have e5 : ({ y.next bs with code := y.code % 16777216 * 256 + y.byte bs } : Rd) = shifts bs (k + 1) (Rd.zero.next bs) := by rw [HY.out]; rfl
          rw [e5] at H5
          exact ⟨k + 1, hlt, rfl, Lib.hid ⟨H5, (HK.out.2.trans (Same.drew.fr.trans F3 (fun i hi => .inl hi)) (fun i hi => .inl hi)).setCell (.inl (by simp)) _⟩⟩
        case measure => simp [intOf]; omega
    · obtain rfl : k = 4 := by omega
      have hx : Rd.four bs = shifts bs 4 (Rd.zero.next bs) := rfl
      rw [← hx] at HK
      obtain ⟨y, hy⟩ : ∃ y, y = Rd.four bs := ⟨_, rfl⟩
      rw [← hy] at HK
      obtain ⟨c0, c1, c2, c3, z⟩ := HK.out.1.cells
      obtain ⟨d0, d1, d2, d3, -⟩ := (HK.out.1.same Same.drew).cells
      have hl := HK.out.1.lt
      have hl2 := (HK.out.1.same Same.drew).lt
      have hfr : Rd.fresh bs = { y with bad := y.bad || (B0 != 0) || decide (y.rng ≤ y.code) } := by unfold Rd.fresh; rw [← hy, ← HB0.out]
      have HFR := Lib.hid hfr
      have HKA := Lib.hid HK.out
      have HGE := Lib.hid HRP.out.symm
      clear hx hy HK hfr
      have fin : ∀ (bb : Bool) (wx : World), bb = (y.bad || (B0 != 0) || decide (y.rng ≤ y.code)) → RcAt wx rp fp q bs { y with bad := bb } → Fr [rp, fp] w1 wx → NewRc fp q bs w (.returned (.pointer (some ⟨rp, 0, none⟩))) wx := by
        intro bb wx e H F
        refine ⟨rp, rfl, ?_, by have := HRP.out; omega, ?_⟩
        · rw [HFR.out, ← e]; exact H
        · exact (((Fr.refl [fp] w).trans0 HF1.out).trans F (fun i hi => by simp at hi; rcases hi with h | h; exact .inr (by have := HRP.out; omega); exact .inl (by simp [h])))
      have HFIN := Lib.hid fin
      clear fin
      cases hb : y.bad
      all_goals rw [hb] at c3 d3
      · by_cases h0 : B0 = 0
        · obtain rfl := h0
          by_cases hc : y.rng ≤ y.code
          · have hcI : (y.rng : Int) ≤ (y.code : Int) := by omega
            go_wp2_with fail
            go_region
            go_wp2_with fail
            go_ret
            exact HFIN.out true _ (by rw [hb]; simp [hc]) ((HKA.out.1.setBad true).same Same.drew) ((HKA.out.2.setCell (.inl (by simp)) _).drew)
          · have hcI : ¬ (y.rng : Int) ≤ (y.code : Int) := by omega
            go_wp2_with fail
            go_region
            go_wp2_with fail
            go_ret
            exact HFIN.out false _ (by rw [hb]; simp [hc]) ((HKA.out.1.setBad false).same Same.drew) ((HKA.out.2.setCell (.inl (by simp)) _).drew)
        · have hBI : ((B0 : Int) != 0) = true := by simp; omega
          go_wp2_with fail
          go_region
          go_wp2_with fail
          go_ret
          exact HFIN.out true _ (by rw [hb]; simp [h0]) ((HKA.out.1.setBad true).same Same.drew) ((HKA.out.2.setCell (.inl (by simp)) _).drew)
      · go_wp2_with fail
        go_region
        go_wp2_with fail
        go_ret
        exact HFIN.out true _ (by rw [hb]; rfl) ((HKA.out.1.setBad true).same Same.drew) ((HKA.out.2.setCell (.inl (by simp)) _).drew)
end Go.Proofs.YtjfoccbbjhigbaaGreat
