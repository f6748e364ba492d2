/- Contracts: a decoder that comes to its bytes' end at the first symbol of a context with more than one state: nothing is told, the model stays (layer 17). -/
import Derived.Test.YtjfoccbbjhigbaaGreatMNew
import Derived.Test.YtjfoccbbjhigbaaGreatMAcc
import Derived.Test.YtjfoccbbjhigbaaGreatMRce
namespace Go.Proofs.YtjfoccbbjhigbaaGreat
open Go.RowKit
/-- The first share that is asked lies behind the bytes' end. -/
structure Dry (m : Mo) (bs : List UInt8) (r : Rd) (n whole s f : Nat) : Prop where
  byt : m.a.Byt
  least : m.least ≤ 100000000
  hn : m.states m.least = n
  n1 : n ≠ 1
  n0 : 1 ≤ n
  sum : m.sum m.least = whole
  hs : m.state m.least 0 = s
  s1 : s ≤ 100000000
  hf : m.freq s = f
  f1 : 1 ≤ f
  w1 : 1 ≤ whole
  w2 : f ≤ whole
  w3 : whole ≤ 65535
  good : r.bad = false
  rng : whole ≤ r.rng
  place : r.place whole = 0
  fine : (r.placed whole).bad = false
  bad : ((r.placed whole).take bs 0 f).bad = true
section
variable {w : World} {mo ab mb mp rp fp : Nat} {m : Mo} {q : Option Nat} {bs : List UInt8} {r : Rd} {n whole s f : Nat}
/-- What a decoder may write. -/
def RcApart (mo ab mb rp fp : Nat) : Prop := rp ≠ mo ∧ rp ≠ ab ∧ rp ≠ mb ∧ fp ≠ mo ∧ fp ≠ ab ∧ fp ≠ mb
def FstR (mo ab mb mp rp fp : Nat) (m : Mo) (q : Option Nat) (bs : List UInt8) (r : Rd) (w : World) (e : Ending) (w' : World) : Prop := e = .returned (.tuple #[.int .u8 0, .bool false]) ∧ MoAt w' mo ab mb mp m ∧ RcAt w' rp fp q bs r ∧ Fr [rp, fp] w w'
set_option maxRecDepth 100000 in
set_option maxHeartbeats 4000000 in
theorem first_dry (h : MoAt w mo ab mb mp m) (hR : RcAt w rp fp q bs r) (hA : RcApart mo ab mb rp fp) (D : Dry m bs r n whole s f) (kb : Nat) :
    Calls Tryz.prog 71 #[.pointer (some ⟨mo, 0, none⟩), .pointer (some ⟨rp, 0, none⟩), .pointer (some ⟨kb, 0, none⟩)] w (FstR mo ab mb mp rp fp m q bs ((r.placed whole).take bs 0 f) w) := by
  obtain ⟨a1, a2, a3, a4, a5, a6⟩ := hA
  have c3 : w.cell? ⟨mo, 3, none⟩ = some (.int .i64 m.least) := h.cell (by omega)
  have HST := Lib.hid (states_any h D.byt m.least D.least)
  have HSU := Lib.hid (sum_any h D.byt m.least D.least)
  have n1 := D.n1
  have n0 := D.n0
  have hnI : (n : Int) ≠ 1 := by omega
  have hnI0 : (0 : Int) < (n : Int) := by omega
  have hw1 := D.w1
  have hw3 := D.w3
  have HD := Lib.hid D
  have HH := Lib.hid h
  have HR := Lib.hid hR
  have HK := Lib.hid (fun (wx : World) (F : Fr [rp, fp] w wx) => show MoAt wx mo ab mb mp m ∧ wx.cell? ⟨mo, 3, none⟩ = some (.int .i64 m.least) from ⟨h.fr F (by simp [a1.symm, a4.symm]) (by simp [a2.symm, a5.symm]) (by simp [a3.symm, a6.symm]), (h.fr F (by simp [a1.symm, a4.symm]) (by simp [a2.symm, a5.symm]) (by simp [a3.symm, a6.symm])).cell (by omega)⟩)
  rw [D.hn] at HST
  rw [D.sum] at HSU
  clear h hR D a1 a2 a3 a4 a5 a6
  go_enter Tryz.func71, Tryz.ntmps71
  go_upto_region 15 with (first
    | (go_at_call 121; refine HSU.out.mono ?_; rintro e w2 ⟨rfl, rfl⟩)
    | (go_at_call 73; refine HST.out.mono ?_; rintro e w1 ⟨rfl, rfl⟩))
  rename World => w2
  have HP := Lib.hid (place_any HR.out whole hw1 (fun _ => HD.out.rng))
  rw [HD.out.place] at HP
  have hf1 := HD.out.f1
  have hw2 := HD.out.w2
  have HW := Lib.hid (fun (wx : World) (F : Fr [rp, fp] w2 wx) => show Calls Tryz.prog 118 #[.pointer (some ⟨mo, 0, none⟩), .int .i64 m.least, .int .i64 0] wx (fun e w' => e = .returned (.int .i64 s) ∧ w' = wx) ∧ Calls Tryz.prog 78 #[.pointer (some ⟨mo, 0, none⟩), .int .i64 s] wx (fun e w' => e = .returned (.int .i64 f) ∧ w' = wx) from by
    have h1 := state_any (HK.out wx F).1 HD.out.byt m.least 0 HD.out.least (by omega)
    have h2 := freq_any (HK.out wx F).1 HD.out.byt s HD.out.s1
    rw [HD.out.hs] at h1
    rw [HD.out.hf] at h2
    exact ⟨h1, h2⟩)
  go_upto_region 16 with (go_at_call 77; refine HP.out.mono ?_; rintro e w3 ⟨rfl, R3, F3⟩)
  have F3' : Fr [rp, fp] w2 w3 := (Fr.refl [rp, fp] w2).trans F3 (fun i hi => .inl (by simp at hi; simp [hi]))
  have HR3 := Lib.hid R3
  have HF3 := Lib.hid F3'
  clear R3 F3 F3' HP
  have k3 := (HK.out w3 HF3.out).2
  have hb3 := rcbad_any HR3.out
  rw [HD.out.fine] at hb3
  have HB3 := Lib.hid hb3
  clear hb3 c3
  go_wp2_with fail
  have hfI : (0 : Int) < (f : Int) := by omega
  have hfI2 : (f : Int) ≤ 65535 := by omega
  have HT := Lib.hid (take_rc HR3.out 0 f (fun _ => Nat.le_trans hf1 (Nat.le_mul_of_pos_right f (by
      have h1 : (r.placed whole).rng = r.rng / whole := by unfold Rd.placed; rw [HD.out.good]; rfl
      rw [h1]; exact (Nat.one_le_div_iff hw1).2 HD.out.rng))) (fun _ => by omega) (fun _ => by
      have h1 : (r.placed whole).rng = r.rng / whole := by unfold Rd.placed; rw [HD.out.good]; rfl
      have h2 : f * (r.rng / whole) ≤ whole * (r.rng / whole) := Nat.mul_le_mul hw2 (Nat.le_refl _)
      have h3 : whole * (r.rng / whole) ≤ r.rng := Nat.mul_div_le _ _
      have h4 := HR.out.rl
      rw [h1]; omega))
  have HBT := Lib.hid (fun (wx : World) (h : RcAt wx rp fp q bs ((r.placed whole).take bs 0 f)) => show Calls Tryz.prog 72 #[.pointer (some ⟨rp, 0, none⟩)] wx (fun e w' => e = .returned (.bool true) ∧ w' = wx) from by
    have h1 := rcbad_any h
    rw [HD.out.bad] at h1
    exact h1)
  go_loopw [13, 14] (fun a b wr => a = .int .i64 0 ∧ b = .int .i64 0 ∧ wr = w3) (fun _ _ _ => 0)
  case atStart => exact ⟨rfl, rfl, rfl⟩
  case round =>
    obtain ⟨rfl, rfl, rfl⟩ := hrel
    rename World => wA
    have HWA := Lib.hid (HW.out _ HF3.out)
    go_upto_region 23 with (first
      | (go_at_call 78; refine HWA.out.2.mono ?_; rintro e w6 ⟨rfl, hw6⟩; subst hw6)
      | (go_at_call 118; refine HWA.out.1.mono ?_; rintro e w5 ⟨rfl, hw5⟩; subst hw5)
      | (go_at_call 72; refine HB3.out.mono ?_; rintro e w4 ⟨rfl, hw4⟩; subst hw4))
    go_upto_region 24 with (go_at_call 79; refine HT.out.mono ?_; rintro e w7 ⟨rfl, R7, F7⟩)
    have HB7 := Lib.hid (HBT.out _ R7)
    have HR7 := Lib.hid R7
    have HF7 := Lib.hid (HF3.out.trans F7 (fun i hi => .inl hi))
    clear R7 F7 HB3 HWA
    go_wp2_with (go_at_call 72; refine HB7.out.mono ?_; rintro e w8 ⟨rfl, hw8⟩; subst hw8)
    go_ret2
    exact ⟨rfl, (HK.out _ HF7.out).1, HR7.out, HF7.out⟩
set_option maxRecDepth 100000 in
set_option maxHeartbeats 4000000 in
theorem decode_dry (h : MoAt w mo ab mb mp m) (hR : RcAt w rp fp q bs r) (hA : RcApart mo ab mb rp fp) (D : Dry m bs r n whole s f) :
    Calls Tryz.prog 41 #[.pointer (some ⟨mo, 0, none⟩), .pointer (some ⟨rp, 0, none⟩)] w (FstR mo ab mb mp rp fp m q bs ((r.placed whole).take bs 0 f) w) := by
  have hlm := h.blk.lt
  have hlr := hR.lt
  go_enter Tryz.func41, Tryz.ntmps41
  go_upto_region 2 with fail
  obtain ⟨w1, hw1⟩ : ∃ w1, w1 = w.alloc (.cells Tryz.zeroCells152 152) := ⟨_, rfl⟩
  rw [← hw1]
  have F1 : Fr [] w w1 := hw1 ▸ (Fr.refl _ _).alloc _
  have h1 := h.fr F1 (by simp) (by simp) (by simp)
  have R1 := hR.fr F1 (by simp) (by simp) (by simp)
  have c9 : w1.cell? ⟨mo, 9920, none⟩ = some (.bool true) := h1.blk.cell (j := 9920) (by omega)
  have HF := Lib.hid (first_dry h1 R1 hA D w.heap.size)
  have HB := Lib.hid D.bad
  have HF1 := Lib.hid F1
  clear h hR hA D hlm hlr hw1 h1 R1 F1
  go_wp2_with (first
    | (have hq := R3; go_at_call 72; refine HBB.out.mono ?_; rintro e w4 ⟨rfl, hw4⟩; subst hw4)
    | (go_at_call 71; refine HF.out.mono ?_; rintro e w3 ⟨rfl, M3, R3, F3⟩; have hbb := rcbad_any R3; rw [HB.out] at hbb; have HBB := Lib.hid hbb; clear hbb))
  go_ret2
  exact ⟨rfl, M3, R3, ((Fr.refl [rp, fp] w).trans0 HF1.out).trans F3 (fun i hi => .inl hi)⟩
end
end Go.Proofs.YtjfoccbbjhigbaaGreat
