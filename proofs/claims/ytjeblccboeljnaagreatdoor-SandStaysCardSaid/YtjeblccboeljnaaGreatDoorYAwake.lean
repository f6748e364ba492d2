/- Contract: awake. No condition. -/
import Derived.Test.YtjeblccboeljnaaGreatDoorYMay
namespace Go.Proofs.YtjeblccboeljnaaGreatDoor
open Go.RowKit Go.Maps

theorem sand_size {w : World} {lo p n nc : Nat} {fl : List Bool} {K : Tree} (h : SandAt w lo p n nc fl K) : lo ≤ w.heap.size := by
  obtain ⟨b, fv, cv, KV, h⟩ := h
  exact Nat.le_trans h.lp (Nat.le_of_lt h.ltp)
set_option maxRecDepth 100000 in
set_option maxHeartbeats 8000000 in
theorem awake_any (w : World) (hG : Gl w) : Calls Tryz.prog 6 #[] w fun e w' => e = .returned (.bool true) ∧ Fr [] w w' := by
  have HN := Lib.hid (new_any (w := w) (ThAt.nil w w.heap.size) (L := []) ⟨by simp, may_nil⟩ (by decide) (dat_nil 0) (by decide) hG none 0 [] (Sl.nil w) (fun a h => by cases h) (by decide))
  have HG := Lib.hid hG
  have HG3 := Lib.hid hG.sz
  have M1 := Lib.hid (show MayK kA1 by have := mk_may may_nil [97] (kd := 1) (.inl rfl); rw [a1] at this; exact this)
  have M3 := Lib.hid (show MayK kA3 by have := mk_may M1.out [97, 47, 120] (kd := 2) (.inr rfl); rw [a3] at this; exact this)
  have M4 := Lib.hid (show MayK kA4 by have := mk_may M3.out [114] (kd := 1) (.inl rfl); rw [a4] at this; exact this)
  have M5 := Lib.hid (show MayK kA5 by have := pub_may M4.out [97] [114] [[97], [97, 47, 120], [114]]; rw [a5] at this; exact this)
  have D1 : DatK kA1 0 := by have := (dat_nil 0).mk [97] 1; rw [a1] at this; exact this
  have D3 : DatK kA3 0 := by have := D1.mk [97, 47, 120] 2; rw [a3] at this; exact this
  have D4 : DatK kA4 0 := by have := D3.mk [114] 1; rw [a4] at this; exact this
  have D5 := Lib.hid (show DatK kA5 0 by have := D4.pub [97] [114] [[97], [97, 47, 120], [114]]; rw [a5] at this; exact this)
  clear hG D1 D3 D4
  go_enter Tryz.func6, Tryz.ntmps6
  go_upto_region 10 with (first
    | (have hq := S5; go_at_call 12; refine (state_at S5.out M5.out D5.out (by decide) (by have := HN4.out; omega)).mono ?_; rintro e w6 ⟨ao, cap, ks, he, hks, -, hth, F6⟩; obtain rfl := hks.eq k5; obtain rfl : e = .returned (.slice ao 2 cap) := he; have S6 := Lib.hid (S5.out.fr0 F6); have L6 := Lib.hid (L5.out.trans (Lo.of0 F6)); have HTH := Lib.hid hth; clear hks hth)
    | (have hq := S4; go_at_call 23; refine (publish_any S4.out M4.out (HG.out.lo L4.out HG3.out) [97] [114] (by decide) (by decide) (by have := HN4.out; omega) (by decide) rfl).mono ?_; rintro e w5 ⟨ks, hks, -, he, hS5, hL5⟩; obtain rfl := hks.eq k4; rw [a5] at he hS5; obtain rfl := he; have S5 := Lib.hid hS5; have L5 := Lib.hid (L4.out.trans hL5); clear hks hS5 hL5)
    | (have hq := S3; go_at_call 19; refine (mkdir_any S3.out (HG.out.lo L3.out HG3.out) [114] (by decide) (by have := HN3.out; omega) (by decide) rfl).mono ?_; rintro e w4 ⟨n4, he, hS4, hn4, hL4⟩; rw [a4] at he hS4; obtain rfl := he; have S4 := Lib.hid hS4; have L4 := Lib.hid (L3.out.trans hL4); have HN4 := Lib.hid (show n4 ≤ 10 by have := HN3.out; omega); clear hS4 hn4 hL4)
    | (have hq := S2; go_at_call 18; refine (create_any S2.out (HG.out.lo L2.out HG3.out) [97, 47, 120] (by decide) (by have := HN2.out; omega) (by decide) rfl).mono ?_; rintro e w3 ⟨n3, he, hS3, hn3, hL3⟩; rw [a3] at he hS3; obtain rfl := he; have S3 := Lib.hid hS3; have L3 := Lib.hid (L2.out.trans hL3); have HN3 := Lib.hid (show n3 ≤ 8 by have := HN2.out; omega); clear hS3 hn3 hL3)
    | (have hq := S1; go_at_call 19; refine (mkdir_any S1.out (HG.out.lo L1.out HG3.out) [98, 47, 99] (by decide) (by have := HN1.out; omega) (by decide) rfl).mono ?_; rintro e w2 ⟨n2, he, hS2, hn2, hL2⟩; rw [a2] at he hS2; obtain rfl := he; have S2 := Lib.hid hS2; have L2 := Lib.hid (L1.out.trans hL2); have HN2 := Lib.hid (show n2 ≤ 6 by have := HN1.out; omega); clear hS2 hn2 hL2)
    | (have hq := S0; go_at_call 19; refine (mkdir_any S0.out (HG.out.fr F0) [97] (by decide) (by decide) (by decide) rfl).mono ?_; rintro e w1 ⟨n1, he, hS1, hn1, hL1⟩; rw [a1] at he hS1; obtain rfl := he; have S1 := Lib.hid hS1; have L1 := Lib.hid ((Lo.of0 F0).trans hL1); have HN1 := Lib.hid (show n1 ≤ 4 from Nat.le_trans hn1 (by decide)); clear hS1 hn1 hL1)
    | (go_at_call 10; refine HN.out.mono ?_; rintro e w0 ⟨p, rfl, hS0, F0⟩; have S0 := Lib.hid hS0; clear hS0))
  obtain ⟨b, o, da, dc, rfl, hb, -, c0, c1, c2, c3, -, -⟩ := HTH.out.get (j := 0) (t := ⟨[114], ⟨1, [], []⟩⟩) rfl
  obtain ⟨b', o', da', dc', e, hb', -, c0', c1', c2', c3', -, -⟩ := HTH.out.get (j := 1) (t := ⟨[114, 47, 120], ⟨2, [], []⟩⟩) rfl
  injection e with e
  injection e with e1 e2 e3
  subst e1 e2
  have g0 : w6.cell? ⟨b, o, none⟩ = some (.string ⟨#[114]⟩) := c0
  have g1 : w6.cell? ⟨b, o + 4, none⟩ = some (.string ⟨#[114, 47, 120]⟩) := c0'
  clear c0 c0'
  have HC := Lib.hid (calls_at S6.out (by decide))
  have HF := Lib.hid L6.out
  clear c1 c2 c3 c1' c2' c3' e3 HTH
  go_wp2_with (go_at_call 17; refine HC.out.mono ?_; rintro e w7 ⟨⟨co, cc, rfl⟩, F7⟩)
  go_ret
  obtain ⟨S, F, hS⟩ := HF.out.trans (Lo.of0 F7)
  exact ⟨rfl, F.os, F.tape, F.output, F.size, fun k hk _ => F.block k hk (fun hm => by have := hS k hm; omega)⟩
end Go.Proofs.YtjeblccboeljnaaGreatDoor
