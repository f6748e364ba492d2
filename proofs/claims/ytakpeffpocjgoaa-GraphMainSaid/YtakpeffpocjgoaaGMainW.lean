/- The law GraphMain: the walk. No condition. -/
import Derived.Test.YtakpeffpocjgoaaGOrder
import Derived.Test.YtakpeffpocjgoaaGSmall
import Derived.Test.YtakpeffpocjgoaaGAwake
namespace Go.Proofs.Ytakpeffpocjgoaa
open Go.RowKit

/-- graph.Check, whatever the number of sizes of what is packed. -/
theorem check_all (w : World) (v pv : Value) (f : Folder) (hf : Fo w v f) (hs : Small f) (hpr : ∀ c ∈ f.coders, c.props.length ≤ 2000) (np : List UInt64) (hp : Sl w pv (u64v np)) :
    Calls Try.prog 9 #[v, pv] w fun e w' => e = .returned (.int .i64 (codeP f np)) ∧ Fr [] w w' := by
  by_cases hnp : np.length ≤ 400
  · exact check_any w v pv f hf hs hpr np hp hnp
  · have hH : ¬ Hangs f np.length := fun H => by have := H.pa; have := hs.pa; omega
    have HF := Lib.hid hf
    obtain ⟨pao, pcap, rfl, -⟩ := hp.out
    obtain ⟨cv, bv', p, s, h, k0, rfl, hV⟩ := hf
    simp only [u64v_length] at *
    have HS := Lib.hid hs
    have F0 : Fr [] w (w.alloc (.cells #[cv, bv', p, s, h, k0] 30)) := (Fr.refl _ _).alloc _
    have HN := Lib.hid (codeP_graph hH)
    have HH := Lib.hid hH
    clear hV hp hs hpr hH hnp
    go_enter Try.func9, Try.ntmps9
    go_wp2_with (go_at_call 19; refine (hangs_any _ _ _ f (HF.out.fr F0) HS.out np.length ⟨_, _, rfl⟩).mono ?_; rintro e w1 ⟨r, rfl, hr, F1⟩; obtain rfl : r = false := Bool.eq_false_iff.2 (fun hh => HH.out (hr.1 hh)); clear hr)
    go_ret
    exact ⟨by rw [HN.out]; rfl, F0.trans0 F1⟩

theorem codeP_zero {f : Folder} {np : List UInt64} (h : codeP f np = 0) : Hangs f np.length := by
  apply Classical.byContradiction
  intro hn
  rw [codeP_graph hn] at h
  exact absurd h (by decide)

theorem dec_step (out : List Nat) (k d x : Nat) (h : out[k]? = some d) : decide (x ∈ out.take (k + 1)) = (decide (x ∈ out.take k) || decide (x = d)) := by
  rw [take_succ3 _ _ _ h]
  simp

set_option maxRecDepth 100000 in
set_option maxHeartbeats 8000000 in
theorem walk_GraphMain (w : World) (v : Value) (f : Folder) (pv : Value) (np : List UInt64) (hf : Fo w v f) (hp : Sl w pv (u64v np)) :
    Calls Try.prog 6 #[v, pv] w fun e w' => e = .returned (.bool true) ∧ Fr [] w w' := by
  have HF := Lib.hid hf
  have HP := Lib.hid hp
  obtain ⟨cv, b, p, s, h, k, rfl, hV⟩ := hf
  obtain ⟨ao, cap, rfl, -, hcm, hco⟩ := hV.co.out
  obtain ⟨pao, pcap, rfl, -⟩ := hp.out
  have HCO0 := Lib.hid hco
  clear hp hV hco
  obtain ⟨wB, hwB⟩ : ∃ wB, wB = w.alloc (.cells #[.slice ao f.coders.length cap, b, p, s, h, k] 30) := ⟨_, rfl⟩
  have F0 : Fr [] w wB := hwB ▸ (Fr.refl _ _).alloc _
  have HBX := Lib.hid (fun wx (F : Fr [] wB wx) => box6 (hwB ▸ F : Fr [] (w.alloc (.cells #[.slice ao f.coders.length cap, b, p, s, h, k] 30)) wx))
  simp only [u64v_length] at *
  generalize hN : f.coders.length = n at *
  have HN := Lib.hid hN
  clear hN
  go_enter Try.func6, Try.ntmps6
  go_wp2_with fail
  rw [← hwB]
  clear hwB
  refine (awake_any wB).mono ?_
  rintro e w1 ⟨rfl, F1⟩
  obtain ⟨d0, d1, d2, d3, d4, d5⟩ := HBX.out _ F1
  by_cases hS : SmallP f
  rotate_left
  · have HS := Lib.hid hS
    clear hS
    go_wp2_with (go_at_call 8; refine (small_any _ _ f (HF.out.fr (F0.trans0 F1))).mono ?_; rintro e w2 ⟨r, rfl, hr, F2⟩; obtain rfl : r = false := Bool.eq_false_iff.2 (fun hh => HS.out (hr.1 hh)); clear hr)
    go_ret
    exact ⟨rfl, (F0.trans0 F1).trans0 F2⟩
  have HS := Lib.hid hS
  have HPR := Lib.hid (show ∀ c ∈ f.coders, c.props.length ≤ 2000 from fun c hc => Nat.le_trans (hS.2 c hc) (by decide))
  clear hS
  by_cases hz : codeP f np = 0
  rotate_left
  · have t0 : (codeP f np != 0) = true := by simp [hz]
    clear hz
    go_wp2_with (first
      | (go_at_call 8; refine (small_any _ _ f (HF.out.fr (F0.trans0 F1))).mono ?_; rintro e w2 ⟨r, rfl, hr, F2⟩; obtain rfl : r = true := hr.2 HS.out; clear hr; have F12 := F1.trans0 F2; clear d0 d1 d2 d3 d4 d5; obtain ⟨d0, d1, d2, d3, d4, d5⟩ := HBX.out _ F12)
      | (go_at_call 9; refine (check_all _ _ _ f (HF.out.fr (F0.trans0 F12)) HS.out.1 HPR.out np (HP.out.fr0 (F0.trans0 F12))).mono ?_; rintro e w3 ⟨rfl, F3⟩))
    go_ret
    exact ⟨rfl, (F0.trans0 F12).trans0 F3⟩
  have HH := Lib.hid (codeP_zero hz)
  have HZ := Lib.hid hz
  clear hz
  have hn8 : n ≤ 8 := by have := HH.out.most; rw [HN.out] at this; exact this
  have hn1 : 1 ≤ n := by have := HH.out.least; rw [HN.out] at this; exact this
  obtain ⟨m, hm, hmain, hbound⟩ := main_is HH.out
  rw [HN.out] at hm hbound
  have HM := Lib.hid hmain
  have HBo := Lib.hid hbound
  clear hmain hbound
  have HMH := Lib.hid (And.intro (fun b hb => (HH.out.named.binds b hb).2) HH.out.named.outs)
  obtain ⟨cb, co, rfl⟩ : ∃ cb co, ao = some ⟨cb, co, none⟩ := by
    obtain ⟨x, hx⟩ := some_get f.coders 0 (by rw [HN.out]; omega)
    obtain ⟨b, o, pv, e, -⟩ := HCO0.out 0 x hx
    exact ⟨b, o, e⟩
  have t0 : ((n : Int) != (n : Int)) = false := by simp
  go_wp2_with (first
    | (go_at_call 8; refine (small_any _ _ f (HF.out.fr (F0.trans0 F1))).mono ?_; rintro e w2 ⟨r, rfl, hr, F2⟩; obtain rfl : r = true := hr.2 HS.out; clear hr; have F12 := F1.trans0 F2; clear d0 d1 d2 d3 d4 d5; obtain ⟨d0, d1, d2, d3, d4, d5⟩ := HBX.out _ F12)
    | (go_at_call 9; refine (check_all _ _ _ f (HF.out.fr (F0.trans0 F12)) HS.out.1 HPR.out np (HP.out.fr0 (F0.trans0 F12))).mono ?_; rw [HZ.out]; rintro e w3 ⟨rfl, F3⟩; have F13 := F12.trans0 F3; clear d0 d1 d2 d3 d4 d5; obtain ⟨d0, d1, d2, d3, d4, d5⟩ := HBX.out _ F13)
    | (go_at_call 14; refine (order_any _ _ f (HF.out.fr (F0.trans0 F13)) np.length HH.out).mono ?_; rintro e w4 ⟨r, out, rfl, ownR, hO, hOl, F4⟩; have F14 := F13.trans0 F4; rw [HN.out] at hOl; rw [hOl] at ownR; obtain ⟨rao, rcap, rfl, -⟩ := own_out ownR; have HSR := Lib.hid (Sl.of_own ownR); have HO := Lib.hid hO; have HOL := Lib.hid hOl; clear ownR hO hOl; clear d0 d1 d2 d3 d4 d5; obtain ⟨d0, d1, d2, d3, d4, d5⟩ := HBX.out _ F14)
    | (go_at_call 13; refine (main_any _ _ f (HF.out.fr (F0.trans0 F14)) (by rw [HN.out]; omega) HS.out.1.bi HMH.out.1 HMH.out.2).mono ?_; rw [HM.out]; rintro e w5 ⟨rfl, F5⟩; have F15 := F14.trans0 F5; clear d0 d1 d2 d3 d4 d5))
  have HSM := Lib.hid (HSR.out.fr0 F5)
  obtain ⟨ob, oo, rfl⟩ : ∃ ob oo, rao = some ⟨ob, oo, none⟩ := by
    obtain ⟨ra, rc, e, rg, rm, ro⟩ := HSM.out.out
    injection e with e1 e2 e3
    obtain ⟨b, o, e, -⟩ := ro 0 (by rw [iv_length, ivn_len, HOL.out]; omega)
    exact ⟨b, o, e1.trans e⟩
  have HOC := Lib.hid (show ∀ wx, Fr [] w5 wx → ∀ (i c : Nat), out[i]? = some c → wx.cell? ⟨ob, oo + i, none⟩ = some (.int .i64 (c : Int)) from fun wx Fx i c hic => by
    obtain ⟨ra, rc, e, rg, rm, ro⟩ := (HSM.out.fr0 Fx).out
    injection e with e1 e2 e3
    have hil : i < (iv (ivn out)).length := by rw [iv_length, ivn_len]; exact (List.getElem?_eq_some_iff.1 hic).1
    obtain ⟨b', o', e4, -, hcell⟩ := ro i hil
    rw [← e1] at e4
    simp at e4
    obtain ⟨rfl, rfl⟩ := e4
    rw [hcell i hil]
    simp [iv, ivn, hic])
  have HCC := Lib.hid (show ∀ (c : Nat) (x : Coder), f.coders[c]? = some x → ∃ pv, ∀ wx, Fr [] w5 wx → wx.cell? ⟨cb, co + c * 2, none⟩ = some (.int .i64 x.method) ∧ wx.cell? ⟨cb, co + c * 2 + 1, none⟩ = some pv from fun c x hcx => by
    obtain ⟨b', o', pv, e4, hlt, hC⟩ := HCO0.out c x hcx
    simp at e4
    obtain ⟨rfl, rfl⟩ := e4
    refine ⟨pv, fun wx Fx => ?_⟩
    obtain ⟨c0, c1, -⟩ := hC.fr hlt ((F0.trans0 F15).trans0 Fx)
    exact ⟨c0, c1⟩)
  have HBM := Lib.hid (fun wx (Fx : Fr [] w5 wx) => HBX.out wx (F15.trans0 Fx))
  have HFM := Lib.hid (fun wx (Fx : Fr [] w5 wx) => HF.out.fr ((F0.trans0 F15).trans0 Fx))
  have HFT := Lib.hid (fun wx (Fx : Fr [] w5 wx) => ((F0.trans0 F15).trans0 Fx : Fr [] w wx))
  have HPL := Lib.hid (show np.length = f.packs.length from HH.out.pa)
  clear F0 F1 F2 F3 F4 F5 F12 F13 F14 F15 HBX HF HCO0 HSR HSM HP HPR HZ HMH
  have hn8' : (n : Int) ≤ 8 := by omega
  go_loopw [8] (fun i wr => ∃ k : Nat, k ≤ n ∧ i = .int .i64 k ∧ Fr [] w5 wr) (fun i _ => n - (intOf i).toNat)
  case atStart => exact ⟨0, Nat.zero_le _, rfl, Fr.refl _ _⟩
  case round =>
    obtain ⟨i, hi, rfl, F⟩ := hrel
    by_cases hin : i < n
    rotate_left
    · have hin' : ¬ (i : Int) < (n : Int) := by omega
      go_wp2_with fail
      go_ret
      exact ⟨rfl, HFT.out _ F⟩
    have hin' : (i : Int) < (n : Int) := by omega
    obtain ⟨c, hc⟩ := some_get out i (by rw [HOL.out]; exact hin)
    obtain ⟨hcn, hcf⟩ := HO.out.ok i c hc
    obtain ⟨x, hx⟩ := some_get f.coders c hcn
    have HCn := Lib.hid hcn
    rw [HN.out] at hcn
    have HCf := Lib.hid hcf
    have HOi := Lib.hid hc
    have HX := Lib.hid hx
    clear hc hcf hx
    go_wp2_with fail
    go_loopw [9] (fun v wr => ∃ k : Nat, k ≤ i ∧ v = .int .i64 k ∧ Fr [] w5 wr) (fun v _ => i - (intOf v).toNat)
    case atStart => exact ⟨0, Nat.zero_le _, rfl, F⟩
    case round =>
      clear F
      obtain ⟨k2, hk2, rfl, F⟩ := hrel
      by_cases hlt : k2 < i
      · obtain ⟨d, hd⟩ := some_get out k2 (by rw [HOL.out]; omega)
        have o1 := HOC.out _ F i c HOi.out
        have o2 := HOC.out _ F k2 d hd
        have t1 : ((c : Int) == (d : Int)) = false := by
          rw [beq_eq_false_iff_ne]
          intro e
          have e2 : c = d := by omega
          subst e2
          have := (List.getElem?_inj (List.getElem?_eq_some_iff.1 hd).1 HO.out.nodup).1 (hd.trans HOi.out.symm)
          omega
        have hlt' : (k2 : Int) < (i : Int) := by omega
        have hk2n : (k2 : Int) < (n : Int) := by omega
        clear hd
        go_wp2_with fail
        go_quiet (fail)
        go_wp2_with fail
        go_roundw
        case rel => exact ⟨k2 + 1, by omega, by go_num, F.drewN _⟩
        case measure => simp [intOf]; omega
      · have hke : k2 = i := by omega
        subst hke
        obtain ⟨pv2, hcc⟩ := HCC.out c x HX.out
        have HCX := Lib.hid hcc
        have HIns := Lib.hid (show f.insOf c = ins x.method by unfold Folder.insOf; rw [HX.out])
        have HFS := Lib.hid (f.first_succ c x HX.out)
        have HFM2 := Lib.hid (first_mono f (c + 1) n (by omega))
        have hfle := f.first_le c
        have hile := ins_le x.method
        have HA1 := Lib.hid (show ∀ wx, Fr [] w5 wx → wx.cell? ⟨w.heap.size, 0, none⟩ = some (.slice (some ⟨cb, co, none⟩) n cap) ∧ wx.cell? ⟨w.heap.size, 1, none⟩ = some b ∧ wx.cell? ⟨w.heap.size, 2, none⟩ = some p ∧ wx.cell? ⟨w.heap.size, 3, none⟩ = some s ∧ wx.cell? ⟨w.heap.size, 4, none⟩ = some h ∧ wx.cell? ⟨w.heap.size, 5, none⟩ = some k ∧ wx.cell? ⟨ob, oo + k2, none⟩ = some (.int .i64 (c : Int)) from fun wx Fx => by
          obtain ⟨d0, d1, d2, d3, d4, d5⟩ := HBM.out wx Fx
          exact ⟨d0, d1, d2, d3, d4, d5, HOC.out wx Fx k2 c HOi.out⟩)
        have HA2 := Lib.hid (show ∀ wx, Fr [] w5 wx → wx.cell? ⟨w.heap.size, 0, none⟩ = some (.slice (some ⟨cb, co, none⟩) n cap) ∧ wx.cell? ⟨w.heap.size, 1, none⟩ = some b ∧ wx.cell? ⟨w.heap.size, 2, none⟩ = some p ∧ wx.cell? ⟨w.heap.size, 3, none⟩ = some s ∧ wx.cell? ⟨w.heap.size, 4, none⟩ = some h ∧ wx.cell? ⟨w.heap.size, 5, none⟩ = some k ∧ wx.cell? ⟨ob, oo + k2, none⟩ = some (.int .i64 (c : Int)) ∧ wx.cell? ⟨cb, co + c * 2, none⟩ = some (.int .i64 x.method) ∧ wx.cell? ⟨cb, co + c * 2 + 1, none⟩ = some pv2 from fun wx Fx => by
          obtain ⟨d0, d1, d2, d3, d4, d5⟩ := HBM.out wx Fx
          exact ⟨d0, d1, d2, d3, d4, d5, HOC.out wx Fx k2 c HOi.out, (HCX.out wx Fx).1, (HCX.out wx Fx).2⟩)
        clear hcc
        go_wp2_with fail
        go_region_held3 (fun wx => wx.cell? ⟨w.heap.size, 0, none⟩ = some (.slice (some ⟨cb, co, none⟩) n cap) ∧ wx.cell? ⟨w.heap.size, 1, none⟩ = some b ∧ wx.cell? ⟨w.heap.size, 2, none⟩ = some p ∧ wx.cell? ⟨w.heap.size, 3, none⟩ = some s ∧ wx.cell? ⟨w.heap.size, 4, none⟩ = some h ∧ wx.cell? ⟨w.heap.size, 5, none⟩ = some k ∧ wx.cell? ⟨ob, oo + k2, none⟩ = some (.int .i64 (c : Int)))
          (first | exact HA1.out _ F | exact HA1.out _ F.drew | exact HA1.out _ G1 | go_keep)
          (first
            | (go_at_call 15; refine (first_any _ _ f (HFM.out _ F.drew) (by rw [HN.out]; omega) c (by omega)).mono ?_; rintro e wy ⟨rfl, Fy⟩; have G1 := F.drew.trans0 Fy))
        go_wp2_with fail
        clear F
        have ew : IntKind.i64.wrap ((f.first c : Int) + (ins x.method : Int)) = (f.first c : Int) + (ins x.method : Int) := IntWalk.i64_in _ (by omega)
        go_loopw [11] (fun v wr => ∃ t : Nat, f.first c ≤ t ∧ t ≤ f.first c + ins x.method ∧ v = .int .i64 t ∧ Fr [] w5 wr) (fun v _ => f.first c + ins x.method - (intOf v).toNat)
        case atStart => exact ⟨f.first c, Nat.le_refl _, by omega, rfl, G1⟩
        case round =>
          clear G1
          obtain ⟨t, ht1, ht2, rfl, F⟩ := hrel
          by_cases htl : t < f.first c + ins x.method
          · have htl' : (t : Int) < (f.first c : Int) + (ins x.method : Int) := by omega
            have hall : t < f.first f.coders.length := by rw [HN.out]; have := HFM2.out; rw [HFS.out] at this; omega
            have hcn' : (c : Int) < (n : Int) := by omega
            rcases from_cases HH.out.named t hall with ⟨c2, r2, hfr, hc2⟩ | ⟨p2, hfr, hp2⟩
            · have HFR := Lib.hid hfr
              have HMem := Lib.hid (HCf.out c2 (fd_mem (j := t - f.first c) (by rw [HIns.out]; omega) (by rw [show f.first c + (t - f.first c) = t from by omega, hfr])))
              clear hfr
              go_wp2_with fail
              go_region_held3 (fun wx => wx.cell? ⟨w.heap.size, 0, none⟩ = some (.slice (some ⟨cb, co, none⟩) n cap) ∧ wx.cell? ⟨w.heap.size, 1, none⟩ = some b ∧ wx.cell? ⟨w.heap.size, 2, none⟩ = some p ∧ wx.cell? ⟨w.heap.size, 3, none⟩ = some s ∧ wx.cell? ⟨w.heap.size, 4, none⟩ = some h ∧ wx.cell? ⟨w.heap.size, 5, none⟩ = some k ∧ wx.cell? ⟨ob, oo + k2, none⟩ = some (.int .i64 (c : Int)) ∧ wx.cell? ⟨cb, co + c * 2, none⟩ = some (.int .i64 x.method) ∧ wx.cell? ⟨cb, co + c * 2 + 1, none⟩ = some pv2)
                (first | exact HA2.out _ F | exact HA2.out _ F.drew | exact HA2.out _ G1 | go_keep)
                (first
                  | (go_at_call 16; refine (ins_any _ _ _).mono ?_; rintro e wy ⟨rfl, Fy⟩; have G1 := F.drew.trans0 Fy))
              obtain ⟨d0, d1, d2, d3, d4, d5⟩ := HBM.out _ G1
              go_wp2_with (go_at_call 17; refine (from_any _ _ f (HFM.out _ G1) (t : Int)).mono ?_; rw [HFR.out]; dsimp only; rintro e w6 ⟨rfl, F6⟩)
              have G2 := G1.trans0 F6
              clear d0 d1 d2 d3 d4 d5 F G1
              have tneg : ¬ (c2 : Int) < 0 := by omega
              go_wp2_with fail
              go_loopw [14, 15] (fun v y wr => ∃ k3 : Nat, k3 ≤ k2 ∧ y = .int .i64 k3 ∧ v = .bool (decide (c2 ∈ out.take k3)) ∧ Fr [] w5 wr) (fun _ y _ => k2 - (intOf y).toNat)
              case atStart => exact ⟨0, Nat.zero_le _, rfl, by simp, G2⟩
              case round =>
                clear G2
                obtain ⟨k3, hk3, rfl, rfl, F⟩ := hrel
                by_cases h3 : k3 < k2
                · obtain ⟨d, hd⟩ := some_get out k3 (by rw [HOL.out]; omega)
                  have o1 := HOC.out _ F k3 d hd
                  have HDS := Lib.hid (dec_step out k3 d c2 hd)
                  have h3' : (k3 : Int) < (k2 : Int) := by omega
                  have h3n : (k3 : Int) < (n : Int) := by omega
                  clear hd
                  generalize hbb : decide (c2 ∈ out.take k3) = bb at *
                  have HBB := Lib.hid hbb
                  clear hbb
                  cases bb with
                  | true =>
                    go_wp2_with fail
                    go_roundw
                    case rel => exact ⟨k3 + 1, by omega, by go_num, by rw [HDS.out]; rfl, F⟩
                    case measure => simp [intOf]; omega
                  | false =>
                    by_cases hdc : d = c2
                    · have t1 : ((d : Int) == (c2 : Int)) = true := by rw [hdc]; simp
                      have HDC := Lib.hid hdc
                      clear hdc
                      go_wp2_with fail
                      go_roundw
                      case rel => exact ⟨k3 + 1, by omega, by go_num, by rw [HDS.out, HDC.out]; simp, F⟩
                      case measure => simp [intOf]; omega
                    · have t1 : ((d : Int) == (c2 : Int)) = false := by rw [beq_eq_false_iff_ne]; omega
                      have HDC := Lib.hid hdc
                      clear hdc
                      go_wp2_with fail
                      go_roundw
                      case rel => exact ⟨k3 + 1, by omega, by go_num, by rw [HDS.out]; simp [Ne.symm HDC.out], F⟩
                      case measure => simp [intOf]; omega
                · have h3e : k3 = k2 := by omega
                  subst h3e
                  have tm : decide (c2 ∈ out.take k3) = true := by simpa using HMem.out
                  go_wp2_with fail
                  go_roundw
                  case rel => exact ⟨t + 1, by omega, by omega, by go_num, F⟩
                  case measure => simp [intOf]; omega
            · have HFR := Lib.hid hfr
              have hp3 : (p2 : Int) < (np.length : Int) := by rw [HPL.out]; omega
              have hp3' : ¬ (p2 : Int) < 0 := by omega
              clear hfr
              go_wp2_with fail
              go_region_held3 (fun wx => wx.cell? ⟨w.heap.size, 0, none⟩ = some (.slice (some ⟨cb, co, none⟩) n cap) ∧ wx.cell? ⟨w.heap.size, 1, none⟩ = some b ∧ wx.cell? ⟨w.heap.size, 2, none⟩ = some p ∧ wx.cell? ⟨w.heap.size, 3, none⟩ = some s ∧ wx.cell? ⟨w.heap.size, 4, none⟩ = some h ∧ wx.cell? ⟨w.heap.size, 5, none⟩ = some k ∧ wx.cell? ⟨ob, oo + k2, none⟩ = some (.int .i64 (c : Int)) ∧ wx.cell? ⟨cb, co + c * 2, none⟩ = some (.int .i64 x.method) ∧ wx.cell? ⟨cb, co + c * 2 + 1, none⟩ = some pv2)
                (first | exact HA2.out _ F | exact HA2.out _ F.drew | exact HA2.out _ G1 | go_keep)
                (first
                  | (go_at_call 16; refine (ins_any _ _ _).mono ?_; rintro e wy ⟨rfl, Fy⟩; have G1 := F.drew.trans0 Fy))
              obtain ⟨d0, d1, d2, d3, d4, d5⟩ := HBM.out _ G1
              go_wp2_with (go_at_call 17; refine (from_any _ _ f (HFM.out _ G1) (t : Int)).mono ?_; rw [HFR.out]; dsimp only; rintro e w6 ⟨rfl, F6⟩)
              have G2 := G1.trans0 F6
              clear d0 d1 d2 d3 d4 d5 F G1
              go_wp2_with fail
              go_loopw [14, 15] (fun v y wr => ∃ k3 : Nat, k3 ≤ k2 ∧ y = .int .i64 k3 ∧ v = .bool true ∧ Fr [] w5 wr) (fun _ y _ => k2 - (intOf y).toNat)
              case atStart => exact ⟨0, Nat.zero_le _, rfl, rfl, G2⟩
              case round =>
                clear G2
                obtain ⟨k3, hk3, rfl, rfl, F⟩ := hrel
                by_cases h3 : k3 < k2
                · have h3' : (k3 : Int) < (k2 : Int) := by omega
                  go_wp2_with fail
                  go_roundw
                  case rel => exact ⟨k3 + 1, by omega, by go_num, rfl, F⟩
                  case measure => simp [intOf]; omega
                · have h3e : k3 = k2 := by omega
                  subst h3e
                  go_wp2_with fail
                  go_roundw
                  case rel => exact ⟨t + 1, by omega, by omega, by go_num, F⟩
                  case measure => simp [intOf]; omega
          · have htl' : ¬ (t : Int) < (f.first c : Int) + (ins x.method : Int) := by omega
            have hcn' : (c : Int) < (n : Int) := by omega
            go_wp2_with fail
            go_region_held3 (fun wx => wx.cell? ⟨w.heap.size, 0, none⟩ = some (.slice (some ⟨cb, co, none⟩) n cap) ∧ wx.cell? ⟨w.heap.size, 1, none⟩ = some b ∧ wx.cell? ⟨w.heap.size, 2, none⟩ = some p ∧ wx.cell? ⟨w.heap.size, 3, none⟩ = some s ∧ wx.cell? ⟨w.heap.size, 4, none⟩ = some h ∧ wx.cell? ⟨w.heap.size, 5, none⟩ = some k ∧ wx.cell? ⟨ob, oo + k2, none⟩ = some (.int .i64 (c : Int)) ∧ wx.cell? ⟨cb, co + c * 2, none⟩ = some (.int .i64 x.method) ∧ wx.cell? ⟨cb, co + c * 2 + 1, none⟩ = some pv2)
              (first | exact HA2.out _ F | exact HA2.out _ F.drew | exact HA2.out _ G1 | go_keep)
              (first
                | (go_at_call 16; refine (ins_any _ _ _).mono ?_; rintro e wy ⟨rfl, Fy⟩; have G1 := F.drew.trans0 Fy))
            clear F
            have o1 := HOC.out _ G1 k2 c HOi.out
            go_wp2_with fail
            go_loopw [16, 17] (fun v y wr => ∃ (s2 j a : Nat), k2 + s2 ≤ j ∧ j < n ∧ out[j]? = some a ∧ v = .int .i64 a ∧ y = .int .i64 s2 ∧ Fr [] w5 wr) (fun _ y _ => n - (intOf y).toNat)
            case atStart => exact ⟨0, k2, c, by omega, by omega, HOi.out, rfl, rfl, G1⟩
            case round =>
              clear G1 o1
              obtain ⟨s2, j, a, hsj, hjn, hja, rfl, rfl, F⟩ := hrel
              have hs2 : (s2 : Int) < (n : Int) := by omega
              have han : a < n := by have := (HO.out.ok j a hja).1; rw [HN.out] at this; exact this
              by_cases ham : a = m
              · have t1 : ((a : Int) != (m : Int)) = false := by rw [ham]; simp
                clear hja ham
                go_wp2_with fail
                go_roundw
                case rel => exact ⟨k2 + 1, by omega, by go_num, F⟩
                case measure => simp [intOf]; omega
              · have t1 : ((a : Int) != (m : Int)) = true := by rw [bne_iff_ne]; omega
                obtain ⟨u, q, U⟩ := up_of HH.out (HBo.out a han ham)
                obtain ⟨j2, hjj, hj2⟩ := HO.out.up (by rw [HOL.out, HN.out]) U hja
                have hj2n : j2 < n := by have := (List.getElem?_eq_some_iff.1 hj2).1; rw [HOL.out] at this; exact this
                have HU := Lib.hid U
                have HJ2 := Lib.hid hj2
                have tu : ¬ (u : Int) < 0 := by omega
                clear hja ham U hj2
                go_wp2_with fail
                go_loopw [18, 19] (fun v y wr => ∃ c2 : Nat, c2 ≤ n ∧ y = .int .i64 c2 ∧ v = .int .i64 (if q < f.first c2 then (u : Int) else -1) ∧ Fr [] w5 wr) (fun _ y _ => n - (intOf y).toNat)
                case atStart => exact ⟨0, Nat.zero_le _, rfl, by simp [Folder.first], F⟩
                case round =>
                  clear F
                  obtain ⟨c2, hc2, rfl, rfl, F⟩ := hrel
                  by_cases hcl : c2 < n
                  · obtain ⟨x2, hx2⟩ := some_get f.coders c2 (by rw [HN.out]; exact hcl)
                    obtain ⟨pv3, hcc⟩ := HCC.out c2 x2 hx2
                    have HCX2 := Lib.hid hcc
                    have HIns2 := Lib.hid (show f.insOf c2 = ins x2.method by unfold Folder.insOf; rw [hx2])
                    have HFS2 := Lib.hid (f.first_succ c2 x2 hx2)
                    have hfle2 := f.first_le c2
                    have hile2 := ins_le x2.method
                    have hcl' : (c2 : Int) < (n : Int) := by omega
                    have HA3 := Lib.hid (show ∀ wx, Fr [] w5 wx → wx.cell? ⟨w.heap.size, 0, none⟩ = some (.slice (some ⟨cb, co, none⟩) n cap) ∧ wx.cell? ⟨w.heap.size, 1, none⟩ = some b ∧ wx.cell? ⟨w.heap.size, 2, none⟩ = some p ∧ wx.cell? ⟨w.heap.size, 3, none⟩ = some s ∧ wx.cell? ⟨w.heap.size, 4, none⟩ = some h ∧ wx.cell? ⟨w.heap.size, 5, none⟩ = some k ∧ wx.cell? ⟨cb, co + c2 * 2, none⟩ = some (.int .i64 x2.method) ∧ wx.cell? ⟨cb, co + c2 * 2 + 1, none⟩ = some pv3 from fun wx Fx => by
                      obtain ⟨d0, d1, d2, d3, d4, d5⟩ := HBM.out wx Fx
                      exact ⟨d0, d1, d2, d3, d4, d5, (HCX2.out wx Fx).1, (HCX2.out wx Fx).2⟩)
                    have ew2 : IntKind.i64.wrap ((f.first c2 : Int) + (ins x2.method : Int)) = (f.first c2 : Int) + (ins x2.method : Int) := IntWalk.i64_in _ (by omega)
                    clear hcc hx2
                    generalize hnx : (if q < f.first c2 then (u : Int) else -1) = nx
                    have HNX := Lib.hid hnx
                    clear hnx
                    obtain ⟨d0, d1, d2, d3, d4, d5⟩ := HBM.out _ F
                    go_wp2_with (go_at_call 15; refine (first_any _ _ f (HFM.out _ F) (by rw [HN.out]; omega) c2 (by omega)).mono ?_; rintro e w7 ⟨rfl, F7⟩)
                    have G1 := F.trans0 F7
                    clear d0 d1 d2 d3 d4 d5 F
                    go_loopw [18, 20] (fun v y wr => ∃ t : Nat, f.first c2 ≤ t ∧ t ≤ f.first c2 + ins x2.method ∧ y = .int .i64 t ∧ v = .int .i64 (if q < t then (u : Int) else -1) ∧ Fr [] w5 wr) (fun _ y _ => f.first c2 + ins x2.method - (intOf y).toNat)
                    case atStart => exact ⟨f.first c2, Nat.le_refl _, by omega, rfl, by rw [HNX.out], G1⟩
                    case round =>
                      clear G1
                      obtain ⟨t2, hu1, hu2, rfl, rfl, F⟩ := hrel
                      by_cases hul : t2 < f.first c2 + ins x2.method
                      · have hul' : (t2 : Int) < (f.first c2 : Int) + (ins x2.method : Int) := by omega
                        by_cases hq : t2 = q
                        · subst hq
                          obtain rfl : c2 = u := HU.out.only (by rw [HN.out]; exact hcl) hu1 (by rw [HIns2.out]; exact hul)
                          obtain ⟨r2, hfr⟩ : ∃ r2, f.from_ (t2 : Int) = ((a : Int), r2) := ⟨(f.from_ (t2 : Int)).2, by rw [← HU.out.yes]⟩
                          have HFR2 := Lib.hid hfr
                          clear hfr
                          rw [if_neg (Nat.lt_irrefl t2)]
                          have HIF := Lib.hid (show (if t2 < t2 + 1 then (c2 : Int) else -1) = c2 from if_pos (by omega))
                          go_wp2_with fail
                          go_region_held3 (fun wx => wx.cell? ⟨w.heap.size, 0, none⟩ = some (.slice (some ⟨cb, co, none⟩) n cap) ∧ wx.cell? ⟨w.heap.size, 1, none⟩ = some b ∧ wx.cell? ⟨w.heap.size, 2, none⟩ = some p ∧ wx.cell? ⟨w.heap.size, 3, none⟩ = some s ∧ wx.cell? ⟨w.heap.size, 4, none⟩ = some h ∧ wx.cell? ⟨w.heap.size, 5, none⟩ = some k ∧ wx.cell? ⟨cb, co + c2 * 2, none⟩ = some (.int .i64 x2.method) ∧ wx.cell? ⟨cb, co + c2 * 2 + 1, none⟩ = some pv3)
                            (first | exact HA3.out _ F | exact HA3.out _ F.drew | exact HA3.out _ G1 | exact HA3.out _ G2 | go_keep)
                            (first
                              | (go_at_call 15; refine (first_any _ _ f (HFM.out _ F.drew) (by rw [HN.out]; omega) c2 (by omega)).mono ?_; rintro e wy ⟨rfl, Fy⟩; have G1 := F.drew.trans0 Fy)
                              | (go_at_call 16; refine (ins_any _ _ _).mono ?_; rintro e wz ⟨rfl, Fz⟩; have G2 := G1.trans0 Fz))
                          obtain ⟨d0, d1, d2, d3, d4, d5⟩ := HBM.out _ G2
                          go_wp2_with (go_at_call 17; refine (from_any _ _ f (HFM.out _ G2) (t2 : Int)).mono ?_; rw [HFR2.out]; dsimp only; rintro e w8 ⟨rfl, F8⟩)
                          have G3 := G2.trans0 F8
                          go_wp2_with fail
                          go_roundw
                          case rel => exact ⟨t2 + 1, by omega, by omega, by go_num, by rw [HIF.out], G3⟩
                          case measure => simp [intOf]; omega
                        · obtain ⟨r1, r2, hfr⟩ : ∃ r1 r2, f.from_ (t2 : Int) = (r1, r2) := ⟨_, _, rfl⟩
                          have t3 : (r1 == (a : Int)) = false := by
                            rw [beq_eq_false_iff_ne]
                            have := HU.out.no t2 hq
                            rw [hfr] at this
                            exact this
                          have HFR2 := Lib.hid hfr
                          have HIF := Lib.hid (show (if q < t2 + 1 then (u : Int) else -1) = (if q < t2 then (u : Int) else -1) by
                            by_cases h9 : q < t2
                            · rw [if_pos h9, if_pos (by omega)]
                            · rw [if_neg h9, if_neg (by omega)])
                          clear hfr hq
                          generalize (if q < t2 then (u : Int) else -1) = nx2 at HIF ⊢
                          go_wp2_with fail
                          go_region_held3 (fun wx => wx.cell? ⟨w.heap.size, 0, none⟩ = some (.slice (some ⟨cb, co, none⟩) n cap) ∧ wx.cell? ⟨w.heap.size, 1, none⟩ = some b ∧ wx.cell? ⟨w.heap.size, 2, none⟩ = some p ∧ wx.cell? ⟨w.heap.size, 3, none⟩ = some s ∧ wx.cell? ⟨w.heap.size, 4, none⟩ = some h ∧ wx.cell? ⟨w.heap.size, 5, none⟩ = some k ∧ wx.cell? ⟨cb, co + c2 * 2, none⟩ = some (.int .i64 x2.method) ∧ wx.cell? ⟨cb, co + c2 * 2 + 1, none⟩ = some pv3)
                            (first | exact HA3.out _ F | exact HA3.out _ F.drew | exact HA3.out _ G1 | exact HA3.out _ G2 | go_keep)
                            (first
                              | (go_at_call 15; refine (first_any _ _ f (HFM.out _ F.drew) (by rw [HN.out]; omega) c2 (by omega)).mono ?_; rintro e wy ⟨rfl, Fy⟩; have G1 := F.drew.trans0 Fy)
                              | (go_at_call 16; refine (ins_any _ _ _).mono ?_; rintro e wz ⟨rfl, Fz⟩; have G2 := G1.trans0 Fz))
                          obtain ⟨d0, d1, d2, d3, d4, d5⟩ := HBM.out _ G2
                          go_wp2_with (go_at_call 17; refine (from_any _ _ f (HFM.out _ G2) (t2 : Int)).mono ?_; rw [HFR2.out]; dsimp only; rintro e w8 ⟨rfl, F8⟩)
                          have G3 := G2.trans0 F8
                          go_wp2_with fail
                          go_roundw
                          case rel => exact ⟨t2 + 1, by omega, by omega, by go_num, by rw [HIF.out], G3⟩
                          case measure => simp [intOf]; omega
                      · have hul' : ¬ (t2 : Int) < (f.first c2 : Int) + (ins x2.method : Int) := by omega
                        have hte : t2 = f.first (c2 + 1) := by rw [HFS2.out]; omega
                        subst hte
                        generalize hnx2 : (if q < f.first (c2 + 1) then (u : Int) else -1) = nx2
                        have HNX2 := Lib.hid hnx2
                        clear hnx2
                        go_wp2_with fail
                        go_region_held3 (fun wx => wx.cell? ⟨w.heap.size, 0, none⟩ = some (.slice (some ⟨cb, co, none⟩) n cap) ∧ wx.cell? ⟨w.heap.size, 1, none⟩ = some b ∧ wx.cell? ⟨w.heap.size, 2, none⟩ = some p ∧ wx.cell? ⟨w.heap.size, 3, none⟩ = some s ∧ wx.cell? ⟨w.heap.size, 4, none⟩ = some h ∧ wx.cell? ⟨w.heap.size, 5, none⟩ = some k ∧ wx.cell? ⟨cb, co + c2 * 2, none⟩ = some (.int .i64 x2.method) ∧ wx.cell? ⟨cb, co + c2 * 2 + 1, none⟩ = some pv3)
                          (first | exact HA3.out _ F | exact HA3.out _ F.drew | exact HA3.out _ G1 | exact HA3.out _ G2 | go_keep)
                          (first
                            | (go_at_call 15; refine (first_any _ _ f (HFM.out _ F.drew) (by rw [HN.out]; omega) c2 (by omega)).mono ?_; rintro e wy ⟨rfl, Fy⟩; have G1 := F.drew.trans0 Fy)
                            | (go_at_call 16; refine (ins_any _ _ _).mono ?_; rintro e wz ⟨rfl, Fz⟩; have G2 := G1.trans0 Fz))
                        go_wp2_with fail
                        go_roundw
                        case rel => exact ⟨c2 + 1, by omega, by go_num, by rw [HNX2.out], G2⟩
                        case measure => simp [intOf]; omega
                  · have hce : c2 = n := by omega
                    subst hce
                    have hqa : q < f.first c2 := by
                      have h1 := HU.out.hi
                      obtain ⟨z, hz⟩ : ∃ z, f.coders[u]? = some z := ⟨f.coders[u]'HU.out.lt, by simp⟩
                      have h2 := first_mono f (u + 1) c2 (by have := HU.out.lt; rw [HN.out] at this; omega)
                      rw [f.first_succ u z hz] at h2
                      unfold Folder.insOf at h1
                      rw [hz] at h1
                      dsimp only at h1
                      omega
                    rw [if_pos hqa]
                    clear hqa
                    go_wp2_with fail
                    go_roundw
                    case rel => exact ⟨s2 + 1, j2, u, by omega, hj2n, HJ2.out, rfl, by go_num, F⟩
                    case measure => simp [intOf]; omega
end Go.Proofs.Ytakpeffpocjgoaa
