/- Contract: the reference's hangs. No condition but that lengths fit. -/
import Derived.Test.YtakpeffpocjgoaaGRefB
import Derived.Test.YtakpeffpocjgoaaGRefF
import Derived.Deep.RegionHeld3
import Derived.Deep.RegionWith
namespace Go.Proofs.Ytakpeffpocjgoaa
open Go.RowKit

theorem arr_get {α : Type} (l : List α) (i : Nat) (x : α) (h : l[i]? = some x) : l.toArray[i]? = some x := by simpa using h

set_option maxRecDepth 100000 in
set_option maxHeartbeats 2000000 in
/-- .. where the lengths do not fit. -/
theorem rhangs_no (w : World) (v pv : Value) (f : Folder) (hf : Fo w v f) (hs : Small f) (np : Nat) (hpv : ∃ ao cap, pv = .slice ao np cap) (hnn : ¬ (1 ≤ f.coders.length ∧ f.coders.length ≤ 8 ∧ f.binds.length + 1 = f.coders.length ∧ f.sizes.length = f.coders.length ∧ np = f.packs.length)) :
    Calls Try.prog 23 #[v, pv] w (Tells (RHangs f np) w) := by
  have hf0 := hf
  obtain ⟨pao, pcap, rfl⟩ := hpv
  obtain ⟨cv, bv', p, s, h, k0, rfl, hV⟩ := hf
  obtain ⟨ao, cap, rfl, g, m, o⟩ := hV.co.out
  obtain ⟨aob, capb, rfl, gb, mb, -⟩ := hV.bi.out
  obtain ⟨aop, capp, rfl, gp, mp, -⟩ := hV.pa.out
  obtain ⟨aos, caps, rfl, gs, ms, -⟩ := hV.si.out
  have s1 := hs.co
  have s2 := hs.bi
  have s3 := hs.pa
  have s4 := hs.si
  have HS := Lib.hid hs
  have HV := Lib.hid hV
  simp only [iv_length, u64v_length] at *
  clear hs hV
  have F0 : Fr [] w (w.alloc (.cells #[.slice ao f.coders.length cap, .slice aob f.binds.length capb, .slice aop f.packs.length capp, .slice aos f.sizes.length caps, h, k0] 30)) := (Fr.refl _ _).alloc _
  have hne : ¬ (1 ≤ f.coders.length ∧ f.coders.length ≤ 8 ∧ f.binds.length + 1 = f.coders.length ∧ f.sizes.length = f.coders.length ∧ np = f.packs.length) → ¬ RHangs f np := fun hn H => hn ⟨H.least, H.most, H.bi, H.si, H.pa⟩
  by_cases q1 : f.coders.length < 1
  · have HN := Lib.hid (hne hnn)
    clear hne hnn o
    go_enter Try.func23, Try.ntmps23
    go_wp2_with fail
    go_ret
    exact ⟨false, rfl, by simp [HN.out], F0⟩
  by_cases q2 : 8 < f.coders.length
  · have HN := Lib.hid (hne hnn)
    clear hne hnn o
    go_enter Try.func23, Try.ntmps23
    go_wp2_with fail
    go_ret
    exact ⟨false, rfl, by simp [HN.out], F0⟩
  by_cases q3 : f.binds.length + 1 = f.coders.length
  rotate_left
  · have b3 : ((f.binds.length : Int) != (f.coders.length : Int) - 1) = true := by rw [bne_iff_ne]; omega
    have HN := Lib.hid (hne hnn)
    clear hne hnn o
    go_enter Try.func23, Try.ntmps23
    go_wp2_with fail
    go_ret
    exact ⟨false, rfl, by simp [HN.out], F0⟩
  have b3 : ((f.binds.length : Int) != (f.coders.length : Int) - 1) = false := by simp; omega
  by_cases q4 : f.sizes.length = f.coders.length
  rotate_left
  · have b4 : ((f.sizes.length : Int) != (f.coders.length : Int)) = true := by rw [bne_iff_ne]; omega
    have HN := Lib.hid (hne hnn)
    clear hne hnn o
    clear q3
    go_enter Try.func23, Try.ntmps23
    go_wp2_with fail
    go_ret
    exact ⟨false, rfl, by simp [HN.out], F0⟩
  have b4 : ((f.sizes.length : Int) != (f.coders.length : Int)) = false := by simp; omega
  by_cases q5 : np = f.packs.length
  rotate_left
  · have b5 : ((np : Int) != (f.packs.length : Int)) = true := by rw [bne_iff_ne]; omega
    have HN := Lib.hid (hne hnn)
    clear hne hnn o
    clear q3 q4
    go_enter Try.func23, Try.ntmps23
    go_wp2_with fail
    go_ret
    exact ⟨false, rfl, by simp [HN.out], F0⟩
  have b5 : ((np : Int) != (f.packs.length : Int)) = false := by simp; omega
  exact absurd ⟨by omega, by omega, q3, q4, q5⟩ hnn


set_option maxRecDepth 100000 in
set_option maxHeartbeats 20000000 in
theorem rhangs_yes (w : World) (v pv : Value) (f : Folder) (hf : Fo w v f) (hs : Small f) (np : Nat) (hpv : ∃ ao cap, pv = .slice ao np cap) (q1 : ¬ f.coders.length < 1) (q2 : ¬ 8 < f.coders.length) (q3 : f.binds.length + 1 = f.coders.length) (q4 : f.sizes.length = f.coders.length) (q5 : np = f.packs.length) :
    Calls Try.prog 23 #[v, pv] w (Tells (RHangs f np) w) := by
  have hf0 := hf
  obtain ⟨pao, pcap, rfl⟩ := hpv
  obtain ⟨cv, bv', p, s, h, k0, rfl, hV⟩ := hf
  obtain ⟨ao, cap, rfl, -, -, o⟩ := hV.co.out
  obtain ⟨aob, capb, rfl, -, -, ob⟩ := hV.bi.out
  obtain ⟨aop, capp, rfl, -, -, op⟩ := hV.pa.out
  obtain ⟨aos, caps, rfl, -, -, -⟩ := hV.si.out
  have s1 := hs.co
  have s2 := hs.bi
  have s3 := hs.pa
  simp only [iv_length, u64v_length] at *
  have HF := Lib.hid hf0
  clear hs hV hf0
  obtain ⟨wB, hwB⟩ : ∃ wB, wB = w.alloc (.cells #[.slice ao f.coders.length cap, .slice aob f.binds.length capb, .slice aop f.packs.length capp, .slice aos f.sizes.length caps, h, k0] 30) := ⟨_, rfl⟩
  have F0 : Fr [] w wB := hwB ▸ (Fr.refl _ _).alloc _
  have HBX := Lib.hid (fun wx (F : Fr [] wB wx) => box6 (hwB ▸ F : Fr [] (w.alloc (.cells #[.slice ao f.coders.length cap, .slice aob f.binds.length capb, .slice aop f.packs.length capp, .slice aos f.sizes.length caps, h, k0] 30)) wx))
  have b3 : ((f.binds.length : Int) != (f.coders.length : Int) - 1) = false := by simp; omega
  have b4 : ((f.sizes.length : Int) != (f.coders.length : Int)) = false := by simp; omega
  have b5 : ((np : Int) != (f.packs.length : Int)) = false := by simp; omega
  have HQ := Lib.hid (And.intro q3 (And.intro q4 q5))
  have q2' : f.coders.length ≤ 8 := by omega
  clear q3 q4 q5
  go_enter Try.func23, Try.ntmps23
  go_wp2_with fail
  generalize (decide ((f.coders.length : Int) < 1) || decide (8 < (f.coders.length : Int))) = bb
  clear b3 b4 b5
  rw [← hwB]
  clear hwB
  go_loopw [6] (fun i wr => ∃ k : Nat, k ≤ f.coders.length ∧ i = .int .i64 k ∧ (∀ c ∈ f.coders.take k, ins c.method ≠ 0) ∧ Fr [] wB wr) (fun i _ => f.coders.length - (intOf i).toNat)
  case atStart => exact ⟨0, Nat.zero_le _, rfl, by simp, Fr.refl _ _⟩
  case round =>
    obtain ⟨k, hk, rfl, hI, F⟩ := hrel
    obtain ⟨d0, d1, d2, d3, d4, d5⟩ := HBX.out _ F
    by_cases hlt : k < f.coders.length
    · obtain ⟨x, hx⟩ := some_get f.coders k hlt
      obtain ⟨b1, o1, pv, rfl, hb1, hC⟩ := o k x hx
      obtain ⟨c0, c1, -⟩ := hC.fr hb1 (F0.trans0 F)
      have HI := Lib.hid hI
      have HX := Lib.hid hx
      clear o ob op hI hx hC
      by_cases qi : ins x.method = 0
      · have HN := Lib.hid (show ¬ RHangs f np from fun H => H.ins x (List.mem_of_getElem? HX.out) qi)
        have bi : ((ins x.method : Int) == 0) = true := by simp [qi]
        clear qi
        go_wp2_with (go_at_call 11; refine (rins_any _ _ _).mono ?_; rintro e w2 ⟨rfl, F2⟩)
        go_ret
        exact ⟨false, rfl, by simp [HN.out], (F0.trans0 F).trans0 F2⟩
      · have bi : ((ins x.method : Int) == 0) = false := by simp [qi]
        have HI2 := Lib.hid (show ∀ c ∈ f.coders.take (k + 1), ins c.method ≠ 0 from fun c hc => by
          rw [take_succ3 _ _ _ HX.out] at hc
          rcases List.mem_append.1 hc with hc | hc
          · exact HI.out c hc
          · rw [List.mem_singleton] at hc; subst hc; exact qi)
        clear qi
        go_wp2_with (go_at_call 11; refine (rins_any _ _ _).mono ?_; rintro e w2 ⟨rfl, F2⟩)
        go_roundw
        case rel => exact ⟨k + 1, by omega, by go_num, HI2.out, F.trans0 F2⟩
        case measure => simp [intOf]; omega
    · rw [List.take_of_length_le (by omega)] at hI
      have HI := Lib.hid hI
      have hle := f.first_le f.coders.length
      clear o hI
      by_cases qa : f.packs.length + f.binds.length = f.first f.coders.length
      rotate_left
      · have HN := Lib.hid (show ¬ RHangs f np from fun H => qa H.all)
        have ba : ((f.packs.length : Int) != (f.first f.coders.length : Int) - (f.binds.length : Int)) = true := by rw [bne_iff_ne]; omega
        clear qa ob op
        go_wp2_with (go_at_call 25; refine (rfirst_any _ _ f (HF.out.fr (F0.trans0 F)) s1 _ (by omega)).mono ?_; rintro e w1 ⟨rfl, F1⟩; obtain ⟨d0, d1, d2, d3, d4, d5⟩ := HBX.out _ (F.trans0 F1))
        go_ret
        exact ⟨false, rfl, by simp [HN.out], (F0.trans0 F).trans0 F1⟩
      have ba : ((f.packs.length : Int) != (f.first f.coders.length : Int) - (f.binds.length : Int)) = false := by simp; omega
      go_wp2_with (go_at_call 25; refine (rfirst_any _ _ f (HF.out.fr (F0.trans0 F)) s1 _ (by omega)).mono ?_; rintro e w1 ⟨rfl, F1⟩; obtain ⟨d0, d1, d2, d3, d4, d5⟩ := HBX.out _ (F.trans0 F1))
      generalize hall : f.first f.coders.length = all at hle qa ba ⊢
      have HAll := Lib.hid hall
      have HQa := Lib.hid qa
      replace F := F.trans0 F1
      clear F1 hall qa ba d0 d1 d2 d3 d4 d5 hk hlt
      go_loopw [8] (fun i wr => ∃ k : Nat, k ≤ all ∧ i = .int .i64 k ∧ (∀ j, j < k → named1 f j = 1) ∧ Fr [] wB wr) (fun i _ => all - (intOf i).toNat)
      case atStart => exact ⟨0, Nat.zero_le _, rfl, fun j hj => by omega, F⟩
      case round =>
        clear F
        obtain ⟨k, hk, rfl, hC, F⟩ := hrel
        by_cases hlt : k < all
        · have HC := Lib.hid hC
          clear hC
          go_wp2_with fail
          go_loopw [9, 10] (fun c i wr => ∃ k2 : Nat, k2 ≤ f.binds.length ∧ i = .int .i64 k2 ∧ c = .int .i64 ((f.binds.take k2).countP (fun b => b.1 == (k : Int)) : Nat) ∧ Fr [] wB wr) (fun _ i _ => f.binds.length - (intOf i).toNat)
          case atStart => exact ⟨0, Nat.zero_le _, rfl, by simp, F⟩
          case round =>
            clear F
            obtain ⟨k2, hk2, rfl, rfl, F⟩ := hrel
            obtain ⟨d0, d1, d2, d3, d4, d5⟩ := HBX.out _ F
            have hcl : (f.binds.take k2).countP (fun b => b.1 == (k : Int)) ≤ 100 := Nat.le_trans List.countP_le_length (by simp; omega)
            by_cases hlt2 : k2 < f.binds.length
            · obtain ⟨y, hy⟩ := some_get f.binds k2 hlt2
              obtain ⟨b2, o2, rfl, hb2, e0, -⟩ := ob k2 y hy
              have E0 := ((F0.trans0 F).cell (p := ⟨b2, o2 + k2 * 2, none⟩) hb2 (by simp)).trans e0
              have hT := congrArg (List.countP (fun b => b.1 == (k : Int))) (take_succ3 _ _ _ hy)
              rw [List.countP_append] at hT
              clear ob op hy e0
              obtain ⟨y1, y2⟩ := y
              dsimp only at E0
              by_cases hq : y1 = (k : Int)
              · have hc1 : List.countP (fun b => b.1 == (k : Int)) [(y1, y2)] = 1 := by simp [hq]
                rw [hc1] at hT
                have HT := Lib.hid hT
                clear hc1 hT
                generalize (f.binds.take k2).countP (fun b => b.1 == (k : Int)) = cc at hcl HT ⊢
                have t0 : (y1 == (k : Int)) = true := by simp [hq]
                clear hq
                go_wp2_with fail
                go_roundw
                case rel => exact ⟨k2 + 1, by omega, by go_num, by rw [HT.out]; go_num, F⟩
                case measure => simp [intOf]; omega
              · have hc1 : List.countP (fun b => b.1 == (k : Int)) [(y1, y2)] = 0 := by simp [hq]
                rw [hc1] at hT
                have HT := Lib.hid hT
                clear hc1 hT
                generalize (f.binds.take k2).countP (fun b => b.1 == (k : Int)) = cc at hcl HT ⊢
                have t0 : (y1 == (k : Int)) = false := by simp [hq]
                clear hq
                go_wp2_with fail
                go_roundw
                case rel => exact ⟨k2 + 1, by omega, by go_num, by rw [HT.out]; rfl, F⟩
                case measure => simp [intOf]; omega
            · rw [List.take_of_length_le (by omega)] at hcl ⊢
              generalize hcb : f.binds.countP (fun b => b.1 == (k : Int)) = cb at hcl ⊢
              have HCb := Lib.hid hcb
              clear hcb
              go_wp2_with fail
              clear hk2 hlt2 d0 d1 d2 d3 d4 d5
              go_loopw [9, 11] (fun c i wr => ∃ k3 : Nat, k3 ≤ f.packs.length ∧ i = .int .i64 k3 ∧ c = .int .i64 (cb + (f.packs.take k3).countP (fun p => p == (k : Int)) : Nat) ∧ Fr [] wB wr) (fun _ i _ => f.packs.length - (intOf i).toNat)
              case atStart => exact ⟨0, Nat.zero_le _, rfl, by simp, F⟩
              case round =>
                clear F
                obtain ⟨k3, hk3, rfl, rfl, F⟩ := hrel
                obtain ⟨d0, d1, d2, d3, d4, d5⟩ := HBX.out _ F
                have hcl3 : (f.packs.take k3).countP (fun p => p == (k : Int)) ≤ 400 := Nat.le_trans List.countP_le_length (by simp; omega)
                by_cases hlt3 : k3 < f.packs.length
                · obtain ⟨b2, o2, rfl, hb2, c1⟩ := op k3 hlt3
                  obtain ⟨y, hy⟩ := some_get f.packs k3 hlt3
                  have E0 := ((F0.trans0 F).cell (p := ⟨b2, o2 + k3, none⟩) hb2 (by simp)).trans ((c1 k3 hlt3).trans (iv_get _ _ _ hy))
                  have hT := congrArg (List.countP (fun p => p == (k : Int))) (take_succ3 _ _ _ hy)
                  rw [List.countP_append] at hT
                  clear ob op hy c1
                  by_cases hq : y = (k : Int)
                  · have hc1 : List.countP (fun p => p == (k : Int)) [y] = 1 := by simp [hq]
                    rw [hc1] at hT
                    have HT := Lib.hid hT
                    clear hc1 hT
                    generalize (f.packs.take k3).countP (fun p => p == (k : Int)) = cc at hcl3 HT ⊢
                    have t0 : (y == (k : Int)) = true := by simp [hq]
                    clear hq
                    generalize hsum : cb + cc = sm
                    have HSum := Lib.hid hsum
                    have hsm : sm ≤ 1000 := by omega
                    clear hsum
                    go_wp2_with fail
                    go_roundw
                    case rel => exact ⟨k3 + 1, by omega, by go_num, by rw [HT.out, ← Nat.add_assoc, HSum.out]; go_num, F⟩
                    case measure => simp [intOf]; omega
                  · have hc1 : List.countP (fun p => p == (k : Int)) [y] = 0 := by simp [hq]
                    rw [hc1] at hT
                    have HT := Lib.hid hT
                    clear hc1 hT
                    generalize (f.packs.take k3).countP (fun p => p == (k : Int)) = cc at hcl3 HT ⊢
                    have t0 : (y == (k : Int)) = false := by simp [hq]
                    clear hq
                    generalize hsum : cb + cc = sm
                    have HSum := Lib.hid hsum
                    clear hsum
                    go_wp2_with fail
                    go_roundw
                    case rel => exact ⟨k3 + 1, by omega, by go_num, by rw [HT.out, Nat.add_zero, HSum.out], F⟩
                    case measure => simp [intOf]; omega
                · rw [List.take_of_length_le (by omega)] at hcl3 ⊢
                  have hnm : named1 f k = cb + f.packs.countP (fun p => p == (k : Int)) := by unfold named1; rw [HCb.out]
                  generalize cb + f.packs.countP (fun p => p == (k : Int)) = sm at hnm ⊢
                  have HNm := Lib.hid hnm
                  clear hnm hcl3
                  by_cases hs1 : sm = 1
                  · have t0 : ((sm : Int) != 1) = false := by simp [hs1]
                    have HO := Lib.hid hs1
                    clear hs1
                    go_wp2_with fail
                    go_roundw
                    case rel => exact ⟨k + 1, by omega, by go_num, fun j hj => by
                      by_cases e : j = k
                      · rw [e, HNm.out, HO.out]
                      · exact HC.out j (by omega), F⟩
                    case measure => simp [intOf]; omega
                  · have HN := Lib.hid (show ¬ RHangs f np from fun H => hs1 (by rw [← HNm.out]; exact H.cnt k (by rw [HAll.out]; exact hlt)))
                    have t0 : ((sm : Int) != 1) = true := by rw [bne_iff_ne]; omega
                    clear hs1
                    go_wp2_with fail
                    go_ret
                    exact ⟨false, rfl, by simp [HN.out], F0.trans0 F⟩
        · have hke : k = all := by omega
          subst hke
          have HC := Lib.hid hC
          clear hC hk hlt
          obtain ⟨d0, d1, d2, d3, d4, d5⟩ := HBX.out _ F
          go_wp2_with fail
          go_loopw [12] (fun i wr => ∃ k : Nat, k ≤ f.binds.length ∧ i = .int .i64 k ∧ (∀ b ∈ f.binds.take k, 0 ≤ b.2 ∧ b.2 < (f.coders.length : Int)) ∧ ((f.binds.map (·.2)).take k).Nodup ∧ Fr [] wB wr) (fun i _ => f.binds.length - (intOf i).toNat)
          case atStart => exact ⟨0, Nat.zero_le _, rfl, by simp, by simp, F⟩
          case round =>
            clear F
            obtain ⟨k, hk, rfl, hO, hD, F⟩ := hrel
            clear d0 d1 d2 d3 d4 d5
            obtain ⟨d0, d1, d2, d3, d4, d5⟩ := HBX.out _ F
            by_cases hlt : k < f.binds.length
            · obtain ⟨y, hy⟩ := some_get f.binds k hlt
              have hy2 : (f.binds.map (·.2))[k]? = some y.2 := by simp [hy]
              obtain ⟨b2, o2, rfl, hb2, -, e1⟩ := ob k y hy
              have E1 := ((F0.trans0 F).cell (p := ⟨b2, o2 + k * 2 + 1, none⟩) hb2 (by simp)).trans e1
              have HO := Lib.hid hO
              have HD := Lib.hid hD
              have HY := Lib.hid hy
              have HY2 := Lib.hid hy2
              have HT1 := Lib.hid (take_succ3 _ _ _ hy)
              have HT2 := Lib.hid (take_succ3 _ _ _ hy2)
              have hob2 : ∀ j (x : Int × Int), f.binds[j]? = some x → w.cell? ⟨b2, o2 + j * 2 + 1, none⟩ = some (.int .i64 x.2) := by
                intro j x hx
                obtain ⟨b', o', e, _, _, e2⟩ := ob j x hx
                injection e with e
                injection e with ea eb
                subst ea eb
                exact e2
              have HOB := Lib.hid hob2
              clear ob op hO hD hy hy2 e1 hob2
              obtain ⟨y1, y2⟩ := y
              dsimp only at E1 HY2
              by_cases q1 : y2 < 0
              · have HN := Lib.hid (show ¬ RHangs f np from fun H => by have := (H.outs _ (List.mem_of_getElem? HY.out)).1; dsimp only at this; omega)
                go_wp2_with fail
                go_ret
                exact ⟨false, rfl, by simp [HN.out], F0.trans0 F⟩
              by_cases q2 : (f.coders.length : Int) ≤ y2
              · have HN := Lib.hid (show ¬ RHangs f np from fun H => by have := (H.outs _ (List.mem_of_getElem? HY.out)).2; dsimp only at this; omega)
                go_wp2_with fail
                go_ret
                exact ⟨false, rfl, by simp [HN.out], F0.trans0 F⟩
              have q1' : 0 ≤ y2 := by omega
              have q2' : y2 < (f.coders.length : Int) := by omega
              go_wp2_with fail
              clear d0 d1 d2 d3 d4 d5
              go_loopw [13] (fun i wr => ∃ k2 : Nat, k2 ≤ k ∧ i = .int .i64 k2 ∧ (∀ j (x : Int × Int), j < k2 → f.binds[j]? = some x → x.2 ≠ y2) ∧ Fr [] wB wr) (fun i _ => k - (intOf i).toNat)
              case atStart => exact ⟨0, Nat.zero_le _, rfl, fun j x hj => by omega, F⟩
              case round =>
                clear E1 F
                obtain ⟨k2, hk2, rfl, hS, F⟩ := hrel
                obtain ⟨d0, d1, d2, d3, d4, d5⟩ := HBX.out _ F
                by_cases hlt2 : k2 < k
                · obtain ⟨z, hz⟩ := some_get f.binds k2 (by omega)
                  have E1 := ((F0.trans0 F).cell (p := ⟨b2, o2 + k * 2 + 1, none⟩) hb2 (by simp)).trans (HOB.out k _ HY.out)
                  have E2 := ((F0.trans0 F).cell (p := ⟨b2, o2 + k2 * 2 + 1, none⟩) hb2 (by simp)).trans (HOB.out k2 _ hz)
                  have HS := Lib.hid hS
                  have HZ := Lib.hid hz
                  clear hS hz
                  obtain ⟨z1, z2⟩ := z
                  dsimp only at E1 E2
                  have hlk : k2 < f.binds.length := by omega
                  by_cases hq : z2 = y2
                  · have HN := Lib.hid (show ¬ RHangs f np from fun H => by
                      refine nodup_at HY2.out ?_ H.outd
                      rw [← hq]
                      exact List.mem_iff_getElem?.2 ⟨k2, by rw [List.getElem?_take, if_pos hlt2]; simp [HZ.out]⟩)
                    have t0 : (z2 == y2) = true := by simp [hq]
                    clear hq
                    go_wp2_with fail
                    go_quiet (fail)
                    go_wp2
                    go_ret
                    exact ⟨false, rfl, by simp [HN.out], (F0.trans0 F).drewN _⟩
                  · have t0 : (z2 == y2) = false := by simp [hq]
                    have HS2 := Lib.hid (show ∀ j (x : Int × Int), j < k2 + 1 → f.binds[j]? = some x → x.2 ≠ y2 from fun j x hj hx => by
                      by_cases e : j = k2
                      · subst e
                        rw [HZ.out] at hx
                        obtain rfl := Option.some.inj hx
                        exact hq
                      · exact HS.out j x (by omega) hx)
                    clear hq
                    go_wp2_with fail
                    go_quiet (fail)
                    go_wp2
                    go_roundw
                    case rel => exact ⟨k2 + 1, by omega, by go_num, HS2.out, F.drewN _⟩
                    case measure => simp [intOf]; omega
                · have hke : k2 = k := by omega
                  subst hke
                  have HO2 := Lib.hid (show ∀ b ∈ f.binds.take (k2 + 1), 0 ≤ b.2 ∧ b.2 < (f.coders.length : Int) from fun b hb => by
                    rw [HT1.out] at hb
                    rcases List.mem_append.1 hb with hb | hb
                    · exact HO.out b hb
                    · rw [List.mem_singleton] at hb; subst hb; exact ⟨q1', q2'⟩)
                  have HD2 := Lib.hid (show ((f.binds.map (·.2)).take (k2 + 1)).Nodup by
                    rw [HT2.out]
                    refine List.nodup_append.2 ⟨HD.out, by simp, fun a ha b hb => ?_⟩
                    rw [List.mem_singleton] at hb
                    subst hb
                    rintro rfl
                    obtain ⟨j, hj⟩ := List.mem_iff_getElem?.1 ha
                    have hjk : j < k2 := by have := (List.getElem?_eq_some_iff.1 hj).1; simp at this; omega
                    rw [List.getElem?_take, if_pos hjk, List.getElem?_map] at hj
                    obtain ⟨x, hx, e⟩ := Option.map_eq_some_iff.1 hj
                    exact hS j x hjk hx e)
                  clear hS
                  go_wp2_with fail
                  go_roundw
                  case rel => exact ⟨k2 + 1, by omega, by go_num, HO2.out, HD2.out, F⟩
                  case measure => simp [intOf]; omega
            · rw [List.take_of_length_le (by omega)] at hO
              rw [List.take_of_length_le (by simp; omega)] at hD
              have HO := Lib.hid hO
              have HD := Lib.hid hD
              clear hO hD ob op
              go_wp2_with fail
              show Code.wp _ _ _ _ (wr.alloc (.cells (Array.replicate 64 (.bool false)) 75))
              have hB0 := RB.made wr 75
              have FC : Fr [] wB (wr.alloc (.cells (Array.replicate 64 (.bool false)) 75)) := F.alloc _
              have hg : wB.heap.size ≤ wr.heap.size := F.size
              generalize wr.alloc (.cells (Array.replicate 64 (.bool false)) 75) = wC at hB0 FC ⊢
              generalize wr.heap.size = g at hB0 hg ⊢
              clear F d0 d1 d2 d3 d4 d5 hk hlt
              have hn0 : 1 ≤ f.coders.length := by omega
              go_loopw [15] (fun i wr => ∃ (s : Nat) (R : Nat → Nat → Bool), s ≤ f.coders.length ∧ i = .int .i64 s ∧ P1 (fdR f) f.coders.length s R ∧ RB wr g R ∧ Fr [] wB wr) (fun i _ => f.coders.length - (intOf i).toNat)
              case atStart => exact ⟨0, _, Nat.zero_le _, rfl, P1.zero _ _, hB0, FC⟩
              case round =>
                clear hB0 FC
                obtain ⟨ss, R, hss, rfl, hP, hB, F⟩ := hrel
                by_cases hlt : ss < f.coders.length
                · have HP := Lib.hid hP
                  clear hP
                  go_wp2_with fail
                  go_loopw [16] (fun i wr => ∃ (a : Nat) (R : Nat → Nat → Bool), a ≤ f.coders.length ∧ i = .int .i64 a ∧ P2 (fdR f) f.coders.length ss a R ∧ RB wr g R ∧ Fr [] wB wr) (fun i _ => f.coders.length - (intOf i).toNat)
                  case atStart => exact ⟨0, R, Nat.zero_le _, rfl, P2.zero HP.out, hB, F⟩
                  case round =>
                    clear hB F HP
                    obtain ⟨a, R, haa, rfl, hP, hB, F⟩ := hrel
                    by_cases hla : a < f.coders.length
                    · have HP := Lib.hid hP
                      clear hP
                      go_wp2_with fail
                      go_loopw [17] (fun i wr => ∃ (b : Nat) (R : Nat → Nat → Bool), b ≤ f.coders.length ∧ i = .int .i64 b ∧ P3 (fdR f) f.coders.length ss a b R ∧ RB wr g R ∧ Fr [] wB wr) (fun i _ => f.coders.length - (intOf i).toNat)
                      case atStart => exact ⟨0, R, Nat.zero_le _, rfl, P3.zero HP.out, hB, F⟩
                      case round =>
                        clear hB F HP
                        obtain ⟨b, R, hbb, rfl, hP, hB, F⟩ := hrel
                        by_cases hlb : b < f.coders.length
                        · have HP := Lib.hid hP
                          clear hP
                          go_wp2_with fail
                          go_loopw [18] (fun i wr => ∃ (c : Nat) (R : Nat → Nat → Bool), c ≤ f.coders.length ∧ i = .int .i64 c ∧ P4 (fdR f) f.coders.length ss a b c R ∧ RB wr g R ∧ Fr [] wB wr) (fun i _ => f.coders.length - (intOf i).toNat)
                          case atStart => exact ⟨0, R, Nat.zero_le _, rfl, P4.zero HP.out, hB, F⟩
                          case round =>
                            clear hB F HP
                            obtain ⟨c, R, hcc, rfl, hP, hB, F⟩ := hrel
                            by_cases hlc : c < f.coders.length
                            · have HN := Lib.hid (P4.next hla hlb hlc f.feeds (fun x y hx _ => fdR_iff x y hx) hP)
                              clear hP
                              obtain ⟨d0, d1, d2, d3, d4, d5⟩ := HBX.out _ F
                              have c1 := hB.2.2 a b (by omega) (by omega)
                              have c2 := hB.2.2 a c (by omega) (by omega)
                              have fz := hB.2.1 (a * 8 + b)
                              have ha8 : (a : Int) < 8 := by omega
                              have hb8 : (b : Int) < 8 := by omega
                              have hc8 : (c : Int) < 8 := by omega
                              go_wp2_with fail
                              cases hr1 : R a b with
                              | true =>
                                have HP5 := Lib.hid (show P4 (fdR f) f.coders.length ss a b (c + 1) (upd R a b true) by have := HN.out; rw [hr1] at this; simpa using this)
                                rw [hr1] at c1
                                clear hr1 HN
                                go_region
                                all_goals
                                  go_wp2_with fail
                                  go_roundw
                                  case rel => exact ⟨c + 1, _, by omega, by go_num, HP5.out, (hB.fr (Fr.refl [] wr).drew (by simp)).set a b (by omega) (by omega) true, F.drew.setCell (.inr hg) _⟩
                                  case measure => simp [intOf]; omega
                              | false =>
                                have HR1 := Lib.hid hr1
                                rw [hr1] at c1
                                cases hf1 : f.feeds a b with
                                | true =>
                                  have HP5 := Lib.hid (show P4 (fdR f) f.coders.length ss a b (c + 1) (upd R a b true) by have := HN.out; rw [hr1, hf1] at this; simpa using this)
                                  have HFE1 := Lib.hid hf1
                                  have HR2 := Lib.hid (rfl : R a c = R a c)
                                  clear hr1 hf1 HN
                                  refine wp_region_held_drew (S := fun _ => True) (by kernel_rfl) trivial (fun _ => ?_)
                                  refine wpAnyH_take (i := 0) (v := ?_) (arr_get _ 0 _ rfl) (by kernel_rfl) (by kernel_rfl) (by kernel_rfl) (fun _ _ _ h => h) (Or.inl ⟨by rfl, ?_⟩) trivial ?_
                                  rotate_left
                                  · intro w _
                                    go_simp
                                    all_goals with_reducible rfl
                                  try simp only [Act.put, List.setIfInBounds_toArray, List.set_cons_zero, List.set_cons_succ]
                                  refine wpAnyH_take (i := 1) (v := ?_) (arr_get _ 1 _ rfl) (by kernel_rfl) (by kernel_rfl) (by kernel_rfl) (fun _ _ _ h => h) (Or.inl ⟨by rfl, ?_⟩) trivial ?_
                                  rotate_left
                                  · intro w _
                                    go_simp
                                    all_goals with_reducible rfl
                                  try simp only [Act.put, List.setIfInBounds_toArray, List.set_cons_zero, List.set_cons_succ]
                                  refine wpAnyH_take (i := 2) (v := ?_) (arr_get _ 2 _ rfl) (by kernel_rfl) (by kernel_rfl) (by kernel_rfl) (fun _ _ _ h => h) (Or.inl ⟨by rfl, ?_⟩) trivial ?_
                                  rotate_left
                                  · intro w _
                                    go_simp
                                    all_goals with_reducible rfl
                                  try simp only [Act.put, List.setIfInBounds_toArray, List.set_cons_zero, List.set_cons_succ]
                                  refine wpAnyH_take (i := 3) (v := ?_) (arr_get _ 3 _ rfl) (by kernel_rfl) (by kernel_rfl) (by kernel_rfl) (fun _ _ _ h => h) (Or.inl ⟨by rfl, ?_⟩) trivial ?_
                                  rotate_left
                                  · intro w _
                                    go_simp
                                    all_goals with_reducible rfl
                                  try simp only [Act.put, List.setIfInBounds_toArray, List.set_cons_zero, List.set_cons_succ]
                                  refine wpAnyH_take (i := 4) (v := ?_) (arr_get _ 4 _ rfl) (by kernel_rfl) (by kernel_rfl) (by kernel_rfl) (fun _ _ _ h => h) (Or.inl ⟨by rfl, ?_⟩) trivial ?_
                                  rotate_left
                                  · intro w _
                                    go_simp
                                    all_goals with_reducible rfl
                                  try simp only [Act.put, List.setIfInBounds_toArray, List.set_cons_zero, List.set_cons_succ]
                                  refine wpAnyH_take (i := 5) (v := ?_) (arr_get _ 5 _ rfl) (by kernel_rfl) (by kernel_rfl) (by kernel_rfl) (fun _ _ _ h => h) (Or.inl ⟨by rfl, ?_⟩) trivial ?_
                                  rotate_left
                                  · intro w _
                                    go_simp
                                    all_goals with_reducible rfl
                                  try simp only [Act.put, List.setIfInBounds_toArray, List.set_cons_zero, List.set_cons_succ]
                                  refine wpAnyH_take (i := 26) (v := ?_) (arr_get _ 26 _ rfl) (by kernel_rfl) (by kernel_rfl) (by kernel_rfl) (fun _ _ _ h => h) (Or.inl ⟨by rfl, ?_⟩) trivial ?_
                                  rotate_left
                                  · intro w _
                                    go_simp
                                    all_goals with_reducible rfl
                                  try simp only [Act.put, List.setIfInBounds_toArray, List.set_cons_zero, List.set_cons_succ]
                                  refine wpAnyH_ready (rs := [6]) (by kernel_rfl) (by simp) ?_
                                  refine AllReadyH.cons (arr_get _ 6 _ rfl) (fun K hK => ?_) AllReadyH.nil
                                  go_simp
                                  refine hK.out _ _ trivial (fun _ => ?_)
                                  clear hK K
                                  try simp only [Act.put, List.setIfInBounds_toArray, List.set_cons_zero, List.set_cons_succ]
                                  refine wpAnyH_take (i := 7) (v := ?_) (arr_get _ 7 _ rfl) (by kernel_rfl) (by kernel_rfl) (by kernel_rfl) (fun _ _ _ h => h) (Or.inl ⟨by rfl, ?_⟩) trivial ?_
                                  rotate_left
                                  · intro w _
                                    go_simp
                                    all_goals with_reducible rfl
                                  try simp only [Act.put, List.setIfInBounds_toArray, List.set_cons_zero, List.set_cons_succ]
                                  refine wpAnyH_take (i := 9) (v := ?_) (arr_get _ 9 _ rfl) (by kernel_rfl) (by kernel_rfl) (by kernel_rfl) (fun _ _ _ h => h) (Or.inl ⟨by rfl, ?_⟩) trivial ?_
                                  rotate_left
                                  · intro w _
                                    go_simp
                                    all_goals with_reducible rfl
                                  try simp only [Act.put, List.setIfInBounds_toArray, List.set_cons_zero, List.set_cons_succ]
                                  refine wpAnyH_take (i := 10) (v := ?_) (arr_get _ 10 _ rfl) (by kernel_rfl) (by kernel_rfl) (by kernel_rfl) (fun _ _ _ h => h) (Or.inl ⟨by rfl, ?_⟩) trivial ?_
                                  rotate_left
                                  · intro w _
                                    go_simp
                                    all_goals with_reducible rfl
                                  try simp only [Act.put, List.setIfInBounds_toArray, List.set_cons_zero, List.set_cons_succ]
                                  refine wpAnyH_ready (rs := [8]) (by kernel_rfl) (by simp) ?_
                                  refine AllReadyH.cons (arr_get _ 8 _ rfl) (fun K hK => ?_) AllReadyH.nil
                                  go_simp
                                  refine hK.out _ _ trivial (fun _ => ?_)
                                  clear hK K
                                  try simp only [Act.put, List.setIfInBounds_toArray, List.set_cons_zero, List.set_cons_succ]
                                  refine wpAnyH_ready (rs := [11]) (by kernel_rfl) (by simp) ?_
                                  refine AllReadyH.cons (arr_get _ 11 _ rfl) (fun K hK => ?_) AllReadyH.nil
                                  go_simp
                                  (go_at_call 38; refine (rfeeds_any _ _ f (HF.out.fr (F0.trans0 F.drew)) s1 s2 a b hlb).mono ?_; rw [HFE1.out]; rintro e wx ⟨rfl, Fx⟩; have Gx := F.drew.trans0 Fx; have hBx := (hB.fr (Fr.refl [] wr).drew (by simp)).fr Fx (by simp); obtain ⟨x0, x1, x2, x3, x4, x5⟩ := HBX.out _ Gx; have xc1 := hBx.2.2 a b (by omega) (by omega); have xc2 := hBx.2.2 a c (by omega) (by omega); rw [HR1.out] at xc1; rw [HR2.out] at xc2; have xf := hBx.2.1 (a * 8 + b))
                                  refine hK.out _ _ trivial (fun _ => ?_)
                                  clear hK K
                                  try simp only [Act.put, List.setIfInBounds_toArray, List.set_cons_zero, List.set_cons_succ]
                                  refine wpAnyH_take (i := 12) (v := ?_) (arr_get _ 12 _ rfl) (by kernel_rfl) (by kernel_rfl) (by kernel_rfl) (fun _ _ _ h => h) (Or.inl ⟨by rfl, ?_⟩) trivial ?_
                                  rotate_left
                                  · intro w _
                                    go_simp
                                    all_goals with_reducible rfl
                                  try simp only [Act.put, List.setIfInBounds_toArray, List.set_cons_zero, List.set_cons_succ]
                                  refine wpAnyH_take (i := 13) (v := ?_) (arr_get _ 13 _ rfl) (by kernel_rfl) (by kernel_rfl) (by kernel_rfl) (fun _ _ _ h => h) (Or.inl ⟨by rfl, ?_⟩) trivial ?_
                                  rotate_left
                                  · intro w _
                                    go_simp
                                    all_goals with_reducible rfl
                                  try simp only [Act.put, List.setIfInBounds_toArray, List.set_cons_zero, List.set_cons_succ]
                                  refine wpAnyH_take (i := 14) (v := undef) (arr_get _ 14 _ rfl) (by kernel_rfl) (by kernel_rfl) (by kernel_rfl) (fun _ _ _ h => h) (Or.inr ⟨by rfl, rfl⟩) trivial ?_
                                  try simp only [Act.put, List.setIfInBounds_toArray, List.set_cons_zero, List.set_cons_succ]
                                  refine wpAnyH_take (i := 15) (v := undef) (arr_get _ 15 _ rfl) (by kernel_rfl) (by kernel_rfl) (by kernel_rfl) (fun _ _ _ h => h) (Or.inr ⟨by rfl, rfl⟩) trivial ?_
                                  try simp only [Act.put, List.setIfInBounds_toArray, List.set_cons_zero, List.set_cons_succ]
                                  refine wpAnyH_take (i := 16) (v := undef) (arr_get _ 16 _ rfl) (by kernel_rfl) (by kernel_rfl) (by kernel_rfl) (fun _ _ _ h => h) (Or.inr ⟨by rfl, rfl⟩) trivial ?_
                                  try simp only [Act.put, List.setIfInBounds_toArray, List.set_cons_zero, List.set_cons_succ]
                                  refine wpAnyH_take (i := 17) (v := undef) (arr_get _ 17 _ rfl) (by kernel_rfl) (by kernel_rfl) (by kernel_rfl) (fun _ _ _ h => h) (Or.inr ⟨by rfl, rfl⟩) trivial ?_
                                  try simp only [Act.put, List.setIfInBounds_toArray, List.set_cons_zero, List.set_cons_succ]
                                  refine wpAnyH_take (i := 18) (v := undef) (arr_get _ 18 _ rfl) (by kernel_rfl) (by kernel_rfl) (by kernel_rfl) (fun _ _ _ h => h) (Or.inr ⟨by rfl, rfl⟩) trivial ?_
                                  try simp only [Act.put, List.setIfInBounds_toArray, List.set_cons_zero, List.set_cons_succ]
                                  refine wpAnyH_take (i := 19) (v := undef) (arr_get _ 19 _ rfl) (by kernel_rfl) (by kernel_rfl) (by kernel_rfl) (fun _ _ _ h => h) (Or.inr ⟨by rfl, rfl⟩) trivial ?_
                                  try simp only [Act.put, List.setIfInBounds_toArray, List.set_cons_zero, List.set_cons_succ]
                                  refine wpAnyH_take (i := 20) (v := undef) (arr_get _ 20 _ rfl) (by kernel_rfl) (by kernel_rfl) (by kernel_rfl) (fun _ _ _ h => h) (Or.inr ⟨by rfl, rfl⟩) trivial ?_
                                  try simp only [Act.put, List.setIfInBounds_toArray, List.set_cons_zero, List.set_cons_succ]
                                  refine wpAnyH_take (i := 21) (v := undef) (arr_get _ 21 _ rfl) (by kernel_rfl) (by kernel_rfl) (by kernel_rfl) (fun _ _ _ h => h) (Or.inr ⟨by rfl, rfl⟩) trivial ?_
                                  try simp only [Act.put, List.setIfInBounds_toArray, List.set_cons_zero, List.set_cons_succ]
                                  refine wpAnyH_take (i := 22) (v := undef) (arr_get _ 22 _ rfl) (by kernel_rfl) (by kernel_rfl) (by kernel_rfl) (fun _ _ _ h => h) (Or.inr ⟨by rfl, rfl⟩) trivial ?_
                                  try simp only [Act.put, List.setIfInBounds_toArray, List.set_cons_zero, List.set_cons_succ]
                                  refine wpAnyH_ready (rs := [23]) (by kernel_rfl) (by simp) ?_
                                  refine AllReadyH.cons (arr_get _ 23 _ rfl) (fun K hK => ?_) AllReadyH.nil
                                  go_simp
                                  refine hK.out _ _ trivial (fun _ => ?_)
                                  clear hK K
                                  try simp only [Act.put, List.setIfInBounds_toArray, List.set_cons_zero, List.set_cons_succ]
                                  refine wpAnyH_take (i := 24) (v := undef) (arr_get _ 24 _ rfl) (by kernel_rfl) (by kernel_rfl) (by kernel_rfl) (fun _ _ _ h => h) (Or.inr ⟨by rfl, rfl⟩) trivial ?_
                                  try simp only [Act.put, List.setIfInBounds_toArray, List.set_cons_zero, List.set_cons_succ]
                                  refine wpAnyH_take (i := 25) (v := ?_) (arr_get _ 25 _ rfl) (by kernel_rfl) (by kernel_rfl) (by kernel_rfl) (fun _ _ _ h => h) (Or.inl ⟨by rfl, ?_⟩) trivial ?_
                                  rotate_left
                                  · intro w _
                                    go_simp
                                    all_goals with_reducible rfl
                                  try simp only [Act.put, List.setIfInBounds_toArray, List.set_cons_zero, List.set_cons_succ]
                                  refine wpAnyH_take (i := 27) (v := ?_) (arr_get _ 27 _ rfl) (by kernel_rfl) (by kernel_rfl) (by kernel_rfl) (fun _ _ _ h => h) (Or.inl ⟨by rfl, ?_⟩) trivial ?_
                                  rotate_left
                                  · intro w _
                                    go_simp
                                    all_goals with_reducible rfl
                                  try simp only [Act.put, List.setIfInBounds_toArray, List.set_cons_zero, List.set_cons_succ]
                                  refine wpAnyH_ready (rs := [28]) (by kernel_rfl) (by simp) ?_
                                  refine AllReadyH.cons (arr_get _ 28 _ rfl) (fun K hK => ?_) AllReadyH.nil
                                  go_simp
                                  refine hK.out _ _ trivial (fun _ => ?_)
                                  clear hK K
                                  try simp only [Act.put, List.setIfInBounds_toArray, List.set_cons_zero, List.set_cons_succ]
                                  refine wpAnyH_done (by kernel_rfl) ?_ _
                                  all_goals
                                    go_wp2_with fail
                                    go_roundw
                                    case rel => exact ⟨c + 1, _, by omega, by go_num, HP5.out, hBx.set a b (by omega) (by omega) true, Gx.setCell (.inr hg) _⟩
                                    case measure => simp [intOf]; omega
                                | false =>
                                  have HFE1 := Lib.hid hf1
                                  cases hr2 : R a c with
                                  | false =>
                                    have HP5 := Lib.hid (show P4 (fdR f) f.coders.length ss a b (c + 1) (upd R a b false) by have := HN.out; rw [hr1, hf1, hr2] at this; simpa using this)
                                    have HR2 := Lib.hid hr2
                                    rw [hr2] at c2
                                    clear hr1 hf1 hr2 HN
                                    refine wp_region_held_drew (S := fun _ => True) (by kernel_rfl) trivial (fun _ => ?_)
                                    refine wpAnyH_take (i := 0) (v := ?_) (arr_get _ 0 _ rfl) (by kernel_rfl) (by kernel_rfl) (by kernel_rfl) (fun _ _ _ h => h) (Or.inl ⟨by rfl, ?_⟩) trivial ?_
                                    rotate_left
                                    · intro w _
                                      go_simp
                                      all_goals with_reducible rfl
                                    try simp only [Act.put, List.setIfInBounds_toArray, List.set_cons_zero, List.set_cons_succ]
                                    refine wpAnyH_take (i := 1) (v := ?_) (arr_get _ 1 _ rfl) (by kernel_rfl) (by kernel_rfl) (by kernel_rfl) (fun _ _ _ h => h) (Or.inl ⟨by rfl, ?_⟩) trivial ?_
                                    rotate_left
                                    · intro w _
                                      go_simp
                                      all_goals with_reducible rfl
                                    try simp only [Act.put, List.setIfInBounds_toArray, List.set_cons_zero, List.set_cons_succ]
                                    refine wpAnyH_take (i := 2) (v := ?_) (arr_get _ 2 _ rfl) (by kernel_rfl) (by kernel_rfl) (by kernel_rfl) (fun _ _ _ h => h) (Or.inl ⟨by rfl, ?_⟩) trivial ?_
                                    rotate_left
                                    · intro w _
                                      go_simp
                                      all_goals with_reducible rfl
                                    try simp only [Act.put, List.setIfInBounds_toArray, List.set_cons_zero, List.set_cons_succ]
                                    refine wpAnyH_take (i := 3) (v := ?_) (arr_get _ 3 _ rfl) (by kernel_rfl) (by kernel_rfl) (by kernel_rfl) (fun _ _ _ h => h) (Or.inl ⟨by rfl, ?_⟩) trivial ?_
                                    rotate_left
                                    · intro w _
                                      go_simp
                                      all_goals with_reducible rfl
                                    try simp only [Act.put, List.setIfInBounds_toArray, List.set_cons_zero, List.set_cons_succ]
                                    refine wpAnyH_take (i := 4) (v := ?_) (arr_get _ 4 _ rfl) (by kernel_rfl) (by kernel_rfl) (by kernel_rfl) (fun _ _ _ h => h) (Or.inl ⟨by rfl, ?_⟩) trivial ?_
                                    rotate_left
                                    · intro w _
                                      go_simp
                                      all_goals with_reducible rfl
                                    try simp only [Act.put, List.setIfInBounds_toArray, List.set_cons_zero, List.set_cons_succ]
                                    refine wpAnyH_take (i := 5) (v := ?_) (arr_get _ 5 _ rfl) (by kernel_rfl) (by kernel_rfl) (by kernel_rfl) (fun _ _ _ h => h) (Or.inl ⟨by rfl, ?_⟩) trivial ?_
                                    rotate_left
                                    · intro w _
                                      go_simp
                                      all_goals with_reducible rfl
                                    try simp only [Act.put, List.setIfInBounds_toArray, List.set_cons_zero, List.set_cons_succ]
                                    refine wpAnyH_take (i := 26) (v := ?_) (arr_get _ 26 _ rfl) (by kernel_rfl) (by kernel_rfl) (by kernel_rfl) (fun _ _ _ h => h) (Or.inl ⟨by rfl, ?_⟩) trivial ?_
                                    rotate_left
                                    · intro w _
                                      go_simp
                                      all_goals with_reducible rfl
                                    try simp only [Act.put, List.setIfInBounds_toArray, List.set_cons_zero, List.set_cons_succ]
                                    refine wpAnyH_ready (rs := [6]) (by kernel_rfl) (by simp) ?_
                                    refine AllReadyH.cons (arr_get _ 6 _ rfl) (fun K hK => ?_) AllReadyH.nil
                                    go_simp
                                    refine hK.out _ _ trivial (fun _ => ?_)
                                    clear hK K
                                    try simp only [Act.put, List.setIfInBounds_toArray, List.set_cons_zero, List.set_cons_succ]
                                    refine wpAnyH_take (i := 7) (v := ?_) (arr_get _ 7 _ rfl) (by kernel_rfl) (by kernel_rfl) (by kernel_rfl) (fun _ _ _ h => h) (Or.inl ⟨by rfl, ?_⟩) trivial ?_
                                    rotate_left
                                    · intro w _
                                      go_simp
                                      all_goals with_reducible rfl
                                    try simp only [Act.put, List.setIfInBounds_toArray, List.set_cons_zero, List.set_cons_succ]
                                    refine wpAnyH_take (i := 9) (v := ?_) (arr_get _ 9 _ rfl) (by kernel_rfl) (by kernel_rfl) (by kernel_rfl) (fun _ _ _ h => h) (Or.inl ⟨by rfl, ?_⟩) trivial ?_
                                    rotate_left
                                    · intro w _
                                      go_simp
                                      all_goals with_reducible rfl
                                    try simp only [Act.put, List.setIfInBounds_toArray, List.set_cons_zero, List.set_cons_succ]
                                    refine wpAnyH_take (i := 10) (v := ?_) (arr_get _ 10 _ rfl) (by kernel_rfl) (by kernel_rfl) (by kernel_rfl) (fun _ _ _ h => h) (Or.inl ⟨by rfl, ?_⟩) trivial ?_
                                    rotate_left
                                    · intro w _
                                      go_simp
                                      all_goals with_reducible rfl
                                    try simp only [Act.put, List.setIfInBounds_toArray, List.set_cons_zero, List.set_cons_succ]
                                    refine wpAnyH_ready (rs := [8]) (by kernel_rfl) (by simp) ?_
                                    refine AllReadyH.cons (arr_get _ 8 _ rfl) (fun K hK => ?_) AllReadyH.nil
                                    go_simp
                                    refine hK.out _ _ trivial (fun _ => ?_)
                                    clear hK K
                                    try simp only [Act.put, List.setIfInBounds_toArray, List.set_cons_zero, List.set_cons_succ]
                                    refine wpAnyH_ready (rs := [11]) (by kernel_rfl) (by simp) ?_
                                    refine AllReadyH.cons (arr_get _ 11 _ rfl) (fun K hK => ?_) AllReadyH.nil
                                    go_simp
                                    (go_at_call 38; refine (rfeeds_any _ _ f (HF.out.fr (F0.trans0 F.drew)) s1 s2 a b hlb).mono ?_; rw [HFE1.out]; rintro e wx ⟨rfl, Fx⟩; have Gx := F.drew.trans0 Fx; have hBx := (hB.fr (Fr.refl [] wr).drew (by simp)).fr Fx (by simp); obtain ⟨x0, x1, x2, x3, x4, x5⟩ := HBX.out _ Gx; have xc1 := hBx.2.2 a b (by omega) (by omega); have xc2 := hBx.2.2 a c (by omega) (by omega); rw [HR1.out] at xc1; rw [HR2.out] at xc2; have xf := hBx.2.1 (a * 8 + b))
                                    refine hK.out _ _ trivial (fun _ => ?_)
                                    clear hK K
                                    try simp only [Act.put, List.setIfInBounds_toArray, List.set_cons_zero, List.set_cons_succ]
                                    refine wpAnyH_take (i := 12) (v := ?_) (arr_get _ 12 _ rfl) (by kernel_rfl) (by kernel_rfl) (by kernel_rfl) (fun _ _ _ h => h) (Or.inl ⟨by rfl, ?_⟩) trivial ?_
                                    rotate_left
                                    · intro w _
                                      go_simp
                                      all_goals with_reducible rfl
                                    try simp only [Act.put, List.setIfInBounds_toArray, List.set_cons_zero, List.set_cons_succ]
                                    refine wpAnyH_take (i := 13) (v := ?_) (arr_get _ 13 _ rfl) (by kernel_rfl) (by kernel_rfl) (by kernel_rfl) (fun _ _ _ h => h) (Or.inl ⟨by rfl, ?_⟩) trivial ?_
                                    rotate_left
                                    · intro w _
                                      go_simp
                                      all_goals with_reducible rfl
                                    try simp only [Act.put, List.setIfInBounds_toArray, List.set_cons_zero, List.set_cons_succ]
                                    refine wpAnyH_take (i := 14) (v := ?_) (arr_get _ 14 _ rfl) (by kernel_rfl) (by kernel_rfl) (by kernel_rfl) (fun _ _ _ h => h) (Or.inl ⟨by rfl, ?_⟩) trivial ?_
                                    rotate_left
                                    · intro w _
                                      go_simp
                                      all_goals with_reducible rfl
                                    try simp only [Act.put, List.setIfInBounds_toArray, List.set_cons_zero, List.set_cons_succ]
                                    refine wpAnyH_take (i := 15) (v := ?_) (arr_get _ 15 _ rfl) (by kernel_rfl) (by kernel_rfl) (by kernel_rfl) (fun _ _ _ h => h) (Or.inl ⟨by rfl, ?_⟩) trivial ?_
                                    rotate_left
                                    · intro w _
                                      go_simp
                                      all_goals with_reducible rfl
                                    try simp only [Act.put, List.setIfInBounds_toArray, List.set_cons_zero, List.set_cons_succ]
                                    refine wpAnyH_take (i := 16) (v := ?_) (arr_get _ 16 _ rfl) (by kernel_rfl) (by kernel_rfl) (by kernel_rfl) (fun _ _ _ h => h) (Or.inl ⟨by rfl, ?_⟩) trivial ?_
                                    rotate_left
                                    · intro w _
                                      go_simp
                                      all_goals with_reducible rfl
                                    try simp only [Act.put, List.setIfInBounds_toArray, List.set_cons_zero, List.set_cons_succ]
                                    refine wpAnyH_take (i := 17) (v := ?_) (arr_get _ 17 _ rfl) (by kernel_rfl) (by kernel_rfl) (by kernel_rfl) (fun _ _ _ h => h) (Or.inl ⟨by rfl, ?_⟩) trivial ?_
                                    rotate_left
                                    · intro w _
                                      go_simp
                                      all_goals with_reducible rfl
                                    try simp only [Act.put, List.setIfInBounds_toArray, List.set_cons_zero, List.set_cons_succ]
                                    refine wpAnyH_ready (rs := [18]) (by kernel_rfl) (by simp) ?_
                                    refine AllReadyH.cons (arr_get _ 18 _ rfl) (fun K hK => ?_) AllReadyH.nil
                                    go_simp
                                    refine hK.out _ _ trivial (fun _ => ?_)
                                    clear hK K
                                    try simp only [Act.put, List.setIfInBounds_toArray, List.set_cons_zero, List.set_cons_succ]
                                    refine wpAnyH_take (i := 19) (v := ?_) (arr_get _ 19 _ rfl) (by kernel_rfl) (by kernel_rfl) (by kernel_rfl) (fun _ _ _ h => h) (Or.inl ⟨by rfl, ?_⟩) trivial ?_
                                    rotate_left
                                    · intro w _
                                      go_simp
                                      all_goals with_reducible rfl
                                    try simp only [Act.put, List.setIfInBounds_toArray, List.set_cons_zero, List.set_cons_succ]
                                    refine wpAnyH_take (i := 20) (v := undef) (arr_get _ 20 _ rfl) (by kernel_rfl) (by kernel_rfl) (by kernel_rfl) (fun _ _ _ h => h) (Or.inr ⟨by rfl, rfl⟩) trivial ?_
                                    try simp only [Act.put, List.setIfInBounds_toArray, List.set_cons_zero, List.set_cons_succ]
                                    refine wpAnyH_take (i := 21) (v := undef) (arr_get _ 21 _ rfl) (by kernel_rfl) (by kernel_rfl) (by kernel_rfl) (fun _ _ _ h => h) (Or.inr ⟨by rfl, rfl⟩) trivial ?_
                                    try simp only [Act.put, List.setIfInBounds_toArray, List.set_cons_zero, List.set_cons_succ]
                                    refine wpAnyH_take (i := 22) (v := undef) (arr_get _ 22 _ rfl) (by kernel_rfl) (by kernel_rfl) (by kernel_rfl) (fun _ _ _ h => h) (Or.inr ⟨by rfl, rfl⟩) trivial ?_
                                    try simp only [Act.put, List.setIfInBounds_toArray, List.set_cons_zero, List.set_cons_succ]
                                    refine wpAnyH_ready (rs := [23]) (by kernel_rfl) (by simp) ?_
                                    refine AllReadyH.cons (arr_get _ 23 _ rfl) (fun K hK => ?_) AllReadyH.nil
                                    go_simp
                                    refine hK.out _ _ trivial (fun _ => ?_)
                                    clear hK K
                                    try simp only [Act.put, List.setIfInBounds_toArray, List.set_cons_zero, List.set_cons_succ]
                                    refine wpAnyH_take (i := 24) (v := ?_) (arr_get _ 24 _ rfl) (by kernel_rfl) (by kernel_rfl) (by kernel_rfl) (fun _ _ _ h => h) (Or.inl ⟨by rfl, ?_⟩) trivial ?_
                                    rotate_left
                                    · intro w _
                                      go_simp
                                      all_goals with_reducible rfl
                                    try simp only [Act.put, List.setIfInBounds_toArray, List.set_cons_zero, List.set_cons_succ]
                                    refine wpAnyH_take (i := 25) (v := ?_) (arr_get _ 25 _ rfl) (by kernel_rfl) (by kernel_rfl) (by kernel_rfl) (fun _ _ _ h => h) (Or.inl ⟨by rfl, ?_⟩) trivial ?_
                                    rotate_left
                                    · intro w _
                                      go_simp
                                      all_goals with_reducible rfl
                                    try simp only [Act.put, List.setIfInBounds_toArray, List.set_cons_zero, List.set_cons_succ]
                                    refine wpAnyH_take (i := 27) (v := ?_) (arr_get _ 27 _ rfl) (by kernel_rfl) (by kernel_rfl) (by kernel_rfl) (fun _ _ _ h => h) (Or.inl ⟨by rfl, ?_⟩) trivial ?_
                                    rotate_left
                                    · intro w _
                                      go_simp
                                      all_goals with_reducible rfl
                                    try simp only [Act.put, List.setIfInBounds_toArray, List.set_cons_zero, List.set_cons_succ]
                                    refine wpAnyH_ready (rs := [28]) (by kernel_rfl) (by simp) ?_
                                    refine AllReadyH.cons (arr_get _ 28 _ rfl) (fun K hK => ?_) AllReadyH.nil
                                    go_simp
                                    refine hK.out _ _ trivial (fun _ => ?_)
                                    clear hK K
                                    try simp only [Act.put, List.setIfInBounds_toArray, List.set_cons_zero, List.set_cons_succ]
                                    refine wpAnyH_done (by kernel_rfl) ?_ _
                                    all_goals
                                      go_wp2_with fail
                                      go_roundw
                                      case rel => exact ⟨c + 1, _, by omega, by go_num, HP5.out, hBx.set a b (by omega) (by omega) false, Gx.setCell (.inr hg) _⟩
                                      case measure => simp [intOf]; omega
                                  | true =>
                                    have HR2 := Lib.hid hr2
                                    rw [hr2] at c2
                                    cases hf2 : f.feeds c b with
                                    | true =>
                                      have HP5 := Lib.hid (show P4 (fdR f) f.coders.length ss a b (c + 1) (upd R a b true) by have := HN.out; rw [hr1, hf1, hr2, hf2] at this; simpa using this)
                                      have HFE2 := Lib.hid hf2
                                      clear hr1 hf1 hr2 hf2 HN
                                      refine wp_region_held_drew (S := fun _ => True) (by kernel_rfl) trivial (fun _ => ?_)
                                      refine wpAnyH_take (i := 0) (v := ?_) (arr_get _ 0 _ rfl) (by kernel_rfl) (by kernel_rfl) (by kernel_rfl) (fun _ _ _ h => h) (Or.inl ⟨by rfl, ?_⟩) trivial ?_
                                      rotate_left
                                      · intro w _
                                        go_simp
                                        all_goals with_reducible rfl
                                      try simp only [Act.put, List.setIfInBounds_toArray, List.set_cons_zero, List.set_cons_succ]
                                      refine wpAnyH_take (i := 1) (v := ?_) (arr_get _ 1 _ rfl) (by kernel_rfl) (by kernel_rfl) (by kernel_rfl) (fun _ _ _ h => h) (Or.inl ⟨by rfl, ?_⟩) trivial ?_
                                      rotate_left
                                      · intro w _
                                        go_simp
                                        all_goals with_reducible rfl
                                      try simp only [Act.put, List.setIfInBounds_toArray, List.set_cons_zero, List.set_cons_succ]
                                      refine wpAnyH_take (i := 2) (v := ?_) (arr_get _ 2 _ rfl) (by kernel_rfl) (by kernel_rfl) (by kernel_rfl) (fun _ _ _ h => h) (Or.inl ⟨by rfl, ?_⟩) trivial ?_
                                      rotate_left
                                      · intro w _
                                        go_simp
                                        all_goals with_reducible rfl
                                      try simp only [Act.put, List.setIfInBounds_toArray, List.set_cons_zero, List.set_cons_succ]
                                      refine wpAnyH_take (i := 3) (v := ?_) (arr_get _ 3 _ rfl) (by kernel_rfl) (by kernel_rfl) (by kernel_rfl) (fun _ _ _ h => h) (Or.inl ⟨by rfl, ?_⟩) trivial ?_
                                      rotate_left
                                      · intro w _
                                        go_simp
                                        all_goals with_reducible rfl
                                      try simp only [Act.put, List.setIfInBounds_toArray, List.set_cons_zero, List.set_cons_succ]
                                      refine wpAnyH_take (i := 4) (v := ?_) (arr_get _ 4 _ rfl) (by kernel_rfl) (by kernel_rfl) (by kernel_rfl) (fun _ _ _ h => h) (Or.inl ⟨by rfl, ?_⟩) trivial ?_
                                      rotate_left
                                      · intro w _
                                        go_simp
                                        all_goals with_reducible rfl
                                      try simp only [Act.put, List.setIfInBounds_toArray, List.set_cons_zero, List.set_cons_succ]
                                      refine wpAnyH_take (i := 5) (v := ?_) (arr_get _ 5 _ rfl) (by kernel_rfl) (by kernel_rfl) (by kernel_rfl) (fun _ _ _ h => h) (Or.inl ⟨by rfl, ?_⟩) trivial ?_
                                      rotate_left
                                      · intro w _
                                        go_simp
                                        all_goals with_reducible rfl
                                      try simp only [Act.put, List.setIfInBounds_toArray, List.set_cons_zero, List.set_cons_succ]
                                      refine wpAnyH_take (i := 26) (v := ?_) (arr_get _ 26 _ rfl) (by kernel_rfl) (by kernel_rfl) (by kernel_rfl) (fun _ _ _ h => h) (Or.inl ⟨by rfl, ?_⟩) trivial ?_
                                      rotate_left
                                      · intro w _
                                        go_simp
                                        all_goals with_reducible rfl
                                      try simp only [Act.put, List.setIfInBounds_toArray, List.set_cons_zero, List.set_cons_succ]
                                      refine wpAnyH_ready (rs := [6]) (by kernel_rfl) (by simp) ?_
                                      refine AllReadyH.cons (arr_get _ 6 _ rfl) (fun K hK => ?_) AllReadyH.nil
                                      go_simp
                                      refine hK.out _ _ trivial (fun _ => ?_)
                                      clear hK K
                                      try simp only [Act.put, List.setIfInBounds_toArray, List.set_cons_zero, List.set_cons_succ]
                                      refine wpAnyH_take (i := 7) (v := ?_) (arr_get _ 7 _ rfl) (by kernel_rfl) (by kernel_rfl) (by kernel_rfl) (fun _ _ _ h => h) (Or.inl ⟨by rfl, ?_⟩) trivial ?_
                                      rotate_left
                                      · intro w _
                                        go_simp
                                        all_goals with_reducible rfl
                                      try simp only [Act.put, List.setIfInBounds_toArray, List.set_cons_zero, List.set_cons_succ]
                                      refine wpAnyH_take (i := 9) (v := ?_) (arr_get _ 9 _ rfl) (by kernel_rfl) (by kernel_rfl) (by kernel_rfl) (fun _ _ _ h => h) (Or.inl ⟨by rfl, ?_⟩) trivial ?_
                                      rotate_left
                                      · intro w _
                                        go_simp
                                        all_goals with_reducible rfl
                                      try simp only [Act.put, List.setIfInBounds_toArray, List.set_cons_zero, List.set_cons_succ]
                                      refine wpAnyH_take (i := 10) (v := ?_) (arr_get _ 10 _ rfl) (by kernel_rfl) (by kernel_rfl) (by kernel_rfl) (fun _ _ _ h => h) (Or.inl ⟨by rfl, ?_⟩) trivial ?_
                                      rotate_left
                                      · intro w _
                                        go_simp
                                        all_goals with_reducible rfl
                                      try simp only [Act.put, List.setIfInBounds_toArray, List.set_cons_zero, List.set_cons_succ]
                                      refine wpAnyH_ready (rs := [8]) (by kernel_rfl) (by simp) ?_
                                      refine AllReadyH.cons (arr_get _ 8 _ rfl) (fun K hK => ?_) AllReadyH.nil
                                      go_simp
                                      refine hK.out _ _ trivial (fun _ => ?_)
                                      clear hK K
                                      try simp only [Act.put, List.setIfInBounds_toArray, List.set_cons_zero, List.set_cons_succ]
                                      refine wpAnyH_ready (rs := [11]) (by kernel_rfl) (by simp) ?_
                                      refine AllReadyH.cons (arr_get _ 11 _ rfl) (fun K hK => ?_) AllReadyH.nil
                                      go_simp
                                      (go_at_call 38; refine (rfeeds_any _ _ f (HF.out.fr (F0.trans0 F.drew)) s1 s2 a b hlb).mono ?_; rw [HFE1.out]; rintro e wx ⟨rfl, Fx⟩; have Gx := F.drew.trans0 Fx; have hBx := (hB.fr (Fr.refl [] wr).drew (by simp)).fr Fx (by simp); obtain ⟨x0, x1, x2, x3, x4, x5⟩ := HBX.out _ Gx; have xc1 := hBx.2.2 a b (by omega) (by omega); have xc2 := hBx.2.2 a c (by omega) (by omega); rw [HR1.out] at xc1; rw [HR2.out] at xc2; have xf := hBx.2.1 (a * 8 + b))
                                      refine hK.out _ _ trivial (fun _ => ?_)
                                      clear hK K
                                      try simp only [Act.put, List.setIfInBounds_toArray, List.set_cons_zero, List.set_cons_succ]
                                      refine wpAnyH_take (i := 12) (v := ?_) (arr_get _ 12 _ rfl) (by kernel_rfl) (by kernel_rfl) (by kernel_rfl) (fun _ _ _ h => h) (Or.inl ⟨by rfl, ?_⟩) trivial ?_
                                      rotate_left
                                      · intro w _
                                        go_simp
                                        all_goals with_reducible rfl
                                      try simp only [Act.put, List.setIfInBounds_toArray, List.set_cons_zero, List.set_cons_succ]
                                      refine wpAnyH_take (i := 13) (v := ?_) (arr_get _ 13 _ rfl) (by kernel_rfl) (by kernel_rfl) (by kernel_rfl) (fun _ _ _ h => h) (Or.inl ⟨by rfl, ?_⟩) trivial ?_
                                      rotate_left
                                      · intro w _
                                        go_simp
                                        all_goals with_reducible rfl
                                      try simp only [Act.put, List.setIfInBounds_toArray, List.set_cons_zero, List.set_cons_succ]
                                      refine wpAnyH_take (i := 14) (v := ?_) (arr_get _ 14 _ rfl) (by kernel_rfl) (by kernel_rfl) (by kernel_rfl) (fun _ _ _ h => h) (Or.inl ⟨by rfl, ?_⟩) trivial ?_
                                      rotate_left
                                      · intro w _
                                        go_simp
                                        all_goals with_reducible rfl
                                      try simp only [Act.put, List.setIfInBounds_toArray, List.set_cons_zero, List.set_cons_succ]
                                      refine wpAnyH_take (i := 15) (v := ?_) (arr_get _ 15 _ rfl) (by kernel_rfl) (by kernel_rfl) (by kernel_rfl) (fun _ _ _ h => h) (Or.inl ⟨by rfl, ?_⟩) trivial ?_
                                      rotate_left
                                      · intro w _
                                        go_simp
                                        all_goals with_reducible rfl
                                      try simp only [Act.put, List.setIfInBounds_toArray, List.set_cons_zero, List.set_cons_succ]
                                      refine wpAnyH_take (i := 16) (v := ?_) (arr_get _ 16 _ rfl) (by kernel_rfl) (by kernel_rfl) (by kernel_rfl) (fun _ _ _ h => h) (Or.inl ⟨by rfl, ?_⟩) trivial ?_
                                      rotate_left
                                      · intro w _
                                        go_simp
                                        all_goals with_reducible rfl
                                      try simp only [Act.put, List.setIfInBounds_toArray, List.set_cons_zero, List.set_cons_succ]
                                      refine wpAnyH_take (i := 17) (v := ?_) (arr_get _ 17 _ rfl) (by kernel_rfl) (by kernel_rfl) (by kernel_rfl) (fun _ _ _ h => h) (Or.inl ⟨by rfl, ?_⟩) trivial ?_
                                      rotate_left
                                      · intro w _
                                        go_simp
                                        all_goals with_reducible rfl
                                      try simp only [Act.put, List.setIfInBounds_toArray, List.set_cons_zero, List.set_cons_succ]
                                      refine wpAnyH_ready (rs := [18]) (by kernel_rfl) (by simp) ?_
                                      refine AllReadyH.cons (arr_get _ 18 _ rfl) (fun K hK => ?_) AllReadyH.nil
                                      go_simp
                                      refine hK.out _ _ trivial (fun _ => ?_)
                                      clear hK K
                                      try simp only [Act.put, List.setIfInBounds_toArray, List.set_cons_zero, List.set_cons_succ]
                                      refine wpAnyH_take (i := 19) (v := ?_) (arr_get _ 19 _ rfl) (by kernel_rfl) (by kernel_rfl) (by kernel_rfl) (fun _ _ _ h => h) (Or.inl ⟨by rfl, ?_⟩) trivial ?_
                                      rotate_left
                                      · intro w _
                                        go_simp
                                        all_goals with_reducible rfl
                                      try simp only [Act.put, List.setIfInBounds_toArray, List.set_cons_zero, List.set_cons_succ]
                                      refine wpAnyH_take (i := 21) (v := ?_) (arr_get _ 21 _ rfl) (by kernel_rfl) (by kernel_rfl) (by kernel_rfl) (fun _ _ _ h => h) (Or.inl ⟨by rfl, ?_⟩) trivial ?_
                                      rotate_left
                                      · intro w _
                                        go_simp
                                        all_goals with_reducible rfl
                                      try simp only [Act.put, List.setIfInBounds_toArray, List.set_cons_zero, List.set_cons_succ]
                                      refine wpAnyH_take (i := 22) (v := ?_) (arr_get _ 22 _ rfl) (by kernel_rfl) (by kernel_rfl) (by kernel_rfl) (fun _ _ _ h => h) (Or.inl ⟨by rfl, ?_⟩) trivial ?_
                                      rotate_left
                                      · intro w _
                                        go_simp
                                        all_goals with_reducible rfl
                                      try simp only [Act.put, List.setIfInBounds_toArray, List.set_cons_zero, List.set_cons_succ]
                                      refine wpAnyH_ready (rs := [20]) (by kernel_rfl) (by simp) ?_
                                      refine AllReadyH.cons (arr_get _ 20 _ rfl) (fun K hK => ?_) AllReadyH.nil
                                      go_simp
                                      refine hK.out _ _ trivial (fun _ => ?_)
                                      clear hK K
                                      try simp only [Act.put, List.setIfInBounds_toArray, List.set_cons_zero, List.set_cons_succ]
                                      refine wpAnyH_ready (rs := [23]) (by kernel_rfl) (by simp) ?_
                                      refine AllReadyH.cons (arr_get _ 23 _ rfl) (fun K hK => ?_) AllReadyH.nil
                                      go_simp
                                      (go_at_call 38; refine (rfeeds_any _ _ f (HF.out.fr (F0.trans0 Gx)) s1 s2 c b hlb).mono ?_; rw [HFE2.out]; rintro e wy ⟨rfl, Fy⟩; have Gy := Gx.trans0 Fy; have hBy := hBx.fr Fy (by simp); obtain ⟨y0, y1, y2, y3, y4, y5⟩ := HBX.out _ Gy; have yc1 := hBy.2.2 a b (by omega) (by omega); rw [HR1.out] at yc1; have yf := hBy.2.1 (a * 8 + b))
                                      refine hK.out _ _ trivial (fun _ => ?_)
                                      clear hK K
                                      try simp only [Act.put, List.setIfInBounds_toArray, List.set_cons_zero, List.set_cons_succ]
                                      refine wpAnyH_take (i := 24) (v := ?_) (arr_get _ 24 _ rfl) (by kernel_rfl) (by kernel_rfl) (by kernel_rfl) (fun _ _ _ h => h) (Or.inl ⟨by rfl, ?_⟩) trivial ?_
                                      rotate_left
                                      · intro w _
                                        go_simp
                                        all_goals with_reducible rfl
                                      try simp only [Act.put, List.setIfInBounds_toArray, List.set_cons_zero, List.set_cons_succ]
                                      refine wpAnyH_take (i := 25) (v := ?_) (arr_get _ 25 _ rfl) (by kernel_rfl) (by kernel_rfl) (by kernel_rfl) (fun _ _ _ h => h) (Or.inl ⟨by rfl, ?_⟩) trivial ?_
                                      rotate_left
                                      · intro w _
                                        go_simp
                                        all_goals with_reducible rfl
                                      try simp only [Act.put, List.setIfInBounds_toArray, List.set_cons_zero, List.set_cons_succ]
                                      refine wpAnyH_take (i := 27) (v := ?_) (arr_get _ 27 _ rfl) (by kernel_rfl) (by kernel_rfl) (by kernel_rfl) (fun _ _ _ h => h) (Or.inl ⟨by rfl, ?_⟩) trivial ?_
                                      rotate_left
                                      · intro w _
                                        go_simp
                                        all_goals with_reducible rfl
                                      try simp only [Act.put, List.setIfInBounds_toArray, List.set_cons_zero, List.set_cons_succ]
                                      refine wpAnyH_ready (rs := [28]) (by kernel_rfl) (by simp) ?_
                                      refine AllReadyH.cons (arr_get _ 28 _ rfl) (fun K hK => ?_) AllReadyH.nil
                                      go_simp
                                      refine hK.out _ _ trivial (fun _ => ?_)
                                      clear hK K
                                      try simp only [Act.put, List.setIfInBounds_toArray, List.set_cons_zero, List.set_cons_succ]
                                      refine wpAnyH_done (by kernel_rfl) ?_ _
                                      all_goals
                                        go_wp2_with fail
                                        go_roundw
                                        case rel => exact ⟨c + 1, _, by omega, by go_num, HP5.out, hBy.set a b (by omega) (by omega) true, Gy.setCell (.inr hg) _⟩
                                        case measure => simp [intOf]; omega
                                    | false =>
                                      have HP5 := Lib.hid (show P4 (fdR f) f.coders.length ss a b (c + 1) (upd R a b false) by have := HN.out; rw [hr1, hf1, hr2, hf2] at this; simpa using this)
                                      have HFE2 := Lib.hid hf2
                                      clear hr1 hf1 hr2 hf2 HN
                                      refine wp_region_held_drew (S := fun _ => True) (by kernel_rfl) trivial (fun _ => ?_)
                                      refine wpAnyH_take (i := 0) (v := ?_) (arr_get _ 0 _ rfl) (by kernel_rfl) (by kernel_rfl) (by kernel_rfl) (fun _ _ _ h => h) (Or.inl ⟨by rfl, ?_⟩) trivial ?_
                                      rotate_left
                                      · intro w _
                                        go_simp
                                        all_goals with_reducible rfl
                                      try simp only [Act.put, List.setIfInBounds_toArray, List.set_cons_zero, List.set_cons_succ]
                                      refine wpAnyH_take (i := 1) (v := ?_) (arr_get _ 1 _ rfl) (by kernel_rfl) (by kernel_rfl) (by kernel_rfl) (fun _ _ _ h => h) (Or.inl ⟨by rfl, ?_⟩) trivial ?_
                                      rotate_left
                                      · intro w _
                                        go_simp
                                        all_goals with_reducible rfl
                                      try simp only [Act.put, List.setIfInBounds_toArray, List.set_cons_zero, List.set_cons_succ]
                                      refine wpAnyH_take (i := 2) (v := ?_) (arr_get _ 2 _ rfl) (by kernel_rfl) (by kernel_rfl) (by kernel_rfl) (fun _ _ _ h => h) (Or.inl ⟨by rfl, ?_⟩) trivial ?_
                                      rotate_left
                                      · intro w _
                                        go_simp
                                        all_goals with_reducible rfl
                                      try simp only [Act.put, List.setIfInBounds_toArray, List.set_cons_zero, List.set_cons_succ]
                                      refine wpAnyH_take (i := 3) (v := ?_) (arr_get _ 3 _ rfl) (by kernel_rfl) (by kernel_rfl) (by kernel_rfl) (fun _ _ _ h => h) (Or.inl ⟨by rfl, ?_⟩) trivial ?_
                                      rotate_left
                                      · intro w _
                                        go_simp
                                        all_goals with_reducible rfl
                                      try simp only [Act.put, List.setIfInBounds_toArray, List.set_cons_zero, List.set_cons_succ]
                                      refine wpAnyH_take (i := 4) (v := ?_) (arr_get _ 4 _ rfl) (by kernel_rfl) (by kernel_rfl) (by kernel_rfl) (fun _ _ _ h => h) (Or.inl ⟨by rfl, ?_⟩) trivial ?_
                                      rotate_left
                                      · intro w _
                                        go_simp
                                        all_goals with_reducible rfl
                                      try simp only [Act.put, List.setIfInBounds_toArray, List.set_cons_zero, List.set_cons_succ]
                                      refine wpAnyH_take (i := 5) (v := ?_) (arr_get _ 5 _ rfl) (by kernel_rfl) (by kernel_rfl) (by kernel_rfl) (fun _ _ _ h => h) (Or.inl ⟨by rfl, ?_⟩) trivial ?_
                                      rotate_left
                                      · intro w _
                                        go_simp
                                        all_goals with_reducible rfl
                                      try simp only [Act.put, List.setIfInBounds_toArray, List.set_cons_zero, List.set_cons_succ]
                                      refine wpAnyH_take (i := 26) (v := ?_) (arr_get _ 26 _ rfl) (by kernel_rfl) (by kernel_rfl) (by kernel_rfl) (fun _ _ _ h => h) (Or.inl ⟨by rfl, ?_⟩) trivial ?_
                                      rotate_left
                                      · intro w _
                                        go_simp
                                        all_goals with_reducible rfl
                                      try simp only [Act.put, List.setIfInBounds_toArray, List.set_cons_zero, List.set_cons_succ]
                                      refine wpAnyH_ready (rs := [6]) (by kernel_rfl) (by simp) ?_
                                      refine AllReadyH.cons (arr_get _ 6 _ rfl) (fun K hK => ?_) AllReadyH.nil
                                      go_simp
                                      refine hK.out _ _ trivial (fun _ => ?_)
                                      clear hK K
                                      try simp only [Act.put, List.setIfInBounds_toArray, List.set_cons_zero, List.set_cons_succ]
                                      refine wpAnyH_take (i := 7) (v := ?_) (arr_get _ 7 _ rfl) (by kernel_rfl) (by kernel_rfl) (by kernel_rfl) (fun _ _ _ h => h) (Or.inl ⟨by rfl, ?_⟩) trivial ?_
                                      rotate_left
                                      · intro w _
                                        go_simp
                                        all_goals with_reducible rfl
                                      try simp only [Act.put, List.setIfInBounds_toArray, List.set_cons_zero, List.set_cons_succ]
                                      refine wpAnyH_take (i := 9) (v := ?_) (arr_get _ 9 _ rfl) (by kernel_rfl) (by kernel_rfl) (by kernel_rfl) (fun _ _ _ h => h) (Or.inl ⟨by rfl, ?_⟩) trivial ?_
                                      rotate_left
                                      · intro w _
                                        go_simp
                                        all_goals with_reducible rfl
                                      try simp only [Act.put, List.setIfInBounds_toArray, List.set_cons_zero, List.set_cons_succ]
                                      refine wpAnyH_take (i := 10) (v := ?_) (arr_get _ 10 _ rfl) (by kernel_rfl) (by kernel_rfl) (by kernel_rfl) (fun _ _ _ h => h) (Or.inl ⟨by rfl, ?_⟩) trivial ?_
                                      rotate_left
                                      · intro w _
                                        go_simp
                                        all_goals with_reducible rfl
                                      try simp only [Act.put, List.setIfInBounds_toArray, List.set_cons_zero, List.set_cons_succ]
                                      refine wpAnyH_ready (rs := [8]) (by kernel_rfl) (by simp) ?_
                                      refine AllReadyH.cons (arr_get _ 8 _ rfl) (fun K hK => ?_) AllReadyH.nil
                                      go_simp
                                      refine hK.out _ _ trivial (fun _ => ?_)
                                      clear hK K
                                      try simp only [Act.put, List.setIfInBounds_toArray, List.set_cons_zero, List.set_cons_succ]
                                      refine wpAnyH_ready (rs := [11]) (by kernel_rfl) (by simp) ?_
                                      refine AllReadyH.cons (arr_get _ 11 _ rfl) (fun K hK => ?_) AllReadyH.nil
                                      go_simp
                                      (go_at_call 38; refine (rfeeds_any _ _ f (HF.out.fr (F0.trans0 F.drew)) s1 s2 a b hlb).mono ?_; rw [HFE1.out]; rintro e wx ⟨rfl, Fx⟩; have Gx := F.drew.trans0 Fx; have hBx := (hB.fr (Fr.refl [] wr).drew (by simp)).fr Fx (by simp); obtain ⟨x0, x1, x2, x3, x4, x5⟩ := HBX.out _ Gx; have xc1 := hBx.2.2 a b (by omega) (by omega); have xc2 := hBx.2.2 a c (by omega) (by omega); rw [HR1.out] at xc1; rw [HR2.out] at xc2; have xf := hBx.2.1 (a * 8 + b))
                                      refine hK.out _ _ trivial (fun _ => ?_)
                                      clear hK K
                                      try simp only [Act.put, List.setIfInBounds_toArray, List.set_cons_zero, List.set_cons_succ]
                                      refine wpAnyH_take (i := 12) (v := ?_) (arr_get _ 12 _ rfl) (by kernel_rfl) (by kernel_rfl) (by kernel_rfl) (fun _ _ _ h => h) (Or.inl ⟨by rfl, ?_⟩) trivial ?_
                                      rotate_left
                                      · intro w _
                                        go_simp
                                        all_goals with_reducible rfl
                                      try simp only [Act.put, List.setIfInBounds_toArray, List.set_cons_zero, List.set_cons_succ]
                                      refine wpAnyH_take (i := 13) (v := ?_) (arr_get _ 13 _ rfl) (by kernel_rfl) (by kernel_rfl) (by kernel_rfl) (fun _ _ _ h => h) (Or.inl ⟨by rfl, ?_⟩) trivial ?_
                                      rotate_left
                                      · intro w _
                                        go_simp
                                        all_goals with_reducible rfl
                                      try simp only [Act.put, List.setIfInBounds_toArray, List.set_cons_zero, List.set_cons_succ]
                                      refine wpAnyH_take (i := 14) (v := ?_) (arr_get _ 14 _ rfl) (by kernel_rfl) (by kernel_rfl) (by kernel_rfl) (fun _ _ _ h => h) (Or.inl ⟨by rfl, ?_⟩) trivial ?_
                                      rotate_left
                                      · intro w _
                                        go_simp
                                        all_goals with_reducible rfl
                                      try simp only [Act.put, List.setIfInBounds_toArray, List.set_cons_zero, List.set_cons_succ]
                                      refine wpAnyH_take (i := 15) (v := ?_) (arr_get _ 15 _ rfl) (by kernel_rfl) (by kernel_rfl) (by kernel_rfl) (fun _ _ _ h => h) (Or.inl ⟨by rfl, ?_⟩) trivial ?_
                                      rotate_left
                                      · intro w _
                                        go_simp
                                        all_goals with_reducible rfl
                                      try simp only [Act.put, List.setIfInBounds_toArray, List.set_cons_zero, List.set_cons_succ]
                                      refine wpAnyH_take (i := 16) (v := ?_) (arr_get _ 16 _ rfl) (by kernel_rfl) (by kernel_rfl) (by kernel_rfl) (fun _ _ _ h => h) (Or.inl ⟨by rfl, ?_⟩) trivial ?_
                                      rotate_left
                                      · intro w _
                                        go_simp
                                        all_goals with_reducible rfl
                                      try simp only [Act.put, List.setIfInBounds_toArray, List.set_cons_zero, List.set_cons_succ]
                                      refine wpAnyH_take (i := 17) (v := ?_) (arr_get _ 17 _ rfl) (by kernel_rfl) (by kernel_rfl) (by kernel_rfl) (fun _ _ _ h => h) (Or.inl ⟨by rfl, ?_⟩) trivial ?_
                                      rotate_left
                                      · intro w _
                                        go_simp
                                        all_goals with_reducible rfl
                                      try simp only [Act.put, List.setIfInBounds_toArray, List.set_cons_zero, List.set_cons_succ]
                                      refine wpAnyH_ready (rs := [18]) (by kernel_rfl) (by simp) ?_
                                      refine AllReadyH.cons (arr_get _ 18 _ rfl) (fun K hK => ?_) AllReadyH.nil
                                      go_simp
                                      refine hK.out _ _ trivial (fun _ => ?_)
                                      clear hK K
                                      try simp only [Act.put, List.setIfInBounds_toArray, List.set_cons_zero, List.set_cons_succ]
                                      refine wpAnyH_take (i := 19) (v := ?_) (arr_get _ 19 _ rfl) (by kernel_rfl) (by kernel_rfl) (by kernel_rfl) (fun _ _ _ h => h) (Or.inl ⟨by rfl, ?_⟩) trivial ?_
                                      rotate_left
                                      · intro w _
                                        go_simp
                                        all_goals with_reducible rfl
                                      try simp only [Act.put, List.setIfInBounds_toArray, List.set_cons_zero, List.set_cons_succ]
                                      refine wpAnyH_take (i := 21) (v := ?_) (arr_get _ 21 _ rfl) (by kernel_rfl) (by kernel_rfl) (by kernel_rfl) (fun _ _ _ h => h) (Or.inl ⟨by rfl, ?_⟩) trivial ?_
                                      rotate_left
                                      · intro w _
                                        go_simp
                                        all_goals with_reducible rfl
                                      try simp only [Act.put, List.setIfInBounds_toArray, List.set_cons_zero, List.set_cons_succ]
                                      refine wpAnyH_take (i := 22) (v := ?_) (arr_get _ 22 _ rfl) (by kernel_rfl) (by kernel_rfl) (by kernel_rfl) (fun _ _ _ h => h) (Or.inl ⟨by rfl, ?_⟩) trivial ?_
                                      rotate_left
                                      · intro w _
                                        go_simp
                                        all_goals with_reducible rfl
                                      try simp only [Act.put, List.setIfInBounds_toArray, List.set_cons_zero, List.set_cons_succ]
                                      refine wpAnyH_ready (rs := [20]) (by kernel_rfl) (by simp) ?_
                                      refine AllReadyH.cons (arr_get _ 20 _ rfl) (fun K hK => ?_) AllReadyH.nil
                                      go_simp
                                      refine hK.out _ _ trivial (fun _ => ?_)
                                      clear hK K
                                      try simp only [Act.put, List.setIfInBounds_toArray, List.set_cons_zero, List.set_cons_succ]
                                      refine wpAnyH_ready (rs := [23]) (by kernel_rfl) (by simp) ?_
                                      refine AllReadyH.cons (arr_get _ 23 _ rfl) (fun K hK => ?_) AllReadyH.nil
                                      go_simp
                                      (go_at_call 38; refine (rfeeds_any _ _ f (HF.out.fr (F0.trans0 Gx)) s1 s2 c b hlb).mono ?_; rw [HFE2.out]; rintro e wy ⟨rfl, Fy⟩; have Gy := Gx.trans0 Fy; have hBy := hBx.fr Fy (by simp); obtain ⟨y0, y1, y2, y3, y4, y5⟩ := HBX.out _ Gy; have yc1 := hBy.2.2 a b (by omega) (by omega); rw [HR1.out] at yc1; have yf := hBy.2.1 (a * 8 + b))
                                      refine hK.out _ _ trivial (fun _ => ?_)
                                      clear hK K
                                      try simp only [Act.put, List.setIfInBounds_toArray, List.set_cons_zero, List.set_cons_succ]
                                      refine wpAnyH_take (i := 24) (v := ?_) (arr_get _ 24 _ rfl) (by kernel_rfl) (by kernel_rfl) (by kernel_rfl) (fun _ _ _ h => h) (Or.inl ⟨by rfl, ?_⟩) trivial ?_
                                      rotate_left
                                      · intro w _
                                        go_simp
                                        all_goals with_reducible rfl
                                      try simp only [Act.put, List.setIfInBounds_toArray, List.set_cons_zero, List.set_cons_succ]
                                      refine wpAnyH_take (i := 25) (v := ?_) (arr_get _ 25 _ rfl) (by kernel_rfl) (by kernel_rfl) (by kernel_rfl) (fun _ _ _ h => h) (Or.inl ⟨by rfl, ?_⟩) trivial ?_
                                      rotate_left
                                      · intro w _
                                        go_simp
                                        all_goals with_reducible rfl
                                      try simp only [Act.put, List.setIfInBounds_toArray, List.set_cons_zero, List.set_cons_succ]
                                      refine wpAnyH_take (i := 27) (v := ?_) (arr_get _ 27 _ rfl) (by kernel_rfl) (by kernel_rfl) (by kernel_rfl) (fun _ _ _ h => h) (Or.inl ⟨by rfl, ?_⟩) trivial ?_
                                      rotate_left
                                      · intro w _
                                        go_simp
                                        all_goals with_reducible rfl
                                      try simp only [Act.put, List.setIfInBounds_toArray, List.set_cons_zero, List.set_cons_succ]
                                      refine wpAnyH_ready (rs := [28]) (by kernel_rfl) (by simp) ?_
                                      refine AllReadyH.cons (arr_get _ 28 _ rfl) (fun K hK => ?_) AllReadyH.nil
                                      go_simp
                                      refine hK.out _ _ trivial (fun _ => ?_)
                                      clear hK K
                                      try simp only [Act.put, List.setIfInBounds_toArray, List.set_cons_zero, List.set_cons_succ]
                                      refine wpAnyH_done (by kernel_rfl) ?_ _
                                      all_goals
                                        go_wp2_with fail
                                        go_roundw
                                        case rel => exact ⟨c + 1, _, by omega, by go_num, HP5.out, hBy.set a b (by omega) (by omega) false, Gy.setCell (.inr hg) _⟩
                                        case measure => simp [intOf]; omega
                            · have hce : c = f.coders.length := by omega
                              have HP := Lib.hid (show P3 (fdR f) f.coders.length ss a (b + 1) R from P3.next (fun x hx => fdR_lt hx) hla (hce ▸ hP))
                              clear hP hce
                              go_wp2_with fail
                              go_roundw
                              case rel => exact ⟨b + 1, R, by omega, by go_num, HP.out, hB, F⟩
                              case measure => simp [intOf]; omega
                        · have hbe : b = f.coders.length := by omega
                          have HP := Lib.hid (show P2 (fdR f) f.coders.length ss (a + 1) R from P2.next (hbe ▸ hP))
                          clear hP hbe
                          go_wp2_with fail
                          go_roundw
                          case rel => exact ⟨a + 1, R, by omega, by go_num, HP.out, hB, F⟩
                          case measure => simp [intOf]; omega
                    · have hae : a = f.coders.length := by omega
                      have HP := Lib.hid (show P1 (fdR f) f.coders.length (ss + 1) R from P1.next (hae ▸ hP))
                      clear hP hae
                      go_wp2_with fail
                      go_roundw
                      case rel => exact ⟨ss + 1, R, by omega, by go_num, HP.out, hB, F⟩
                      case measure => simp [intOf]; omega
                · have hse : ss = f.coders.length := by omega
                  have HP := Lib.hid (show P1 (fdR f) f.coders.length f.coders.length R from hse ▸ hP)
                  clear hP hse
                  go_wp2_with fail
                  clear hlt hss
                  go_loopw [19] (fun i w5 => ∃ a : Nat, a ≤ f.coders.length ∧ i = .int .i64 a ∧ (∀ a', a' < a → R a' a' = false) ∧ w5 = wr) (fun i _ => f.coders.length - (intOf i).toNat)
                  case atStart => exact ⟨0, Nat.zero_le _, rfl, fun _ h => by omega, rfl⟩
                  case round =>
                    obtain ⟨a, haa, rfl, hR, rfl⟩ := hrel
                    by_cases hla : a < f.coders.length
                    · have cell := hB.2.2 a a (by omega) (by omega)
                      have ha8 : (a : Int) < 8 := by omega
                      have HR := Lib.hid hR
                      clear hR
                      cases hraa : R a a with
                      | true =>
                        have HN := Lib.hid (show ¬ RHangs f np from fun H => H.round (HP.out.circle ⟨a, hla, hraa⟩ (fun c _ x hx => fdR_lt hx)))
                        rw [hraa] at cell
                        clear hraa
                        go_wp2_with fail
                        go_ret
                        exact ⟨false, rfl, by simp [HN.out], F0.trans0 F⟩
                      | false =>
                        have HRn := Lib.hid (show ∀ a', a' < a + 1 → R a' a' = false from fun a' h => by
                          by_cases e : a' = a
                          · rw [e]; exact hraa
                          · exact HR.out a' (by omega))
                        rw [hraa] at cell
                        clear hraa
                        go_wp2_with fail
                        go_roundw
                        case rel => exact ⟨a + 1, by omega, by go_num, HRn.out, by trivial⟩
                        case measure => simp [intOf]; omega
                    · have HY := Lib.hid (show RHangs f np from ⟨hn0, q2', HQ.out.1, HQ.out.2.1, HQ.out.2.2, HI.out, by rw [HAll.out]; exact HQa.out, fun i hi => HC.out i (by rw [← HAll.out]; exact hi), HO.out, HD.out, HP.out.none (fun a' h => hR a' (by omega))⟩)
                      clear hR
                      go_wp2_with fail
                      go_ret
                      exact ⟨true, rfl, by simp [HY.out], F0.trans0 F⟩

end Go.Proofs.Ytakpeffpocjgoaa
