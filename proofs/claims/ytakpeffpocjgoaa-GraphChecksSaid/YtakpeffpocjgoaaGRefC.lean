/- Contract: the reference's Check. -/
import Derived.Test.YtakpeffpocjgoaaGCheck
import Derived.Test.YtakpeffpocjgoaaGRefF
import Derived.Test.YtakpeffpocjgoaaGRefQ
import Derived.Deep.RegionHeld3
namespace Go.Proofs.Ytakpeffpocjgoaa
open Go.RowKit

/-- The contract of the reference's hangs. -/
def RHangsOk : Prop := ∀ (w : World) (v pv : Value) (f : Folder), Fo w v f → Small f → ∀ np, (∃ ao cap, pv = .slice ao np cap) →
  Calls Try.prog 23 #[v, pv] w (Tells (Hangs f np) w)

set_option maxRecDepth 100000 in
set_option maxHeartbeats 4000000 in
theorem rcheck_any (hrh : RHangsOk) (w : World) (v pv : Value) (f : Folder) (hf : Fo w v f) (hs : Small f) (np : List UInt64) (hp : Sl w pv (u64v np)) (hnp : np.length ≤ 400) :
    Calls Try.prog 10 #[v, pv] w fun e w' => e = .returned (.int .i64 (codeP f np)) ∧ Fr [] w w' := by
  have HF := Lib.hid hf
  obtain ⟨pao, pcap, rfl, -, -, po⟩ := hp.out
  obtain ⟨cv, bv', p, s, h, k0, rfl, hV⟩ := hf
  obtain ⟨ao, cap, rfl, -, -, o⟩ := hV.co.out
  obtain ⟨aos, caps, rfl, -, -, os⟩ := hV.si.out
  simp only [u64v_length] at *
  have HS := Lib.hid hs
  have HRH := Lib.hid hrh
  have hn := hs.co
  have hn2 := hs.si
  obtain ⟨wB, hwB⟩ : ∃ wB, wB = w.alloc (.cells #[.slice ao f.coders.length cap, bv', p, .slice aos f.sizes.length caps, h, k0] 30) := ⟨_, rfl⟩
  have F0 : Fr [] w wB := hwB ▸ (Fr.refl _ _).alloc _
  have HBX := Lib.hid (fun wx (F : Fr [] wB wx) => box6 (hwB ▸ F : Fr [] (w.alloc (.cells #[.slice ao f.coders.length cap, bv', p, .slice aos f.sizes.length caps, h, k0] 30)) wx))
  clear hV hp hs hrh
  by_cases hH : Hangs f np.length
  rotate_left
  · have HN := Lib.hid (codeP_graph hH)
    have HH := Lib.hid hH
    clear hH o os po
    go_enter Try.func10, Try.ntmps10
    go_wp2_with (go_at_call 23; refine (HRH.out _ _ _ f (HF.out.fr (hwB ▸ F0)) HS.out np.length ⟨_, _, rfl⟩).mono ?_; rintro e w1 ⟨r, rfl, hr, F1⟩; obtain rfl : r = false := Bool.eq_false_iff.2 (fun hh => HH.out (hr.1 hh)); clear hr)
    go_ret
    exact ⟨by rw [HN.out]; rfl, F0.trans0 (hwB ▸ F1)⟩
  have HH := Lib.hid hH
  have HFed := Lib.hid (fun k hk => hH.fed k hk)
  clear hH
  go_enter Try.func10, Try.ntmps10
  go_wp2_with fail
  rw [← hwB]
  clear hwB
  refine (HRH.out _ _ _ f (HF.out.fr F0) HS.out np.length ⟨_, _, rfl⟩).mono ?_
  rintro e w1 ⟨r, rfl, hr, F1⟩
  obtain rfl : r = true := hr.2 HH.out
  clear hr
  go_wp2_with fail
  go_loopw [5] (fun i wr => ∃ k : Nat, k ≤ f.sizes.length ∧ i = .int .i64 k ∧ (f.sizes.take k).any bigP = false ∧ Fr [] wB wr) (fun i _ => f.sizes.length - (intOf i).toNat)
  case atStart => exact ⟨0, Nat.zero_le _, rfl, by simp, F1⟩
  case round =>
    clear F1
    obtain ⟨k, hk, rfl, hK, F⟩ := hrel
    obtain ⟨d0, d1, d2, d3, d4, d5⟩ := HBX.out _ F
    by_cases hlt : k < f.sizes.length
    · obtain ⟨b1, o1, rfl, hb1, c1⟩ := os k hlt
      obtain ⟨x, hx⟩ := some_get f.sizes k hlt
      have e1 := ((F0.trans0 F).cell (p := ⟨b1, o1 + k, none⟩) hb1 (by simp)).trans ((c1 k hlt).trans (u64v_get _ _ _ hx))
      have HX := Lib.hid hx
      have HK := Lib.hid hK
      clear os o po c1 hx hK
      by_cases hbig : 1099511627776 < x.toNat
      · have E := Lib.hid (codeP_big HH.out (by rw [List.any_append, any_of _ bigP k x HX.out (by simp [bigP, hbig])]; rfl))
        have hbi : (1099511627776 : Int) < (x.toNat : Int) := by omega
        clear hbig
        go_wp2_with fail
        go_ret
        exact ⟨by rw [E.out]; rfl, F0.trans0 F⟩
      · have E := Lib.hid (any_step _ bigP k x HX.out HK.out (by simp [bigP, hbig]))
        have hbi : (x.toNat : Int) ≤ 1099511627776 := by omega
        clear hbig
        go_wp2_with fail
        go_roundw
        case rel => exact ⟨k + 1, by omega, by go_num, E.out, F⟩
        case measure => simp [intOf]; omega
    · rw [List.take_of_length_le (by omega)] at hK
      have HB1 := Lib.hid hK
      clear hK
      go_wp2_with fail
      clear d0 d1 d2 d3 d4 d5 hk hlt
      go_loopw [6] (fun i wr => ∃ k : Nat, k ≤ np.length ∧ i = .int .i64 k ∧ (np.take k).any bigP = false ∧ Fr [] wB wr) (fun i _ => np.length - (intOf i).toNat)
      case atStart => exact ⟨0, Nat.zero_le _, rfl, by simp, F⟩
      case round =>
        clear F
        obtain ⟨k, hk, rfl, hK, F⟩ := hrel
        by_cases hlt : k < np.length
        · obtain ⟨b1, o1, rfl, hb1, c1⟩ := po k hlt
          obtain ⟨x, hx⟩ := some_get np k hlt
          have e1 := ((F0.trans0 F).cell (p := ⟨b1, o1 + k, none⟩) hb1 (by simp)).trans ((c1 k hlt).trans (u64v_get _ _ _ hx))
          have HX := Lib.hid hx
          have HK := Lib.hid hK
          clear os o po c1 hx hK
          by_cases hbig : 1099511627776 < x.toNat
          · have E := Lib.hid (codeP_big HH.out (by rw [List.any_append, any_of _ bigP k x HX.out (by simp [bigP, hbig])]; simp))
            have hbi : (1099511627776 : Int) < (x.toNat : Int) := by omega
            clear hbig
            go_wp2_with fail
            go_ret
            exact ⟨by rw [E.out]; rfl, F0.trans0 F⟩
          · have E := Lib.hid (any_step _ bigP k x HX.out HK.out (by simp [bigP, hbig]))
            have hbi : (x.toNat : Int) ≤ 1099511627776 := by omega
            clear hbig
            go_wp2_with fail
            go_roundw
            case rel => exact ⟨k + 1, by omega, by go_num, E.out, F⟩
            case measure => simp [intOf]; omega
        · rw [List.take_of_length_le (by omega)] at hK
          have HB := Lib.hid (show (f.sizes ++ np).any bigP = false by rw [List.any_append, HB1.out, hK]; rfl)
          clear hK
          go_wp2_with fail
          clear hk hlt
          go_loopw [7] (fun i wr => ∃ k : Nat, k ≤ f.coders.length ∧ i = .int .i64 k ∧ (f.coders.take k).any badP = false ∧ Fr [] wB wr) (fun i _ => f.coders.length - (intOf i).toNat)
          case atStart => exact ⟨0, Nat.zero_le _, rfl, by simp, F⟩
          case round =>
            clear F
            obtain ⟨k, hk, rfl, hK, F⟩ := hrel
            obtain ⟨d0, d1, d2, d3, d4, d5⟩ := HBX.out _ F
            by_cases hlt : k < f.coders.length
            · obtain ⟨x, hx⟩ := some_get f.coders k hlt
              obtain ⟨b1, o1, pv, rfl, hb1, hC⟩ := o k x hx
              obtain ⟨c0, c1, c2⟩ := hC.fr hb1 (F0.trans0 F)
              have HSl := Lib.hid c2
              have HX := Lib.hid hx
              have HK := Lib.hid hK
              clear o os po hx hK hC c2
              cases hok : propsOk x.method x.props with
              | true =>
                have E := Lib.hid (any_step _ badP k x HX.out HK.out (by simp [badP, hok]))
                have HO := Lib.hid hok
                clear hok
                go_wp2_with (go_at_call 12; refine (rprops_any _ _ _ x.props HSl.out).mono ?_; rw [HO.out]; dsimp only [codeOf]; rintro e w4 ⟨rfl, F4⟩)
                go_roundw
                case rel => exact ⟨k + 1, by omega, by go_num, E.out, F.trans0 F4⟩
                case measure => simp [intOf]; omega
              | false =>
                have E := Lib.hid (codeP_props HH.out HB.out (any_of _ badP k x HX.out (by simp [badP, hok])))
                have HO := Lib.hid hok
                clear hok
                go_wp2_with (go_at_call 12; refine (rprops_any _ _ _ x.props HSl.out).mono ?_; rw [HO.out]; dsimp only [codeOf]; rintro e w4 ⟨rfl, F4⟩)
                go_ret
                exact ⟨by rw [E.out]; rfl, (F0.trans0 F).trans0 F4⟩
            · rw [List.take_of_length_le (by omega)] at hK
              have HP := Lib.hid hK
              clear hK
              go_wp2_with fail
              clear d0 d1 d2 d3 d4 d5 hk hlt
              go_loopw [9] (fun i wr => ∃ k : Nat, k ≤ f.coders.length ∧ i = .int .i64 k ∧ ((List.range f.coders.length).take k).any (oddP f np) = false ∧ Fr [] wB wr) (fun i _ => f.coders.length - (intOf i).toNat)
              case atStart => exact ⟨0, Nat.zero_le _, rfl, by simp, F⟩
              case round =>
                clear F
                obtain ⟨k, hk, rfl, hK, F⟩ := hrel
                obtain ⟨d0, d1, d2, d3, d4, d5⟩ := HBX.out _ F
                by_cases hlt : k < f.coders.length
                rotate_left
                · rw [List.take_of_length_le (by simp; omega)] at hK
                  have E := Lib.hid (codeP_ok HH.out HB.out HP.out hK)
                  clear hK o os po
                  go_wp2_with fail
                  go_ret
                  exact ⟨by rw [E.out]; rfl, F0.trans0 F⟩
                obtain ⟨x, hx⟩ := some_get f.coders k hlt
                have hrg : (List.range f.coders.length)[k]? = some k := by simp [hlt]
                have hgd : f.coders.getD k ⟨0, []⟩ = x := by rw [List.getD_eq_getElem?_getD, hx]; rfl
                have hfd := HFed.out k hlt
                have hks := hfd.sizes
                obtain ⟨b1, o1, pv, hao, hb1, hC⟩ := o k x hx
                obtain ⟨c0, c1, -⟩ := hC.fr hb1 (F0.trans0 F)
                subst hao
                have HGD := Lib.hid hgd
                have HR := Lib.hid hrg
                have HK := Lib.hid hK
                obtain ⟨mth, pb⟩ := x
                dsimp only at c0 hgd
                clear hx hrg hgd hK hC o
                by_cases h123 : mth = 1 ∨ mth = 2 ∨ mth = 3
                rotate_left
                · have E := Lib.hid (any_step _ (oddP f np) k k HR.out HK.out (by unfold oddP Folder.evenAt; rw [HGD.out]; simp [h123]))
                  have t1 : (mth != 1) = true := by rw [bne_iff_ne]; omega
                  have t2 : (mth != 2) = true := by rw [bne_iff_ne]; omega
                  have t3 : (mth != 3) = true := by rw [bne_iff_ne]; omega
                  clear h123 os po hfd
                  go_wp2_with fail
                  go_roundw
                  case rel => exact ⟨k + 1, by omega, by go_num, E.out, F⟩
                  case measure => simp [intOf]; omega
                obtain ⟨b2, o2, haos, hb2, cs⟩ := os k hks
                obtain ⟨y, hy⟩ := some_get f.sizes k hks
                have sk : w.cell? ⟨b2, o2 + k, none⟩ = some (.int .u64 y.toNat) := by rw [cs k hks, u64v_get _ _ _ hy]
                subst haos
                rcases hfd.fed with ⟨c, r2, h1, h2⟩ | ⟨c, h1, h2⟩
                · obtain ⟨z, hz⟩ := some_get f.sizes c h2
                  have sc : w.cell? ⟨b2, o2 + c, none⟩ = some (.int .u64 z.toNat) := by rw [cs c h2, u64v_get _ _ _ hz]
                  have hev : f.evenAt np k mth = (some z == some y) := by simp [Folder.evenAt, h123, h1, hz, hy]
                  clear cs hy hz
                  have HFR := Lib.hid h1
                  have HEv := Lib.hid hev
                  clear h1 hev os po hfd
                  have hzy : z = y ∨ z ≠ y := Classical.em _
                  rcases hzy with hzy | hzy
                  · have t5 : ((z.toNat : Int) != (y.toNat : Int)) = false := by rw [hzy]; simp
                    have E := Lib.hid (any_step _ (oddP f np) k k HR.out HK.out (by unfold oddP; rw [HGD.out]; dsimp only; rw [HEv.out, hzy]; simp))
                    clear hzy
                    rcases h123 with rfl | rfl | rfl
                    all_goals
                      go_wp2_with fail
                      go_region_held3 (fun w' => w'.cell? ⟨w.heap.size, 0, none⟩ = some (.slice (some ⟨b1, o1, none⟩) f.coders.length cap) ∧ w'.cell? ⟨w.heap.size, 1, none⟩ = some bv' ∧ w'.cell? ⟨w.heap.size, 2, none⟩ = some p ∧ w'.cell? ⟨w.heap.size, 3, none⟩ = some (.slice (some ⟨b2, o2, none⟩) f.sizes.length caps) ∧ w'.cell? ⟨w.heap.size, 4, none⟩ = some h ∧ w'.cell? ⟨w.heap.size, 5, none⟩ = some k0)
                        (first | exact ⟨d0, d1, d2, d3, d4, d5⟩ | exact HBX.out _ F.drew | exact HBX.out _ G1 | exact HBX.out _ G2 | go_keep)
                        (first
                          | (go_at_call 25; refine (rfirst_any _ _ f (HF.out.fr (F0.trans0 F.drew)) hn k (by omega)).mono ?_; rintro e wx ⟨rfl, Fx⟩; have G1 := F.drew.trans0 Fx)
                          | (go_at_call 24; refine (rfrom_any _ _ f (HF.out.fr (F0.trans0 G1)) _).mono ?_; rw [HFR.out]; dsimp only; rintro e wy ⟨rfl, Fy⟩; have G2 := G1.trans0 Fy))
                      obtain ⟨a0, a1, a2, a3, a4, a5⟩ := HBX.out _ G2
                      have sk2 := ((F0.trans0 G2).cell (p := ⟨b2, o2 + k, none⟩) hb2 (by simp)).trans sk
                      have sc2 := ((F0.trans0 G2).cell (p := ⟨b2, o2 + c, none⟩) hb2 (by simp)).trans sc
                      clear d0 d1 d2 d3 d4 d5 c0 c1
                      go_wp2_with fail
                      go_roundw
                      case rel => exact ⟨k + 1, by omega, by go_num, E.out, G2⟩
                      case measure => simp [intOf]; omega
                  · have t5 : ((z.toNat : Int) != (y.toNat : Int)) = true := by rw [bne_iff_ne]; intro e; exact hzy (UInt64.toNat_inj.1 (by omega))
                    have E := Lib.hid (codeP_sizes HH.out HB.out HP.out (any_of _ (oddP f np) k k HR.out (by unfold oddP; rw [HGD.out]; dsimp only; rw [HEv.out]; simp [hzy])))
                    clear hzy
                    rcases h123 with rfl | rfl | rfl
                    all_goals
                      go_wp2_with fail
                      go_region_held3 (fun w' => w'.cell? ⟨w.heap.size, 0, none⟩ = some (.slice (some ⟨b1, o1, none⟩) f.coders.length cap) ∧ w'.cell? ⟨w.heap.size, 1, none⟩ = some bv' ∧ w'.cell? ⟨w.heap.size, 2, none⟩ = some p ∧ w'.cell? ⟨w.heap.size, 3, none⟩ = some (.slice (some ⟨b2, o2, none⟩) f.sizes.length caps) ∧ w'.cell? ⟨w.heap.size, 4, none⟩ = some h ∧ w'.cell? ⟨w.heap.size, 5, none⟩ = some k0)
                        (first | exact ⟨d0, d1, d2, d3, d4, d5⟩ | exact HBX.out _ F.drew | exact HBX.out _ G1 | exact HBX.out _ G2 | go_keep)
                        (first
                          | (go_at_call 25; refine (rfirst_any _ _ f (HF.out.fr (F0.trans0 F.drew)) hn k (by omega)).mono ?_; rintro e wx ⟨rfl, Fx⟩; have G1 := F.drew.trans0 Fx)
                          | (go_at_call 24; refine (rfrom_any _ _ f (HF.out.fr (F0.trans0 G1)) _).mono ?_; rw [HFR.out]; dsimp only; rintro e wy ⟨rfl, Fy⟩; have G2 := G1.trans0 Fy))
                      obtain ⟨a0, a1, a2, a3, a4, a5⟩ := HBX.out _ G2
                      have sk2 := ((F0.trans0 G2).cell (p := ⟨b2, o2 + k, none⟩) hb2 (by simp)).trans sk
                      have sc2 := ((F0.trans0 G2).cell (p := ⟨b2, o2 + c, none⟩) hb2 (by simp)).trans sc
                      clear d0 d1 d2 d3 d4 d5 c0 c1
                      go_wp2_with fail
                      go_ret
                      exact ⟨by rw [E.out]; rfl, F0.trans0 G2⟩
                · obtain ⟨b3, o3, hpao, hb3, cp⟩ := po c h2
                  obtain ⟨z, hz⟩ := some_get np c h2
                  have sc : w.cell? ⟨b3, o3 + c, none⟩ = some (.int .u64 z.toNat) := by rw [cp c h2, u64v_get _ _ _ hz]
                  have hev : f.evenAt np k mth = (some z == some y) := by simp [Folder.evenAt, h123, h1, hz, hy]
                  subst hpao
                  clear cs hy hz cp
                  have HFR := Lib.hid h1
                  have HEv := Lib.hid hev
                  clear h1 hev os po hfd
                  have hzy : z = y ∨ z ≠ y := Classical.em _
                  rcases hzy with hzy | hzy
                  · have t5 : ((z.toNat : Int) != (y.toNat : Int)) = false := by rw [hzy]; simp
                    have E := Lib.hid (any_step _ (oddP f np) k k HR.out HK.out (by unfold oddP; rw [HGD.out]; dsimp only; rw [HEv.out, hzy]; simp))
                    clear hzy
                    rcases h123 with rfl | rfl | rfl
                    all_goals
                      go_wp2_with fail
                      go_region_held3 (fun w' => w'.cell? ⟨w.heap.size, 0, none⟩ = some (.slice (some ⟨b1, o1, none⟩) f.coders.length cap) ∧ w'.cell? ⟨w.heap.size, 1, none⟩ = some bv' ∧ w'.cell? ⟨w.heap.size, 2, none⟩ = some p ∧ w'.cell? ⟨w.heap.size, 3, none⟩ = some (.slice (some ⟨b2, o2, none⟩) f.sizes.length caps) ∧ w'.cell? ⟨w.heap.size, 4, none⟩ = some h ∧ w'.cell? ⟨w.heap.size, 5, none⟩ = some k0)
                        (first | exact ⟨d0, d1, d2, d3, d4, d5⟩ | exact HBX.out _ F.drew | exact HBX.out _ G1 | exact HBX.out _ G2 | go_keep)
                        (first
                          | (go_at_call 25; refine (rfirst_any _ _ f (HF.out.fr (F0.trans0 F.drew)) hn k (by omega)).mono ?_; rintro e wx ⟨rfl, Fx⟩; have G1 := F.drew.trans0 Fx)
                          | (go_at_call 24; refine (rfrom_any _ _ f (HF.out.fr (F0.trans0 G1)) _).mono ?_; rw [HFR.out]; dsimp only; rintro e wy ⟨rfl, Fy⟩; have G2 := G1.trans0 Fy))
                      obtain ⟨a0, a1, a2, a3, a4, a5⟩ := HBX.out _ G2
                      have sk2 := ((F0.trans0 G2).cell (p := ⟨b2, o2 + k, none⟩) hb2 (by simp)).trans sk
                      have sc2 := ((F0.trans0 G2).cell (p := ⟨b3, o3 + c, none⟩) hb3 (by simp)).trans sc
                      clear d0 d1 d2 d3 d4 d5 c0 c1
                      go_wp2_with fail
                      go_roundw
                      case rel => exact ⟨k + 1, by omega, by go_num, E.out, G2⟩
                      case measure => simp [intOf]; omega
                  · have t5 : ((z.toNat : Int) != (y.toNat : Int)) = true := by rw [bne_iff_ne]; intro e; exact hzy (UInt64.toNat_inj.1 (by omega))
                    have E := Lib.hid (codeP_sizes HH.out HB.out HP.out (any_of _ (oddP f np) k k HR.out (by unfold oddP; rw [HGD.out]; dsimp only; rw [HEv.out]; simp [hzy])))
                    clear hzy
                    rcases h123 with rfl | rfl | rfl
                    all_goals
                      go_wp2_with fail
                      go_region_held3 (fun w' => w'.cell? ⟨w.heap.size, 0, none⟩ = some (.slice (some ⟨b1, o1, none⟩) f.coders.length cap) ∧ w'.cell? ⟨w.heap.size, 1, none⟩ = some bv' ∧ w'.cell? ⟨w.heap.size, 2, none⟩ = some p ∧ w'.cell? ⟨w.heap.size, 3, none⟩ = some (.slice (some ⟨b2, o2, none⟩) f.sizes.length caps) ∧ w'.cell? ⟨w.heap.size, 4, none⟩ = some h ∧ w'.cell? ⟨w.heap.size, 5, none⟩ = some k0)
                        (first | exact ⟨d0, d1, d2, d3, d4, d5⟩ | exact HBX.out _ F.drew | exact HBX.out _ G1 | exact HBX.out _ G2 | go_keep)
                        (first
                          | (go_at_call 25; refine (rfirst_any _ _ f (HF.out.fr (F0.trans0 F.drew)) hn k (by omega)).mono ?_; rintro e wx ⟨rfl, Fx⟩; have G1 := F.drew.trans0 Fx)
                          | (go_at_call 24; refine (rfrom_any _ _ f (HF.out.fr (F0.trans0 G1)) _).mono ?_; rw [HFR.out]; dsimp only; rintro e wy ⟨rfl, Fy⟩; have G2 := G1.trans0 Fy))
                      obtain ⟨a0, a1, a2, a3, a4, a5⟩ := HBX.out _ G2
                      have sk2 := ((F0.trans0 G2).cell (p := ⟨b2, o2 + k, none⟩) hb2 (by simp)).trans sk
                      have sc2 := ((F0.trans0 G2).cell (p := ⟨b3, o3 + c, none⟩) hb3 (by simp)).trans sc
                      clear d0 d1 d2 d3 d4 d5 c0 c1
                      go_wp2_with fail
                      go_ret
                      exact ⟨by rw [E.out]; rfl, F0.trans0 G2⟩
end Go.Proofs.Ytakpeffpocjgoaa
