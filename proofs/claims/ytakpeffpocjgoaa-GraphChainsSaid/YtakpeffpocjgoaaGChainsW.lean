/- The law GraphChains: the walk. No condition. -/
import Derived.Test.YtakpeffpocjgoaaGChainS
namespace Go.Proofs.Ytakpeffpocjgoaa
open Go.RowKit

set_option maxRecDepth 100000 in
set_option maxHeartbeats 20000000 in
theorem walk_GraphChains (w : World) (v : Value) (bs : List UInt8) (size : Int) (back : Bool) (hv : Sl w v (bv bs)) (hs : 0 ≤ size ∧ size ≤ 65535) :
    Calls Try.prog 5 #[v, .int .u16 size, .bool back] w fun e w' => e = .returned (.bool true) ∧ Fr [] w w' := by
  obtain ⟨ao, cap, rfl, g, m, o⟩ := hv.out
  have HV := Lib.hid hv
  simp only [bv_length] at *
  clear hv
  go_enter Try.func5, Try.ntmps5
  go_wp2_with fail
  refine (awake_any w).mono ?_
  rintro e w1 ⟨rfl, F1⟩
  by_cases h1 : bs.length < 1
  · have h1' : (bs.length : Int) < 1 := by omega
    clear o
    go_wp2_with fail
    go_ret
    exact ⟨rfl, F1⟩
  by_cases h8 : 8 < bs.length
  · have h8' : (8 : Int) < (bs.length : Int) := by omega
    have h1' : (1 : Int) ≤ (bs.length : Int) := by omega
    clear o
    go_wp2_with fail
    go_ret
    exact ⟨rfl, F1⟩
  have h1' : (1 : Int) ≤ (bs.length : Int) := by omega
  have h8' : (bs.length : Int) ≤ 8 := by omega
  go_wp2_with fail
  obtain ⟨wC, hwC⟩ : ∃ wC, wC = w1.alloc (.cells #[.slice none 0 0, .slice none 0 0, .slice none 0 0, .slice none 0 0, .bool false, .int .u32 0] 30) := ⟨_, rfl⟩
  have FC : Fr [] w1 wC := hwC ▸ (Fr.refl _ _).alloc _
  have hgf0 : wC.heap[w1.heap.size]? = some (.cells #[.slice none 0 0, .slice none 0 0, .slice none 0 0, .slice none 0 0, .bool false, .int .u32 0] 30) := hwC ▸ heap_alloc_new w1 _
  have sC : wC.heap.size = w1.heap.size + 1 := by rw [hwC]; simp
  rw [← hwC]
  clear hwC
  have FT : Fr [w1.heap.size] w wC := (F1.trans0 FC).mono (by simp)
  have FT0 : ∀ w', Fr [w1.heap.size] wC w' → Fr [] w w' := fun w' F => (F1.trans0 FC).trans1 F (.inr F1.size)
  have HFT := Lib.hid FT0
  clear FT FT0
  generalize hgf : w1.heap.size = gf at hgf0 sC HFT ⊢
  have HGF := Lib.hid hgf
  clear hgf
  generalize (decide ((bs.length : Int) < 1) || decide (8 < (bs.length : Int))) = bb
  obtain ⟨n, hn⟩ : ∃ n, n = bs.length := ⟨_, rfl⟩
  rw [← hn] at o h1' h8' g ⊢
  have HN := Lib.hid hn
  clear hn h1 h8
  obtain ⟨sz, rfl, hsz⟩ : ∃ sz : UInt64, size = sz.toNat ∧ sz.toNat ≤ 65535 := ⟨UInt64.ofNat size.toNat, by simp; omega⟩
  go_loopw [9] (fun i wr => ∃ (k : Nat) (L : List (Coder × Value)) (cv bv' sv : Value), k ≤ n ∧ i = .int .i64 k ∧ L.map (·.1) = (bs.take k).map coderOf ∧
      St wC gf wr cv k (coV L) bv' (k - 1) (biV (chainB k back)) sv k (u64v (List.replicate k sz)) L) (fun i _ => n - (intOf i).toNat)
  case atStart =>
    refine ⟨0, [], _, _, _, Nat.zero_le _, rfl, by simp, hgf0, World.ownsRow_nil _ _ _ _, ?_, World.ownsRow_nil _ _ _ _, by simp, Fr.refl _ _, by omega⟩
    have : biV (chainB 0 back) = [] := by simp [chainB, biV]
    rw [this]
    exact World.ownsRow_nil _ _ _ _
  case round =>
    obtain ⟨k, L, cv, bv', sv, hk, rfl, hL, H⟩ := hrel
    have HH := Lib.hid H
    by_cases hlt : k < n
    · obtain ⟨x, hx⟩ := some_get bs k (by rw [← HN.out]; exact hlt)
      have hx2 := bv_get bs k x hx
      have hF := H.blk
      have hgs : gf < wr.heap.size := (Array.getElem?_eq_some_iff.1 hF).1
      obtain ⟨cao, ccap, hcv, -⟩ := own_outS H.oc
      obtain ⟨bao, bcap, hbv, -⟩ := own_outS H.ob
      obtain ⟨sao, scap, hsv, -⟩ := own_outS H.os
      subst hcv hbv hsv
      have hkn : (k : Int) < n := by omega
      obtain ⟨ab, oo, rfl, hab, hcell⟩ := o k hlt
      have FW := HFT.out _ H.fr
      have qa : wr.cell? ⟨ab, oo + k, none⟩ = some (.int .u8 x.toNat) := (FW.cell (p := ⟨ab, oo + k, none⟩) hab (by simp)).trans ((hcell k hlt).trans hx2)
      have qb : ab < wr.heap.size := Nat.lt_of_lt_of_le hab FW.size
      have tw : wrap64 (x.toNat : Int) = (x.toNat : Int) := by have := x.toNat_lt; unfold wrap64; omega
      clear o hcell hab H hF hx2 FW sC
      by_cases hm : x.toNat % 6 = 0
      ·
        have t0 : ((x.toNat : Int) % 6) = 0 := by omega
        have t1 : ((x.toNat : Int).tmod 6) = 0 := by rw [Int.tmod_eq_emod_of_nonneg (by omega)]; exact t0
        have hco : coderOf x = ⟨1, []⟩ := by simp [coderOf, hm]
        have HCO := Lib.hid hco
        clear hm hco
        have hs4 := heap_alloc_new ((wr.alloc (.cells #[.int .i64 1, .int .i64 2, .int .i64 3, .int .i64 4, .int .i64 5, .int .i64 7] 3)).alloc (.cells #[.int .i64 1, .slice none 0 0] 38)) (.cells #[.int .i64 1, .slice none 0 0] 38)
        simp only [World.size_alloc] at hs4
        have HS4 := Lib.hid hs4
        clear hs4
        have hpb : PB (((wr.alloc (.cells #[.int .i64 1, .int .i64 2, .int .i64 3, .int .i64 4, .int .i64 5, .int .i64 7] 3)).alloc (.cells #[.int .i64 1, .slice none 0 0] 38)).alloc (.cells #[.int .i64 1, .slice none 0 0] 38)) (.slice none 0 0) (coderOf x).props := .inl ⟨rfl, by rw [HCO.out]⟩
        have HST := Lib.hid ((HH.out.fresh (((((Fr.refl _ _).alloc _).alloc _).alloc _) : Fr [] wr (((wr.alloc (.cells #[.int .i64 1, .int .i64 2, .int .i64 3, .int .i64 4, .int .i64 5, .int .i64 7] 3)).alloc (.cells #[.int .i64 1, .slice none 0 0] 38)).alloc (.cells #[.int .i64 1, .slice none 0 0] 38)))).add (coderOf x, .slice none 0 0) hpb)
        obtain ⟨p0, p1, p2, p3, p4, p5⟩ := cells6 ((((((Fr.refl _ _).alloc _).alloc _) : Fr [] wr ((wr.alloc (.cells #[.int .i64 1, .int .i64 2, .int .i64 3, .int .i64 4, .int .i64 5, .int .i64 7] 3)).alloc (.cells #[.int .i64 1, .slice none 0 0] 38))).block gf hgs (by simp)).trans HH.out.blk)
        clear hpb
        go_wp2_with (at_builtin; refine wpList_append_pair sty_coder rfl _ _ (by rfl) wC.heap.size _ _ _ (by rfl) HST.out.oc _ _ _ (by rfl) HS4.out (by rfl) (by rfl) (by omega) (by decide) HST.out.fr.size ?_)
        intro cv2 w8 ownC2 g8
        obtain ⟨cao2, ccap2, hcv2, -⟩ := own_outS ownC2
        subst hcv2
        have hb8 := HST.out.blkC g8
        have HST2 := HST.out.putC ownC2 g8
        have HS9 := Lib.hid (HST2.fresh ((Fr.refl _ _).alloc (.cells #[.int .u64 sz.toNat] 39)))
        obtain ⟨x0, x1, x2, x3, x4, x5⟩ := cells6 hb8
        have fz8 := frozen6 hb8 0
        have hsl : Sl ((w8.setCell ⟨gf, 0, none⟩ (.slice cao2 (k + 1) ccap2)).alloc (.cells #[.int .u64 sz.toNat] 39)) (.slice (some ⟨w8.heap.size, 0, none⟩) 1 1) [.int .u64 sz.toNat] := by
          have := sl_one (w8.setCell ⟨gf, 0, none⟩ (.slice cao2 (k + 1) ccap2)) 39 (.int .u64 sz.toNat)
          rwa [World.size_setCell] at this
        have HSL := Lib.hid hsl
        have hgl := (Array.getElem?_eq_some_iff.1 hb8).1
        clear hsl p0 p1 p2 p3 p4 p5 qa qb hgs HST ownC2 g8 HST2 HS4
        go_wp2_with (at_builtin; refine wpList_append_sl sty_u64 rfl _ _ (by rfl) wC.heap.size _ _ _ (by rfl) HS9.out.os _ [.int .u64 sz.toNat] (by rfl) HSL.out (by intro u hu; simp at hu; subst hu; rfl) (by simp; omega) (by simp; omega) HS9.out.fr.size ?_)
        intro sv2 w10 ownS2 g10
        obtain ⟨sao2, scap2, hsv2, -⟩ := own_outS ownS2
        subst hsv2
        have hb10 := HS9.out.blkS g10
        have H11 := Lib.hid (HS9.out.putS ownS2 g10)
        obtain ⟨z0, z1, z2, z3, z4, z5⟩ := cells6 hb10
        have fz10 := frozen6 hb10 3
        have hgl2 := (Array.getElem?_eq_some_iff.1 hb10).1
        clear x0 x1 x2 x3 x4 x5 fz8 hgl HSL HS9 ownS2 g10 hb8
        have HL2 := Lib.hid (show (L ++ [(coderOf x, (.slice none 0 0 : Value))]).map (·.1) = (bs.take (k + 1)).map coderOf by rw [take_succ3 _ _ _ hx, List.map_append, List.map_append, hL]; rfl)
        have hX1 : coV (L ++ [(coderOf x, (.slice none 0 0 : Value))]) = coV L ++ [.int .i64 1, .slice none 0 0] := by rw [coV_append, HCO.out]; rfl
        have hX2 : u64v (List.replicate (k + 1) sz) = u64v (List.replicate k sz) ++ [.int .u64 sz.toNat] := by rw [List.replicate_succ']; simp [u64v]
        by_cases hk0 : k = 0
        · have t5 : ¬ (0 : Int) < (k : Int) := by omega
          have HX := Lib.hid (And.intro hX1 (And.intro hX2 (show biV (chainB (k + 1) back) = biV (chainB k back) ∧ k + 1 - 1 = k - 1 from ⟨chainB_one k back hk0, by omega⟩)))
          clear hk0 hX1 hX2 hx hL
          go_wp2_with fail
          go_roundw
          case rel =>
            refine ⟨k + 1, L ++ [(coderOf x, .slice none 0 0)], .slice cao2 (k + 1) ccap2, .slice bao (k - 1) bcap, .slice sao2 (k + 1) scap2, by omega, by go_num, HL2.out, ?_⟩
            rw [HX.out.1, HX.out.2.1, HX.out.2.2.1, HX.out.2.2.2]
            exact H11.out
          case measure => simp [intOf]; omega
        have t5 : (0 : Int) < (k : Int) := by omega
        cases back with
        | false =>
          have HX := Lib.hid (And.intro hX1 (And.intro hX2 (And.intro True.intro (chainB_more k false (by omega)))))
          clear hk0 hX1 hX2 hx hL
          obtain ⟨u0, u1, u2, u3, u4, u5⟩ := cells6 H11.out.blk
          have hgx : gf < (w10.setCell ⟨gf, 3, none⟩ (.slice sao2 (k + 1) scap2)).heap.size := (Array.getElem?_eq_some_iff.1 H11.out.blk).1
          have HS12 := Lib.hid (H11.out.fresh ((Fr.refl _ _).alloc (.cells #[.int .i64 ((k : Int) - 1), .int .i64 ((k : Int))] 46)))
          have hs12 := heap_alloc_new (w10.setCell ⟨gf, 3, none⟩ (.slice sao2 (k + 1) scap2)) (.cells #[.int .i64 ((k : Int) - 1), .int .i64 ((k : Int))] 46)
          rw [World.size_setCell] at hs12
          have HSN := Lib.hid hs12
          clear hs12
          go_wp2_with (at_builtin; refine wpList_append_pair sty_bind rfl _ _ (by rfl) wC.heap.size _ _ _ (by rfl) HS12.out.ob _ _ _ (by rfl) HSN.out (by rfl) (by rfl) (by omega) (by decide) HS12.out.fr.size ?_)
          intro bv2 w12 ownB2 g12
          obtain ⟨bao2, bcap2, hbv2, -⟩ := own_outS ownB2
          subst hbv2
          have hb12 := HS12.out.blkB g12
          have HS13 := Lib.hid (HS12.out.putB ownB2 g12)
          obtain ⟨y0, y1, y2, y3, y4, y5⟩ := cells6 hb12
          have fz12 := frozen6 hb12 1
          clear u0 u1 u2 u3 u4 u5 hgx HSN HS12 ownB2 g12
          go_wp2_with fail
          go_roundw
          case rel =>
            refine ⟨k + 1, L ++ [(coderOf x, .slice none 0 0)], .slice cao2 (k + 1) ccap2, .slice bao2 (k - 1 + 1) bcap2, .slice sao2 (k + 1) scap2, by omega, by go_num, HL2.out, ?_⟩
            rw [HX.out.1, HX.out.2.1, HX.out.2.2.2]
            rw [show k + 1 - 1 = k - 1 + 1 from by omega]
            exact HS13.out
          case measure => simp [intOf]; omega
        | true =>
          have HX := Lib.hid (And.intro hX1 (And.intro hX2 (And.intro True.intro (chainB_more k true (by omega)))))
          clear hk0 hX1 hX2 hx hL
          obtain ⟨u0, u1, u2, u3, u4, u5⟩ := cells6 H11.out.blk
          have hgx : gf < (w10.setCell ⟨gf, 3, none⟩ (.slice sao2 (k + 1) scap2)).heap.size := (Array.getElem?_eq_some_iff.1 H11.out.blk).1
          have HS12 := Lib.hid (H11.out.fresh ((Fr.refl _ _).alloc (.cells #[.int .i64 ((k : Int)), .int .i64 ((k : Int) - 1)] 46)))
          have hs12 := heap_alloc_new (w10.setCell ⟨gf, 3, none⟩ (.slice sao2 (k + 1) scap2)) (.cells #[.int .i64 ((k : Int)), .int .i64 ((k : Int) - 1)] 46)
          rw [World.size_setCell] at hs12
          have HSN := Lib.hid hs12
          clear hs12
          go_wp2_with (at_builtin; refine wpList_append_pair sty_bind rfl _ _ (by rfl) wC.heap.size _ _ _ (by rfl) HS12.out.ob _ _ _ (by rfl) HSN.out (by rfl) (by rfl) (by omega) (by decide) HS12.out.fr.size ?_)
          intro bv2 w12 ownB2 g12
          obtain ⟨bao2, bcap2, hbv2, -⟩ := own_outS ownB2
          subst hbv2
          have hb12 := HS12.out.blkB g12
          have HS13 := Lib.hid (HS12.out.putB ownB2 g12)
          obtain ⟨y0, y1, y2, y3, y4, y5⟩ := cells6 hb12
          have fz12 := frozen6 hb12 1
          clear u0 u1 u2 u3 u4 u5 hgx HSN HS12 ownB2 g12
          go_wp2_with fail
          go_roundw
          case rel =>
            refine ⟨k + 1, L ++ [(coderOf x, .slice none 0 0)], .slice cao2 (k + 1) ccap2, .slice bao2 (k - 1 + 1) bcap2, .slice sao2 (k + 1) scap2, by omega, by go_num, HL2.out, ?_⟩
            rw [HX.out.1, HX.out.2.1, HX.out.2.2.2]
            rw [show k + 1 - 1 = k - 1 + 1 from by omega]
            exact HS13.out
          case measure => simp [intOf]; omega
      by_cases hm : x.toNat % 6 = 1
      ·
        have t0 : ((x.toNat : Int) % 6) = 1 := by omega
        have t1 : ((x.toNat : Int).tmod 6) = 1 := by rw [Int.tmod_eq_emod_of_nonneg (by omega)]; exact t0
        have hco : coderOf x = ⟨2, [x]⟩ := by simp [coderOf, hm]
        have HCO := Lib.hid hco
        clear hm hco
        have hs4 := heap_alloc_new (((wr.alloc (.cells #[.int .i64 1, .int .i64 2, .int .i64 3, .int .i64 4, .int .i64 5, .int .i64 7] 3)).alloc (.cells #[.int .i64 2, .slice (some ⟨wr.heap.size + 1 + 1, 0, none⟩) 1 1] 38)).alloc (.cells #[.int .u8 x.toNat] 5)) (.cells #[.int .i64 2, .slice (some ⟨wr.heap.size + 1 + 1, 0, none⟩) 1 1] 38)
        simp only [World.size_alloc] at hs4
        have HS4 := Lib.hid hs4
        clear hs4
        have hpb : PB ((((wr.alloc (.cells #[.int .i64 1, .int .i64 2, .int .i64 3, .int .i64 4, .int .i64 5, .int .i64 7] 3)).alloc (.cells #[.int .i64 2, .slice (some ⟨wr.heap.size + 1 + 1, 0, none⟩) 1 1] 38)).alloc (.cells #[.int .u8 x.toNat] 5)).alloc (.cells #[.int .i64 2, .slice (some ⟨wr.heap.size + 1 + 1, 0, none⟩) 1 1] 38)) (.slice (some ⟨wr.heap.size + 1 + 1, 0, none⟩) 1 1) (coderOf x).props := by
          rw [HCO.out]
          refine .inr ⟨wr.heap.size + 1 + 1, rfl, by simp, ?_⟩
          have h3 := heap_alloc_new ((wr.alloc (.cells #[.int .i64 1, .int .i64 2, .int .i64 3, .int .i64 4, .int .i64 5, .int .i64 7] 3)).alloc (.cells #[.int .i64 2, .slice (some ⟨wr.heap.size + 1 + 1, 0, none⟩) 1 1] 38)) (.cells #[.int .u8 x.toNat] 5)
          simp only [World.size_alloc] at h3
          rw [((Fr.refl [] _).alloc _).block (wr.heap.size + 1 + 1) (by simp) (by simp), h3]
          simp [bv]
        have HST := Lib.hid ((HH.out.fresh ((((((Fr.refl _ _).alloc _).alloc _).alloc _).alloc _) : Fr [] wr ((((wr.alloc (.cells #[.int .i64 1, .int .i64 2, .int .i64 3, .int .i64 4, .int .i64 5, .int .i64 7] 3)).alloc (.cells #[.int .i64 2, .slice (some ⟨wr.heap.size + 1 + 1, 0, none⟩) 1 1] 38)).alloc (.cells #[.int .u8 x.toNat] 5)).alloc (.cells #[.int .i64 2, .slice (some ⟨wr.heap.size + 1 + 1, 0, none⟩) 1 1] 38)))).add (coderOf x, .slice (some ⟨wr.heap.size + 1 + 1, 0, none⟩) 1 1) hpb)
        obtain ⟨p0, p1, p2, p3, p4, p5⟩ := cells6 (((((((Fr.refl _ _).alloc _).alloc _).alloc _) : Fr [] wr (((wr.alloc (.cells #[.int .i64 1, .int .i64 2, .int .i64 3, .int .i64 4, .int .i64 5, .int .i64 7] 3)).alloc (.cells #[.int .i64 2, .slice (some ⟨wr.heap.size + 1 + 1, 0, none⟩) 1 1] 38)).alloc (.cells #[.int .u8 x.toNat] 5))).block gf hgs (by simp)).trans HH.out.blk)
        clear hpb
        go_wp2_with (at_builtin; refine wpList_append_pair sty_coder rfl _ _ (by rfl) wC.heap.size _ _ _ (by rfl) HST.out.oc _ _ _ (by rfl) HS4.out (by rfl) (by rfl) (by omega) (by decide) HST.out.fr.size ?_)
        intro cv2 w8 ownC2 g8
        obtain ⟨cao2, ccap2, hcv2, -⟩ := own_outS ownC2
        subst hcv2
        have hb8 := HST.out.blkC g8
        have HST2 := HST.out.putC ownC2 g8
        have HS9 := Lib.hid (HST2.fresh ((Fr.refl _ _).alloc (.cells #[.int .u64 sz.toNat] 39)))
        obtain ⟨x0, x1, x2, x3, x4, x5⟩ := cells6 hb8
        have fz8 := frozen6 hb8 0
        have hsl : Sl ((w8.setCell ⟨gf, 0, none⟩ (.slice cao2 (k + 1) ccap2)).alloc (.cells #[.int .u64 sz.toNat] 39)) (.slice (some ⟨w8.heap.size, 0, none⟩) 1 1) [.int .u64 sz.toNat] := by
          have := sl_one (w8.setCell ⟨gf, 0, none⟩ (.slice cao2 (k + 1) ccap2)) 39 (.int .u64 sz.toNat)
          rwa [World.size_setCell] at this
        have HSL := Lib.hid hsl
        have hgl := (Array.getElem?_eq_some_iff.1 hb8).1
        clear hsl p0 p1 p2 p3 p4 p5 qa qb hgs HST ownC2 g8 HST2 HS4
        go_wp2_with (at_builtin; refine wpList_append_sl sty_u64 rfl _ _ (by rfl) wC.heap.size _ _ _ (by rfl) HS9.out.os _ [.int .u64 sz.toNat] (by rfl) HSL.out (by intro u hu; simp at hu; subst hu; rfl) (by simp; omega) (by simp; omega) HS9.out.fr.size ?_)
        intro sv2 w10 ownS2 g10
        obtain ⟨sao2, scap2, hsv2, -⟩ := own_outS ownS2
        subst hsv2
        have hb10 := HS9.out.blkS g10
        have H11 := Lib.hid (HS9.out.putS ownS2 g10)
        obtain ⟨z0, z1, z2, z3, z4, z5⟩ := cells6 hb10
        have fz10 := frozen6 hb10 3
        have hgl2 := (Array.getElem?_eq_some_iff.1 hb10).1
        clear x0 x1 x2 x3 x4 x5 fz8 hgl HSL HS9 ownS2 g10 hb8
        have HL2 := Lib.hid (show (L ++ [(coderOf x, (.slice (some ⟨wr.heap.size + 1 + 1, 0, none⟩) 1 1 : Value))]).map (·.1) = (bs.take (k + 1)).map coderOf by rw [take_succ3 _ _ _ hx, List.map_append, List.map_append, hL]; rfl)
        have hX1 : coV (L ++ [(coderOf x, (.slice (some ⟨wr.heap.size + 1 + 1, 0, none⟩) 1 1 : Value))]) = coV L ++ [.int .i64 2, .slice (some ⟨wr.heap.size + 1 + 1, 0, none⟩) 1 1] := by rw [coV_append, HCO.out]; rfl
        have hX2 : u64v (List.replicate (k + 1) sz) = u64v (List.replicate k sz) ++ [.int .u64 sz.toNat] := by rw [List.replicate_succ']; simp [u64v]
        by_cases hk0 : k = 0
        · have t5 : ¬ (0 : Int) < (k : Int) := by omega
          have HX := Lib.hid (And.intro hX1 (And.intro hX2 (show biV (chainB (k + 1) back) = biV (chainB k back) ∧ k + 1 - 1 = k - 1 from ⟨chainB_one k back hk0, by omega⟩)))
          clear hk0 hX1 hX2 hx hL
          go_wp2_with fail
          go_roundw
          case rel =>
            refine ⟨k + 1, L ++ [(coderOf x, .slice (some ⟨wr.heap.size + 1 + 1, 0, none⟩) 1 1)], .slice cao2 (k + 1) ccap2, .slice bao (k - 1) bcap, .slice sao2 (k + 1) scap2, by omega, by go_num, HL2.out, ?_⟩
            rw [HX.out.1, HX.out.2.1, HX.out.2.2.1, HX.out.2.2.2]
            exact H11.out
          case measure => simp [intOf]; omega
        have t5 : (0 : Int) < (k : Int) := by omega
        cases back with
        | false =>
          have HX := Lib.hid (And.intro hX1 (And.intro hX2 (And.intro True.intro (chainB_more k false (by omega)))))
          clear hk0 hX1 hX2 hx hL
          obtain ⟨u0, u1, u2, u3, u4, u5⟩ := cells6 H11.out.blk
          have hgx : gf < (w10.setCell ⟨gf, 3, none⟩ (.slice sao2 (k + 1) scap2)).heap.size := (Array.getElem?_eq_some_iff.1 H11.out.blk).1
          have HS12 := Lib.hid (H11.out.fresh ((Fr.refl _ _).alloc (.cells #[.int .i64 ((k : Int) - 1), .int .i64 ((k : Int))] 46)))
          have hs12 := heap_alloc_new (w10.setCell ⟨gf, 3, none⟩ (.slice sao2 (k + 1) scap2)) (.cells #[.int .i64 ((k : Int) - 1), .int .i64 ((k : Int))] 46)
          rw [World.size_setCell] at hs12
          have HSN := Lib.hid hs12
          clear hs12
          go_wp2_with (at_builtin; refine wpList_append_pair sty_bind rfl _ _ (by rfl) wC.heap.size _ _ _ (by rfl) HS12.out.ob _ _ _ (by rfl) HSN.out (by rfl) (by rfl) (by omega) (by decide) HS12.out.fr.size ?_)
          intro bv2 w12 ownB2 g12
          obtain ⟨bao2, bcap2, hbv2, -⟩ := own_outS ownB2
          subst hbv2
          have hb12 := HS12.out.blkB g12
          have HS13 := Lib.hid (HS12.out.putB ownB2 g12)
          obtain ⟨y0, y1, y2, y3, y4, y5⟩ := cells6 hb12
          have fz12 := frozen6 hb12 1
          clear u0 u1 u2 u3 u4 u5 hgx HSN HS12 ownB2 g12
          go_wp2_with fail
          go_roundw
          case rel =>
            refine ⟨k + 1, L ++ [(coderOf x, .slice (some ⟨wr.heap.size + 1 + 1, 0, none⟩) 1 1)], .slice cao2 (k + 1) ccap2, .slice bao2 (k - 1 + 1) bcap2, .slice sao2 (k + 1) scap2, by omega, by go_num, HL2.out, ?_⟩
            rw [HX.out.1, HX.out.2.1, HX.out.2.2.2]
            rw [show k + 1 - 1 = k - 1 + 1 from by omega]
            exact HS13.out
          case measure => simp [intOf]; omega
        | true =>
          have HX := Lib.hid (And.intro hX1 (And.intro hX2 (And.intro True.intro (chainB_more k true (by omega)))))
          clear hk0 hX1 hX2 hx hL
          obtain ⟨u0, u1, u2, u3, u4, u5⟩ := cells6 H11.out.blk
          have hgx : gf < (w10.setCell ⟨gf, 3, none⟩ (.slice sao2 (k + 1) scap2)).heap.size := (Array.getElem?_eq_some_iff.1 H11.out.blk).1
          have HS12 := Lib.hid (H11.out.fresh ((Fr.refl _ _).alloc (.cells #[.int .i64 ((k : Int)), .int .i64 ((k : Int) - 1)] 46)))
          have hs12 := heap_alloc_new (w10.setCell ⟨gf, 3, none⟩ (.slice sao2 (k + 1) scap2)) (.cells #[.int .i64 ((k : Int)), .int .i64 ((k : Int) - 1)] 46)
          rw [World.size_setCell] at hs12
          have HSN := Lib.hid hs12
          clear hs12
          go_wp2_with (at_builtin; refine wpList_append_pair sty_bind rfl _ _ (by rfl) wC.heap.size _ _ _ (by rfl) HS12.out.ob _ _ _ (by rfl) HSN.out (by rfl) (by rfl) (by omega) (by decide) HS12.out.fr.size ?_)
          intro bv2 w12 ownB2 g12
          obtain ⟨bao2, bcap2, hbv2, -⟩ := own_outS ownB2
          subst hbv2
          have hb12 := HS12.out.blkB g12
          have HS13 := Lib.hid (HS12.out.putB ownB2 g12)
          obtain ⟨y0, y1, y2, y3, y4, y5⟩ := cells6 hb12
          have fz12 := frozen6 hb12 1
          clear u0 u1 u2 u3 u4 u5 hgx HSN HS12 ownB2 g12
          go_wp2_with fail
          go_roundw
          case rel =>
            refine ⟨k + 1, L ++ [(coderOf x, .slice (some ⟨wr.heap.size + 1 + 1, 0, none⟩) 1 1)], .slice cao2 (k + 1) ccap2, .slice bao2 (k - 1 + 1) bcap2, .slice sao2 (k + 1) scap2, by omega, by go_num, HL2.out, ?_⟩
            rw [HX.out.1, HX.out.2.1, HX.out.2.2.2]
            rw [show k + 1 - 1 = k - 1 + 1 from by omega]
            exact HS13.out
          case measure => simp [intOf]; omega
      by_cases hm : x.toNat % 6 = 2
      ·
        have t0 : ((x.toNat : Int) % 6) = 2 := by omega
        have t1 : ((x.toNat : Int).tmod 6) = 2 := by rw [Int.tmod_eq_emod_of_nonneg (by omega)]; exact t0
        have hco : coderOf x = ⟨3, []⟩ := by simp [coderOf, hm]
        have HCO := Lib.hid hco
        clear hm hco
        have hs4 := heap_alloc_new ((wr.alloc (.cells #[.int .i64 1, .int .i64 2, .int .i64 3, .int .i64 4, .int .i64 5, .int .i64 7] 3)).alloc (.cells #[.int .i64 3, .slice none 0 0] 38)) (.cells #[.int .i64 3, .slice none 0 0] 38)
        simp only [World.size_alloc] at hs4
        have HS4 := Lib.hid hs4
        clear hs4
        have hpb : PB (((wr.alloc (.cells #[.int .i64 1, .int .i64 2, .int .i64 3, .int .i64 4, .int .i64 5, .int .i64 7] 3)).alloc (.cells #[.int .i64 3, .slice none 0 0] 38)).alloc (.cells #[.int .i64 3, .slice none 0 0] 38)) (.slice none 0 0) (coderOf x).props := .inl ⟨rfl, by rw [HCO.out]⟩
        have HST := Lib.hid ((HH.out.fresh (((((Fr.refl _ _).alloc _).alloc _).alloc _) : Fr [] wr (((wr.alloc (.cells #[.int .i64 1, .int .i64 2, .int .i64 3, .int .i64 4, .int .i64 5, .int .i64 7] 3)).alloc (.cells #[.int .i64 3, .slice none 0 0] 38)).alloc (.cells #[.int .i64 3, .slice none 0 0] 38)))).add (coderOf x, .slice none 0 0) hpb)
        obtain ⟨p0, p1, p2, p3, p4, p5⟩ := cells6 ((((((Fr.refl _ _).alloc _).alloc _) : Fr [] wr ((wr.alloc (.cells #[.int .i64 1, .int .i64 2, .int .i64 3, .int .i64 4, .int .i64 5, .int .i64 7] 3)).alloc (.cells #[.int .i64 3, .slice none 0 0] 38))).block gf hgs (by simp)).trans HH.out.blk)
        clear hpb
        go_wp2_with (at_builtin; refine wpList_append_pair sty_coder rfl _ _ (by rfl) wC.heap.size _ _ _ (by rfl) HST.out.oc _ _ _ (by rfl) HS4.out (by rfl) (by rfl) (by omega) (by decide) HST.out.fr.size ?_)
        intro cv2 w8 ownC2 g8
        obtain ⟨cao2, ccap2, hcv2, -⟩ := own_outS ownC2
        subst hcv2
        have hb8 := HST.out.blkC g8
        have HST2 := HST.out.putC ownC2 g8
        have HS9 := Lib.hid (HST2.fresh ((Fr.refl _ _).alloc (.cells #[.int .u64 sz.toNat] 39)))
        obtain ⟨x0, x1, x2, x3, x4, x5⟩ := cells6 hb8
        have fz8 := frozen6 hb8 0
        have hsl : Sl ((w8.setCell ⟨gf, 0, none⟩ (.slice cao2 (k + 1) ccap2)).alloc (.cells #[.int .u64 sz.toNat] 39)) (.slice (some ⟨w8.heap.size, 0, none⟩) 1 1) [.int .u64 sz.toNat] := by
          have := sl_one (w8.setCell ⟨gf, 0, none⟩ (.slice cao2 (k + 1) ccap2)) 39 (.int .u64 sz.toNat)
          rwa [World.size_setCell] at this
        have HSL := Lib.hid hsl
        have hgl := (Array.getElem?_eq_some_iff.1 hb8).1
        clear hsl p0 p1 p2 p3 p4 p5 qa qb hgs HST ownC2 g8 HST2 HS4
        go_wp2_with (at_builtin; refine wpList_append_sl sty_u64 rfl _ _ (by rfl) wC.heap.size _ _ _ (by rfl) HS9.out.os _ [.int .u64 sz.toNat] (by rfl) HSL.out (by intro u hu; simp at hu; subst hu; rfl) (by simp; omega) (by simp; omega) HS9.out.fr.size ?_)
        intro sv2 w10 ownS2 g10
        obtain ⟨sao2, scap2, hsv2, -⟩ := own_outS ownS2
        subst hsv2
        have hb10 := HS9.out.blkS g10
        have H11 := Lib.hid (HS9.out.putS ownS2 g10)
        obtain ⟨z0, z1, z2, z3, z4, z5⟩ := cells6 hb10
        have fz10 := frozen6 hb10 3
        have hgl2 := (Array.getElem?_eq_some_iff.1 hb10).1
        clear x0 x1 x2 x3 x4 x5 fz8 hgl HSL HS9 ownS2 g10 hb8
        have HL2 := Lib.hid (show (L ++ [(coderOf x, (.slice none 0 0 : Value))]).map (·.1) = (bs.take (k + 1)).map coderOf by rw [take_succ3 _ _ _ hx, List.map_append, List.map_append, hL]; rfl)
        have hX1 : coV (L ++ [(coderOf x, (.slice none 0 0 : Value))]) = coV L ++ [.int .i64 3, .slice none 0 0] := by rw [coV_append, HCO.out]; rfl
        have hX2 : u64v (List.replicate (k + 1) sz) = u64v (List.replicate k sz) ++ [.int .u64 sz.toNat] := by rw [List.replicate_succ']; simp [u64v]
        by_cases hk0 : k = 0
        · have t5 : ¬ (0 : Int) < (k : Int) := by omega
          have HX := Lib.hid (And.intro hX1 (And.intro hX2 (show biV (chainB (k + 1) back) = biV (chainB k back) ∧ k + 1 - 1 = k - 1 from ⟨chainB_one k back hk0, by omega⟩)))
          clear hk0 hX1 hX2 hx hL
          go_wp2_with fail
          go_roundw
          case rel =>
            refine ⟨k + 1, L ++ [(coderOf x, .slice none 0 0)], .slice cao2 (k + 1) ccap2, .slice bao (k - 1) bcap, .slice sao2 (k + 1) scap2, by omega, by go_num, HL2.out, ?_⟩
            rw [HX.out.1, HX.out.2.1, HX.out.2.2.1, HX.out.2.2.2]
            exact H11.out
          case measure => simp [intOf]; omega
        have t5 : (0 : Int) < (k : Int) := by omega
        cases back with
        | false =>
          have HX := Lib.hid (And.intro hX1 (And.intro hX2 (And.intro True.intro (chainB_more k false (by omega)))))
          clear hk0 hX1 hX2 hx hL
          obtain ⟨u0, u1, u2, u3, u4, u5⟩ := cells6 H11.out.blk
          have hgx : gf < (w10.setCell ⟨gf, 3, none⟩ (.slice sao2 (k + 1) scap2)).heap.size := (Array.getElem?_eq_some_iff.1 H11.out.blk).1
          have HS12 := Lib.hid (H11.out.fresh ((Fr.refl _ _).alloc (.cells #[.int .i64 ((k : Int) - 1), .int .i64 ((k : Int))] 46)))
          have hs12 := heap_alloc_new (w10.setCell ⟨gf, 3, none⟩ (.slice sao2 (k + 1) scap2)) (.cells #[.int .i64 ((k : Int) - 1), .int .i64 ((k : Int))] 46)
          rw [World.size_setCell] at hs12
          have HSN := Lib.hid hs12
          clear hs12
          go_wp2_with (at_builtin; refine wpList_append_pair sty_bind rfl _ _ (by rfl) wC.heap.size _ _ _ (by rfl) HS12.out.ob _ _ _ (by rfl) HSN.out (by rfl) (by rfl) (by omega) (by decide) HS12.out.fr.size ?_)
          intro bv2 w12 ownB2 g12
          obtain ⟨bao2, bcap2, hbv2, -⟩ := own_outS ownB2
          subst hbv2
          have hb12 := HS12.out.blkB g12
          have HS13 := Lib.hid (HS12.out.putB ownB2 g12)
          obtain ⟨y0, y1, y2, y3, y4, y5⟩ := cells6 hb12
          have fz12 := frozen6 hb12 1
          clear u0 u1 u2 u3 u4 u5 hgx HSN HS12 ownB2 g12
          go_wp2_with fail
          go_roundw
          case rel =>
            refine ⟨k + 1, L ++ [(coderOf x, .slice none 0 0)], .slice cao2 (k + 1) ccap2, .slice bao2 (k - 1 + 1) bcap2, .slice sao2 (k + 1) scap2, by omega, by go_num, HL2.out, ?_⟩
            rw [HX.out.1, HX.out.2.1, HX.out.2.2.2]
            rw [show k + 1 - 1 = k - 1 + 1 from by omega]
            exact HS13.out
          case measure => simp [intOf]; omega
        | true =>
          have HX := Lib.hid (And.intro hX1 (And.intro hX2 (And.intro True.intro (chainB_more k true (by omega)))))
          clear hk0 hX1 hX2 hx hL
          obtain ⟨u0, u1, u2, u3, u4, u5⟩ := cells6 H11.out.blk
          have hgx : gf < (w10.setCell ⟨gf, 3, none⟩ (.slice sao2 (k + 1) scap2)).heap.size := (Array.getElem?_eq_some_iff.1 H11.out.blk).1
          have HS12 := Lib.hid (H11.out.fresh ((Fr.refl _ _).alloc (.cells #[.int .i64 ((k : Int)), .int .i64 ((k : Int) - 1)] 46)))
          have hs12 := heap_alloc_new (w10.setCell ⟨gf, 3, none⟩ (.slice sao2 (k + 1) scap2)) (.cells #[.int .i64 ((k : Int)), .int .i64 ((k : Int) - 1)] 46)
          rw [World.size_setCell] at hs12
          have HSN := Lib.hid hs12
          clear hs12
          go_wp2_with (at_builtin; refine wpList_append_pair sty_bind rfl _ _ (by rfl) wC.heap.size _ _ _ (by rfl) HS12.out.ob _ _ _ (by rfl) HSN.out (by rfl) (by rfl) (by omega) (by decide) HS12.out.fr.size ?_)
          intro bv2 w12 ownB2 g12
          obtain ⟨bao2, bcap2, hbv2, -⟩ := own_outS ownB2
          subst hbv2
          have hb12 := HS12.out.blkB g12
          have HS13 := Lib.hid (HS12.out.putB ownB2 g12)
          obtain ⟨y0, y1, y2, y3, y4, y5⟩ := cells6 hb12
          have fz12 := frozen6 hb12 1
          clear u0 u1 u2 u3 u4 u5 hgx HSN HS12 ownB2 g12
          go_wp2_with fail
          go_roundw
          case rel =>
            refine ⟨k + 1, L ++ [(coderOf x, .slice none 0 0)], .slice cao2 (k + 1) ccap2, .slice bao2 (k - 1 + 1) bcap2, .slice sao2 (k + 1) scap2, by omega, by go_num, HL2.out, ?_⟩
            rw [HX.out.1, HX.out.2.1, HX.out.2.2.2]
            rw [show k + 1 - 1 = k - 1 + 1 from by omega]
            exact HS13.out
          case measure => simp [intOf]; omega
      by_cases hm : x.toNat % 6 = 3
      ·
        have t0 : ((x.toNat : Int) % 6) = 3 := by omega
        have t1 : ((x.toNat : Int).tmod 6) = 3 := by rw [Int.tmod_eq_emod_of_nonneg (by omega)]; exact t0
        have hco : coderOf x = ⟨4, [93, 0, 0, 1, 0]⟩ := by simp [coderOf, hm]
        have HCO := Lib.hid hco
        clear hm hco
        have hs4 := heap_alloc_new (((wr.alloc (.cells #[.int .i64 1, .int .i64 2, .int .i64 3, .int .i64 4, .int .i64 5, .int .i64 7] 3)).alloc (.cells #[.int .i64 4, .slice (some ⟨wr.heap.size + 1 + 1, 0, none⟩) 5 5] 38)).alloc (.cells #[.int .u8 93, .int .u8 0, .int .u8 0, .int .u8 1, .int .u8 0] 5)) (.cells #[.int .i64 4, .slice (some ⟨wr.heap.size + 1 + 1, 0, none⟩) 5 5] 38)
        simp only [World.size_alloc] at hs4
        have HS4 := Lib.hid hs4
        clear hs4
        have hpb : PB ((((wr.alloc (.cells #[.int .i64 1, .int .i64 2, .int .i64 3, .int .i64 4, .int .i64 5, .int .i64 7] 3)).alloc (.cells #[.int .i64 4, .slice (some ⟨wr.heap.size + 1 + 1, 0, none⟩) 5 5] 38)).alloc (.cells #[.int .u8 93, .int .u8 0, .int .u8 0, .int .u8 1, .int .u8 0] 5)).alloc (.cells #[.int .i64 4, .slice (some ⟨wr.heap.size + 1 + 1, 0, none⟩) 5 5] 38)) (.slice (some ⟨wr.heap.size + 1 + 1, 0, none⟩) 5 5) (coderOf x).props := by
          rw [HCO.out]
          refine .inr ⟨wr.heap.size + 1 + 1, rfl, by simp, ?_⟩
          have h3 := heap_alloc_new ((wr.alloc (.cells #[.int .i64 1, .int .i64 2, .int .i64 3, .int .i64 4, .int .i64 5, .int .i64 7] 3)).alloc (.cells #[.int .i64 4, .slice (some ⟨wr.heap.size + 1 + 1, 0, none⟩) 5 5] 38)) (.cells #[.int .u8 93, .int .u8 0, .int .u8 0, .int .u8 1, .int .u8 0] 5)
          simp only [World.size_alloc] at h3
          rw [((Fr.refl [] _).alloc _).block (wr.heap.size + 1 + 1) (by simp) (by simp), h3]
          simp [bv]
        have HST := Lib.hid ((HH.out.fresh ((((((Fr.refl _ _).alloc _).alloc _).alloc _).alloc _) : Fr [] wr ((((wr.alloc (.cells #[.int .i64 1, .int .i64 2, .int .i64 3, .int .i64 4, .int .i64 5, .int .i64 7] 3)).alloc (.cells #[.int .i64 4, .slice (some ⟨wr.heap.size + 1 + 1, 0, none⟩) 5 5] 38)).alloc (.cells #[.int .u8 93, .int .u8 0, .int .u8 0, .int .u8 1, .int .u8 0] 5)).alloc (.cells #[.int .i64 4, .slice (some ⟨wr.heap.size + 1 + 1, 0, none⟩) 5 5] 38)))).add (coderOf x, .slice (some ⟨wr.heap.size + 1 + 1, 0, none⟩) 5 5) hpb)
        obtain ⟨p0, p1, p2, p3, p4, p5⟩ := cells6 (((((((Fr.refl _ _).alloc _).alloc _).alloc _) : Fr [] wr (((wr.alloc (.cells #[.int .i64 1, .int .i64 2, .int .i64 3, .int .i64 4, .int .i64 5, .int .i64 7] 3)).alloc (.cells #[.int .i64 4, .slice (some ⟨wr.heap.size + 1 + 1, 0, none⟩) 5 5] 38)).alloc (.cells #[.int .u8 93, .int .u8 0, .int .u8 0, .int .u8 1, .int .u8 0] 5))).block gf hgs (by simp)).trans HH.out.blk)
        clear hpb
        go_wp2_with (at_builtin; refine wpList_append_pair sty_coder rfl _ _ (by rfl) wC.heap.size _ _ _ (by rfl) HST.out.oc _ _ _ (by rfl) HS4.out (by rfl) (by rfl) (by omega) (by decide) HST.out.fr.size ?_)
        intro cv2 w8 ownC2 g8
        obtain ⟨cao2, ccap2, hcv2, -⟩ := own_outS ownC2
        subst hcv2
        have hb8 := HST.out.blkC g8
        have HST2 := HST.out.putC ownC2 g8
        have HS9 := Lib.hid (HST2.fresh ((Fr.refl _ _).alloc (.cells #[.int .u64 sz.toNat] 39)))
        obtain ⟨x0, x1, x2, x3, x4, x5⟩ := cells6 hb8
        have fz8 := frozen6 hb8 0
        have hsl : Sl ((w8.setCell ⟨gf, 0, none⟩ (.slice cao2 (k + 1) ccap2)).alloc (.cells #[.int .u64 sz.toNat] 39)) (.slice (some ⟨w8.heap.size, 0, none⟩) 1 1) [.int .u64 sz.toNat] := by
          have := sl_one (w8.setCell ⟨gf, 0, none⟩ (.slice cao2 (k + 1) ccap2)) 39 (.int .u64 sz.toNat)
          rwa [World.size_setCell] at this
        have HSL := Lib.hid hsl
        have hgl := (Array.getElem?_eq_some_iff.1 hb8).1
        clear hsl p0 p1 p2 p3 p4 p5 qa qb hgs HST ownC2 g8 HST2 HS4
        go_wp2_with (at_builtin; refine wpList_append_sl sty_u64 rfl _ _ (by rfl) wC.heap.size _ _ _ (by rfl) HS9.out.os _ [.int .u64 sz.toNat] (by rfl) HSL.out (by intro u hu; simp at hu; subst hu; rfl) (by simp; omega) (by simp; omega) HS9.out.fr.size ?_)
        intro sv2 w10 ownS2 g10
        obtain ⟨sao2, scap2, hsv2, -⟩ := own_outS ownS2
        subst hsv2
        have hb10 := HS9.out.blkS g10
        have H11 := Lib.hid (HS9.out.putS ownS2 g10)
        obtain ⟨z0, z1, z2, z3, z4, z5⟩ := cells6 hb10
        have fz10 := frozen6 hb10 3
        have hgl2 := (Array.getElem?_eq_some_iff.1 hb10).1
        clear x0 x1 x2 x3 x4 x5 fz8 hgl HSL HS9 ownS2 g10 hb8
        have HL2 := Lib.hid (show (L ++ [(coderOf x, (.slice (some ⟨wr.heap.size + 1 + 1, 0, none⟩) 5 5 : Value))]).map (·.1) = (bs.take (k + 1)).map coderOf by rw [take_succ3 _ _ _ hx, List.map_append, List.map_append, hL]; rfl)
        have hX1 : coV (L ++ [(coderOf x, (.slice (some ⟨wr.heap.size + 1 + 1, 0, none⟩) 5 5 : Value))]) = coV L ++ [.int .i64 4, .slice (some ⟨wr.heap.size + 1 + 1, 0, none⟩) 5 5] := by rw [coV_append, HCO.out]; rfl
        have hX2 : u64v (List.replicate (k + 1) sz) = u64v (List.replicate k sz) ++ [.int .u64 sz.toNat] := by rw [List.replicate_succ']; simp [u64v]
        by_cases hk0 : k = 0
        · have t5 : ¬ (0 : Int) < (k : Int) := by omega
          have HX := Lib.hid (And.intro hX1 (And.intro hX2 (show biV (chainB (k + 1) back) = biV (chainB k back) ∧ k + 1 - 1 = k - 1 from ⟨chainB_one k back hk0, by omega⟩)))
          clear hk0 hX1 hX2 hx hL
          go_wp2_with fail
          go_roundw
          case rel =>
            refine ⟨k + 1, L ++ [(coderOf x, .slice (some ⟨wr.heap.size + 1 + 1, 0, none⟩) 5 5)], .slice cao2 (k + 1) ccap2, .slice bao (k - 1) bcap, .slice sao2 (k + 1) scap2, by omega, by go_num, HL2.out, ?_⟩
            rw [HX.out.1, HX.out.2.1, HX.out.2.2.1, HX.out.2.2.2]
            exact H11.out
          case measure => simp [intOf]; omega
        have t5 : (0 : Int) < (k : Int) := by omega
        cases back with
        | false =>
          have HX := Lib.hid (And.intro hX1 (And.intro hX2 (And.intro True.intro (chainB_more k false (by omega)))))
          clear hk0 hX1 hX2 hx hL
          obtain ⟨u0, u1, u2, u3, u4, u5⟩ := cells6 H11.out.blk
          have hgx : gf < (w10.setCell ⟨gf, 3, none⟩ (.slice sao2 (k + 1) scap2)).heap.size := (Array.getElem?_eq_some_iff.1 H11.out.blk).1
          have HS12 := Lib.hid (H11.out.fresh ((Fr.refl _ _).alloc (.cells #[.int .i64 ((k : Int) - 1), .int .i64 ((k : Int))] 46)))
          have hs12 := heap_alloc_new (w10.setCell ⟨gf, 3, none⟩ (.slice sao2 (k + 1) scap2)) (.cells #[.int .i64 ((k : Int) - 1), .int .i64 ((k : Int))] 46)
          rw [World.size_setCell] at hs12
          have HSN := Lib.hid hs12
          clear hs12
          go_wp2_with (at_builtin; refine wpList_append_pair sty_bind rfl _ _ (by rfl) wC.heap.size _ _ _ (by rfl) HS12.out.ob _ _ _ (by rfl) HSN.out (by rfl) (by rfl) (by omega) (by decide) HS12.out.fr.size ?_)
          intro bv2 w12 ownB2 g12
          obtain ⟨bao2, bcap2, hbv2, -⟩ := own_outS ownB2
          subst hbv2
          have hb12 := HS12.out.blkB g12
          have HS13 := Lib.hid (HS12.out.putB ownB2 g12)
          obtain ⟨y0, y1, y2, y3, y4, y5⟩ := cells6 hb12
          have fz12 := frozen6 hb12 1
          clear u0 u1 u2 u3 u4 u5 hgx HSN HS12 ownB2 g12
          go_wp2_with fail
          go_roundw
          case rel =>
            refine ⟨k + 1, L ++ [(coderOf x, .slice (some ⟨wr.heap.size + 1 + 1, 0, none⟩) 5 5)], .slice cao2 (k + 1) ccap2, .slice bao2 (k - 1 + 1) bcap2, .slice sao2 (k + 1) scap2, by omega, by go_num, HL2.out, ?_⟩
            rw [HX.out.1, HX.out.2.1, HX.out.2.2.2]
            rw [show k + 1 - 1 = k - 1 + 1 from by omega]
            exact HS13.out
          case measure => simp [intOf]; omega
        | true =>
          have HX := Lib.hid (And.intro hX1 (And.intro hX2 (And.intro True.intro (chainB_more k true (by omega)))))
          clear hk0 hX1 hX2 hx hL
          obtain ⟨u0, u1, u2, u3, u4, u5⟩ := cells6 H11.out.blk
          have hgx : gf < (w10.setCell ⟨gf, 3, none⟩ (.slice sao2 (k + 1) scap2)).heap.size := (Array.getElem?_eq_some_iff.1 H11.out.blk).1
          have HS12 := Lib.hid (H11.out.fresh ((Fr.refl _ _).alloc (.cells #[.int .i64 ((k : Int)), .int .i64 ((k : Int) - 1)] 46)))
          have hs12 := heap_alloc_new (w10.setCell ⟨gf, 3, none⟩ (.slice sao2 (k + 1) scap2)) (.cells #[.int .i64 ((k : Int)), .int .i64 ((k : Int) - 1)] 46)
          rw [World.size_setCell] at hs12
          have HSN := Lib.hid hs12
          clear hs12
          go_wp2_with (at_builtin; refine wpList_append_pair sty_bind rfl _ _ (by rfl) wC.heap.size _ _ _ (by rfl) HS12.out.ob _ _ _ (by rfl) HSN.out (by rfl) (by rfl) (by omega) (by decide) HS12.out.fr.size ?_)
          intro bv2 w12 ownB2 g12
          obtain ⟨bao2, bcap2, hbv2, -⟩ := own_outS ownB2
          subst hbv2
          have hb12 := HS12.out.blkB g12
          have HS13 := Lib.hid (HS12.out.putB ownB2 g12)
          obtain ⟨y0, y1, y2, y3, y4, y5⟩ := cells6 hb12
          have fz12 := frozen6 hb12 1
          clear u0 u1 u2 u3 u4 u5 hgx HSN HS12 ownB2 g12
          go_wp2_with fail
          go_roundw
          case rel =>
            refine ⟨k + 1, L ++ [(coderOf x, .slice (some ⟨wr.heap.size + 1 + 1, 0, none⟩) 5 5)], .slice cao2 (k + 1) ccap2, .slice bao2 (k - 1 + 1) bcap2, .slice sao2 (k + 1) scap2, by omega, by go_num, HL2.out, ?_⟩
            rw [HX.out.1, HX.out.2.1, HX.out.2.2.2]
            rw [show k + 1 - 1 = k - 1 + 1 from by omega]
            exact HS13.out
          case measure => simp [intOf]; omega
      by_cases hm : x.toNat % 6 = 4
      ·
        have t0 : ((x.toNat : Int) % 6) = 4 := by omega
        have t1 : ((x.toNat : Int).tmod 6) = 4 := by rw [Int.tmod_eq_emod_of_nonneg (by omega)]; exact t0
        have hco : coderOf x = ⟨5, [UInt8.ofNat (x.toNat % 41)]⟩ := by simp [coderOf, hm]
        have HCO := Lib.hid hco
        clear hm hco
        have hs4 := heap_alloc_new (((wr.alloc (.cells #[.int .i64 1, .int .i64 2, .int .i64 3, .int .i64 4, .int .i64 5, .int .i64 7] 3)).alloc (.cells #[.int .i64 5, .slice (some ⟨wr.heap.size + 1 + 1, 0, none⟩) 1 1] 38)).alloc (.cells #[.int .u8 ((x.toNat : Int) % 41)] 5)) (.cells #[.int .i64 5, .slice (some ⟨wr.heap.size + 1 + 1, 0, none⟩) 1 1] 38)
        simp only [World.size_alloc] at hs4
        have HS4 := Lib.hid hs4
        clear hs4
        have hpb : PB ((((wr.alloc (.cells #[.int .i64 1, .int .i64 2, .int .i64 3, .int .i64 4, .int .i64 5, .int .i64 7] 3)).alloc (.cells #[.int .i64 5, .slice (some ⟨wr.heap.size + 1 + 1, 0, none⟩) 1 1] 38)).alloc (.cells #[.int .u8 ((x.toNat : Int) % 41)] 5)).alloc (.cells #[.int .i64 5, .slice (some ⟨wr.heap.size + 1 + 1, 0, none⟩) 1 1] 38)) (.slice (some ⟨wr.heap.size + 1 + 1, 0, none⟩) 1 1) (coderOf x).props := by
          rw [HCO.out]
          refine .inr ⟨wr.heap.size + 1 + 1, rfl, by simp, ?_⟩
          have h3 := heap_alloc_new ((wr.alloc (.cells #[.int .i64 1, .int .i64 2, .int .i64 3, .int .i64 4, .int .i64 5, .int .i64 7] 3)).alloc (.cells #[.int .i64 5, .slice (some ⟨wr.heap.size + 1 + 1, 0, none⟩) 1 1] 38)) (.cells #[.int .u8 ((x.toNat : Int) % 41)] 5)
          simp only [World.size_alloc] at h3
          rw [((Fr.refl [] _).alloc _).block (wr.heap.size + 1 + 1) (by simp) (by simp), h3]
          simp [bv]
          omega
        have HST := Lib.hid ((HH.out.fresh ((((((Fr.refl _ _).alloc _).alloc _).alloc _).alloc _) : Fr [] wr ((((wr.alloc (.cells #[.int .i64 1, .int .i64 2, .int .i64 3, .int .i64 4, .int .i64 5, .int .i64 7] 3)).alloc (.cells #[.int .i64 5, .slice (some ⟨wr.heap.size + 1 + 1, 0, none⟩) 1 1] 38)).alloc (.cells #[.int .u8 ((x.toNat : Int) % 41)] 5)).alloc (.cells #[.int .i64 5, .slice (some ⟨wr.heap.size + 1 + 1, 0, none⟩) 1 1] 38)))).add (coderOf x, .slice (some ⟨wr.heap.size + 1 + 1, 0, none⟩) 1 1) hpb)
        obtain ⟨p0, p1, p2, p3, p4, p5⟩ := cells6 (((((((Fr.refl _ _).alloc _).alloc _).alloc _) : Fr [] wr (((wr.alloc (.cells #[.int .i64 1, .int .i64 2, .int .i64 3, .int .i64 4, .int .i64 5, .int .i64 7] 3)).alloc (.cells #[.int .i64 5, .slice (some ⟨wr.heap.size + 1 + 1, 0, none⟩) 1 1] 38)).alloc (.cells #[.int .u8 ((x.toNat : Int) % 41)] 5))).block gf hgs (by simp)).trans HH.out.blk)
        clear hpb
        go_wp2_with (at_builtin; refine wpList_append_pair sty_coder rfl _ _ (by rfl) wC.heap.size _ _ _ (by rfl) HST.out.oc _ _ _ (by rfl) HS4.out (by rfl) (by rfl) (by omega) (by decide) HST.out.fr.size ?_)
        intro cv2 w8 ownC2 g8
        obtain ⟨cao2, ccap2, hcv2, -⟩ := own_outS ownC2
        subst hcv2
        have hb8 := HST.out.blkC g8
        have HST2 := HST.out.putC ownC2 g8
        have HS9 := Lib.hid (HST2.fresh ((Fr.refl _ _).alloc (.cells #[.int .u64 sz.toNat] 39)))
        obtain ⟨x0, x1, x2, x3, x4, x5⟩ := cells6 hb8
        have fz8 := frozen6 hb8 0
        have hsl : Sl ((w8.setCell ⟨gf, 0, none⟩ (.slice cao2 (k + 1) ccap2)).alloc (.cells #[.int .u64 sz.toNat] 39)) (.slice (some ⟨w8.heap.size, 0, none⟩) 1 1) [.int .u64 sz.toNat] := by
          have := sl_one (w8.setCell ⟨gf, 0, none⟩ (.slice cao2 (k + 1) ccap2)) 39 (.int .u64 sz.toNat)
          rwa [World.size_setCell] at this
        have HSL := Lib.hid hsl
        have hgl := (Array.getElem?_eq_some_iff.1 hb8).1
        clear hsl p0 p1 p2 p3 p4 p5 qa qb hgs HST ownC2 g8 HST2 HS4
        go_wp2_with (at_builtin; refine wpList_append_sl sty_u64 rfl _ _ (by rfl) wC.heap.size _ _ _ (by rfl) HS9.out.os _ [.int .u64 sz.toNat] (by rfl) HSL.out (by intro u hu; simp at hu; subst hu; rfl) (by simp; omega) (by simp; omega) HS9.out.fr.size ?_)
        intro sv2 w10 ownS2 g10
        obtain ⟨sao2, scap2, hsv2, -⟩ := own_outS ownS2
        subst hsv2
        have hb10 := HS9.out.blkS g10
        have H11 := Lib.hid (HS9.out.putS ownS2 g10)
        obtain ⟨z0, z1, z2, z3, z4, z5⟩ := cells6 hb10
        have fz10 := frozen6 hb10 3
        have hgl2 := (Array.getElem?_eq_some_iff.1 hb10).1
        clear x0 x1 x2 x3 x4 x5 fz8 hgl HSL HS9 ownS2 g10 hb8
        have HL2 := Lib.hid (show (L ++ [(coderOf x, (.slice (some ⟨wr.heap.size + 1 + 1, 0, none⟩) 1 1 : Value))]).map (·.1) = (bs.take (k + 1)).map coderOf by rw [take_succ3 _ _ _ hx, List.map_append, List.map_append, hL]; rfl)
        have hX1 : coV (L ++ [(coderOf x, (.slice (some ⟨wr.heap.size + 1 + 1, 0, none⟩) 1 1 : Value))]) = coV L ++ [.int .i64 5, .slice (some ⟨wr.heap.size + 1 + 1, 0, none⟩) 1 1] := by rw [coV_append, HCO.out]; rfl
        have hX2 : u64v (List.replicate (k + 1) sz) = u64v (List.replicate k sz) ++ [.int .u64 sz.toNat] := by rw [List.replicate_succ']; simp [u64v]
        by_cases hk0 : k = 0
        · have t5 : ¬ (0 : Int) < (k : Int) := by omega
          have HX := Lib.hid (And.intro hX1 (And.intro hX2 (show biV (chainB (k + 1) back) = biV (chainB k back) ∧ k + 1 - 1 = k - 1 from ⟨chainB_one k back hk0, by omega⟩)))
          clear hk0 hX1 hX2 hx hL
          go_wp2_with fail
          go_roundw
          case rel =>
            refine ⟨k + 1, L ++ [(coderOf x, .slice (some ⟨wr.heap.size + 1 + 1, 0, none⟩) 1 1)], .slice cao2 (k + 1) ccap2, .slice bao (k - 1) bcap, .slice sao2 (k + 1) scap2, by omega, by go_num, HL2.out, ?_⟩
            rw [HX.out.1, HX.out.2.1, HX.out.2.2.1, HX.out.2.2.2]
            exact H11.out
          case measure => simp [intOf]; omega
        have t5 : (0 : Int) < (k : Int) := by omega
        cases back with
        | false =>
          have HX := Lib.hid (And.intro hX1 (And.intro hX2 (And.intro True.intro (chainB_more k false (by omega)))))
          clear hk0 hX1 hX2 hx hL
          obtain ⟨u0, u1, u2, u3, u4, u5⟩ := cells6 H11.out.blk
          have hgx : gf < (w10.setCell ⟨gf, 3, none⟩ (.slice sao2 (k + 1) scap2)).heap.size := (Array.getElem?_eq_some_iff.1 H11.out.blk).1
          have HS12 := Lib.hid (H11.out.fresh ((Fr.refl _ _).alloc (.cells #[.int .i64 ((k : Int) - 1), .int .i64 ((k : Int))] 46)))
          have hs12 := heap_alloc_new (w10.setCell ⟨gf, 3, none⟩ (.slice sao2 (k + 1) scap2)) (.cells #[.int .i64 ((k : Int) - 1), .int .i64 ((k : Int))] 46)
          rw [World.size_setCell] at hs12
          have HSN := Lib.hid hs12
          clear hs12
          go_wp2_with (at_builtin; refine wpList_append_pair sty_bind rfl _ _ (by rfl) wC.heap.size _ _ _ (by rfl) HS12.out.ob _ _ _ (by rfl) HSN.out (by rfl) (by rfl) (by omega) (by decide) HS12.out.fr.size ?_)
          intro bv2 w12 ownB2 g12
          obtain ⟨bao2, bcap2, hbv2, -⟩ := own_outS ownB2
          subst hbv2
          have hb12 := HS12.out.blkB g12
          have HS13 := Lib.hid (HS12.out.putB ownB2 g12)
          obtain ⟨y0, y1, y2, y3, y4, y5⟩ := cells6 hb12
          have fz12 := frozen6 hb12 1
          clear u0 u1 u2 u3 u4 u5 hgx HSN HS12 ownB2 g12
          go_wp2_with fail
          go_roundw
          case rel =>
            refine ⟨k + 1, L ++ [(coderOf x, .slice (some ⟨wr.heap.size + 1 + 1, 0, none⟩) 1 1)], .slice cao2 (k + 1) ccap2, .slice bao2 (k - 1 + 1) bcap2, .slice sao2 (k + 1) scap2, by omega, by go_num, HL2.out, ?_⟩
            rw [HX.out.1, HX.out.2.1, HX.out.2.2.2]
            rw [show k + 1 - 1 = k - 1 + 1 from by omega]
            exact HS13.out
          case measure => simp [intOf]; omega
        | true =>
          have HX := Lib.hid (And.intro hX1 (And.intro hX2 (And.intro True.intro (chainB_more k true (by omega)))))
          clear hk0 hX1 hX2 hx hL
          obtain ⟨u0, u1, u2, u3, u4, u5⟩ := cells6 H11.out.blk
          have hgx : gf < (w10.setCell ⟨gf, 3, none⟩ (.slice sao2 (k + 1) scap2)).heap.size := (Array.getElem?_eq_some_iff.1 H11.out.blk).1
          have HS12 := Lib.hid (H11.out.fresh ((Fr.refl _ _).alloc (.cells #[.int .i64 ((k : Int)), .int .i64 ((k : Int) - 1)] 46)))
          have hs12 := heap_alloc_new (w10.setCell ⟨gf, 3, none⟩ (.slice sao2 (k + 1) scap2)) (.cells #[.int .i64 ((k : Int)), .int .i64 ((k : Int) - 1)] 46)
          rw [World.size_setCell] at hs12
          have HSN := Lib.hid hs12
          clear hs12
          go_wp2_with (at_builtin; refine wpList_append_pair sty_bind rfl _ _ (by rfl) wC.heap.size _ _ _ (by rfl) HS12.out.ob _ _ _ (by rfl) HSN.out (by rfl) (by rfl) (by omega) (by decide) HS12.out.fr.size ?_)
          intro bv2 w12 ownB2 g12
          obtain ⟨bao2, bcap2, hbv2, -⟩ := own_outS ownB2
          subst hbv2
          have hb12 := HS12.out.blkB g12
          have HS13 := Lib.hid (HS12.out.putB ownB2 g12)
          obtain ⟨y0, y1, y2, y3, y4, y5⟩ := cells6 hb12
          have fz12 := frozen6 hb12 1
          clear u0 u1 u2 u3 u4 u5 hgx HSN HS12 ownB2 g12
          go_wp2_with fail
          go_roundw
          case rel =>
            refine ⟨k + 1, L ++ [(coderOf x, .slice (some ⟨wr.heap.size + 1 + 1, 0, none⟩) 1 1)], .slice cao2 (k + 1) ccap2, .slice bao2 (k - 1 + 1) bcap2, .slice sao2 (k + 1) scap2, by omega, by go_num, HL2.out, ?_⟩
            rw [HX.out.1, HX.out.2.1, HX.out.2.2.2]
            rw [show k + 1 - 1 = k - 1 + 1 from by omega]
            exact HS13.out
          case measure => simp [intOf]; omega
      have hm : x.toNat % 6 = 5 := by omega
      ·
        have t0 : ((x.toNat : Int) % 6) = 5 := by omega
        have t1 : ((x.toNat : Int).tmod 6) = 5 := by rw [Int.tmod_eq_emod_of_nonneg (by omega)]; exact t0
        have hco : coderOf x = ⟨7, [6, 0, 0, 1, 0]⟩ := by simp [coderOf, hm]
        have HCO := Lib.hid hco
        clear hm hco
        have hs4 := heap_alloc_new (((wr.alloc (.cells #[.int .i64 1, .int .i64 2, .int .i64 3, .int .i64 4, .int .i64 5, .int .i64 7] 3)).alloc (.cells #[.int .i64 7, .slice (some ⟨wr.heap.size + 1 + 1, 0, none⟩) 5 5] 38)).alloc (.cells #[.int .u8 6, .int .u8 0, .int .u8 0, .int .u8 1, .int .u8 0] 5)) (.cells #[.int .i64 7, .slice (some ⟨wr.heap.size + 1 + 1, 0, none⟩) 5 5] 38)
        simp only [World.size_alloc] at hs4
        have HS4 := Lib.hid hs4
        clear hs4
        have hpb : PB ((((wr.alloc (.cells #[.int .i64 1, .int .i64 2, .int .i64 3, .int .i64 4, .int .i64 5, .int .i64 7] 3)).alloc (.cells #[.int .i64 7, .slice (some ⟨wr.heap.size + 1 + 1, 0, none⟩) 5 5] 38)).alloc (.cells #[.int .u8 6, .int .u8 0, .int .u8 0, .int .u8 1, .int .u8 0] 5)).alloc (.cells #[.int .i64 7, .slice (some ⟨wr.heap.size + 1 + 1, 0, none⟩) 5 5] 38)) (.slice (some ⟨wr.heap.size + 1 + 1, 0, none⟩) 5 5) (coderOf x).props := by
          rw [HCO.out]
          refine .inr ⟨wr.heap.size + 1 + 1, rfl, by simp, ?_⟩
          have h3 := heap_alloc_new ((wr.alloc (.cells #[.int .i64 1, .int .i64 2, .int .i64 3, .int .i64 4, .int .i64 5, .int .i64 7] 3)).alloc (.cells #[.int .i64 7, .slice (some ⟨wr.heap.size + 1 + 1, 0, none⟩) 5 5] 38)) (.cells #[.int .u8 6, .int .u8 0, .int .u8 0, .int .u8 1, .int .u8 0] 5)
          simp only [World.size_alloc] at h3
          rw [((Fr.refl [] _).alloc _).block (wr.heap.size + 1 + 1) (by simp) (by simp), h3]
          simp [bv]
        have HST := Lib.hid ((HH.out.fresh ((((((Fr.refl _ _).alloc _).alloc _).alloc _).alloc _) : Fr [] wr ((((wr.alloc (.cells #[.int .i64 1, .int .i64 2, .int .i64 3, .int .i64 4, .int .i64 5, .int .i64 7] 3)).alloc (.cells #[.int .i64 7, .slice (some ⟨wr.heap.size + 1 + 1, 0, none⟩) 5 5] 38)).alloc (.cells #[.int .u8 6, .int .u8 0, .int .u8 0, .int .u8 1, .int .u8 0] 5)).alloc (.cells #[.int .i64 7, .slice (some ⟨wr.heap.size + 1 + 1, 0, none⟩) 5 5] 38)))).add (coderOf x, .slice (some ⟨wr.heap.size + 1 + 1, 0, none⟩) 5 5) hpb)
        obtain ⟨p0, p1, p2, p3, p4, p5⟩ := cells6 (((((((Fr.refl _ _).alloc _).alloc _).alloc _) : Fr [] wr (((wr.alloc (.cells #[.int .i64 1, .int .i64 2, .int .i64 3, .int .i64 4, .int .i64 5, .int .i64 7] 3)).alloc (.cells #[.int .i64 7, .slice (some ⟨wr.heap.size + 1 + 1, 0, none⟩) 5 5] 38)).alloc (.cells #[.int .u8 6, .int .u8 0, .int .u8 0, .int .u8 1, .int .u8 0] 5))).block gf hgs (by simp)).trans HH.out.blk)
        clear hpb
        go_wp2_with (at_builtin; refine wpList_append_pair sty_coder rfl _ _ (by rfl) wC.heap.size _ _ _ (by rfl) HST.out.oc _ _ _ (by rfl) HS4.out (by rfl) (by rfl) (by omega) (by decide) HST.out.fr.size ?_)
        intro cv2 w8 ownC2 g8
        obtain ⟨cao2, ccap2, hcv2, -⟩ := own_outS ownC2
        subst hcv2
        have hb8 := HST.out.blkC g8
        have HST2 := HST.out.putC ownC2 g8
        have HS9 := Lib.hid (HST2.fresh ((Fr.refl _ _).alloc (.cells #[.int .u64 sz.toNat] 39)))
        obtain ⟨x0, x1, x2, x3, x4, x5⟩ := cells6 hb8
        have fz8 := frozen6 hb8 0
        have hsl : Sl ((w8.setCell ⟨gf, 0, none⟩ (.slice cao2 (k + 1) ccap2)).alloc (.cells #[.int .u64 sz.toNat] 39)) (.slice (some ⟨w8.heap.size, 0, none⟩) 1 1) [.int .u64 sz.toNat] := by
          have := sl_one (w8.setCell ⟨gf, 0, none⟩ (.slice cao2 (k + 1) ccap2)) 39 (.int .u64 sz.toNat)
          rwa [World.size_setCell] at this
        have HSL := Lib.hid hsl
        have hgl := (Array.getElem?_eq_some_iff.1 hb8).1
        clear hsl p0 p1 p2 p3 p4 p5 qa qb hgs HST ownC2 g8 HST2 HS4
        go_wp2_with (at_builtin; refine wpList_append_sl sty_u64 rfl _ _ (by rfl) wC.heap.size _ _ _ (by rfl) HS9.out.os _ [.int .u64 sz.toNat] (by rfl) HSL.out (by intro u hu; simp at hu; subst hu; rfl) (by simp; omega) (by simp; omega) HS9.out.fr.size ?_)
        intro sv2 w10 ownS2 g10
        obtain ⟨sao2, scap2, hsv2, -⟩ := own_outS ownS2
        subst hsv2
        have hb10 := HS9.out.blkS g10
        have H11 := Lib.hid (HS9.out.putS ownS2 g10)
        obtain ⟨z0, z1, z2, z3, z4, z5⟩ := cells6 hb10
        have fz10 := frozen6 hb10 3
        have hgl2 := (Array.getElem?_eq_some_iff.1 hb10).1
        clear x0 x1 x2 x3 x4 x5 fz8 hgl HSL HS9 ownS2 g10 hb8
        have HL2 := Lib.hid (show (L ++ [(coderOf x, (.slice (some ⟨wr.heap.size + 1 + 1, 0, none⟩) 5 5 : Value))]).map (·.1) = (bs.take (k + 1)).map coderOf by rw [take_succ3 _ _ _ hx, List.map_append, List.map_append, hL]; rfl)
        have hX1 : coV (L ++ [(coderOf x, (.slice (some ⟨wr.heap.size + 1 + 1, 0, none⟩) 5 5 : Value))]) = coV L ++ [.int .i64 7, .slice (some ⟨wr.heap.size + 1 + 1, 0, none⟩) 5 5] := by rw [coV_append, HCO.out]; rfl
        have hX2 : u64v (List.replicate (k + 1) sz) = u64v (List.replicate k sz) ++ [.int .u64 sz.toNat] := by rw [List.replicate_succ']; simp [u64v]
        by_cases hk0 : k = 0
        · have t5 : ¬ (0 : Int) < (k : Int) := by omega
          have HX := Lib.hid (And.intro hX1 (And.intro hX2 (show biV (chainB (k + 1) back) = biV (chainB k back) ∧ k + 1 - 1 = k - 1 from ⟨chainB_one k back hk0, by omega⟩)))
          clear hk0 hX1 hX2 hx hL
          go_wp2_with fail
          go_roundw
          case rel =>
            refine ⟨k + 1, L ++ [(coderOf x, .slice (some ⟨wr.heap.size + 1 + 1, 0, none⟩) 5 5)], .slice cao2 (k + 1) ccap2, .slice bao (k - 1) bcap, .slice sao2 (k + 1) scap2, by omega, by go_num, HL2.out, ?_⟩
            rw [HX.out.1, HX.out.2.1, HX.out.2.2.1, HX.out.2.2.2]
            exact H11.out
          case measure => simp [intOf]; omega
        have t5 : (0 : Int) < (k : Int) := by omega
        cases back with
        | false =>
          have HX := Lib.hid (And.intro hX1 (And.intro hX2 (And.intro True.intro (chainB_more k false (by omega)))))
          clear hk0 hX1 hX2 hx hL
          obtain ⟨u0, u1, u2, u3, u4, u5⟩ := cells6 H11.out.blk
          have hgx : gf < (w10.setCell ⟨gf, 3, none⟩ (.slice sao2 (k + 1) scap2)).heap.size := (Array.getElem?_eq_some_iff.1 H11.out.blk).1
          have HS12 := Lib.hid (H11.out.fresh ((Fr.refl _ _).alloc (.cells #[.int .i64 ((k : Int) - 1), .int .i64 ((k : Int))] 46)))
          have hs12 := heap_alloc_new (w10.setCell ⟨gf, 3, none⟩ (.slice sao2 (k + 1) scap2)) (.cells #[.int .i64 ((k : Int) - 1), .int .i64 ((k : Int))] 46)
          rw [World.size_setCell] at hs12
          have HSN := Lib.hid hs12
          clear hs12
          go_wp2_with (at_builtin; refine wpList_append_pair sty_bind rfl _ _ (by rfl) wC.heap.size _ _ _ (by rfl) HS12.out.ob _ _ _ (by rfl) HSN.out (by rfl) (by rfl) (by omega) (by decide) HS12.out.fr.size ?_)
          intro bv2 w12 ownB2 g12
          obtain ⟨bao2, bcap2, hbv2, -⟩ := own_outS ownB2
          subst hbv2
          have hb12 := HS12.out.blkB g12
          have HS13 := Lib.hid (HS12.out.putB ownB2 g12)
          obtain ⟨y0, y1, y2, y3, y4, y5⟩ := cells6 hb12
          have fz12 := frozen6 hb12 1
          clear u0 u1 u2 u3 u4 u5 hgx HSN HS12 ownB2 g12
          go_wp2_with fail
          go_roundw
          case rel =>
            refine ⟨k + 1, L ++ [(coderOf x, .slice (some ⟨wr.heap.size + 1 + 1, 0, none⟩) 5 5)], .slice cao2 (k + 1) ccap2, .slice bao2 (k - 1 + 1) bcap2, .slice sao2 (k + 1) scap2, by omega, by go_num, HL2.out, ?_⟩
            rw [HX.out.1, HX.out.2.1, HX.out.2.2.2]
            rw [show k + 1 - 1 = k - 1 + 1 from by omega]
            exact HS13.out
          case measure => simp [intOf]; omega
        | true =>
          have HX := Lib.hid (And.intro hX1 (And.intro hX2 (And.intro True.intro (chainB_more k true (by omega)))))
          clear hk0 hX1 hX2 hx hL
          obtain ⟨u0, u1, u2, u3, u4, u5⟩ := cells6 H11.out.blk
          have hgx : gf < (w10.setCell ⟨gf, 3, none⟩ (.slice sao2 (k + 1) scap2)).heap.size := (Array.getElem?_eq_some_iff.1 H11.out.blk).1
          have HS12 := Lib.hid (H11.out.fresh ((Fr.refl _ _).alloc (.cells #[.int .i64 ((k : Int)), .int .i64 ((k : Int) - 1)] 46)))
          have hs12 := heap_alloc_new (w10.setCell ⟨gf, 3, none⟩ (.slice sao2 (k + 1) scap2)) (.cells #[.int .i64 ((k : Int)), .int .i64 ((k : Int) - 1)] 46)
          rw [World.size_setCell] at hs12
          have HSN := Lib.hid hs12
          clear hs12
          go_wp2_with (at_builtin; refine wpList_append_pair sty_bind rfl _ _ (by rfl) wC.heap.size _ _ _ (by rfl) HS12.out.ob _ _ _ (by rfl) HSN.out (by rfl) (by rfl) (by omega) (by decide) HS12.out.fr.size ?_)
          intro bv2 w12 ownB2 g12
          obtain ⟨bao2, bcap2, hbv2, -⟩ := own_outS ownB2
          subst hbv2
          have hb12 := HS12.out.blkB g12
          have HS13 := Lib.hid (HS12.out.putB ownB2 g12)
          obtain ⟨y0, y1, y2, y3, y4, y5⟩ := cells6 hb12
          have fz12 := frozen6 hb12 1
          clear u0 u1 u2 u3 u4 u5 hgx HSN HS12 ownB2 g12
          go_wp2_with fail
          go_roundw
          case rel =>
            refine ⟨k + 1, L ++ [(coderOf x, .slice (some ⟨wr.heap.size + 1 + 1, 0, none⟩) 5 5)], .slice cao2 (k + 1) ccap2, .slice bao2 (k - 1 + 1) bcap2, .slice sao2 (k + 1) scap2, by omega, by go_num, HL2.out, ?_⟩
            rw [HX.out.1, HX.out.2.1, HX.out.2.2.2]
            rw [show k + 1 - 1 = k - 1 + 1 from by omega]
            exact HS13.out
          case measure => simp [intOf]; omega
    · have hke : k = n := by omega
      subst hke
      have hF := H.blk
      have hgs : gf < wr.heap.size := (Array.getElem?_eq_some_iff.1 hF).1
      have HGS := Lib.hid hgs
      have HLT := Lib.hid H.lt
      have HFr := Lib.hid H.fr
      have HL := Lib.hid (show L.map (·.1) = bs.map coderOf by rw [hL, List.take_of_length_le (by rw [← HN.out]; exact Nat.le_refl _)])
      obtain ⟨cao, ccap, hcv, -⟩ := own_outS H.oc
      obtain ⟨bao, bcap, hbv, -⟩ := own_outS H.ob
      obtain ⟨sao, scap, hsv, -⟩ := own_outS H.os
      subst hcv hbv hsv
      obtain ⟨p0, p1, p2, p3, p4, p5⟩ := cells6 hF
      have pz := frozen6 hF 2
      clear o H hL
      have HSm := Lib.hid (fun (b : Bool) => show Small (chainF (bs.map coderOf) sz b) from ⟨by simp [chainF, ← HN.out]; omega, by simp [chainF, chainB, ← HN.out]; omega, by simp [chainF], by simp [chainF, ← HN.out]; omega⟩)
      have HPr := Lib.hid (fun (b : Bool) => show ∀ c ∈ (chainF (bs.map coderOf) sz b).coders, c.props.length ≤ 2000 from fun c hc => by
        obtain ⟨x, _, rfl⟩ := List.mem_map.1 hc
        exact Nat.le_trans (coderOf_len x) (by decide))
      have HCode := Lib.hid (fun (b : Bool) => chain_code (bs.map coderOf) sz b (fun c hc => by obtain ⟨x, _, rfl⟩ := List.mem_map.1 hc; exact coderOf_ins x) (fun c hc => by obtain ⟨x, _, rfl⟩ := List.mem_map.1 hc; exact coderOf_ok x) (by simp [← HN.out]; omega) (by simp [← HN.out]; omega) hsz)
      have HMain := Lib.hid (fun (b : Bool) => chain_main (bs.map coderOf) sz b (by simp [← HN.out]; omega))
      cases back with
      | true =>
        go_wp2_with fail
        obtain ⟨wq, hwq⟩ : ∃ wq, wq = wr.setCell ⟨gf, 2, none⟩ (.slice (some ⟨wr.heap.size, 0, none⟩) 1 1) := ⟨_, rfl⟩
        have Fq : Fr [gf] wr wq := hwq ▸ (Fr.refl _ _).setCell (.inl (by simp)) _
        have sq : wq.heap.size = wr.heap.size := by rw [hwq]; simp
        have hFq := setCell_block hF (.slice (some ⟨wr.heap.size, 0, none⟩) 1 1)
        rw [← hwq] at hFq ⊢
        clear hwq
        obtain ⟨w2, hw2⟩ : ∃ w2, w2 = wq.setCell ⟨gf, 2, none⟩ (.slice (some ⟨wr.heap.size + 1, 0, none⟩) 1 1) := ⟨_, rfl⟩
        have F2 : Fr [gf] wr w2 := hw2 ▸ Fq.setCell (.inl (by simp)) _
        have s2 : w2.heap.size = wr.heap.size := by rw [hw2]; simp; omega
        have hF2 := setCell_block hFq (.slice (some ⟨wr.heap.size + 1, 0, none⟩) 1 1)
        rw [← hw2] at hF2 ⊢
        clear hw2
        obtain ⟨w3, hw3⟩ : ∃ w3, w3 = (w2.alloc (.cells #[.int .i64 ((k : Int) - 1)] 3)).alloc (.cells #[.int .i64 0] 3) := ⟨_, rfl⟩
        have F3 : Fr [] w2 w3 := hw3 ▸ ((Fr.refl _ _).alloc _).alloc _
        have hP3 : w3.heap[wr.heap.size + 1]? = some (.cells #[.int .i64 0] 3) := by have := heap_alloc_new (w2.alloc (.cells #[.int .i64 ((k : Int) - 1)] 3)) (.cells #[.int .i64 0] 3); simp only [World.size_alloc] at this; rw [← s2]; exact hw3 ▸ this
        have s3 : w3.heap.size = wr.heap.size + 1 + 1 := by rw [hw3]; simp; omega
        rw [← hw3]
        clear hw3
        have F23 : Fr [gf] wr w3 := F2.trans0 F3
        have F03 : Fr [gf] wC w3 := HFr.out.trans F23 (by simp)
        have hF3 := (F3.block gf (by omega) (by simp)).trans hF2
        have HFO := Lib.hid (fo_chain (back := true) HH.out HN.out.symm HL.out F23 (pb := wr.heap.size + 1) hP3)
        have hB4 := heap_alloc_new w3 (.cells #[.int .u64 sz.toNat] 39)
        rw [s3] at hB4
        refine (check_any _ _ _ (chainF (bs.map coderOf) sz true) (HFO.out.fr ((Fr.refl _ _).alloc _)) (HSm.out _) (HPr.out _) [sz] (sl_block (l := u64v [sz]) hB4 1 rfl (by simp)) (by simp)).mono ?_
        rw [HCode.out]
        clear hB4
        rintro e w4 ⟨rfl, F4⟩
        have F34 : Fr [] w3 w4 := ((Fr.refl _ _).alloc _).trans0 F4
        have hF4 := (F34.block gf (by omega) (by simp)).trans hF3
        have F04 := F03.trans0 F34
        have F24 := F23.trans0 F34
        have FO4 := Lib.hid (HFO.out.fr F34)
        have hP4 := (F34.block (wr.heap.size + 1) (by omega) (by simp)).trans hP3
        have s4 := F34.size
        clear F2 F3 F4 F23 F03 F34 hF3 hF2 hP3 s2 hF p0 p1 p2 p3 p4 p5 pz HFO
        obtain ⟨x0, x1, x2, x3, x4, x5⟩ := cells6 hF4
        have HM := Lib.hid (show mainOf (chainF (bs.map coderOf) sz true) = (k : Int) - 1 by have := HMain.out true; simpa [← HN.out] using this)
        have hO := chain_outs (bs.map coderOf) sz true (by simp [← HN.out]; omega)
        have HO := Lib.hid hO
        clear hO
        by_cases hk1 : k = 1
        · have t1 : ¬ (1 : Int) < (k : Int) := by omega
          clear hk1
          go_wp2_with (first | (go_at_call 13; refine (main_any _ _ _ FO4.out (by simp [chainF, ← HN.out]; omega) (by simp [chainF, chainB, ← HN.out]; omega) HO.out.1 HO.out.2).mono ?_; rw [HM.out]; rintro e w5 ⟨rfl, F5⟩))
          go_ret
          exact ⟨rfl, HFT.out _ (F04.trans0 F5)⟩
        · have t1 : (1 : Int) < (k : Int) := by omega
          have HK := Lib.hid (show 2 ≤ k by omega)
          clear hk1
          go_wp2_with (first | (go_at_call 13; refine (main_any _ _ _ FO4.out (by simp [chainF, ← HN.out]; omega) (by simp [chainF, chainB, ← HN.out]; omega) HO.out.1 HO.out.2).mono ?_; rw [HM.out]; rintro e w5 ⟨rfl, F5⟩))
          obtain ⟨gb, rfl⟩ := own_some HH.out.ob (by omega)
          have F25 : Fr [gf] wr w5 := F24.trans0 F5
          obtain ⟨bp, y6, y7⟩ := HH.out.bind0 HK.out F25
          have hP5 := (F5.block (wr.heap.size + 1) (by omega) (by simp)).trans hP4
          have y8 : w5.cell? ⟨wr.heap.size + 1, 0, none⟩ = some (.int .i64 0) := by rw [Go.Joins.cell_of_block hP5]; rfl
          have hF5 := (F5.block gf (by omega) (by simp)).trans hF4
          have F05 := F04.trans0 F5
          obtain ⟨y0, y1, y2, y3, y4, y5⟩ := cells6 hF5
          have t2 : (0 : Int) < ((k - 1 : Nat) : Int) := by omega
          have HDUP := Lib.hid (fo_dup (back := true) HH.out HN.out.symm HK.out (by omega) HL.out F25 (pb := wr.heap.size + 1) hP5)
          clear x0 x1 x2 x3 x4 x5 F5 F04 hP4 hF4 hP5
          go_region
          obtain ⟨w6, hw6⟩ : ∃ w6, w6 = (w5.setCell ⟨gb, 0, none⟩ (.int .i64 0)).drew := ⟨_, rfl⟩
          have hgb1 : gb ≠ gf := fun e => own_apart HH.out.ob HH.out.blk (by decide) (by rw [← e]; rfl)
          have hgb2 := (own_ltS HH.out.ob gb rfl).1
          have F56 : Fr [gb] w5 w6 := hw6 ▸ ((Fr.refl _ _).setCell (.inl (by simp)) _).drew
          have F06 : Fr [gf] wC w6 := F05.trans1 F56 (.inr hgb2)
          have hF6 := (F56.block gf (Array.getElem?_eq_some_iff.1 hF5).1 (by simp; exact fun e => hgb1 e.symm)).trans hF5
          obtain ⟨f6, hf6, hsm6, hpr6, hc6⟩ := HDUP.out
          have HFO6 := Lib.hid (hf6.fr (hw6 ▸ (Fr.refl _ _).drew : Fr [] _ w6))
          have HC6 := Lib.hid (And.intro hsm6 (And.intro hpr6 hc6))
          rw [← hw6]
          clear hw6 hf6 hsm6 hpr6 hc6 HDUP y0 y1 y2 y3 y4 y5 y6 y7 y8 F56 hF5 hgb1 hgb2 F05
          obtain ⟨y0, y1, y2, y3, y4, y5⟩ := cells6 hF6
          have hB7 := Lib.hid (heap_alloc_new w6 (.cells #[.int .u64 sz.toNat] 39))
          go_wp2_with (first | (go_at_call 9; refine (check_any _ _ _ f6 (HFO6.out.fr ((Fr.refl _ _).alloc _)) HC6.out.1 HC6.out.2.1 [sz] (sl_block (l := u64v [sz]) hB7.out 1 rfl (by simp)) (by simp)).mono ?_; rw [HC6.out.2.2]; rintro e w7 ⟨rfl, F7⟩))
          go_ret
          exact ⟨rfl, HFT.out _ ((F06.alloc _).trans0 F7)⟩
      | false =>
        go_wp2_with fail
        obtain ⟨w2, hw2⟩ : ∃ w2, w2 = wr.setCell ⟨gf, 2, none⟩ (.slice (some ⟨wr.heap.size, 0, none⟩) 1 1) := ⟨_, rfl⟩
        have F2 : Fr [gf] wr w2 := hw2 ▸ (Fr.refl _ _).setCell (.inl (by simp)) _
        have s2 : w2.heap.size = wr.heap.size := by rw [hw2]; simp
        have hF2 := setCell_block hF (.slice (some ⟨wr.heap.size, 0, none⟩) 1 1)
        rw [← hw2] at hF2 ⊢
        clear hw2
        obtain ⟨w3, hw3⟩ : ∃ w3, w3 = w2.alloc (.cells #[.int .i64 ((k : Int) - 1)] 3) := ⟨_, rfl⟩
        have F3 : Fr [] w2 w3 := hw3 ▸ (Fr.refl _ _).alloc _
        have hP3 : w3.heap[wr.heap.size]? = some (.cells #[.int .i64 ((k : Int) - 1)] 3) := by rw [← s2]; exact hw3 ▸ heap_alloc_new w2 _
        have s3 : w3.heap.size = wr.heap.size + 1 := by rw [hw3]; simp; omega
        rw [← hw3]
        clear hw3
        have F23 : Fr [gf] wr w3 := F2.trans0 F3
        have F03 : Fr [gf] wC w3 := HFr.out.trans F23 (by simp)
        have hF3 := (F3.block gf (by omega) (by simp)).trans hF2
        have HFO := Lib.hid (fo_chain (back := false) HH.out HN.out.symm HL.out F23 (pb := wr.heap.size) hP3)
        have hB4 := heap_alloc_new w3 (.cells #[.int .u64 sz.toNat] 39)
        rw [s3] at hB4
        refine (check_any _ _ _ (chainF (bs.map coderOf) sz false) (HFO.out.fr ((Fr.refl _ _).alloc _)) (HSm.out _) (HPr.out _) [sz] (sl_block (l := u64v [sz]) hB4 1 rfl (by simp)) (by simp)).mono ?_
        rw [HCode.out]
        clear hB4
        rintro e w4 ⟨rfl, F4⟩
        have F34 : Fr [] w3 w4 := ((Fr.refl _ _).alloc _).trans0 F4
        have hF4 := (F34.block gf (by omega) (by simp)).trans hF3
        have F04 := F03.trans0 F34
        have F24 := F23.trans0 F34
        have FO4 := Lib.hid (HFO.out.fr F34)
        have hP4 := (F34.block (wr.heap.size) (by omega) (by simp)).trans hP3
        have s4 := F34.size
        clear F2 F3 F4 F23 F03 F34 hF3 hF2 hP3 s2 hF p0 p1 p2 p3 p4 p5 pz HFO
        obtain ⟨x0, x1, x2, x3, x4, x5⟩ := cells6 hF4
        have HM := Lib.hid (show mainOf (chainF (bs.map coderOf) sz false) = 0 by have := HMain.out false; simpa [← HN.out] using this)
        have hO := chain_outs (bs.map coderOf) sz false (by simp [← HN.out]; omega)
        have HO := Lib.hid hO
        clear hO
        by_cases hk1 : k = 1
        · have t1 : ¬ (1 : Int) < (k : Int) := by omega
          clear hk1
          go_wp2_with (first | (go_at_call 13; refine (main_any _ _ _ FO4.out (by simp [chainF, ← HN.out]; omega) (by simp [chainF, chainB, ← HN.out]; omega) HO.out.1 HO.out.2).mono ?_; rw [HM.out]; rintro e w5 ⟨rfl, F5⟩))
          go_ret
          exact ⟨rfl, HFT.out _ (F04.trans0 F5)⟩
        · have t1 : (1 : Int) < (k : Int) := by omega
          have HK := Lib.hid (show 2 ≤ k by omega)
          clear hk1
          go_wp2_with (first | (go_at_call 13; refine (main_any _ _ _ FO4.out (by simp [chainF, ← HN.out]; omega) (by simp [chainF, chainB, ← HN.out]; omega) HO.out.1 HO.out.2).mono ?_; rw [HM.out]; rintro e w5 ⟨rfl, F5⟩))
          obtain ⟨gb, rfl⟩ := own_some HH.out.ob (by omega)
          have F25 : Fr [gf] wr w5 := F24.trans0 F5
          obtain ⟨bp, y6, y7⟩ := HH.out.bind0 HK.out F25
          have hP5 := (F5.block (wr.heap.size) (by omega) (by simp)).trans hP4
          have y8 : w5.cell? ⟨wr.heap.size, 0, none⟩ = some (.int .i64 ((k : Int) - 1)) := by rw [Go.Joins.cell_of_block hP5]; rfl
          have hF5 := (F5.block gf (by omega) (by simp)).trans hF4
          have F05 := F04.trans0 F5
          obtain ⟨y0, y1, y2, y3, y4, y5⟩ := cells6 hF5
          have t2 : (0 : Int) < ((k - 1 : Nat) : Int) := by omega
          have HDUP := Lib.hid (fo_dup (back := false) HH.out HN.out.symm HK.out (by omega) HL.out F25 (pb := wr.heap.size) hP5)
          clear x0 x1 x2 x3 x4 x5 F5 F04 hP4 hF4 hP5
          go_region
          obtain ⟨w6, hw6⟩ : ∃ w6, w6 = (w5.setCell ⟨gb, 0, none⟩ (.int .i64 ((k : Int) - 1))).drew := ⟨_, rfl⟩
          have hgb1 : gb ≠ gf := fun e => own_apart HH.out.ob HH.out.blk (by decide) (by rw [← e]; rfl)
          have hgb2 := (own_ltS HH.out.ob gb rfl).1
          have F56 : Fr [gb] w5 w6 := hw6 ▸ ((Fr.refl _ _).setCell (.inl (by simp)) _).drew
          have F06 : Fr [gf] wC w6 := F05.trans1 F56 (.inr hgb2)
          have hF6 := (F56.block gf (Array.getElem?_eq_some_iff.1 hF5).1 (by simp; exact fun e => hgb1 e.symm)).trans hF5
          obtain ⟨f6, hf6, hsm6, hpr6, hc6⟩ := HDUP.out
          have HFO6 := Lib.hid (hf6.fr (hw6 ▸ (Fr.refl _ _).drew : Fr [] _ w6))
          have HC6 := Lib.hid (And.intro hsm6 (And.intro hpr6 hc6))
          rw [← hw6]
          clear hw6 hf6 hsm6 hpr6 hc6 HDUP y0 y1 y2 y3 y4 y5 y6 y7 y8 F56 hF5 hgb1 hgb2 F05
          obtain ⟨y0, y1, y2, y3, y4, y5⟩ := cells6 hF6
          have hB7 := Lib.hid (heap_alloc_new w6 (.cells #[.int .u64 sz.toNat] 39))
          go_wp2_with (first | (go_at_call 9; refine (check_any _ _ _ f6 (HFO6.out.fr ((Fr.refl _ _).alloc _)) HC6.out.1 HC6.out.2.1 [sz] (sl_block (l := u64v [sz]) hB7.out 1 rfl (by simp)) (by simp)).mono ?_; rw [HC6.out.2.2]; rintro e w7 ⟨rfl, F7⟩))
          go_ret
          exact ⟨rfl, HFT.out _ ((F06.alloc _).trans0 F7)⟩
end Go.Proofs.Ytakpeffpocjgoaa
