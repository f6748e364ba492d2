/- The law HeaderwNames: the walk. No condition but what the library's tables hold. -/
import Derived.Test.YtkodindajfdagaaGreatDoorWAwakeM
import Derived.Test.YtkodindajfdagaaGreatDoorJQ
import Derived.Test.YtkodindajfdagaaGreatDoorKC
import Derived.Test.YtkodindajfdagaaGreatDoorJO
import Derived.Test.YtkodindajfdagaaGreatDoorJP
import Derived.Deep.RegionHeld3
import Derived.Deep.DeepCutAuto
namespace Go.Proofs.YtkodindajfdagaaGreatDoor
open Go.RowKit Go.Maps

theorem runits_tot (w : World) (l : List UInt8) (hl : l.length ≤ 100000) : Calls Tryz.prog 18 #[.string ⟨l.toArray⟩] w fun e w' =>
    ∃ v, e = .returned (.tuple #[v, .int .i64 (unC l : Int)]) ∧ Sl w' v (hv (nameU l)) ∧ Fr [] w w' := by
  refine (runits_any w l hl).mono ?_
  rintro e w' (⟨v, rs, h1, rfl, h2, h3⟩ | ⟨h1, rfl, h3⟩)
  · refine ⟨v, by unfold unC; rw [h1]; rfl, ?_, h3⟩
    unfold nameU
    rw [h1]
    exact Sl.of_own h2
  · refine ⟨.slice none 0 0, by unfold unC; rw [h1]; rfl, ?_, h3⟩
    unfold nameU
    rw [h1]
    exact Sl.nil w'
theorem sl_outB {w : World} {v : Value} {l : List UInt8} (h : Sl w v (bv l)) : ∃ ao cap, v = .slice ao l.length cap ∧ l.length ≤ cap ∧ cap ≤ 9223372036854775807 := by
  obtain ⟨ao, cap, e, h1, h2, -⟩ := h.out
  rw [bv_length] at e h1
  exact ⟨ao, cap, e, h1, h2⟩
theorem StR.none (w : World) (pk es : Value) : StR w ⟨pk, .int .u64 0, .slice none 0 0, .slice none 0 0, .slice none 0 0, .slice none 0 0, es⟩ D0s :=
  ⟨rfl, RowAt.nil _ _ _, RowAt.nil _ _ _, ⟨Option.none, 0, rfl, by simp [D0s], by simp, fun j x h => by simp [D0s] at h⟩, ⟨Option.none, 0, rfl, by simp [D0s], by simp, fun j x h => by simp [D0s] at h⟩⟩
theorem StFit.none : StFit D0s := ⟨by decide, by decide, by decide, by decide, fun x h => by simp [D0s] at h, fun x h => by simp [D0s] at h⟩

set_option maxRecDepth 100000 in
set_option maxHeartbeats 8000000 in
theorem walk_HeaderwNames (w : World) (va : Value) (ns : List (List UInt8)) (d : UInt64) (hG : Gl w) (ha : Sl w va (stv ns)) :
    Calls Tryz.prog 6 #[va, .int .u64 d.toNat] w fun e w' => e = .returned (.bool true) ∧ Fr [] w w' := by
  obtain ⟨ao, cap, rfl, hc1, hc2, oc⟩ := ha.out
  rw [stv_len] at hc1 oc ⊢
  obtain ⟨N, hN⟩ : ∃ N, ns.length = N := ⟨_, rfl⟩
  have HN := Lib.hid hN
  rw [hN] at hc1 oc ⊢
  have HO := Lib.hid oc
  have HG := Lib.hid hG
  have HAW := Lib.hid (awake_any w hG)
  clear ha hG oc hN
  have hnot : ∀ (x : Bool) (w : World), (Op.unary .not (.bool x)).run Tryz.prog w = .ok (.bool (!x)) w := fun _ _ => rfl
  go_enter Tryz.func6, Tryz.ntmps6
  go_upto_region 3 with (go_at_call 7; refine HAW.out.mono ?_; rintro e w1 ⟨rfl, F1⟩)
  by_cases ln : N ≤ 100
  rotate_left
  · have s0 : (100 : Int) < (N : Int) := by omega
    clear ln
    go_wp2_with fail
    go_ret
    exact ⟨rfl, F1⟩
  have s0 : ¬ (100 : Int) < (N : Int) := by omega
  have hNI : (N : Int) ≤ 100 := by omega
  have HLN := Lib.hid ln
  clear ln
  go_upto_region 7 with fail
  obtain ⟨p, hp⟩ : ∃ p, p = w1.heap.size := ⟨_, rfl⟩
  obtain ⟨wD, hwD⟩ : ∃ wD, wD = w1.alloc (.cells #[.bool false, .int .u64 0, .slice none 0 0, .slice none 0 0, .slice none 0 0, .slice none 0 0, .slice none 0 0] 38) := ⟨_, rfl⟩
  have BD : wD.heap[p]? = some (.cells #[.bool false, .int .u64 0, .slice none 0 0, .slice none 0 0, .slice none 0 0, .slice none 0 0, .slice none 0 0] 38 (0, 0)) := by rw [hp, hwD]; exact heap_alloc_new w1 _
  have FD : Fr [] w1 wD := hwD ▸ (Fr.refl _ _).alloc _
  rw [← hwD, ← hp]
  have HP := Lib.hid (show w1.heap.size ≤ p by omega)
  clear hwD hp
  go_wp2_with fail
  go_loopw [6, 7] (fun v6 iv wr => ∃ (k : Nat) (es : Value), k ≤ N ∧ iv = .int .i64 (k : Int) ∧ v6 = .bool ((ns.take k).all nameR) ∧ Hid (∀ n ∈ ns.take k, n.length ≤ 300) ∧
    wr.heap[p]? = some (.cells #[.bool false, .int .u64 0, .slice none 0 0, .slice none 0 0, .slice none 0 0, .slice none 0 0, es] 38 (0, 0)) ∧ wr.ownsRow (p + 1) 54 7 es k (fiV (filesOf d (ns.take k))) ∧ Fr [] w1 wr) (fun _ i _ => N - (intOf i).toNat)
  case atStart => exact ⟨0, .slice none 0 0, Nat.zero_le _, rfl, rfl, fun n hn => by simp at hn, BD, World.ownsRow_nil _ _ _ _, FD⟩
  case round =>
    obtain ⟨k, es, hk, rfl, hv6, HS, BR, own, FR⟩ := hrel
    clear BD FD
    obtain ⟨r, hr⟩ : ∃ r, (ns.take k).all nameR = r := ⟨_, rfl⟩
    rw [hr] at hv6
    subst hv6
    have HR := Lib.hid hr
    have HB := Lib.hid BR
    have HF := Lib.hid FR
    have HW := Lib.hid own
    clear hr BR own FR
    by_cases hlk : k < N
    · obtain ⟨n, hn⟩ := some_get ns k (by rw [HN.out]; exact hlk)
      obtain ⟨b, o, rfl, hb, hcl⟩ := HO.out k hlk
      have cw : w.cell? ⟨b, o + k, none⟩ = some (.string ⟨n.toArray⟩) := (hcl k hlk).trans (stv_get hn)
      have HC := Lib.hid (fun wx (F : Fr [] w1 wx) => ((F1.trans0 F).cell (p := ⟨b, o + k, none⟩) hb (by simp)).trans cw)
      have HSn := Lib.hid (filesOf_snoc (d := d) hn)
      have HAl := Lib.hid (show (ns.take (k + 1)).all nameR = (r && (decide (unC n = 0) && (nameU n).all fun u => !(decide (u = 0)))) by rw [all_snoc hn, HR.out, nameR_units])
      have HMem := Lib.hid (show ∀ y ∈ ns.take (k + 1), y ∈ ns.take k ∨ y = n by
        intro y hy
        rw [List.take_add_one, hn] at hy
        simpa using hy)
      have c0 := HC.out wr HF.out
      have hltI : (k : Int) < (N : Int) := by omega
      obtain ⟨eo, ec, rfl, -, -⟩ := own_outS HW.out
      clear cw hcl hn hb
      by_cases h3 : n.length ≤ 300
      rotate_left
      · have t0 : (300 : Int) < (n.length : Int) := by omega
        clear h3
        go_wp2_with fail
        go_ret
        exact ⟨rfl, F1.trans0 HF.out⟩
      have t0 : ¬ (300 : Int) < (n.length : Int) := by omega
      have h3I : (n.length : Int) ≤ 300 := by omega
      have HU := Lib.hid (runits_tot wr n (by omega))
      have H3 := Lib.hid h3
      have hul := nameU_le n
      obtain ⟨NU, hNU⟩ : ∃ m, (nameU n).length = m := ⟨_, rfl⟩
      have HNU := Lib.hid hNU
      have hNUI : (NU : Int) ≤ 600 := by omega
      clear h3 hul hNU
      go_upto_region 13 with (go_at_call 18; refine HU.out.mono ?_; rintro e w2 ⟨v, rfl, hus, F2⟩; obtain ⟨uo, uc, hv', -, -, ou⟩ := hus.out; rw [hv_len, HNU.out] at hv' ou; subst hv')
      have HOU := Lib.hid ou
      have HF2 := Lib.hid F2
      clear hus ou F2
      rename_i K0 hK0
      go_cut [6] (fun v6 wx => v6 = .bool (r && decide (unC n = 0)) ∧ wx = w2)
      case first =>
        clear hK0
        have e0 : ((unC n : Int) == 0) = decide (unC n = 0) := by
          by_cases h : unC n = 0
          · rw [decide_eq_true h, h]; rfl
          · rw [decide_eq_false h, beq_eq_false_iff_ne]; omega
        cases r
        · go_wp2_with fail
          go_meet
          case rel => exact ⟨rfl, rfl⟩
        · go_wp2_with fail
          go_meet
          case rel => exact ⟨by rw [← e0]; rfl, rfl⟩
      case rest =>
      obtain ⟨rfl, hw⟩ := hcut
      have hw' := hw.symm
      clear hw
      subst hw'
      refine hK0 _ _ ?_
      clear hK0
      obtain ⟨r2, hr2⟩ : ∃ r2, (r && decide (unC n = 0)) = r2 := ⟨_, rfl⟩
      rw [hr2]
      have HR2 := Lib.hid hr2
      clear hr2
      go_wp2_with fail
      go_loopw [6, 10] (fun v6 iv wx => ∃ j : Nat, j ≤ NU ∧ iv = .int .i64 (j : Int) ∧ v6 = .bool (r2 && ((nameU n).take j).all fun u => !(decide (u = 0))) ∧ wx = w2) (fun _ i _ => NU - (intOf i).toNat)
      case atStart => exact ⟨0, Nat.zero_le _, rfl, by simp, rfl⟩
      case round =>
        obtain ⟨j, hj, rfl, hv6, hw⟩ := hrel
        subst hw
        obtain ⟨r3, hr3⟩ : ∃ r3, (r2 && ((nameU n).take j).all fun u => !(decide (u = 0))) = r3 := ⟨_, rfl⟩
        rw [hr3] at hv6
        subst hv6
        have HR3 := Lib.hid hr3
        clear hr3
        by_cases hlj : j < NU
        · obtain ⟨y, hy⟩ := some_get (nameU n) j (by rw [HNU.out]; exact hlj)
          obtain ⟨b2, o2, rfl, hb2, hcl⟩ := HOU.out j hlj
          have c2 := (hcl j hlj).trans (show (hv (nameU n))[j]? = some (.int .u16 (y : Int)) by unfold hv; simp [hy])
          have hljI : (j : Int) < (NU : Int) := by omega
          have HT := Lib.hid (show (r2 && ((nameU n).take (j + 1)).all fun u => !(decide (u = 0))) = (r3 && !(decide (y = 0))) by rw [all_snoc hy, ← Bool.and_assoc, HR3.out])
          clear hcl hy
          cases r3
          · go_wp2_with fail
            go_roundw
            case rel => exact ⟨j + 1, by omega, by go_num, by rw [HT.out]; rfl, by trivial⟩
            case measure => simp [intOf]; omega
          · have e0 : ((y : Int) != 0) = !(decide (y = 0)) := by
              by_cases h : y = 0
              · rw [decide_eq_true h, h]; rfl
              · rw [decide_eq_false h]
                have : ((y : Int) == 0) = false := by rw [beq_eq_false_iff_ne]; omega
                simp [bne, this]
            go_wp2_with fail
            go_roundw
            case rel => exact ⟨j + 1, by omega, by go_num, by rw [HT.out, ← e0]; rfl, by trivial⟩
            case measure => simp [intOf]; omega
        · obtain rfl : j = NU := by omega
          have HT := Lib.hid (show r3 = (ns.take (k + 1)).all nameR by rw [HAl.out, ← HR3.out, ← HR2.out, List.take_of_length_le (by rw [HNU.out]; exact Nat.le_refl _), Bool.and_assoc])
          clear hj hlj
          have FR2 : Fr [] w1 wr := HF.out.trans0 HF2.out
          have B2 : wr.heap[p]? = _ := (HF2.out.block p (Array.getElem?_eq_some_iff.1 HB.out).1 (by simp)).trans HB.out
          have own2 := own_frB HW.out HF2.out (by simp)
          obtain ⟨f0, f1, f2, f3, f4, f5, f6, fz⟩ := cells7 B2
          have c1 := HC.out wr FR2
          have FA : ∀ x, Fr [] wr (wr.alloc x).drew := fun x => ((Fr.refl _ _).alloc _).drew
          have hpl : p < wr.heap.size := (Array.getElem?_eq_some_iff.1 B2).1
          have HA : ∀ x, (wr.alloc x).drew.heap[wr.heap.size]? = some x := fun x => heap_alloc_new wr x
          go_wp2_with fail
          have hE : (((d.toNat : Int) / 2 ^ min (IntKind.u64.wrap ((k : Int).tmod 64)).toNat 64).tmod 2 == 1) = dirB d k := by
            have e1 : (k : Int).tmod 64 = ((k % 64 : Nat) : Int) := (Int.ofNat_tmod k 64).symm
            rw [e1, IntWalk.u64_in _ (by omega), Int.toNat_natCast, Nat.min_eq_left (by omega)]
            have e2 : ((d.toNat : Int) / 2 ^ (k % 64)).tmod 2 = ((d.toNat / 2 ^ (k % 64) % 2 : Nat) : Int) := by
              rw [show ((2 : Int) ^ (k % 64)) = ((2 ^ (k % 64) : Nat) : Int) by simp]
              exact (Int.ofNat_tmod (d.toNat / 2 ^ (k % 64)) 2).symm
            rw [e2]
            unfold dirB
            rw [Bool.eq_iff_iff, beq_iff_eq, beq_iff_eq]
            omega
          go_region_law (first
            | (refine step_append_struct sty_fi rfl _ _ (by rfl) (p + 1) _ _ _ (by rfl) (own_frB own2 (FA _) (by simp)) wr.heap.size [.string ⟨n.toArray⟩, .bool false, .bool (dirB d k), .bool false, .int .u32 0, .bool false, .int .u64 0] (by rfl) (HA _) rfl rfl (by omega) (by decide) (Nat.le_trans hpl (FA _).size) ?_; intro v2 w4 own4 g4; have F4 : Fr [] w1 w4 := (FR2.trans0 (FA _)).grown g4 (fun t ht => .inr (Nat.le_trans (Nat.le_succ_of_le HP.out) (own_ltS own2 t ht).1)); have B4 := (((Fr.refl (Value.slice eo k ec).ownBlock.toList _).grown g4 (fun t ht => .inl (by simp [ht]))).block p (Nat.lt_of_lt_of_le hpl (FA _).size) (fun hm => by have := (own_ltS own2 p (by simpa using hm)).1; omega)).trans (((FA _).block p hpl (by simp)).trans B2); obtain ⟨eo4, ec4, rfl, -⟩ := own_outS own4; obtain ⟨m0, m1, m2, m3, m4, m5, m6, mz⟩ := cells7 B4))
          all_goals
            go_wp2_with fail
            go_roundw
            case rel => exact ⟨k + 1, _, by omega, by go_num, by rw [← HT.out], fun y hy => (HMem.out y hy).elim (HS.out y) (fun e => e ▸ H3.out), Go.Joins.block_setCell B4 _, by rw [HSn.out, fiV_append]; exact own_frB own4 ((Fr.refl [p] w4).setCell (p := ⟨p, 6, none⟩) (by simp) _) (by simp), F4.setCell (p := ⟨p, 6, none⟩) (.inr HP.out) _⟩
            case measure => simp [intOf]; omega
    · obtain rfl : k = N := by omega
      have hT : ns.take k = ns := List.take_of_length_le (by rw [HN.out]; exact Nat.le_refl _)
      rw [hT] at HR HW HS
      clear hT hlk hk
      obtain ⟨eo, ec, rfl, -, -⟩ := own_outS HW.out
      obtain ⟨f0, f1, f2, f3, f4, f5, f6, fz⟩ := cells7 HB.out
      have hlF : (filesOf d ns).length = k := (filesOf_len d ns).trans HN.out
      have HSh := Lib.hid (filesOf_short (d := d) (by rw [HN.out]; exact HLN.out) HS.out)
      have HWr := Lib.hid (write_any wr ⟨.bool false, .int .u64 0, .slice none 0 0, .slice none 0 0, .slice none 0 0, .slice none 0 0, .slice eo k ec⟩ false D0s (filesOf d ns) rfl (StR.none _ _ _) StFit.none
        (by rw [hlF]; exact RowAt.of_own HW.out _ (Nat.le_refl _)) (HG.out.fr (F1.trans0 HF.out)) (by rw [hlF]; have := HLN.out; omega) (by decide) (by decide)
        (fun x hx => by obtain ⟨i, n, hn, rfl⟩ := filesOf_mem hx; have := HS.out n (List.mem_of_getElem? hn); show n.length ≤ 100000; omega)
        (by rw [strmD0]; have := HSh.out; simp only [List.length_singleton]; omega))
      have HLF := Lib.hid hlF
      clear hlF
      cases r
      · have hw : writR false D0s (filesOf d ns) = ([], 301) := by unfold writR; rw [mayAllD0, HR.out]; rfl
        unfold Writ at HWr
        rw [hw] at HWr
        clear hw
        go_wp2_with (go_at_call 14; refine HWr.out.mono ?_; rintro e w3 ⟨v, rfl, hv, F3⟩; obtain ⟨vo, vc, rfl, -⟩ := sl_outB hv)
        go_ret
        exact ⟨rfl, F1.trans0 (HF.out.trans0 F3)⟩
      · have hw : writR false D0s (filesOf d ns) = (1 :: (filesW (filesOf d ns) ++ [0]), 0) := by unfold writR; rw [mayAllD0, HR.out, if_pos rfl, writeD0]
        unfold Writ at HWr
        rw [hw] at HWr
        clear hw
        obtain ⟨B, hB⟩ : ∃ B, 1 :: (filesW (filesOf d ns) ++ [0]) = B := ⟨_, rfl⟩
        have hBl : B.length ≤ 4000000 := by rw [← hB]; simp only [List.length_cons, List.length_append, List.length_nil]; have := HSh.out; omega
        have HPL := Lib.hid (show parseL B = ((false, noStrm, filesOf d ns), 0) by
          rw [← hB]
          exact parse_files (by rw [hB]; omega) (fun x hx => List.all_eq_true.1 ((filesOf_may d ns).trans HR.out) x hx) (filesOf_stream d ns))
        dsimp only at HWr
        rw [hB] at HWr
        have HPA := Lib.hid (fun wx v (h : Sl wx v (bv B)) => parse_any wx v B h hBl)
        clear hB hBl
        go_upto_region 20 with (go_at_call 14; refine HWr.out.mono ?_; rintro e w3 ⟨v, rfl, hv, F3⟩; obtain ⟨vo, vc, hve, -⟩ := sl_outB hv; subst hve)
        have HV := Lib.hid hv
        have HF3 := Lib.hid F3
        clear hv F3
        go_upto_region 22 with fail
        rename_i K0 hK0
        go_cut [13, 14] (fun v13 v14 wx => ∃ q eo2 ec2 a1 a2 a3 a4 c1 c2 c3 c4, v13 = .pointer (some ⟨q, 0, none⟩) ∧ v14 = .int .i64 0 ∧ wx.heap[q]? = some (.cells #[.bool false, .int .u64 0, .slice a1 0 c1, .slice a2 0 c2, .slice a3 0 c3, .slice a4 0 c4, .slice eo2 k ec2] 38 (0, 0)) ∧
          wx.ownsRow w3.heap.size 54 7 (.slice eo2 k ec2) k (fiV (filesOf d ns)) ∧ Fr [] w3 wx)
        case first =>
          clear hK0
          go_wp2_with (go_at_call 15; refine (HPA.out _ _ HV.out).mono ?_; rintro e w4 ⟨v4, rfl, hD, F4⟩; rw [HPL.out] at hD ⊢; obtain ⟨psv, csv, fv, sv, es4, rows, svs, rfl, s1, s2, s3, s4, s5, s6⟩ := hD.ex; obtain ⟨a1, c1, rfl, -⟩ := s1.out; obtain ⟨a2, c2, rfl, -⟩ := s2.out; obtain ⟨a3, c3, rfl, -⟩ := own_outS s3.own; obtain ⟨a4, c4, rfl, -⟩ := own_outS s4; obtain ⟨eo2, ec2, rfl, -⟩ := own_outS s6; have hl3 := s3.rw.len; have hl5 := s5.len; have HL3 := Lib.hid hl3; have HL5 := Lib.hid hl5; have HS6 := Lib.hid s6; have HF4 := Lib.hid F4; clear s1 s2 s3 s4 s5 s6 hD hl3 hl5 F4)
          go_meet
          case rel =>
            have e3 : rows.length = 0 := HL3.out
            have e5 : svs.length = 0 := HL5.out
            rw [e3, e5]
            have S6 := HS6.out
            rw [HLF.out] at S6 ⊢
            exact ⟨w4.heap.size, eo2, ec2, a1, a2, a3, a4, c1, c2, c3, c4, rfl, rfl, heap_alloc_new w4 _, own_monoM (own_frB S6 ((Fr.refl [] w4).alloc _) (by simp)) (Nat.le_succ _), HF4.out.alloc _⟩
        case rest =>
        obtain ⟨q, eo2, ec2, a1, a2, a3, a4, c1, c2, c3, c4, rfl, rfl, BX, own5, F5⟩ := hcut
        obtain ⟨w5, hw5⟩ : ∃ w5, w5 = wc := ⟨_, rfl⟩
        rw [← hw5] at BX own5 F5 ⊢
        clear hw5
        refine hK0 _ _ ?_
        clear hK0
        obtain ⟨x0, x1, x2, x3, x4, x5, x6, xz⟩ := cells7 BX
        have hne := @neq_fi
        have B6 : w5.heap[p]? = _ := (F5.block p (Nat.lt_of_lt_of_le (Array.getElem?_eq_some_iff.1 HB.out).1 HF3.out.size) (by simp)).trans ((HF3.out.block p (Array.getElem?_eq_some_iff.1 HB.out).1 (by simp)).trans HB.out)
        obtain ⟨y0, y1, y2, y3, y4, y5, y6, yz⟩ := cells7 B6
        have own6 := own_frB (own_frB HW.out HF3.out (by simp)) F5 (by simp)
        have HOW := Lib.hid own6
        have HOX := Lib.hid own5
        have HF5 := Lib.hid F5
        clear own5 own6 F5
        go_wp2_with fail
        go_loopw [15] (fun iv wx => ∃ m : Nat, m ≤ k ∧ iv = .int .i64 (m : Int) ∧ Fr [] w5 wx) (fun i _ => k - (intOf i).toNat)
        case atStart => exact ⟨0, Nat.zero_le _, rfl, Fr.refl _ _⟩
        case round =>
          obtain ⟨m, hm, rfl, F6⟩ := hrel
          by_cases hmk : m < k
          · have hmI : (m : Int) < (k : Int) := by omega
            obtain ⟨n, hn⟩ := some_get ns m (by rw [HN.out]; exact hmk)
            have hfg := filesOf_get (d := d) hn
            obtain ⟨X, hX⟩ : ∃ X, fileN d n m = X := ⟨_, rfl⟩
            rw [hX] at hfg
            clear hX hn
            obtain ⟨g1, hg1⟩ : ∃ g, eo = some ⟨g, 0, none⟩ := by
              rcases HOW.out.2 with ⟨h1, h2⟩ | ⟨g', cap', cur, h1, -⟩
              · omega
              · injection h1 with h1 _ _; exact ⟨g', h1⟩
            obtain ⟨g2, hg2⟩ : ∃ g, eo2 = some ⟨g, 0, none⟩ := by
              rcases HOX.out.2 with ⟨h1, h2⟩ | ⟨g', cap', cur, h1, -⟩
              · omega
              · injection h1 with h1 _ _; exact ⟨g', h1⟩
            subst hg1 hg2
            have o1 := own_frB HOW.out F6 (by simp)
            have o2 := own_frB HOX.out F6 (by simp)
            have k1 : ∀ j, j < 7 → wr.cell? ⟨g1, m * 7 + j, none⟩ = X.cells[j]? := fun j hj => (o1.cellAt (m * 7 + j) (by omega)).trans (fiV_get _ m X hfg j hj)
            have k2 : ∀ j, j < 7 → wr.cell? ⟨g2, m * 7 + j, none⟩ = X.cells[j]? := fun j hj => (o2.cellAt (m * 7 + j) (by omega)).trans (fiV_get _ m X hfg j hj)
            have p0 : wr.cell? ⟨g1, m * 7, none⟩ = some (.string ⟨X.name.toArray⟩) := k1 0 (by decide)
            have p1 : wr.cell? ⟨g1, m * 7 + 1, none⟩ = some (.bool X.stream) := k1 1 (by decide)
            have p2 : wr.cell? ⟨g1, m * 7 + 2, none⟩ = some (.bool X.dir) := k1 2 (by decide)
            have p3 : wr.cell? ⟨g1, m * 7 + 3, none⟩ = some (.bool X.hasAttr) := k1 3 (by decide)
            have p4 : wr.cell? ⟨g1, m * 7 + 4, none⟩ = some (.int .u32 X.attr.toNat) := k1 4 (by decide)
            have p5 : wr.cell? ⟨g1, m * 7 + 5, none⟩ = some (.bool X.hasTime) := k1 5 (by decide)
            have p6 : wr.cell? ⟨g1, m * 7 + 6, none⟩ = some (.int .u64 X.time.toNat) := k1 6 (by decide)
            have q0 : wr.cell? ⟨g2, m * 7, none⟩ = some (.string ⟨X.name.toArray⟩) := k2 0 (by decide)
            have q1 : wr.cell? ⟨g2, m * 7 + 1, none⟩ = some (.bool X.stream) := k2 1 (by decide)
            have q2 : wr.cell? ⟨g2, m * 7 + 2, none⟩ = some (.bool X.dir) := k2 2 (by decide)
            have q3 : wr.cell? ⟨g2, m * 7 + 3, none⟩ = some (.bool X.hasAttr) := k2 3 (by decide)
            have q4 : wr.cell? ⟨g2, m * 7 + 4, none⟩ = some (.int .u32 X.attr.toNat) := k2 4 (by decide)
            have q5 : wr.cell? ⟨g2, m * 7 + 5, none⟩ = some (.bool X.hasTime) := k2 5 (by decide)
            have q6 : wr.cell? ⟨g2, m * 7 + 6, none⟩ = some (.int .u64 X.time.toNat) := k2 6 (by decide)
            have r6 := (F6.cell (p := ⟨p, 6, none⟩) (Nat.lt_of_lt_of_le (Nat.lt_of_lt_of_le (Array.getElem?_eq_some_iff.1 HB.out).1 HF3.out.size) HF5.out.size) (by simp)).trans y6
            have r7 := (F6.cell (p := ⟨q, 6, none⟩) (Array.getElem?_eq_some_iff.1 BX).1 (by simp)).trans x6
            clear k1 k2 o1 o2 hfg
            go_wp2_with fail
            go_quiet (fail)
            obtain ⟨w7, hw7⟩ : ∃ w7, w7 = wr.drewN nq := ⟨_, rfl⟩
            rw [← hw7]
            have F7 : Fr [] w5 w7 := hw7 ▸ F6.drewN nq
            clear hw7
            go_wp2_with fail
            go_roundw
            case rel => exact ⟨m + 1, by omega, by go_num, F7⟩
            case measure => simp [intOf]; omega
          · have hmI : ¬ (m : Int) < (k : Int) := by omega
            go_wp2_with fail
            go_ret
            exact ⟨rfl, F1.trans0 (HF.out.trans0 (HF3.out.trans0 (HF5.out.trans0 F6)))⟩
end Go.Proofs.YtkodindajfdagaaGreatDoor
