/- The law SrcFeeds: the walk. No condition. -/
import Derived.Test.YtklbocdeifebkaaSrcE
import Derived.Test.YtklbocdeifebkaaFeed
namespace Go.Proofs.Ytklbocdeifebkaa
open Go.RowKit

theorem walk_SrcFeeds (w : World) (v : Value) (bs : List UInt8) (m : Int) (hv : Sl w v (bv bs)) (hm : 0 ≤ m ∧ m ≤ 255) :
    Calls Try.prog 5 #[v, .int .u8 m] w fun e w' => e = .returned (.bool true) ∧ Fr [] w w' := by
  obtain ⟨m, rfl⟩ := Int.eq_ofNat_of_zero_le hm.1
  obtain ⟨ao, cap, rfl, hc1, hc2, hel⟩ := hv.out
  rw [bv_length] at *
  by_cases hbig : 16384 < bs.length
  · have hbig' : (16384 : Int) < (bs.length : Int) := by omega
    clear hel
    go_enter Try.func5, Try.ntmps5
    go_wp2_with fail
    refine (awake_any w).mono ?_
    rintro e w1 ⟨rfl, hf1⟩
    go_wp2_with fail
    go_ret
    exact ⟨rfl, hf1⟩
  · have hbig' : (bs.length : Int) ≤ 16384 := by omega
    have HEL := Lib.hid hel
    clear hel
    go_enter Try.func5, Try.ntmps5
    go_wp2_with fail
    refine (awake_any w).mono ?_
    rintro e w1 ⟨rfl, F1⟩
    have hv1 : Sl (w1.alloc (.cells #[] 5)) _ _ := (hv.fr0 F1).fr0 ((Fr.refl _ _).alloc _)
    have z1 := F1.size
    go_wp2_with (at_builtin; refine wpList_append_sl sty_u8 rfl _ _ rfl w1.heap.size _ 0 [] rfl (own_empty w1 _) _ (bv bs) rfl hv1 (bv_one _) ?_ ?_ ?_ ?_)
    · rw [bv_length]; omega
    · rw [bv_length]; omega
    · simp
    intro v2 w2 hx2 hg2
    rw [bv_length] at hx2
    have F2 : Fr [] w w2 := (F1.alloc _).grown hg2 (fun k hk => .inr (by simp [Value.ownBlock] at hk; omega))
    have hs2 := Sl.of_own hx2
    have hz2 := hx2.lt
    clear hg2 hv1
    go_wp2_with fail
    refine (newfeed_any w2 _ bs (by simpa using hs2) (by omega)).mono ?_
    rintro e w3 ⟨p, q, rfl, hp, hq, hfd3, hf3⟩
    have F3 := F2.trans0 hf3
    have hx3 := own_fr hx2 hf3 (by simp)
    have z2 := F2.size
    have hpl := hfd3.lt
    clear hs2 hf3 F2 hx2 F1

    obtain ⟨ao2, cap2, rfl, hd1, hd2, hd3⟩ := own_out hx3
    have HD := Lib.hid hd3
    have HZ := Lib.hid hz2
    clear hd3 hz2
    go_wp2_with fail
    go_loopw [7] (fun i wr => ∃ j : Nat, j ≤ bs.length ∧ i = .int .i64 j ∧ (∃ ys, wr.ownsRow w1.heap.size 5 1 (.slice ao2 bs.length cap2) bs.length ys) ∧ FeedAt wr p q bs 0 ∧ Fr [] w wr) (fun i _ => bs.length - (intOf i).toNat)
    case atStart => exact ⟨0, Nat.zero_le _, rfl, ⟨_, hx3⟩, hfd3, F3⟩
    case round =>
      obtain ⟨j, hj, rfl, ⟨ys, hown⟩, hfd, hF⟩ := hrel
      clear hx3 hfd3 F3
      by_cases hlt : j < bs.length
      · obtain ⟨g, rfl, hg, -⟩ := HD.out (by omega)
        have hgp : g < w2.heap.size := (HZ.out g rfl).2
        have hgn : (g : Nat) ≠ p := by omega
        have hyl : ys.length = bs.length := by have := hown.1; omega
        obtain ⟨y, hy⟩ := some_get ys j (by omega)
        have hcell := hown.cellAt j (by omega)
        rw [hy] at hcell
        have hfz := hown.frozenAt j
        obtain ⟨hown', hgr⟩ := hown.stored j (.int .u8 85)
        have hlt' : (j : Int) < (bs.length : Int) := by omega
        have Fs : Fr [g] wr (wr.setCell ⟨g, j, none⟩ (.int .u8 85)) := (Fr.refl _ _).setCell (by simp) _
        have hfd' := hfd.fr Fs (by simp; omega) (fun k hk => by have := hq k hk; simp; omega)
        have hF' : Fr [] w (wr.setCell ⟨g, j, none⟩ (.int .u8 85)) := hF.trans Fs (by simp; omega)
        clear hy hyl hgr hown hfd hF Fs
        go_wp2_with fail
        go_roundw
        case rel => exact ⟨j + 1, by omega, by go_num, ⟨_, hown'⟩, hfd', hF'⟩
        case measure => simp [intOf]; omega
      · have hlt' : (bs.length : Int) ≤ (j : Int) := by omega
        clear hown
        go_wp2_with fail
        go_loopw [8] (fun i wr => ∃ j : Nat, j ≤ bs.length ∧ i = .int .i64 j ∧ FeedAt wr p q bs j ∧ Fr [] w wr) (fun i _ => bs.length - (intOf i).toNat)
        case atStart => exact ⟨0, Nat.zero_le _, rfl, hfd, hF⟩
        case round =>
          obtain ⟨j2, hj2, rfl, hfd2, hF2⟩ := hrel
          clear hfd hF
          by_cases hlt2 : j2 < bs.length
          · obtain ⟨b1, of1, rfl, hbl, cc⟩ := HEL.out j2 hlt2
            obtain ⟨x, hx⟩ := some_get bs j2 hlt2
            have hlt2' : (j2 : Int) < (bs.length : Int) := by omega
            go_wp2_with fail
            refine (next_some _ p q bs j2 x hx hfd2).mono ?_
            rintro e w5 ⟨rfl, hfd5, hf5⟩
            have hF5 : Fr [] w w5 := hF2.trans hf5 (by simp; omega)
            have d1 : w5.cell? ⟨b1, of1 + j2, none⟩ = some (.int .u8 x.toNat) := by rw [hF5.cell (p := ⟨b1, of1 + j2, none⟩) hbl (by simp), cc _ hlt2, bv_get _ _ _ hx]
            have HX := Lib.hid hx
            clear cc hf5 hfd2 hF2 hx
            go_wp2_with fail
            refine (fleft_any _ p q bs (j2 + 1) hfd5).mono ?_
            rintro e w6 ⟨rfl, s6⟩
            have t1 : (((bs.length : Int) - ((j2 + 1 : Nat) : Int)) != (bs.length : Int) - 1 - (j2 : Int)) = false := by simp; omega
            have hfd6 := hfd5.same s6
            have hF6 := hF5.trans0 s6.fr
            clear hfd5 hF5 s6 d1
            go_wp2_with fail
            go_roundw
            case rel => exact ⟨j2 + 1, by omega, by go_num, hfd6, hF6⟩
            case measure => simp [intOf]; omega
          · have hlt2' : (bs.length : Int) ≤ (j2 : Int) := by omega
            have hje : j2 = bs.length := by omega
            have HJ := Lib.hid hje
            clear hje
            go_wp2_with fail
            go_loopw [11] (fun i wr => ∃ j : Nat, j ≤ m ∧ i = .int .i64 j ∧ FeedAt wr p q bs bs.length ∧ Fr [] w wr) (fun i _ => m - (intOf i).toNat)
            case atStart => exact ⟨0, Nat.zero_le _, rfl, HJ.out ▸ hfd2, hF2⟩
            case round =>
              obtain ⟨j3, hj3, rfl, hfd3, hF3⟩ := hrel
              clear hfd2 hF2
              by_cases hlt3 : j3 < m
              · have hlt3' : (j3 : Int) < (m : Int) := by omega
                go_wp2_with fail
                refine (next_none _ p q bs bs.length rfl hfd3).mono ?_
                rintro e w5 ⟨rfl, s5⟩
                have hfd5 := hfd3.same s5
                have hF5 := hF3.trans0 s5.fr
                clear hfd3 hF3 s5
                go_wp2_with fail
                refine (fleft_any _ p q bs _ hfd5).mono ?_
                rintro e w6 ⟨rfl, s6⟩
                have hfd6 := hfd5.same s6
                have hF6 := hF5.trans0 s6.fr
                have t1 : (bs.length : Int) - (bs.length : Int) = 0 := by omega
                rw [t1]
                clear hfd5 hF5 s6 t1
                go_wp2_with fail
                go_roundw
                case rel => exact ⟨j3 + 1, by omega, by go_num, hfd6, hF6⟩
                case measure => simp [intOf]; omega
              · have hlt3' : (m : Int) ≤ (j3 : Int) := by omega
                go_wp2_with fail
                go_ret
                exact ⟨rfl, hF3⟩
end Go.Proofs.Ytklbocdeifebkaa
