/- The law SrcReads: the walk. No condition. -/
import Derived.Test.YtklbocdeifebkaaRefCurT
import Derived.Test.YtklbocdeifebkaaRefCurN
import Derived.Test.YtklbocdeifebkaaSrcE
import Derived.Deep.RegionHeld3
namespace Go.Proofs.Ytklbocdeifebkaa
open Go.RowKit

theorem own_store {w : World} {base e : Nat} {v : Value} {n : Nat} {xs : List Value} (h : w.ownsRow base e 1 v n xs) (j : Nat) (hj : j < n) :
    ∃ g cap, v = .slice (some ⟨g, 0, none⟩) n cap ∧ base ≤ g ∧ g < w.heap.size ∧ (∃ x, w.cell? ⟨g, j, none⟩ = some x) ∧ w.frozen? ⟨g, j, none⟩ = false ∧ ∀ u, ∃ xs', (w.setCell ⟨g, j, none⟩ u).ownsRow base e 1 v n xs' := by
  rcases h.2 with ⟨rfl, _⟩ | ⟨g, cap, cur, rfl, hb, hg, _⟩
  · omega
  · obtain ⟨x, hx⟩ : ∃ x, xs[j]? = some x := ⟨xs[j]'(by have := h.1; omega), by simp⟩
    exact ⟨g, cap, rfl, hb, (Array.getElem?_eq_some_iff.1 hg).1, ⟨x, by rw [h.cellAt j (by omega), hx]⟩, h.frozenAt j, fun u => ⟨_, (h.stored j u).1⟩⟩

/-- A slice of pairs of numbers. -/
def Pairs (w : World) (v : Value) (n : Nat) : Prop :=
  ∃ ao cap, v = .slice ao n cap ∧ n ≤ cap ∧ cap ≤ 9223372036854775807 ∧ ∀ i, i < n → ∃ b o, ao = some ⟨b, o, none⟩ ∧ b < w.heap.size ∧
    ∃ k m : Int, (-9223372036854775808 ≤ m ∧ m ≤ 9223372036854775807) ∧ w.cell? ⟨b, o + i * 2, none⟩ = some (.int .i64 k) ∧ w.cell? ⟨b, o + i * 2 + 1, none⟩ = some (.int .i64 m)

theorem Cur.num_b (c : Cur) (n : Int) : (c.num n).2.b = c.b := by
  unfold Cur.num; split
  · exact Cur.take_b _ _
  · rfl
theorem Cur.number_b (c : Cur) : c.number.2.b = c.b := by unfold Cur.number; split <;> rfl
theorem Cur.bits_b (c : Cur) (n : Int) : (c.bits n).2.b = c.b := by
  unfold Cur.bits; split
  · rfl
  · split <;> rfl
theorem Cur.told_b (c : Cur) (n : Int) : (c.told n).2.b = c.b := by
  unfold Cur.told; split
  · rfl
  · split
    · rfl
    · split
      · split
        · exact Cur.bits_b _ _
        · exact Cur.bits_b _ _
      · rfl

set_option maxRecDepth 100000 in
set_option maxHeartbeats 40000000 in
theorem walk_SrcReads (w : World) (v1 : Value) (bs : List UInt8) (v2 : Value) (n : Nat) (h : Sl w v1 (bv bs)) (hbl : ∀ k, v1.ownBlock = some k → k < w.heap.size) (h2 : Pairs w v2 n) :
    Calls Try.prog 9 #[v1, v2] w fun e w' => e = .returned (.bool true) ∧ Fr [] w w' := by
  obtain ⟨ao, cap, rfl, hc1, hc2, -⟩ := h.out
  obtain ⟨ao2, cap2, rfl, hd1, hd2, hpr⟩ := h2
  rw [bv_length] at *
  have HP := Lib.hid hpr
  clear hpr
  by_cases hbig : 65536 < bs.length
  · have hbig' : (65536 : Int) < (bs.length : Int) := by omega
    go_enter Try.func9, Try.ntmps9
    go_wp2_with fail
    refine (awake_any w).mono ?_
    rintro e w1 ⟨rfl, hf1⟩
    go_wp2_with fail
    go_ret
    exact ⟨rfl, hf1⟩
  have hbig' : (bs.length : Int) ≤ 65536 := by omega
  go_enter Try.func9, Try.ntmps9
  go_wp2_with fail
  refine (awake_any w).mono ?_
  rintro e w1 ⟨rfl, F1⟩
  have h1 := h.fr0 F1
  go_wp2_with (at_builtin; refine wpList_append_new sty_u8 rfl _ _ rfl rfl _ (bv bs) rfl h1 (bv_one _) ?_ ?_ ?_)
  · rw [bv_length]; omega
  · rw [bv_length]; omega
  intro vo wa hoa hfa
  rw [bv_length] at hoa
  have Fa := F1.trans0 hfa
  have hsa := Sl.of_own hoa
  have z1 := F1.size
  clear h1 hfa F1
  go_wp2_with fail
  refine (new_any wa _ bs hsa (by omega)).mono ?_
  rintro e wb ⟨p, q, rfl, hp, hq, hcb, hfb⟩
  have hob := own_fr hoa hfb (by simp)
  have Fb := Fa.trans0 hfb
  have hvb := h.fr0 Fb
  have za := Fa.size
  have zb := hfb.size
  have hlo := hoa.lt
  clear hoa hfb Fa hsa
  go_wp2_with fail
  obtain ⟨wc, hwc⟩ : ∃ wc, wc = wb.alloc (.cells #[.slice ao bs.length cap, .int .i64 0, .int .i64 0] 54) := ⟨_, rfl⟩
  have hfc : Fr [] wb wc := by rw [hwc]; exact (Fr.refl _ _).alloc _
  have hrc : RCurAt wc wb.heap.size (.slice ao bs.length cap) ⟨bs, 0, 0⟩ := by
    refine ⟨?_, hvb.fr0 hfc, Nat.zero_le _, ?_⟩
    · rw [hwc]; exact heap_alloc_new _ _
    · intro hk
      have := hbl _ hk
      have := Fb.size
      omega
  have hoc := own_fr hob hfc (by simp)
  have hcc := hcb.fr hfc (by simp) (by simp)
  have Fc := Fb.trans0 hfc
  have hpl := hcb.lt
  obtain ⟨p2, hp2⟩ : ∃ p2, p2 = wb.heap.size := ⟨_, rfl⟩
  rw [← hp2] at hrc hpl zb
  have hvc := hvb.fr0 hfc
  have hneq : ∀ k, (Value.slice ao bs.length cap).ownBlock = some k → k < wa.heap.size := fun k hk => by have := hbl k hk; omega
  rw [← hwc, ← hp2]
  clear hp2
  obtain ⟨aoo, capo, rfl, ho1, ho2, -⟩ := own_out hoc
  have HOC := Lib.hid hoc
  have HRC := Lib.hid hrc
  have HCC := Lib.hid hcc
  clear hwc hob hcb hvb hvc hfc hoc hrc hcc
  go_loopw [8] (fun i wr => ∃ k : Nat, k ≤ bs.length ∧ i = .int .i64 k ∧ (∃ xs, wr.ownsRow w1.heap.size 5 1 (.slice aoo bs.length capo) bs.length xs) ∧ CurAt wr p q ⟨bs, 0, 0⟩ ∧ RCurAt wr p2 (.slice ao bs.length cap) ⟨bs, 0, 0⟩ ∧ Fr [] w wr) (fun i _ => bs.length - (intOf i).toNat)
  case atStart => exact ⟨0, Nat.zero_le _, rfl, ⟨_, HOC.out⟩, HCC.out, HRC.out, Fc⟩
  case round =>
    obtain ⟨k, hk, rfl, ⟨xs, hown⟩, hc, hr, hF⟩ := hrel
    clear Fb Fc
    by_cases hlt : k < bs.length
    · have hlt' : (k : Int) < (bs.length : Int) := by omega
      obtain ⟨g, cap4, e0, hg, hgl, ⟨x, hx⟩, hfz, hst⟩ := own_store hown k hlt
      injection e0 with e1 e2 e3
      subst e1 e3
      obtain ⟨xs', hst⟩ := hst (.int .u8 85)
      have F1 : Fr [g] wr (wr.setCell ⟨g, k, none⟩ (.int .u8 85)) := (Fr.refl _ _).setCell (by simp) _
      have hgo := hlo g (by simp [Value.ownBlock])
      have hc' := hc.fr F1 (by simp; omega) (fun k hk => by have := hq k hk; simp; omega)
      have hr' := hr.fr F1 (by simp; omega) (fun k hk => by have := hbl k hk; simp; omega)
      have hF' := hF.trans F1 (by simp; omega)
      clear e2 hc hr hF hown
      go_wp2_with fail
      go_roundw
      case rel => exact ⟨k + 1, by omega, by go_num, ⟨_, hst⟩, hc', hr', hF'⟩
      case measure => simp [intOf]; omega
    · have hlt' : (bs.length : Int) ≤ (k : Int) := by omega
      clear hown hk hlt
      go_wp2_with fail
      generalize decide (k < bs.length) = x31
      generalize decide (65536 < (bs.length : Int)) = x19
      generalize (k : Int) = k8
      clear hlt' HOC HRC HCC
      go_loopw [9] (fun i wr => ∃ (k : Nat) (c : Cur), k ≤ n ∧ i = .int .i64 k ∧ c.b.length = bs.length ∧ CurAt wr p q c ∧ RCurAt wr p2 (.slice ao bs.length cap) c ∧ Fr [] w wr) (fun i _ => n - (intOf i).toNat)
      case atStart => exact ⟨0, ⟨bs, 0, 0⟩, Nat.zero_le _, rfl, rfl, hc, hr, hF⟩
      case round =>
        obtain ⟨j, c, hj, rfl, hcb, hc2, hr2, hF2⟩ := hrel
        clear hc hr hF
        by_cases hlt : j < n ∧ j < 200
        · obtain ⟨hlt1, hlt2⟩ := hlt
          have hlt1' : (j : Int) < (n : Int) := by omega
          have hlt2' : (j : Int) < 200 := by omega
          obtain ⟨b2, o2, rfl, hbl2, K, N, hN, g1, g2⟩ := HP.out j hlt1
          have d1 : wr.cell? ⟨b2, o2 + j * 2, none⟩ = some (.int .i64 K) := by rw [hF2.cell (p := ⟨b2, o2 + j * 2, none⟩) hbl2 (by simp)]; exact g1
          have d2 : wr.cell? ⟨b2, o2 + j * 2 + 1, none⟩ = some (.int .i64 N) := by rw [hF2.cell (p := ⟨b2, o2 + j * 2 + 1, none⟩) hbl2 (by simp)]; exact g2
          have hcl : c.b.length ≤ 65536 := by omega
          have HCB := Lib.hid hcb
          clear g1 g2 hcb
          go_wp2_with fail
          all_goals clear d1 d2
          · have hn := num_any wr p q c N hc2 (by omega)
            have hr := fun w' (h' : RCurAt w' p2 (.slice ao bs.length cap) c) => rnum_any w' p2 _ c N h' (by omega)
            have hb' : (c.num N).2.b.length = bs.length := by rw [Cur.num_b]; exact HCB.out

            generalize c.num N = R at hn hr hb'
            obtain ⟨X, C⟩ := R
            dsimp only at hn hr hb'
            have HN := Lib.hid hn
            have HR := Lib.hid hr
            have HCb := Lib.hid hb'
            clear hn hr hb'

            refine HN.out.mono ?_
            rintro e wx ⟨rfl, hcx, hfx⟩
            have hrx := hr2.fr hfx (by simp; omega) (fun k hk => by have := hbl k hk; simp; omega)
            have hFx := hF2.trans hfx (by simp; omega)
            clear hc2 hr2 hF2 HN
            go_wp2_with fail

            refine (HR.out _ hrx).mono ?_
            rintro e wt ⟨rfl, hrt, hft⟩
            have hct := hcx.fr hft (by simp; omega) (fun k hk => by have := hq k hk; simp; omega)
            have hFt := hFx.trans hft (by simp; omega)
            clear hcx hrx hFx hfx HR
            go_wp2_with fail

            have n1 : ((C.left : Int) != (C.left : Int)) = false := by simp
            have n2 : ((C.at_ : Int) != (C.at_ : Int)) = false := by simp
            have n3 : ((C.code : Int) != (C.code : Int)) = false := by simp
            obtain ⟨_, _, -, -, -, k1, k2, -⟩ := hrt.out
            go_region_held3 (fun w' => w'.cell? ⟨p2, 1, none⟩ = some (.int .i64 C.at_) ∧ w'.cell? ⟨p2, 2, none⟩ = some (.int .i64 C.code)) (go_keep)
              (first
                | (go_at_call 15; refine (left_any _ p q C (hct.same Same.drew)).mono ?_; rintro e wx ⟨rfl, sx⟩; have k1x : wx.cell? ⟨p2, 1, none⟩ = some (.int .i64 C.at_) := (by obtain ⟨_, _, -, -, -, k, -⟩ := ((hrt.same Same.drew).same sx).out; exact k); have k2x : wx.cell? ⟨p2, 2, none⟩ = some (.int .i64 C.code) := (by obtain ⟨_, _, -, -, -, -, k, -⟩ := ((hrt.same Same.drew).same sx).out; exact k))
                | (go_at_call 43; refine (rleft_any _ p2 _ C ((hrt.same Same.drew).same sx)).mono ?_; rintro e wy ⟨rfl, sy⟩; have k1y : wy.cell? ⟨p2, 1, none⟩ = some (.int .i64 C.at_) := (by obtain ⟨_, _, -, -, -, k, -⟩ := (((hrt.same Same.drew).same sx).same sy).out; exact k); have k2y : wy.cell? ⟨p2, 2, none⟩ = some (.int .i64 C.code) := (by obtain ⟨_, _, -, -, -, -, k, -⟩ := (((hrt.same Same.drew).same sx).same sy).out; exact k))
                | (go_at_call 18; refine (at_any _ p q C (((hct.same Same.drew).same sx).same sy)).mono ?_; rintro e _ ⟨rfl, rfl⟩)
                | (go_at_call 16; refine (code_any _ p q C (((hct.same Same.drew).same sx).same sy)).mono ?_; rintro e _ ⟨rfl, rfl⟩))
            have sT : Same wt wy := (Same.drew.trans sx).trans sy
            have hcT := hct.same sT
            have hrT := hrt.same sT
            have hFT := hFt.trans0 sT.fr
            have HCT := Lib.hid hcT
            clear k1 k2 k1x k2x k1y k2y sx sy hct hrt hFt sT n1 n2 n3
            go_wp2_with fail
            go_roundw
            case rel => exact ⟨j + 1, C, by omega, by go_num, HCb.out, hcT, hrT, hFT⟩
            case measure => simp [intOf]; omega
          · have hn := number_any wr p q c hc2 (by omega)
            have hr := fun w' (h' : RCurAt w' p2 (.slice ao bs.length cap) c) => rnumber_any w' p2 _ c h' (by omega)
            have hb' : (c.number).2.b.length = bs.length := by rw [Cur.number_b]; exact HCB.out

            generalize c.number = R at hn hr hb'
            obtain ⟨X, C⟩ := R
            dsimp only at hn hr hb'
            have HN := Lib.hid hn
            have HR := Lib.hid hr
            have HCb := Lib.hid hb'
            clear hn hr hb'

            refine HN.out.mono ?_
            rintro e wx ⟨rfl, hcx, hfx⟩
            have hrx := hr2.fr hfx (by simp; omega) (fun k hk => by have := hbl k hk; simp; omega)
            have hFx := hF2.trans hfx (by simp; omega)
            clear hc2 hr2 hF2 HN
            go_wp2_with fail

            refine (HR.out _ hrx).mono ?_
            rintro e wt ⟨rfl, hrt, hft⟩
            have hct := hcx.fr hft (by simp; omega) (fun k hk => by have := hq k hk; simp; omega)
            have hFt := hFx.trans hft (by simp; omega)
            clear hcx hrx hFx hfx HR
            go_wp2_with fail

            have n1 : ((C.left : Int) != (C.left : Int)) = false := by simp
            have n2 : ((C.at_ : Int) != (C.at_ : Int)) = false := by simp
            have n3 : ((C.code : Int) != (C.code : Int)) = false := by simp
            obtain ⟨_, _, -, -, -, k1, k2, -⟩ := hrt.out
            go_region_held3 (fun w' => w'.cell? ⟨p2, 1, none⟩ = some (.int .i64 C.at_) ∧ w'.cell? ⟨p2, 2, none⟩ = some (.int .i64 C.code)) (go_keep)
              (first
                | (go_at_call 15; refine (left_any _ p q C (hct.same Same.drew)).mono ?_; rintro e wx ⟨rfl, sx⟩; have k1x : wx.cell? ⟨p2, 1, none⟩ = some (.int .i64 C.at_) := (by obtain ⟨_, _, -, -, -, k, -⟩ := ((hrt.same Same.drew).same sx).out; exact k); have k2x : wx.cell? ⟨p2, 2, none⟩ = some (.int .i64 C.code) := (by obtain ⟨_, _, -, -, -, -, k, -⟩ := ((hrt.same Same.drew).same sx).out; exact k))
                | (go_at_call 43; refine (rleft_any _ p2 _ C ((hrt.same Same.drew).same sx)).mono ?_; rintro e wy ⟨rfl, sy⟩; have k1y : wy.cell? ⟨p2, 1, none⟩ = some (.int .i64 C.at_) := (by obtain ⟨_, _, -, -, -, k, -⟩ := (((hrt.same Same.drew).same sx).same sy).out; exact k); have k2y : wy.cell? ⟨p2, 2, none⟩ = some (.int .i64 C.code) := (by obtain ⟨_, _, -, -, -, -, k, -⟩ := (((hrt.same Same.drew).same sx).same sy).out; exact k))
                | (go_at_call 18; refine (at_any _ p q C (((hct.same Same.drew).same sx).same sy)).mono ?_; rintro e _ ⟨rfl, rfl⟩)
                | (go_at_call 16; refine (code_any _ p q C (((hct.same Same.drew).same sx).same sy)).mono ?_; rintro e _ ⟨rfl, rfl⟩))
            have sT : Same wt wy := (Same.drew.trans sx).trans sy
            have hcT := hct.same sT
            have hrT := hrt.same sT
            have hFT := hFt.trans0 sT.fr
            have HCT := Lib.hid hcT
            clear k1 k2 k1x k2x k1y k2y sx sy hct hrt hFt sT n1 n2 n3
            go_wp2_with fail
            go_roundw
            case rel => exact ⟨j + 1, C, by omega, by go_num, HCb.out, hcT, hrT, hFT⟩
            case measure => simp [intOf]; omega
          · obtain ⟨kk, hkk, hkl⟩ : ∃ kk : Nat, IntKind.u64.wrap N = (kk : Int) ∧ kk < 18446744073709551616 := by
              rw [IntKind.wrap_u64]
              exact ⟨(N % 18446744073709551616).toNat, by omega, by omega⟩
            have hn := take_any wr p q c kk _ hkk hkl hc2 (by omega)
            have hr := fun w' (h' : RCurAt w' p2 (.slice ao bs.length cap) c) => rtake_any w' p2 _ c kk _ hkk hkl h' (by omega)
            have hb' : (c.take kk).2.b.length = bs.length := by rw [Cur.take_b]; exact HCB.out

            generalize c.take kk = R at hn hr hb'
            obtain ⟨X, C⟩ := R
            dsimp only at hn hr hb'
            have HN := Lib.hid hn
            have HR := Lib.hid hr
            have HCb := Lib.hid hb'
            clear hn hr hb'
            clear hkk hkl
            have hzx := hc2.lt
            have hzr := hr2.lt
            have hzw := hF2.size

            refine HN.out.mono ?_
            rintro e wx ⟨vx, rfl, hox, hcx, hfx⟩
            have hrx := hr2.fr hfx (by simp; omega) (fun k hk => by have := hbl k hk; simp; omega)
            have hFx := hF2.trans hfx (by simp; omega)
            clear hc2 hr2 hF2 HN
            go_wp2_with fail

            refine (HR.out _ hrx).mono ?_
            rintro e wt ⟨vy, rfl, hoy, hrt, hft⟩
            have hct := hcx.fr hft (by simp; omega) (fun k hk => by have := hq k hk; simp; omega)
            have hFt := hFx.trans hft (by simp; omega)

            have hoX2 := own_fr hox hft (fun k hk => by have := hox.lt k hk; simp; omega)
            have hoY := Sl.of_own hoy
            have hoX := Sl.of_own hoX2
            clear hox hoy hcx hrx hFx hfx hft HR
            go_wp2_with fail
            refine (bytes_any _ _ _ X X hoX hoY).mono ?_
            rintro e wu ⟨rfl, su⟩
            rw [decide_eq_true rfl]
            have hct2 := hct.same su
            have hrt2 := hrt.same su
            have hFt2 := hFt.trans0 su.fr
            have hoX3 := own_fr hoX2 su.fr (fun _ _ => List.not_mem_nil)
            obtain ⟨aox, capx, rfl, hx1, hx2, -⟩ := own_out hoX3
            obtain ⟨L, hL⟩ : ∃ L, L = X.length := ⟨_, rfl⟩
            rw [← hL] at hoX3 hx1 ⊢
            clear hct hrt hFt hoX hoX2 hoY su hL
            go_wp2_with fail
            go_loopw [14] (fun i wv => ∃ k : Nat, k ≤ L ∧ i = .int .i64 k ∧ (∃ xs, wv.ownsRow wr.heap.size 5 1 (.slice aox L capx) L xs) ∧ CurAt wv p q C ∧ RCurAt wv p2 (.slice ao bs.length cap) C ∧ Fr [] w wv) (fun i _ => L - (intOf i).toNat)
            case atStart => exact ⟨0, Nat.zero_le _, rfl, ⟨_, hoX3⟩, hct2, hrt2, hFt2⟩
            case round =>
              obtain ⟨i2, hi2, rfl, ⟨xs2, hown2⟩, hct, hrt, hFt⟩ := hrel
              clear hct2 hrt2 hFt2 hoX3
              by_cases hlt3 : i2 < L
              · have hlt3' : (i2 : Int) < (L : Int) := by omega
                obtain ⟨g, cap4, e0, hg, hgl, ⟨x, hx⟩, hfz, hst⟩ := own_store hown2 i2 hlt3
                injection e0 with e1 e2 e3
                subst e1 e3
                obtain ⟨xs', hst⟩ := hst (.int .u8 102)
                have F1 : Fr [g] wr (wr.setCell ⟨g, i2, none⟩ (.int .u8 102)) := (Fr.refl _ _).setCell (by simp) _
                have hc' := hct.fr F1 (by simp; omega) (fun k hk => by have := hq k hk; simp; omega)
                have hr' := hrt.fr F1 (by simp; omega) (fun k hk => by have := hbl k hk; simp; omega)
                have hF' := hFt.trans F1 (by simp; omega)
                clear e2 hct hrt hFt hown2
                go_wp2_with fail
                go_roundw
                case rel => exact ⟨i2 + 1, by omega, by go_num, ⟨_, hst⟩, hc', hr', hF'⟩
                case measure => simp [intOf]; omega
              · have hlt3' : (L : Int) ≤ (i2 : Int) := by omega
                clear hown2 hlt3 hi2
                go_wp2_with fail
                have n1 : ((C.left : Int) != (C.left : Int)) = false := by simp
                have n2 : ((C.at_ : Int) != (C.at_ : Int)) = false := by simp
                have n3 : ((C.code : Int) != (C.code : Int)) = false := by simp
                obtain ⟨_, _, -, -, -, k1, k2, -⟩ := hrt.out
                go_region_held3 (fun w' => w'.cell? ⟨p2, 1, none⟩ = some (.int .i64 C.at_) ∧ w'.cell? ⟨p2, 2, none⟩ = some (.int .i64 C.code)) (go_keep)
                  (first
                    | (go_at_call 15; refine (left_any _ p q C (hct.same Same.drew)).mono ?_; rintro e wx ⟨rfl, sx⟩; have k1x : wx.cell? ⟨p2, 1, none⟩ = some (.int .i64 C.at_) := (by obtain ⟨_, _, -, -, -, k, -⟩ := ((hrt.same Same.drew).same sx).out; exact k); have k2x : wx.cell? ⟨p2, 2, none⟩ = some (.int .i64 C.code) := (by obtain ⟨_, _, -, -, -, -, k, -⟩ := ((hrt.same Same.drew).same sx).out; exact k))
                    | (go_at_call 43; refine (rleft_any _ p2 _ C ((hrt.same Same.drew).same sx)).mono ?_; rintro e wy ⟨rfl, sy⟩; have k1y : wy.cell? ⟨p2, 1, none⟩ = some (.int .i64 C.at_) := (by obtain ⟨_, _, -, -, -, k, -⟩ := (((hrt.same Same.drew).same sx).same sy).out; exact k); have k2y : wy.cell? ⟨p2, 2, none⟩ = some (.int .i64 C.code) := (by obtain ⟨_, _, -, -, -, -, k, -⟩ := (((hrt.same Same.drew).same sx).same sy).out; exact k))
                    | (go_at_call 18; refine (at_any _ p q C (((hct.same Same.drew).same sx).same sy)).mono ?_; rintro e _ ⟨rfl, rfl⟩)
                    | (go_at_call 16; refine (code_any _ p q C (((hct.same Same.drew).same sx).same sy)).mono ?_; rintro e _ ⟨rfl, rfl⟩))
                have sT : Same wr wy := (Same.drew.trans sx).trans sy
                have hcT := hct.same sT
                have hrT := hrt.same sT
                have hFT := hFt.trans0 sT.fr
                have HCT := Lib.hid hcT
                clear k1 k2 k1x k2x k1y k2y sx sy hct hrt hFt sT n1 n2 n3
                go_wp2_with fail
                go_roundw
                case rel => exact ⟨j + 1, C, by omega, by go_num, HCb.out, hcT, hrT, hFT⟩
                case measure => simp [intOf]; omega
          · have hn := bits_any wr p q c N hN hc2 (by omega)
            have hr := fun w' (h' : RCurAt w' p2 (.slice ao bs.length cap) c) => rbits_any w' p2 _ c N hN h' (by omega)
            have hb' : (c.bits N).2.b.length = bs.length := by rw [Cur.bits_b]; exact HCB.out

            generalize c.bits N = R at hn hr hb'
            obtain ⟨X, C⟩ := R
            dsimp only at hn hr hb'
            have HN := Lib.hid hn
            have HR := Lib.hid hr
            have HCb := Lib.hid hb'
            clear hn hr hb'

            refine HN.out.mono ?_
            rintro e wx ⟨vx, rfl, hox, hcx, hfx⟩
            have hrx := hr2.fr hfx (by simp; omega) (fun k hk => by have := hbl k hk; simp; omega)
            have hFx := hF2.trans hfx (by simp; omega)
            have hoX := Sl.of_own hox
            have hzx := hc2.lt
            have hzr := hr2.lt
            have hxl := hox.lt
            clear hox hc2 hr2 hF2 HN
            go_wp2_with fail

            refine (HR.out _ hrx).mono ?_
            rintro e wt ⟨vy, rfl, hoy, hrt, hft⟩
            have hct := hcx.fr hft (by simp; omega) (fun k hk => by have := hq k hk; simp; omega)
            have hFt := hFx.trans hft (by simp; omega)
            have hoX2 := hoX.fr hft (fun k hk => by have := hxl k hk; simp; omega)
            have hoY := Sl.of_own hoy
            clear hoX hoy hcx hrx hFx hfx HR
            go_wp2_with fail
            refine (flags_any _ _ _ _ X hoX2 hoY).mono ?_
            rintro e wu ⟨rfl, su⟩
            rw [decide_eq_true rfl]
            have hct2 := hct.same su
            have hrt2 := hrt.same su
            have hFt2 := hFt.trans0 su.fr
            clear hct hrt hFt hoX2 hoY su hxl
            go_wp2_with fail

            have n1 : ((C.left : Int) != (C.left : Int)) = false := by simp
            have n2 : ((C.at_ : Int) != (C.at_ : Int)) = false := by simp
            have n3 : ((C.code : Int) != (C.code : Int)) = false := by simp
            obtain ⟨_, _, -, -, -, k1, k2, -⟩ := hrt2.out
            go_region_held3 (fun w' => w'.cell? ⟨p2, 1, none⟩ = some (.int .i64 C.at_) ∧ w'.cell? ⟨p2, 2, none⟩ = some (.int .i64 C.code)) (go_keep)
              (first
                | (go_at_call 15; refine (left_any _ p q C (hct2.same Same.drew)).mono ?_; rintro e wx ⟨rfl, sx⟩; have k1x : wx.cell? ⟨p2, 1, none⟩ = some (.int .i64 C.at_) := (by obtain ⟨_, _, -, -, -, k, -⟩ := ((hrt2.same Same.drew).same sx).out; exact k); have k2x : wx.cell? ⟨p2, 2, none⟩ = some (.int .i64 C.code) := (by obtain ⟨_, _, -, -, -, -, k, -⟩ := ((hrt2.same Same.drew).same sx).out; exact k))
                | (go_at_call 43; refine (rleft_any _ p2 _ C ((hrt2.same Same.drew).same sx)).mono ?_; rintro e wy ⟨rfl, sy⟩; have k1y : wy.cell? ⟨p2, 1, none⟩ = some (.int .i64 C.at_) := (by obtain ⟨_, _, -, -, -, k, -⟩ := (((hrt2.same Same.drew).same sx).same sy).out; exact k); have k2y : wy.cell? ⟨p2, 2, none⟩ = some (.int .i64 C.code) := (by obtain ⟨_, _, -, -, -, -, k, -⟩ := (((hrt2.same Same.drew).same sx).same sy).out; exact k))
                | (go_at_call 18; refine (at_any _ p q C (((hct2.same Same.drew).same sx).same sy)).mono ?_; rintro e _ ⟨rfl, rfl⟩)
                | (go_at_call 16; refine (code_any _ p q C (((hct2.same Same.drew).same sx).same sy)).mono ?_; rintro e _ ⟨rfl, rfl⟩))
            have sT : Same wu wy := (Same.drew.trans sx).trans sy
            have hcT := hct2.same sT
            have hrT := hrt2.same sT
            have hFT := hFt2.trans0 sT.fr
            have HCT := Lib.hid hcT
            clear k1 k2 k1x k2x k1y k2y sx sy hct2 hrt2 hFt2 sT n1 n2 n3
            go_wp2_with fail
            go_roundw
            case rel => exact ⟨j + 1, C, by omega, by go_num, HCb.out, hcT, hrT, hFT⟩
            case measure => simp [intOf]; omega
          · have hn := told_any wr p q c (N % 65536) (by omega) hc2 (by omega)
            have hr := fun w' (h' : RCurAt w' p2 (.slice ao bs.length cap) c) => rtold_any w' p2 _ c (N % 65536) (by omega) h' (by omega)
            have hb' : (c.told (N % 65536)).2.b.length = bs.length := by rw [Cur.told_b]; exact HCB.out

            generalize c.told (N % 65536) = R at hn hr hb'
            obtain ⟨X, C⟩ := R
            dsimp only at hn hr hb'
            have HN := Lib.hid hn
            have HR := Lib.hid hr
            have HCb := Lib.hid hb'
            clear hn hr hb'

            refine HN.out.mono ?_
            rintro e wx ⟨vx, rfl, hox, hcx, hfx⟩
            have hrx := hr2.fr hfx (by simp; omega) (fun k hk => by have := hbl k hk; simp; omega)
            have hFx := hF2.trans hfx (by simp; omega)
            have hoX := Sl.of_own hox
            have hzx := hc2.lt
            have hzr := hr2.lt
            have hxl := hox.lt
            clear hox hc2 hr2 hF2 HN
            go_wp2_with fail

            refine (HR.out _ hrx).mono ?_
            rintro e wt ⟨vy, rfl, hoy, hrt, hft⟩
            have hct := hcx.fr hft (by simp; omega) (fun k hk => by have := hq k hk; simp; omega)
            have hFt := hFx.trans hft (by simp; omega)
            have hoX2 := hoX.fr hft (fun k hk => by have := hxl k hk; simp; omega)
            have hoY := Sl.of_own hoy
            clear hoX hoy hcx hrx hFx hfx HR
            go_wp2_with fail
            refine (flags_any _ _ _ _ X hoX2 hoY).mono ?_
            rintro e wu ⟨rfl, su⟩
            rw [decide_eq_true rfl]
            have hct2 := hct.same su
            have hrt2 := hrt.same su
            have hFt2 := hFt.trans0 su.fr
            clear hct hrt hFt hoX2 hoY su hxl
            go_wp2_with fail

            have n1 : ((C.left : Int) != (C.left : Int)) = false := by simp
            have n2 : ((C.at_ : Int) != (C.at_ : Int)) = false := by simp
            have n3 : ((C.code : Int) != (C.code : Int)) = false := by simp
            obtain ⟨_, _, -, -, -, k1, k2, -⟩ := hrt2.out
            go_region_held3 (fun w' => w'.cell? ⟨p2, 1, none⟩ = some (.int .i64 C.at_) ∧ w'.cell? ⟨p2, 2, none⟩ = some (.int .i64 C.code)) (go_keep)
              (first
                | (go_at_call 15; refine (left_any _ p q C (hct2.same Same.drew)).mono ?_; rintro e wx ⟨rfl, sx⟩; have k1x : wx.cell? ⟨p2, 1, none⟩ = some (.int .i64 C.at_) := (by obtain ⟨_, _, -, -, -, k, -⟩ := ((hrt2.same Same.drew).same sx).out; exact k); have k2x : wx.cell? ⟨p2, 2, none⟩ = some (.int .i64 C.code) := (by obtain ⟨_, _, -, -, -, -, k, -⟩ := ((hrt2.same Same.drew).same sx).out; exact k))
                | (go_at_call 43; refine (rleft_any _ p2 _ C ((hrt2.same Same.drew).same sx)).mono ?_; rintro e wy ⟨rfl, sy⟩; have k1y : wy.cell? ⟨p2, 1, none⟩ = some (.int .i64 C.at_) := (by obtain ⟨_, _, -, -, -, k, -⟩ := (((hrt2.same Same.drew).same sx).same sy).out; exact k); have k2y : wy.cell? ⟨p2, 2, none⟩ = some (.int .i64 C.code) := (by obtain ⟨_, _, -, -, -, -, k, -⟩ := (((hrt2.same Same.drew).same sx).same sy).out; exact k))
                | (go_at_call 18; refine (at_any _ p q C (((hct2.same Same.drew).same sx).same sy)).mono ?_; rintro e _ ⟨rfl, rfl⟩)
                | (go_at_call 16; refine (code_any _ p q C (((hct2.same Same.drew).same sx).same sy)).mono ?_; rintro e _ ⟨rfl, rfl⟩))
            have sT : Same wu wy := (Same.drew.trans sx).trans sy
            have hcT := hct2.same sT
            have hrT := hrt2.same sT
            have hFT := hFt2.trans0 sT.fr
            have HCT := Lib.hid hcT
            clear k1 k2 k1x k2x k1y k2y sx sy hct2 hrt2 hFt2 sT n1 n2 n3
            go_wp2_with fail
            go_roundw
            case rel => exact ⟨j + 1, C, by omega, by go_num, HCb.out, hcT, hrT, hFT⟩
            case measure => simp [intOf]; omega
          · have hn := told_any wr p q c N (by omega) hc2 (by omega)
            have hr := fun w' (h' : RCurAt w' p2 (.slice ao bs.length cap) c) => rtold_any w' p2 _ c N (by omega) h' (by omega)
            have hb' : (c.told N).2.b.length = bs.length := by rw [Cur.told_b]; exact HCB.out

            generalize c.told N = R at hn hr hb'
            obtain ⟨X, C⟩ := R
            dsimp only at hn hr hb'
            have HN := Lib.hid hn
            have HR := Lib.hid hr
            have HCb := Lib.hid hb'
            clear hn hr hb'

            refine HN.out.mono ?_
            rintro e wx ⟨vx, rfl, hox, hcx, hfx⟩
            have hrx := hr2.fr hfx (by simp; omega) (fun k hk => by have := hbl k hk; simp; omega)
            have hFx := hF2.trans hfx (by simp; omega)
            have hoX := Sl.of_own hox
            have hzx := hc2.lt
            have hzr := hr2.lt
            have hxl := hox.lt
            clear hox hc2 hr2 hF2 HN
            go_wp2_with fail

            refine (HR.out _ hrx).mono ?_
            rintro e wt ⟨vy, rfl, hoy, hrt, hft⟩
            have hct := hcx.fr hft (by simp; omega) (fun k hk => by have := hq k hk; simp; omega)
            have hFt := hFx.trans hft (by simp; omega)
            have hoX2 := hoX.fr hft (fun k hk => by have := hxl k hk; simp; omega)
            have hoY := Sl.of_own hoy
            clear hoX hoy hcx hrx hFx hfx HR
            go_wp2_with fail
            refine (flags_any _ _ _ _ X hoX2 hoY).mono ?_
            rintro e wu ⟨rfl, su⟩
            rw [decide_eq_true rfl]
            have hct2 := hct.same su
            have hrt2 := hrt.same su
            have hFt2 := hFt.trans0 su.fr
            clear hct hrt hFt hoX2 hoY su hxl
            go_wp2_with fail

            have n1 : ((C.left : Int) != (C.left : Int)) = false := by simp
            have n2 : ((C.at_ : Int) != (C.at_ : Int)) = false := by simp
            have n3 : ((C.code : Int) != (C.code : Int)) = false := by simp
            obtain ⟨_, _, -, -, -, k1, k2, -⟩ := hrt2.out
            go_region_held3 (fun w' => w'.cell? ⟨p2, 1, none⟩ = some (.int .i64 C.at_) ∧ w'.cell? ⟨p2, 2, none⟩ = some (.int .i64 C.code)) (go_keep)
              (first
                | (go_at_call 15; refine (left_any _ p q C (hct2.same Same.drew)).mono ?_; rintro e wx ⟨rfl, sx⟩; have k1x : wx.cell? ⟨p2, 1, none⟩ = some (.int .i64 C.at_) := (by obtain ⟨_, _, -, -, -, k, -⟩ := ((hrt2.same Same.drew).same sx).out; exact k); have k2x : wx.cell? ⟨p2, 2, none⟩ = some (.int .i64 C.code) := (by obtain ⟨_, _, -, -, -, -, k, -⟩ := ((hrt2.same Same.drew).same sx).out; exact k))
                | (go_at_call 43; refine (rleft_any _ p2 _ C ((hrt2.same Same.drew).same sx)).mono ?_; rintro e wy ⟨rfl, sy⟩; have k1y : wy.cell? ⟨p2, 1, none⟩ = some (.int .i64 C.at_) := (by obtain ⟨_, _, -, -, -, k, -⟩ := (((hrt2.same Same.drew).same sx).same sy).out; exact k); have k2y : wy.cell? ⟨p2, 2, none⟩ = some (.int .i64 C.code) := (by obtain ⟨_, _, -, -, -, -, k, -⟩ := (((hrt2.same Same.drew).same sx).same sy).out; exact k))
                | (go_at_call 18; refine (at_any _ p q C (((hct2.same Same.drew).same sx).same sy)).mono ?_; rintro e _ ⟨rfl, rfl⟩)
                | (go_at_call 16; refine (code_any _ p q C (((hct2.same Same.drew).same sx).same sy)).mono ?_; rintro e _ ⟨rfl, rfl⟩))
            have sT : Same wu wy := (Same.drew.trans sx).trans sy
            have hcT := hct2.same sT
            have hrT := hrt2.same sT
            have hFT := hFt2.trans0 sT.fr
            have HCT := Lib.hid hcT
            clear k1 k2 k1x k2x k1y k2y sx sy hct2 hrt2 hFt2 sT n1 n2 n3
            go_wp2_with fail
            go_roundw
            case rel => exact ⟨j + 1, C, by omega, by go_num, HCb.out, hcT, hrT, hFT⟩
            case measure => simp [intOf]; omega
        · have hN0 : ¬ j < 0 := by omega
          clear hN0
          by_cases hjn : j < n
          · have h3 : (j : Int) < (n : Int) := by omega
            have h4 : (200 : Int) ≤ (j : Int) := by omega
            clear hlt hjn hc2 hr2 hcb
            go_wp2_with fail
            go_ret
            exact ⟨rfl, hF2⟩
          · have h3 : (n : Int) ≤ (j : Int) := by omega
            clear hlt hjn hc2 hr2 hcb
            go_wp2_with fail
            go_ret
            exact ⟨rfl, hF2⟩
end Go.Proofs.Ytklbocdeifebkaa
