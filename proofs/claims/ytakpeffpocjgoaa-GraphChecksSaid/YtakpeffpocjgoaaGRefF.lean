/- Contracts: the reference's First, From, feeds. No condition but that lengths fit. -/
import Derived.Test.YtakpeffpocjgoaaGA
import Derived.Test.YtakpeffpocjgoaaGRefP
import Derived.Test.YtakpeffpocjgoaaGPlain
import Derived.Deep.RegionHeld3
namespace Go.Proofs.Ytakpeffpocjgoaa
open Go.RowKit

theorem rfirst_any (w : World) (v : Value) (f : Folder) (hf : Fo w v f) (hn : f.coders.length ≤ 100) (c : Nat) (hc : c ≤ 1000) :
    Calls Try.prog 25 #[v, .int .i64 c] w fun e w' => e = .returned (.int .i64 (f.first c)) ∧ Fr [] w w' := by
  obtain ⟨cv, b, p, s, h, k0, rfl, hV⟩ := hf
  obtain ⟨ao, cap, rfl, g, m, o⟩ := hV.co.out
  go_enter Try.func25, Try.ntmps25
  go_wp2_with fail
  go_loopw [5, 6] (fun at_ i wr => ∃ k : Nat, k ≤ c ∧ i = .int .i64 k ∧ at_ = .int .i64 (f.first k) ∧ k ≤ f.coders.length ∧ Fr [] (w.alloc (.cells #[.slice ao f.coders.length cap, b, p, s, h, k0] 30)) wr) (fun _ i _ => c - (intOf i).toNat)
  case atStart => exact ⟨0, Nat.zero_le _, rfl, rfl, Nat.zero_le _, Fr.refl _ _⟩
  case round =>
    obtain ⟨k, hk, rfl, rfl, hkn, F⟩ := hrel
    obtain ⟨d0, -, -, -, -, -⟩ := box6 F
    have hV' := hV.fr (((Fr.refl _ _).alloc _).trans0 F)
    by_cases hlt : k < c
    · by_cases hlt2 : k < f.coders.length
      · obtain ⟨x, hx⟩ := some_get f.coders k hlt2
        obtain ⟨ao', cap', e', -, -, o'⟩ := hV'.co.out
        injection e' with e1 e2 e3
        subst e1 e3
        obtain ⟨b1, o1, pv, rfl, -, c0, c1, -⟩ := o' k x hx
        have HX := Lib.hid (f.first_succ k x hx)
        have hle := f.first_le k
        generalize f.first k = s0 at *
        clear o o' hx hV hV' e2
        go_wp2_with (go_at_call 11; refine (rins_any _ _ _).mono ?_; rintro e w1 ⟨rfl, F1⟩)
        have := ins_le x.method
        go_wp2_with fail
        go_roundw
        case rel => exact ⟨k + 1, by omega, by go_num, by rw [HX.out]; exact congrArg _ (wrap_nat _ _ (by omega)), by omega, F.trans0 F1⟩
        case measure => simp [intOf]; omega
      · have HK := Lib.hid (show k = f.coders.length by omega)
        have HF := Lib.hid (f.first_min c (by omega))
        clear o hV hV'
        go_wp2_with fail
        go_ret
        exact ⟨by rw [HF.out, ← HK.out]; rfl, ((Fr.refl _ _).alloc _).trans0 F⟩
    · have HK := Lib.hid (show k = c by omega)
      clear o hV hV'
      go_wp2_with fail
      go_ret
      exact ⟨by rw [HK.out]; rfl, ((Fr.refl _ _).alloc _).trans0 F⟩


theorem rfrom_any (w : World) (v : Value) (f : Folder) (hf : Fo w v f) (x : Int) :
    Calls Try.prog 24 #[v, .int .i64 x] w fun e w' => e = .returned (.tuple #[.int .i64 (f.from_ x).1, .int .i64 (f.from_ x).2]) ∧ Fr [] w w' := by
  obtain ⟨c, bv', p, s, h, k0, rfl, hV⟩ := hf
  obtain ⟨ao, cap, rfl, g, m, o⟩ := hV.bi.out
  obtain ⟨aop, capp, rfl, gp, mp, op⟩ := hV.pa.out
  simp only [iv_length] at *
  have F0 : Fr [] w (w.alloc (.cells #[c, .slice ao f.binds.length cap, .slice aop f.packs.length capp, s, h, k0] 30)) := (Fr.refl _ _).alloc _
  go_enter Try.func24, Try.ntmps24
  go_wp2_with fail
  go_loopw [6] (fun i wr => ∃ k : Nat, k ≤ f.binds.length ∧ i = .int .i64 k ∧ (f.binds.take k).find? (fun y => y.1 == x) = none ∧ wr = w.alloc (.cells #[c, .slice ao f.binds.length cap, .slice aop f.packs.length capp, s, h, k0] 30)) (fun i _ => f.binds.length - (intOf i).toNat)
  case atStart => exact ⟨0, Nat.zero_le _, rfl, by simp, rfl⟩
  case round =>
    obtain ⟨k, hk, rfl, hfk, hwr⟩ := hrel
    have F : Fr [] w wr := hwr ▸ F0
    obtain ⟨d0, d1, d2, d3, d4, d5⟩ := box6 (hwr ▸ Fr.refl [] wr : Fr [] (w.alloc (.cells #[c, .slice ao f.binds.length cap, .slice aop f.packs.length capp, s, h, k0] 30)) wr)
    by_cases hlt : k < f.binds.length
    · obtain ⟨y, hy⟩ := some_get f.binds k hlt
      obtain ⟨b1, o1, rfl, hb1, c0, c1⟩ := o k y hy
      replace c0 := (F.cell (p := ⟨b1, _, none⟩) hb1 (by simp)).trans c0
      replace c1 := (F.cell (p := ⟨b1, _, none⟩) hb1 (by simp)).trans c1
      have HT := Lib.hid hfk
      have HY := Lib.hid hy
      have HW := Lib.hid hwr
      clear o op hV hfk hy hwr
      obtain ⟨y1, y2⟩ := y
      dsimp only at c0 c1
      by_cases hxy : y1 = x
      · subst hxy
        have HF := Lib.hid (show f.from_ y1 = (y2, -1) by
          have e : f.binds = f.binds.take k ++ f.binds.drop k := (List.take_append_drop k f.binds).symm
          have e2 : f.binds.drop k = (y1, y2) :: f.binds.drop (k + 1) := by
            have := List.drop_eq_getElem_cons hlt
            rwa [(List.getElem?_eq_some_iff.1 HY.out).2] at this
          have : f.fromB y1 = some y2 := by unfold Folder.fromB; rw [e, List.find?_append, HT.out, e2]; simp
          simp [Folder.from_, this])
        go_wp2_with fail
        go_ret2
        exact ⟨by rw [HF.out]; rfl, F⟩
      · have HF := Lib.hid (show (f.binds.take (k + 1)).find? (fun y => y.1 == x) = none by
          rw [take_succ'' _ _ _ HY.out, List.find?_append, HT.out]; simp [hxy])
        have hb : (y1 == x) = false := by simp [hxy]
        clear hxy
        go_wp2_with fail
        go_roundw
        case rel => exact ⟨k + 1, by omega, by go_num, HF.out, HW.out⟩
        case measure => simp [intOf]; omega
    · have hFB : f.fromB x = none := by unfold Folder.fromB; rw [← List.take_of_length_le (l := f.binds) (i := k) (by omega), hfk]; rfl
      have HFB := Lib.hid hFB
      clear hFB hfk o hV hwr
      go_wp2_with fail
      go_loopw [7] (fun i w2 => ∃ k : Nat, k ≤ f.packs.length ∧ i = .int .i64 k ∧ (f.packs.take k).findIdx? (· == x) = none ∧ w2 = wr) (fun i _ => f.packs.length - (intOf i).toNat)
      case atStart => exact ⟨0, Nat.zero_le _, rfl, by simp, rfl⟩
      case round =>
        obtain ⟨k2, hk2, rfl, htk, rfl⟩ := hrel
        by_cases hlt2 : k2 < f.packs.length
        · obtain ⟨b1, of1, rfl, hb1, c1⟩ := op k2 hlt2
          obtain ⟨y, hy⟩ := some_get f.packs k2 hlt2
          have e1 := (F.cell (p := ⟨b1, of1 + k2, none⟩) hb1 (by simp)).trans ((c1 k2 hlt2).trans (iv_get _ _ _ hy))
          have HT := Lib.hid htk
          have HY := Lib.hid hy
          clear op c1 htk hy
          by_cases hxy : y = x
          · subst hxy
            have HF := Lib.hid (show f.from_ y = (-1, (k2 : Int)) by simp [Folder.from_, HFB.out, Folder.fromP, fidx, find_at HY.out HT.out])
            go_wp2_with fail
            go_ret2
            exact ⟨by rw [HF.out]; rfl, F⟩
          · have HF := Lib.hid (find_step HY.out HT.out hxy)
            have hb : (y == x) = false := by simp [hxy]
            clear hxy
            go_wp2_with fail
            go_roundw
            case rel => exact ⟨k2 + 1, by omega, by go_num, HF.out, by trivial⟩
            case measure => simp [intOf]; omega
        · have HF := Lib.hid (show f.from_ x = (-1, -1) by
            rw [List.take_of_length_le (by omega)] at htk
            simp [Folder.from_, HFB.out, Folder.fromP, fidx, htk])
          clear op htk
          go_wp2_with fail
          go_ret2
          exact ⟨by rw [HF.out]; rfl, F⟩

def feedP (a : Nat) (fr n : Nat) (x : Int × Int) : Bool := decide (x.2 = a) && decide ((fr : Int) ≤ x.1) && decide (x.1 < fr + n)
theorem feeds_def (f : Folder) (a b : Nat) : f.feeds a b = f.binds.any (feedP a (f.first b) (f.insOf b)) := rfl

set_option maxRecDepth 100000 in
set_option maxHeartbeats 2000000 in
theorem rfeeds_any (w : World) (v : Value) (f : Folder) (hf : Fo w v f) (hn : f.coders.length ≤ 100) (hbn : f.binds.length ≤ 100) (a b : Nat) (hb : b < f.coders.length) :
    Calls Try.prog 38 #[v, .int .i64 a, .int .i64 b] w fun e w' => e = .returned (.bool (f.feeds a b)) ∧ Fr [] w w' := by
  have hf0 := hf
  obtain ⟨c, bv', p, s, h, k0, rfl, hV⟩ := hf
  obtain ⟨ao, cap, rfl, -, -, o⟩ := hV.co.out
  obtain ⟨aob, capb, rfl, -, -, ob⟩ := hV.bi.out
  obtain ⟨x, hx⟩ := some_get f.coders b hb
  obtain ⟨b1, o1, pv, rfl, hb1, hC⟩ := o b x hx
  have HD := Lib.hid (feeds_def f a b)
  have HE := Lib.hid (show f.insOf b = ins x.method by simp [Folder.insOf, hx])
  have hle := f.first_le b
  have hil := ins_le x.method
  have F0 : Fr [] w (w.alloc (.cells #[.slice (some ⟨b1, o1, none⟩) f.coders.length cap, .slice aob f.binds.length capb, p, s, h, k0] 30)) := (Fr.refl _ _).alloc _
  have HF := Lib.hid hf0
  have HCo := Lib.hid hC
  clear hV o hx hC hf0
  go_enter Try.func38, Try.ntmps38
  go_wp2_with (go_at_call 25; refine (rfirst_any _ _ f (HF.out.fr F0) hn b (by omega)).mono ?_; rintro e w1 ⟨rfl, F1⟩)
  generalize hm : f.first b = s0 at hle HD ⊢
  have HM := Lib.hid hm
  clear hm
  have G1 := F0.trans0 F1
  go_loopw [8] (fun i wr => ∃ k : Nat, k ≤ f.binds.length ∧ i = .int .i64 k ∧ (f.binds.take k).any (feedP a s0 (ins x.method)) = false ∧ Fr [] (w.alloc (.cells #[.slice (some ⟨b1, o1, none⟩) f.coders.length cap, .slice aob f.binds.length capb, p, s, h, k0] 30)) wr) (fun i _ => f.binds.length - (intOf i).toNat)
  case atStart => exact ⟨0, Nat.zero_le _, rfl, by simp, F1⟩
  case round =>
    clear G1 F1
    obtain ⟨k, hk, rfl, hK, F⟩ := hrel
    obtain ⟨d0, d1, d2, d3, d4, d5⟩ := box6 F
    by_cases hlt : k < f.binds.length
    · obtain ⟨y, hy⟩ := some_get f.binds k hlt
      obtain ⟨b2, o2, rfl, hb2, e0, e1⟩ := ob k y hy
      have E0 := (F0.trans0 F).cell (p := ⟨b2, o2 + k * 2, none⟩) hb2 (by simp)
      have E1 := (F0.trans0 F).cell (p := ⟨b2, o2 + k * 2 + 1, none⟩) hb2 (by simp)
      rw [e0] at E0
      rw [e1] at E1
      have HY := Lib.hid hy
      have HK := Lib.hid hK
      clear ob hy hK e0 e1
      obtain ⟨y1, y2⟩ := y
      dsimp only at E0 E1
      by_cases q1 : y2 = (a : Int)
      · by_cases q2 : (s0 : Int) ≤ y1
        · have HS := Lib.hid (HCo.out.fr hb1 (F0.trans0 F))
          have t0 : (y2 == (a : Int)) = true := by simp [q1]
          have ew : IntKind.i64.wrap ((s0 : Int) + (ins x.method : Int)) = (s0 : Int) + (ins x.method : Int) := IntWalk.i64_in _ (by omega)
          obtain ⟨g0, g1, -⟩ := HS.out
          by_cases q3 : y1 < (s0 : Int) + (ins x.method : Int)
          · have E := Lib.hid (show f.feeds a b = true by rw [HD.out, HE.out]; exact List.any_eq_true.2 ⟨_, List.mem_of_getElem? HY.out, by simp [feedP, q1, q2, q3]⟩)
            go_wp2_with fail
            have HFd := Lib.hid F
            go_region_held3 (fun w' => w'.cell? ⟨w.heap.size, 0, none⟩ = some (.slice (some ⟨b1, o1, none⟩) f.coders.length cap) ∧ w'.cell? ⟨w.heap.size, 1, none⟩ = some (.slice (some ⟨b2, o2, none⟩) f.binds.length capb) ∧ w'.cell? ⟨b2, o2 + k * 2, none⟩ = some (.int .i64 y1) ∧ w'.cell? ⟨b2, o2 + k * 2 + 1, none⟩ = some (.int .i64 y2) ∧ w'.cell? ⟨b1, o1 + b * 2, none⟩ = some (.int .i64 x.method) ∧ w'.cell? ⟨b1, o1 + b * 2 + 1, none⟩ = some pv)
              (first | exact ⟨d0, d1, E0, E1, g0, g1⟩ | exact ⟨z0, z1, z2, z3, z4, z5⟩ | go_keep)
              (first
                | (go_at_call 11; refine (rins_any _ _ _).mono ?_; rintro e wy ⟨rfl, Fx⟩; have Fy : Fr [] wr wy := ((Fr.refl _ _).drew).trans0 Fx; have z0 := (box6 (HFd.out.trans0 Fy)).1; have z1 := (box6 (HFd.out.trans0 Fy)).2.1; have z2 := (Fy.cell (p := ⟨b2, o2 + k * 2, none⟩) (Nat.lt_of_lt_of_le hb2 (F0.trans0 HFd.out).size) (by simp)).trans E0; have z3 := (Fy.cell (p := ⟨b2, o2 + k * 2 + 1, none⟩) (Nat.lt_of_lt_of_le hb2 (F0.trans0 HFd.out).size) (by simp)).trans E1; have z4 := (HS.out.fr (Nat.lt_of_lt_of_le hb1 (F0.trans0 HFd.out).size) Fy).1; have z5 := (HS.out.fr (Nat.lt_of_lt_of_le hb1 (F0.trans0 HFd.out).size) Fy).2.1; clear Fx))
            clear z0 z1 z2 z3 z4 z5 d0 d1 E0 E1 g0 g1 ew
            go_wp2_with fail
            go_ret
            exact ⟨by rw [E.out]; rfl, (F0.trans0 F).trans0 Fy⟩
          · have E := Lib.hid (show (f.binds.take (k + 1)).any (feedP a s0 (ins x.method)) = false by rw [take_succ'' _ _ _ HY.out, List.any_append, HK.out]; simp [feedP, q3])
            go_wp2_with fail
            have HFd := Lib.hid F
            go_region_held3 (fun w' => w'.cell? ⟨w.heap.size, 0, none⟩ = some (.slice (some ⟨b1, o1, none⟩) f.coders.length cap) ∧ w'.cell? ⟨w.heap.size, 1, none⟩ = some (.slice (some ⟨b2, o2, none⟩) f.binds.length capb) ∧ w'.cell? ⟨b2, o2 + k * 2, none⟩ = some (.int .i64 y1) ∧ w'.cell? ⟨b2, o2 + k * 2 + 1, none⟩ = some (.int .i64 y2) ∧ w'.cell? ⟨b1, o1 + b * 2, none⟩ = some (.int .i64 x.method) ∧ w'.cell? ⟨b1, o1 + b * 2 + 1, none⟩ = some pv)
              (first | exact ⟨d0, d1, E0, E1, g0, g1⟩ | exact ⟨z0, z1, z2, z3, z4, z5⟩ | go_keep)
              (first
                | (go_at_call 11; refine (rins_any _ _ _).mono ?_; rintro e wy ⟨rfl, Fx⟩; have Fy : Fr [] wr wy := ((Fr.refl _ _).drew).trans0 Fx; have z0 := (box6 (HFd.out.trans0 Fy)).1; have z1 := (box6 (HFd.out.trans0 Fy)).2.1; have z2 := (Fy.cell (p := ⟨b2, o2 + k * 2, none⟩) (Nat.lt_of_lt_of_le hb2 (F0.trans0 HFd.out).size) (by simp)).trans E0; have z3 := (Fy.cell (p := ⟨b2, o2 + k * 2 + 1, none⟩) (Nat.lt_of_lt_of_le hb2 (F0.trans0 HFd.out).size) (by simp)).trans E1; have z4 := (HS.out.fr (Nat.lt_of_lt_of_le hb1 (F0.trans0 HFd.out).size) Fy).1; have z5 := (HS.out.fr (Nat.lt_of_lt_of_le hb1 (F0.trans0 HFd.out).size) Fy).2.1; clear Fx))
            clear z0 z1 z2 z3 z4 z5 d0 d1 E0 E1 g0 g1 ew
            go_wp2_with fail
            go_roundw
            case rel => exact ⟨k + 1, by omega, by go_num, E.out, F.trans0 Fy⟩
            case measure => simp [intOf]; omega
        · have E := Lib.hid (show (f.binds.take (k + 1)).any (feedP a s0 (ins x.method)) = false by rw [take_succ'' _ _ _ HY.out, List.any_append, HK.out]; simp [feedP, q2])
          have t0 : (y2 == (a : Int)) = true := by simp [q1]
          have t1 : decide ((s0 : Int) ≤ y1) = false := by simp; omega
          clear q1 q2
          go_wp2_with fail
          go_quiet (fail)
          go_wp2
          go_roundw
          case rel => exact ⟨k + 1, by omega, by go_num, E.out, F.drewN _⟩
          case measure => simp [intOf]; omega
      · have E := Lib.hid (show (f.binds.take (k + 1)).any (feedP a s0 (ins x.method)) = false by rw [take_succ'' _ _ _ HY.out, List.any_append, HK.out]; simp [feedP, q1])
        have t0 : (y2 == (a : Int)) = false := by simp [q1]
        clear q1
        go_wp2_with fail
        go_quiet (fail)
        go_wp2
        go_roundw
        case rel => exact ⟨k + 1, by omega, by go_num, E.out, F.drewN _⟩
        case measure => simp [intOf]; omega
    · rw [List.take_of_length_le (by omega)] at hK
      have E := Lib.hid (show f.feeds a b = false by rw [HD.out, HE.out]; exact hK)
      clear ob hK
      go_wp2_with fail
      go_ret
      exact ⟨by rw [E.out]; rfl, F0.trans0 F⟩
end Go.Proofs.Ytakpeffpocjgoaa
