/- Contracts: the reference's AllIns, Whole, Same of two that say nothing. No condition but that lengths fit. -/
import Derived.Test.YthdfjbliafdchaaJG
namespace Go.Proofs.Ythdfjbliafdchaa
open Go.RowKit Go.Maps

theorem numbers0 (w : World) (a : Option Addr) (c : Nat) : Calls Try.prog 35 #[.slice a 0 c, .slice none 0 0] w fun e w' => e = .returned (.bool true) ∧ w' = w := by
  go_enter Try.func35, Try.ntmps35
  go_wp2_with fail
  go_loopw [5] (fun i wr => i = .int .i64 0 ∧ wr = w) (fun _ _ => 0)
  case atStart => exact ⟨rfl, rfl⟩
  case round =>
    obtain ⟨rfl, rfl⟩ := hrel
    go_wp2_with fail
    go_ret
    exact ⟨rfl, rfl⟩
theorem checks0 (w : World) (a : Option Addr) (c : Nat) : Calls Try.prog 36 #[.slice a 0 c, .slice none 0 0] w fun e w' => e = .returned (.bool true) ∧ w' = w := by
  go_enter Try.func36, Try.ntmps36
  go_wp2_with fail
  go_loopw [5] (fun i wr => i = .int .i64 0 ∧ wr = w) (fun _ _ => 0)
  case atStart => exact ⟨rfl, rfl⟩
  case round =>
    obtain ⟨rfl, rfl⟩ := hrel
    go_wp2_with fail
    go_ret
    exact ⟨rfl, rfl⟩
set_option maxRecDepth 100000 in
set_option maxHeartbeats 4000000 in
theorem same0 (w : World) (x1 x2 x3 x4 x5 : Option Addr) (y1 y2 y3 y4 y5 : Nat) : Calls Try.prog 13 #[.agg #[.bool false, .int .u64 0, .slice x1 0 y1, .slice x2 0 y2, .slice x3 0 y3, .slice x4 0 y4, .slice x5 0 y5], .agg #[.bool false, .int .u64 0, .slice none 0 0, .slice none 0 0, .slice none 0 0, .slice none 0 0, .slice none 0 0]] w fun e w' => e = .returned (.bool true) ∧ Fr [] w w' := by
  go_enter Try.func13, Try.ntmps13
  refine wp_seq_k fun K0 hK0 => ?_
  go_cut [2, 3, 4] (fun v2 v3 _ wx => ∃ a b, v2 = .pointer (some ⟨a, 0, none⟩) ∧ v3 = .pointer (some ⟨b, 0, none⟩) ∧
    wx.heap[a]? = some (.cells #[.bool false, .int .u64 0, .slice x1 0 y1, .slice x2 0 y2, .slice x3 0 y3, .slice x4 0 y4, .slice x5 0 y5] 36 (0, 0)) ∧
    wx.heap[b]? = some (.cells #[.bool false, .int .u64 0, .slice none 0 0, .slice none 0 0, .slice none 0 0, .slice none 0 0, .slice none 0 0] 36 (0, 0)) ∧ Fr [] w wx)
  case first =>
    clear hK0
    go_wp2_with fail
    have F1 : Fr [] w (w.alloc (.cells #[.bool false, .int .u64 0, .slice x1 0 y1, .slice x2 0 y2, .slice x3 0 y3, .slice x4 0 y4, .slice x5 0 y5] 36)) := (Fr.refl _ _).alloc _
    have F2 : Fr [] (w.alloc (.cells #[.bool false, .int .u64 0, .slice x1 0 y1, .slice x2 0 y2, .slice x3 0 y3, .slice x4 0 y4, .slice x5 0 y5] 36)) ((w.alloc (.cells #[.bool false, .int .u64 0, .slice x1 0 y1, .slice x2 0 y2, .slice x3 0 y3, .slice x4 0 y4, .slice x5 0 y5] 36)).alloc (.cells #[.bool false, .int .u64 0, .slice none 0 0, .slice none 0 0, .slice none 0 0, .slice none 0 0, .slice none 0 0] 36)) := (Fr.refl _ _).alloc _
    have hb2 := heap_alloc_new (w.alloc (.cells #[.bool false, .int .u64 0, .slice x1 0 y1, .slice x2 0 y2, .slice x3 0 y3, .slice x4 0 y4, .slice x5 0 y5] 36)) (.cells #[.bool false, .int .u64 0, .slice none 0 0, .slice none 0 0, .slice none 0 0, .slice none 0 0, .slice none 0 0] 36)
    rw [World.size_alloc] at hb2
    go_meet
    case rel => exact ⟨w.heap.size, w.heap.size + 1, rfl, rfl, (F2.block _ (by rw [World.size_alloc]; omega) (by simp)).trans (heap_alloc_new w _), hb2, F1.trans0 F2⟩
  case rest =>
  obtain ⟨a, b, rfl, rfl, ha, hb, F⟩ := hcut
  obtain ⟨a0, a1, a2, a3, a4, a5, a6, az⟩ := cells7 ha
  obtain ⟨b0, b1, b2, b3, b4, b5, b6, bz⟩ := cells7 hb
  have HF := Lib.hid F
  clear ha hb F
  obtain ⟨wz, hwz⟩ : ∃ wz, wz = wc := ⟨_, rfl⟩
  rw [← hwz] at a0 a1 a2 a3 a4 a5 a6 az b0 b1 b2 b3 b4 b5 b6 bz HF ⊢
  clear hwz
  go_wp2_with (first
    | (go_at_call 35; refine (numbers0 _ _ _).mono ?_; rintro e w3 ⟨rfl, h⟩; rw [h]; clear h w3)
    | (go_at_call 36; refine (checks0 _ _ _).mono ?_; rintro e w3 ⟨rfl, h⟩; rw [h]; clear h w3))
  go_loopw [5] (fun i wr => i = .int .i64 0 ∧ wr = wz) (fun _ _ => 0)
  case atStart => exact ⟨rfl, rfl⟩
  case round =>
  obtain ⟨rfl, rfl⟩ := hrel
  go_wp2_with fail
  go_loopw [6] (fun i wq => i = .int .i64 0 ∧ wq = wr) (fun _ _ => 0)
  case atStart => exact ⟨rfl, rfl⟩
  case round =>
  obtain ⟨rfl, rfl⟩ := hrel
  go_wp2_with fail
  go_loopw [8] (fun i wq => i = .int .i64 0 ∧ wq = wr) (fun _ _ => 0)
  case atStart => exact ⟨rfl, rfl⟩
  case round =>
  obtain ⟨rfl, rfl⟩ := hrel
  go_wp2_with fail
  go_ret
  exact ⟨rfl, HF.out⟩

theorem insL_take {L : List Coder} {k : Nat} {c : Coder} (h : L[k]? = some c) : insL (L.take (k + 1)) = insL (L.take k) + ins c.method := by
  unfold insL
  rw [List.take_add_one, h]
  simp
theorem ins_le4 (m : Int) : ins m ≤ 4 := by
  unfold ins
  split
  · omega
  · split <;> omega
theorem insL_le4 (L : List Coder) : insL L ≤ L.length * 4 := by
  induction L with
  | nil => simp [insL]
  | cons c t ih =>
    unfold insL at ih ⊢
    rw [List.map_cons, List.sum_cons, List.length_cons, Nat.succ_mul]
    have := ins_le4 c.method
    omega

set_option maxRecDepth 100000 in
set_option maxHeartbeats 4000000 in
theorem rallins_any (w : World) (v : Value) (f : Folder) (hf : Fo w v f) (hn : f.coders.length ≤ 100000) :
    Calls Try.prog 14 #[v] w fun e w' => e = .returned (.int .i64 (insL f.coders : Int)) ∧ Fr [] w w' := by
  obtain ⟨cv, bv', p, s, h, k0, rfl, hV⟩ := hf
  obtain ⟨ao, cap, rfl, -, -, o⟩ := hV.co
  have HO := Lib.hid o
  have hnI : (f.coders.length : Int) ≤ 100000 := by omega
  have HN := Lib.hid hn
  obtain ⟨wB, hwB⟩ : ∃ wB, wB = w.alloc (.cells #[.slice ao f.coders.length cap, bv', p, s, h, k0] 47) := ⟨_, rfl⟩
  have F0 : Fr [] w wB := hwB ▸ (Fr.refl _ _).alloc _
  have HBX := Lib.hid (fun wx (F : Fr [] wB wx) => box6 (hwB ▸ F : Fr [] (w.alloc (.cells #[.slice ao f.coders.length cap, bv', p, s, h, k0] 47)) wx))
  clear hV o hn
  go_enter Try.func14, Try.ntmps14
  go_wp2_with fail
  rw [← hwB]
  clear hwB
  go_loopw [3, 4] (fun nv iv wr => ∃ k : Nat, k ≤ f.coders.length ∧ iv = .int .i64 (k : Int) ∧ nv = .int .i64 (insL (f.coders.take k) : Int) ∧ Fr [] wB wr) (fun _ iv _ => f.coders.length - (intOf iv).toNat)
  case atStart => exact ⟨0, Nat.zero_le _, rfl, rfl, Fr.refl _ _⟩
  case round =>
    obtain ⟨k, hk, rfl, rfl, F⟩ := hrel
    obtain ⟨d0, -⟩ := HBX.out _ F
    by_cases hlt : k < f.coders.length
    rotate_left
    · have hltI : ¬ (k : Int) < (f.coders.length : Int) := by omega
      have HE := Lib.hid (show f.coders.take k = f.coders from List.take_of_length_le (by omega))
      rw [HE.out]
      go_wp2_with fail
      go_ret
      exact ⟨rfl, F0.trans0 F⟩
    have hltI : (k : Int) < (f.coders.length : Int) := by omega
    obtain ⟨c, hc⟩ := some_get f.coders k hlt
    obtain ⟨b, o, pv, rfl, hb, q1, q2, q3⟩ := HO.out k c hc
    have c0 := ((F0.trans0 F).cell (p := ⟨b, o + k * 2, none⟩) hb (by simp)).trans q1
    have c1 := ((F0.trans0 F).cell (p := ⟨b, o + k * 2 + 1, none⟩) hb (by simp)).trans q2
    obtain ⟨pao, pcap, rfl, -, -, -⟩ := q3.out
    have HTk := Lib.hid (insL_take hc)
    have hil : (insL (f.coders.take k) : Int) ≤ 400000 := by
      have h1 := insL_le4 (f.coders.take k)
      have h2 : (f.coders.take k).length ≤ 100000 := by simp; omega
      omega
    have hi4 : (ins c.method : Int) ≤ 4 := by
      have := ins_le4 c.method
      omega
    clear hc q1 q2 q3
    generalize insL (f.coders.take k) = z at *
    go_wp2_with (go_at_call 17; refine (rins_any _ c.method _).mono ?_; rintro e w3 ⟨rfl, F3⟩)
    go_roundw
    case rel => exact ⟨k + 1, by omega, by go_num, by rw [HTk.out]; rfl, F.trans0 F3⟩
    case measure => simp [intOf]; omega

set_option maxRecDepth 100000 in
set_option maxHeartbeats 1000000 in
theorem rwhole_any (w : World) (v : Value) (f : Folder) (hf : Fo w v f) (hn : f.coders.length ≤ 100000) (hb : f.binds.length ≤ 100000) (hs : f.sizes.length ≤ 100000000) :
    Calls Try.prog 15 #[v] w fun e w' => e = .returned (.int .u64 ((wholeOf f).toNat : Int)) ∧ Fr [] w w' := by
  have HF := Lib.hid hf
  have HM := Lib.hid (fun wy h => rmain_any wy v f h hn hb)
  obtain ⟨cv, bv', p, s, h, k0, rfl, hV⟩ := hf
  obtain ⟨sao, scap, rfl, -, -, so⟩ := hV.si.out
  obtain ⟨cao, ccap, rfl, -⟩ := hV.co
  obtain ⟨bao, bcap, rfl, -⟩ := hV.bi
  obtain ⟨pao, pcap, rfl, -⟩ := hV.pa.out
  rw [u64v_length] at so
  have HSo := Lib.hid so
  have hsI : (f.sizes.length : Int) ≤ 100000000 := by omega
  rw [u64v_length] at HF HM ⊢
  clear hV hn hb so
  obtain ⟨wB, hwB⟩ : ∃ wB, wB = w.alloc (.cells #[.slice cao f.coders.length ccap, .slice bao f.binds.length bcap, .slice pao (iv f.packs).length pcap, .slice sao f.sizes.length scap, h, k0] 47) := ⟨_, rfl⟩
  have F0 : Fr [] w wB := hwB ▸ (Fr.refl _ _).alloc _
  have HBX := Lib.hid (fun wx (F : Fr [] wB wx) => box6 (hwB ▸ F : Fr [] (w.alloc (.cells #[.slice cao f.coders.length ccap, .slice bao f.binds.length bcap, .slice pao (iv f.packs).length pcap, .slice sao f.sizes.length scap, h, k0] 47)) wx))
  obtain ⟨d0, d1, d2, d3, d4, d5⟩ := HBX.out wB (Fr.refl _ _)
  cases hm : mainIdx f with
  | none =>
    have HE := Lib.hid (show wholeOf f = 0 by rw [wholeOf, hm])
    have HMO := Lib.hid (show mainOf f = -1 by rw [mainOf, hm])
    clear hm
    go_enter Try.func15, Try.ntmps15
    go_upto_region 1 with fail
    rw [← hwB]
    clear hwB
    go_wp2_with (go_at_call 19; refine (HM.out _ (HF.out.fr F0)).mono ?_; rw [HMO.out]; rintro e w1 ⟨rfl, F1⟩)
    go_ret
    exact ⟨by rw [HE.out]; rfl, F0.trans0 F1⟩
  | some i =>
    have HMO := Lib.hid (show mainOf f = (i : Int) by rw [mainOf, hm])
    by_cases hlt : i < f.sizes.length
    · obtain ⟨x, hx⟩ := some_get f.sizes i hlt
      have HE := Lib.hid (show wholeOf f = x by rw [wholeOf, hm]; simp [List.getD, hx])
      obtain ⟨b, o, rfl, hb, hcell⟩ := HSo.out i hlt
      have HC0 := Lib.hid ((hcell i hlt).trans (u64v_get _ _ _ hx))
      have hltI : (i : Int) < (f.sizes.length : Int) := by omega
      clear hm hcell hx
      go_enter Try.func15, Try.ntmps15
      go_upto_region 1 with fail
      rw [← hwB]
      clear hwB
      go_wp2_with (go_at_call 19; refine (HM.out _ (HF.out.fr F0)).mono ?_; rw [HMO.out]; rintro e w1 ⟨rfl, F1⟩; obtain ⟨g0, g1, g2, g3, g4, g5⟩ := HBX.out _ F1; have d6 := ((F0.trans0 F1).cell (p := ⟨b, o + i, none⟩) hb (by simp)).trans HC0.out)
      go_ret
      exact ⟨by rw [HE.out]; rfl, F0.trans0 F1⟩
    · have HE := Lib.hid (show wholeOf f = 0 by rw [wholeOf, hm]; simp [List.getD, hlt])
      have hltI : (f.sizes.length : Int) ≤ (i : Int) := by omega
      clear hm
      go_enter Try.func15, Try.ntmps15
      go_upto_region 1 with fail
      rw [← hwB]
      clear hwB
      go_wp2_with (go_at_call 19; refine (HM.out _ (HF.out.fr F0)).mono ?_; rw [HMO.out]; rintro e w1 ⟨rfl, F1⟩; obtain ⟨g0, g1, g2, g3, g4, g5⟩ := HBX.out _ F1)
      go_ret
      exact ⟨by rw [HE.out]; rfl, F0.trans0 F1⟩
end Go.Proofs.Ythdfjbliafdchaa
