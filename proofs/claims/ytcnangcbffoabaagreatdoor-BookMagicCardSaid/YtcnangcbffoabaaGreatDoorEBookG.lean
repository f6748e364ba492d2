/- Contracts: heads, files, Open, Entries of a book whose header tells of no files. No condition but that lengths fit. -/
import Derived.Test.YtcnangcbffoabaaGreatDoorEBookF
namespace Go.Proofs.YtcnangcbffoabaaGreatDoor
open Go.RowKit

set_option maxRecDepth 100000 in
/-- The deferred closure of heads: nothing was unwrapped. -/
theorem ups_none (w : World) (d b : Addr) (g : Nat) (u : FrameMode) (h0 : w.cell? d = some (.int .i64 0)) (h1 : w.cell? b = some (.pointer (some ⟨g, 0, none⟩))) :
    CallsD Tryz.prog 32 #[.pointer (some d), .pointer (some b)] u w fun e u' w' => u' = u ∧ (e = .returned (.tuple #[]) ∧ w' = w) := by
  go_enter_d Tryz.func32, Tryz.ntmps32
  go_wp2_with fail
  go_loopw [3] (fun i wq => i = .int .i64 0 ∧ wq = w) (fun _ _ => 0)
  case atStart => exact ⟨rfl, rfl⟩
  case round =>
    obtain ⟨rfl, rfl⟩ := hrel
    go_wp2_with fail
    go_end0
    exact ⟨rfl, rfl⟩

set_option maxRecDepth 100000 in
set_option maxHeartbeats 2000000 in
theorem heads_f {w : World} {g mp al ac n : Nat} {aao : Option Addr} {R : World → Nat → Value → Prop} {a o f d s k : Int} {head : List UInt8} (hP : FilesP head n R) (hRF : ∀ (wa wb : World) (lo : Nat) (v : Value) (S : List Nat), R wa lo v → Fr S wa wb → (∀ i ∈ S, i < lo) → R wb lo v)
    (h : BkAt w g mp (.slice aao al ac) (.slice none 0 0) (.slice none 0 0) (.slice none 0 0) (.slice none 0 0) (.slice none 0 0) (.slice none 0 0) (.slice none 0 0)) (M : MtN w mp a o f d s k) (hne : g ≠ mp) (hal : al ≤ 100000) (v : Value) (hv : Sl w v (bv head)) (hl : head.length ≤ 100000) (hs : 0 ≤ s) (hs2 : s ≤ 1000000) :
    Calls Tryz.prog 12 #[.pointer (some ⟨g, 0, none⟩), v] w (LookR w g mp (.slice aao al ac) n R a o f d (s + (head.length : Int)) k) := by
  have HLK := Lib.hid (fun (wx : World) (F : Fr [] w wx) => look_f hP hRF (h.fr F (by simp)) (M.fr F (by simp)) hne hal v (hv.fr0 F) hl hs hs2)
  have hgl := h.lt
  have hml := M.lt
  obtain ⟨ho, hc, rfl, -⟩ := hv.out
  clear h M hv hP
  go_enter_defers Tryz.func12, Tryz.ntmps12
  obtain ⟨wA, hwA⟩ : ∃ wA, wA = (w.alloc (.cells #[.pointer (some ⟨g, 0, none⟩)] 24)).alloc (.cells #[.int .i64 0] 3) := ⟨_, rfl⟩
  have FA : Fr [] w wA := hwA ▸ ((Fr.refl _ _).alloc _).alloc _
  have m0 : wA.cell? ⟨w.heap.size, 0, none⟩ = some (.pointer (some ⟨g, 0, none⟩)) := by rw [hwA]; simp
  have m1 : wA.cell? ⟨w.heap.size + 1, 0, none⟩ = some (.int .i64 0) := by rw [hwA]; simp
  have lA : w.heap.size + 1 < wA.heap.size := by rw [hwA]; simp
  go_wp2_with (go_at_call 34; rw [← hwA]; refine (HLK.out _ FA).mono ?_; rintro e w1 ⟨pao, pc, cao, cc, fao, fc, sao, sc, eao, ec, lo, rfl, B1, M1, R1, hg1, hm1, F1⟩; have c1 : w1.cell? ⟨g, 1, none⟩ = some (.bool false) := (cells11 B1.blk).2.1)
  have n0 : w1.cell? ⟨w.heap.size, 0, none⟩ = some (.pointer (some ⟨g, 0, none⟩)) := (F1.cell (p := ⟨w.heap.size, 0, none⟩) (by show w.heap.size < _; omega) (by simp; omega)).trans m0
  have n1 : w1.cell? ⟨w.heap.size + 1, 0, none⟩ = some (.int .i64 0) := (F1.cell (p := ⟨w.heap.size + 1, 0, none⟩) lA (by simp; omega)).trans m1
  go_loopw [6] (fun e wq => e = .int .i64 0 ∧ wq = w1) (fun _ _ => 0)
  case atStart => exact ⟨rfl, rfl⟩
  case round =>
    obtain ⟨rfl, rfl⟩ := hrel
    go_wp2_with fail
    unfold bodyPostD
    refine leaves_cons (f := 32) (args := #[.pointer (some ⟨w.heap.size + 1, 0, none⟩), .pointer (some ⟨w.heap.size, 0, none⟩)]) (by simp) (by simp [go_sem]) ?_
    refine (ups_none _ _ _ g .returning n1 n0).mono ?_
    rintro e u' w2 ⟨rfl, rfl, rfl⟩
    simp [Leaves, settle, results, Tryz.results12]
    exact ⟨pao, pc, cao, cc, fao, fc, sao, sc, eao, ec, lo, rfl, B1, M1, R1, hg1, hm1, (FA.mono (by simp)).trans F1 (by simp)⟩

theorem either_m {w : World} {p : Nat} {a o f d s k : Int} (h : MtN w p a o f d s k) (c : Int) :
    Calls Tryz.prog 14 #[.pointer (some ⟨p, 0, none⟩), .int .i64 c] w fun e w' => e = .returned (.int .i64 c) ∧ w' = w := by
  have HC := Lib.hid (code_m h)
  clear h
  go_enter Tryz.func14, Tryz.ntmps14
  go_wp2_with (go_at_call 10; refine HC.out.mono ?_; rintro e w1 ⟨rfl, rfl⟩)
  go_ret
  exact ⟨rfl, rfl⟩
set_option maxRecDepth 100000 in
theorem apart_none (w : World) (ao : Option Addr) (c : Nat) : Calls Tryz.prog 40 #[.slice ao 0 c] w fun e w' => e = .returned (.int .i64 0) ∧ Fr [] w w' := by
  have hmm := @run_makeMap Tryz.prog
  go_enter Tryz.func40, Tryz.ntmps40
  go_wp2_with fail
  go_loopw [19] (fun i wq => i = .int .i64 0 ∧ wq = w) (fun _ _ => 0)
  case atStart => exact ⟨rfl, rfl⟩
  case round =>
    obtain ⟨rfl, rfl⟩ := hrel
    go_wp2_with fail
    go_loopw [36] (fun i wq => i = .int .i64 0 ∧ wq = wr.alloc (.map #[] 0)) (fun _ _ => 0)
    case atStart => exact ⟨rfl, rfl⟩
    case round =>
      obtain ⟨rfl, rfl⟩ := hrel
      go_wp2_with fail
      go_ret
      exact ⟨rfl, (Fr.refl _ _).alloc _⟩
set_option maxRecDepth 100000 in
theorem files_none {w : World} {g mp ec : Nat} {eao : Option Addr} {av pv cv fv sv x9 x10 : Value} (h : BkAt w g mp av pv cv fv sv (.slice eao 0 ec) x9 x10) :
    Calls Tryz.prog 13 #[.pointer (some ⟨g, 0, none⟩)] w fun e w' => e = .returned (.int .i64 0) ∧ Fr [] w w' := by
  obtain ⟨c0, c1, c2, c3, c4, c5, c6, c7, c8, c9, c10, cf⟩ := cells11 h.blk
  clear h
  go_enter Tryz.func13, Tryz.ntmps13
  go_wp2_with fail
  go_loopw [3, 14] (fun l i wq => l = .slice none 0 0 ∧ i = .int .i64 0 ∧ wq = w) (fun _ _ _ => 0)
  case atStart => exact ⟨rfl, rfl, rfl⟩
  case round =>
    obtain ⟨rfl, rfl, rfl⟩ := hrel
    have HA := Lib.hid (apart_none wr none 0)
    go_wp2_with (go_at_call 40; refine HA.out.mono ?_; rintro e w1 ⟨rfl, F1⟩)
    go_ret
    exact ⟨rfl, F1⟩

/-- What Open hands back of an archive whose header tells of files alone. -/
def OpnR (w : World) (mp : Nat) (n : Nat) (R : World → Nat → Value → Prop) (a o f d s k : Int) (e : Ending) (w' : World) : Prop :=
  ∃ g av pao pc cao cc fao fc sao sc eao ec lo, e = .returned (.tuple #[.pointer (some ⟨g, 0, none⟩), .int .i64 0]) ∧ BkAt w' g mp av (.slice pao 0 pc) (.slice cao 0 cc) (.slice fao 0 fc) (.slice sao 0 sc) (.slice eao n ec) (.slice none 0 0) (.slice none 0 0) ∧ MtN w' mp a o f d s k ∧ R w' lo (.slice eao n ec) ∧ g < lo ∧ mp < lo ∧ w.heap.size ≤ g ∧ Fr [mp] w w'
set_option maxRecDepth 100000 in
set_option maxHeartbeats 2000000 in
theorem open_none {w : World} {p : Nat} {R : World → Nat → Value → Prop} {a o f d s k : Int} (M : MtN w p a o f d s k) (hs : 0 ≤ s) (hs2 : s ≤ 900000) (v : Value) (b : List UInt8) (h : Sl w v (bv b)) (hb : b.length ≤ 40000) (hc : opCode b = 0) {head : List UInt8} (hh : opHead b = head) (hP : FilesP head 0 R)
    (hRF : ∀ (wa wb : World) (lo : Nat) (v : Value) (S : List Nat), R wa lo v → Fr S wa wb → (∀ i ∈ S, i < lo) → R wb lo v) :
    Calls Tryz.prog 5 #[v, .pointer (some ⟨p, 0, none⟩)] w (OpnR w p 0 R a o f d (s + (b.length : Int) + (head.length : Int)) k) := by
  have HV := Lib.hid h
  obtain ⟨ao, cap, rfl, -⟩ := h.out
  rw [bv_length] at HV ⊢
  have HS := Lib.hid (step_m M (b.length : Int) (by omega) hs (by omega))
  have HO := Lib.hid (fun (wx : World) (F : Fr [p] w wx) => open_any wx _ b (HV.out.mt M F) hb)
  have hpl := M.lt
  have HBL := Lib.hid hb
  have hal : (opArea b).length ≤ 100000 := by
    unfold opArea
    rw [if_pos hc, List.length_take, List.length_drop]
    omega
  have hhl : head.length ≤ 100000 := by
    rw [← hh]
    unfold opHead
    rw [if_pos hc, List.length_drop]
    omega
  have HAL := Lib.hid hal
  have HHL := Lib.hid hhl
  clear h M hb hal hhl
  go_enter Tryz.func5, Tryz.ntmps5
  unfold OpenR at HO
  rw [hc] at HO
  rw [hh] at HO
  go_wp2_with (first
    | (have hq := F1; go_at_call 11; refine (HO.out _ F1).mono ?_; rintro e w2 ⟨v1, v2, rfl, hv1, hv2, F2⟩; have HV1 := Lib.hid hv1; have HV2 := Lib.hid hv2; obtain ⟨a1, c1, rfl, -⟩ := hv1.out; obtain ⟨a2, c2, rfl, -⟩ := hv2.out; rw [bv_length] at HV1 HV2)
    | (go_at_call 9; refine HS.out.mono ?_; rintro e w1 ⟨rfl, M1, F1⟩))
  rw [bv_length, bv_length]
  obtain ⟨w3, hw3⟩ : ∃ w3, w3 = w2.alloc (.cells #[.slice a1 (opArea b).length c1, .bool false, .int .u64 0, .slice none 0 0, .slice none 0 0, .slice none 0 0, .slice none 0 0, .slice none 0 0, .pointer (some ⟨p, 0, none⟩), .slice none 0 0, .slice none 0 0] 49) := ⟨_, rfl⟩
  rw [← hw3]
  have F3 : Fr [] w2 w3 := hw3 ▸ (Fr.refl _ _).alloc _
  have B3 : BkAt w3 w2.heap.size p (.slice a1 (opArea b).length c1) (.slice none 0 0) (.slice none 0 0) (.slice none 0 0) (.slice none 0 0) (.slice none 0 0) (.slice none 0 0) (.slice none 0 0) := ⟨hw3 ▸ heap_alloc_new w2 _⟩
  have M3 := (M1.fr F2 (by simp)).fr F3 (by simp)
  have hsz := Nat.le_trans F1.size F2.size
  have HH := Lib.hid (heads_f hP hRF B3 M3 (by omega) HAL.out _ (HV2.out.fr0 F3) HHL.out (by omega) (by have := HBL.out; omega))
  clear hw3
  go_wp2_with (first
    | (have hq := M5; go_at_call 14; refine (either_m M5 0).mono ?_; rintro e w6 ⟨rfl, rfl⟩)
    | (have hq := B4; go_at_call 13; refine (files_none B4).mono ?_; rintro e w5 ⟨rfl, F5⟩; have M5 := M4.fr F5 (by simp))
    | (go_at_call 12; refine HH.out.mono ?_; rintro e w4 ⟨pao, pc, cao, cc, fao, fc, sao, sc, eao, ec, lo, rfl, B4, M4, R4, hg4, hm4, F4⟩))
  go_ret2
  exact ⟨_, _, _, _, _, _, _, _, _, _, _, _, lo, rfl, B4.fr F5 (by simp), M5, hRF _ _ _ _ _ R4 F5 (by simp), hg4, hm4, hsz, ((F1.trans0 F2).trans0 F3).trans ((F4.trans0 F5) : Fr [w2.heap.size, p] w3 w6) (by simp; omega)⟩
end Go.Proofs.YtcnangcbffoabaaGreatDoor
