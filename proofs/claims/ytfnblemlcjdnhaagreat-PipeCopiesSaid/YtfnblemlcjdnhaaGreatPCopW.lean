/- The law PipeCopies: the walk. No condition. -/
import Derived.Test.YtfnblemlcjdnhaaGreatPUnp
import Derived.Test.YtfnblemlcjdnhaaGreatEMetU
import Derived.Test.YtfnblemlcjdnhaaGreatRefBy
import Derived.Test.YtfnblemlcjdnhaaGreatHConv
import Derived.Lib.SlBytesConst
namespace Go.Proofs.YtfnblemlcjdnhaaGreat
open Go.RowKit

set_option maxRecDepth 100000 in
theorem much_any (w : World) : Calls Tryz.prog 5 #[] w fun e w' => ∃ p, e = .returned (.pointer (some ⟨p, 0, none⟩)) ∧ w.heap.size ≤ p ∧ MtN w' p 0 0 0 0 0 0 ∧ Fr [] w w' := by
  go_enter Tryz.func5, Tryz.ntmps5
  go_wp2_with (go_at_call 10; refine (mnew_any _).mono ?_; rintro e w1 ⟨rfl, M1, F1⟩)
  go_ret
  exact ⟨_, rfl, by omega, M1, F1⟩
theorem sl_const (w : World) (l : List Value) (t : TypeId) (z : Nat × Nat) (hl : l.length ≤ 1000) : Sl (w.alloc (.cells l.toArray t z)) (.slice (some ⟨w.heap.size, 0, none⟩) l.length l.length) l := by
  refine ⟨some ⟨w.heap.size, 0, none⟩, l.length, rfl, Nat.le_refl _, by omega, by simp, fun a ha _ => ?_⟩
  injection ha with ha
  subst ha
  refine ⟨rfl, by simp, fun j hj => ?_⟩
  have key : ∀ i : Nat, (w.alloc (.cells l.toArray t z)).cell? ⟨w.heap.size, i, none⟩ = l.toArray[i]? := Go.Joins.cell_of_block (heap_alloc_new w _)
  show (w.alloc (.cells l.toArray t z)).cell? ⟨w.heap.size, 0 + j, none⟩ = l[j]?
  rw [key]
  simp
theorem one_const (w : World) (l : List UInt8) (t : TypeId) (z : Nat × Nat) (t2 : TypeId) (hl : l.length ≤ 1000) : One1 ((w.alloc (.cells (bv l).toArray t z)).alloc (.cells #[.slice (some ⟨w.heap.size, 0, none⟩) l.length l.length] t2)) (.slice (some ⟨w.heap.size + 1, 0, none⟩) 1 1) l := by
  have h1 := heap_alloc_new (w.alloc (.cells (bv l).toArray t z)) (.cells #[.slice (some ⟨w.heap.size, 0, none⟩) l.length l.length] t2)
  rw [World.size_alloc] at h1
  have h2 := sl_const w (bv l) t z (by rw [bv_length]; exact hl)
  rw [bv_length] at h2
  exact ⟨w.heap.size + 1, _, rfl, by simp, by simp [Go.Joins.cell_of_block h1], h2.fr0 ((Fr.refl _ _).alloc _)⟩
/-- Copies that were made behind a meter, and bytes, are unpacked. -/
theorem un_any {w1 w2 wx : World} {mp n : Nat} {v pv : Value} {bs : List UInt8} (HM : MtN w1 mp 0 0 0 0 0 0) (F2 : Fr [] w1 w2) (FO : ∀ S w'', Fr S w2 w'' → (∀ i ∈ S, i < w1.heap.size) → Fo w'' v (copF n (UInt64.ofNat bs.length))) (CO : ∀ k, k < w1.heap.size → CoOff k v) (FX : Fr [] w2 wx) (hp : ∀ w', Fr [mp] wx w' → One1 w' pv bs) (hn : 1 ≤ n) (hn8 : n ≤ 8) (hb : bs.length ≤ 65535) :
    Calls Tryz.prog 6 #[v, pv, .pointer (some ⟨mp, 0, none⟩)] wx fun e w' => ∃ r, e = .returned (.tuple #[r, .int .i64 0]) ∧ Sl w' r (bv bs) ∧ MtN w' mp 0 bs.length 0 0 ((bs.length * n : Nat) : Int) 0 ∧ Fr [mp] wx w' :=
  unpack_any wx v pv n bs mp hn hn8 hb (fun w' F => FO [mp] w' ((FX.mono (by simp)).trans F (fun i hi => .inl hi)) (fun i hi => by simp at hi; subst hi; exact HM.lt)) (CO mp HM.lt) hp ((HM.fr F2 (by simp)).fr FX (by simp))
theorem one_far {mp : Nat} {l : List UInt8} {w2 : World} {t t2 : TypeId} {z : Nat × Nat} (hl : l.length ≤ 1000) (hm : mp < w2.heap.size) : ∀ w', Fr [mp] ((w2.alloc (.cells (bv l).toArray t z)).alloc (.cells #[.slice (some ⟨w2.heap.size, 0, none⟩) l.length l.length] t2)) w' → One1 w' (.slice (some ⟨w2.heap.size + 1, 0, none⟩) 1 1) l := by
  intro w' F
  obtain ⟨b, bv', e, h1, h2, h3⟩ := one_const w2 l t z t2 hl
  obtain ⟨e1, -⟩ := Value.slice.inj e
  obtain rfl : w2.heap.size + 1 = b := by simpa using e1
  refine ⟨w2.heap.size + 1, _, rfl, Nat.lt_of_lt_of_le h1 F.size, (F.cell (p := ⟨w2.heap.size + 1, 0, none⟩) h1 (by simp; omega)).trans h2, ?_⟩
  have hb : bv' = .slice (some ⟨w2.heap.size, 0, none⟩) l.length l.length := by
    have h4 := heap_alloc_new (w2.alloc (.cells (bv l).toArray t z)) (.cells #[.slice (some ⟨w2.heap.size, 0, none⟩) l.length l.length] t2)
    rw [World.size_alloc] at h4
    rw [Go.Joins.cell_of_block h4] at h2
    simpa using h2.symm
  subst hb
  exact h3.fr F (fun k hk hm2 => by simp [Value.ownBlock] at hk; simp at hm2; omega)
set_option maxRecDepth 100000 in
set_option maxHeartbeats 4000000 in
theorem cawake_any (w : World) : Calls Tryz.prog 4 #[] w fun e w' => e = .returned (.bool true) ∧ Fr [] w w' := by
  have kc := fun (w : World) (C : Array Value) (n c : Nat) => Lib.run_convert_bytes_const (P := Tryz.prog) w 22 5 C n c Tryz.underlying22 Tryz.underlying5
  go_enter Tryz.func4, Tryz.ntmps4
  go_upto_region 4 with (first
    | (have hq := HU; go_at_call 8; refine (used_m HU.out.2.1).mono ?_; rintro e w4 ⟨rfl, F4⟩)
    | (have hq := FO; go_at_call 6; refine (un_any (bs := [97, 98, 99, 100, 101]) (n := 2) HM F2 FO CO (((Fr.refl [] w2).alloc _).alloc _) (one_far (l := [97, 98, 99, 100, 101]) (by decide) (Nat.lt_of_lt_of_le HM.lt F2.size)) (by decide) (by decide) (by decide)).mono ?_; rintro e w3 ⟨r, rfl, hR⟩; have HU := Lib.hid hR; clear hR)
    | (have hq := HM; go_at_call 7; refine (copies_any _ 2 5 (by decide) (by decide)).mono ?_; rintro e w2 ⟨v, rfl, FO, CO, F2⟩)
    | (go_at_call 5; refine (much_any _).mono ?_; rintro e w1 ⟨mp, rfl, hmp, HM, F1⟩))
  obtain ⟨ao, cap, rfl, -, -, -⟩ := HU.out.1.out
  have hB := heap_alloc_new w4 (.cells #[.int .i64 0, .int .i64 0, .int .i64 5, .int .i64 0, .int .i64 0, .int .i64 10] 42)
  obtain ⟨x0, x1, x2, x3, x4, x5⟩ := six hB
  have hcv := conv_sl _ ao _ cap [97, 98, 99, 100, 101] (bv_length _) ((HU.out.1.fr0 F4).fr0 ((Fr.refl [] w4).alloc (.cells #[.int .i64 0, .int .i64 0, .int .i64 5, .int .i64 0, .int .i64 0, .int .i64 10] 42)))
  have FU : Fr [mp] w1 w4 := (((F2.mono (by simp)).trans0 (((Fr.refl [] w2).alloc _).alloc _)).trans HU.out.2.2 (fun i hi => .inl hi)).trans0 F4
  have FW := (F1.trans1 FU (.inr hmp)).alloc (.cells #[.int .i64 0, .int .i64 0, .int .i64 5, .int .i64 0, .int .i64 0, .int .i64 10] 42)
  have HFW := Lib.hid FW
  clear FW FU hB kc CO FO HM hmp F1 F2 F4
  obtain ⟨wz, hwz⟩ : ∃ wz, wz = w4.alloc (.cells #[.int .i64 0, .int .i64 0, .int .i64 5, .int .i64 0, .int .i64 0, .int .i64 10] 42) := ⟨_, rfl⟩
  rw [← hwz] at hcv x0 x1 x2 x3 x4 x5 HFW ⊢
  clear hwz
  go_wp2_with fail
  go_ret
  exact ⟨rfl, HFW.out⟩
theorem one_arg {w0 w2 : World} {mp : Nat} {v : Value} {b : List UInt8} {t2 : TypeId} (hv : Sl w0 v (bv b)) (hmp : w0.heap.size ≤ mp) (hm : mp < w2.heap.size) (F : Fr [] w0 w2) : ∀ w', Fr [mp] (w2.alloc (.cells #[v] t2)) w' → One1 w' (.slice (some ⟨w2.heap.size, 0, none⟩) 1 1) b := by
  intro w' F2
  have h1 := heap_alloc_new w2 (.cells #[v] t2)
  have hlt : w2.heap.size < (w2.alloc (.cells #[v] t2)).heap.size := by simp
  exact ⟨w2.heap.size, v, rfl, Nat.lt_of_lt_of_le hlt F2.size, (F2.cell (p := ⟨w2.heap.size, 0, none⟩) hlt (by simp; omega)).trans (by simp [Go.Joins.cell_of_block h1]), hv.fr0 ((F.alloc _).trans1 F2 (.inr hmp))⟩
set_option maxRecDepth 100000 in
set_option maxHeartbeats 4000000 in
theorem walk_PipeCopies (w : World) (v : Value) (b : List UInt8) (n : UInt8) (hv : Sl w v (bv b)) :
    Calls Tryz.prog 3 #[v, .int .u8 n.toNat] w fun e w' => e = .returned (.bool true) ∧ Fr [] w w' := by
  have HV := Lib.hid hv
  obtain ⟨ao, cap, rfl, -, -, -⟩ := hv.out
  rw [bv_length] at HV ⊢
  clear hv
  by_cases hb : 4096 < b.length
  · have hbI : (4096 : Int) < (b.length : Int) := by omega
    go_enter Tryz.func3, Tryz.ntmps3
    go_wp2_with (go_at_call 4; refine (cawake_any _).mono ?_; rintro e w1 ⟨rfl, F1⟩)
    go_ret
    exact ⟨rfl, F1⟩
  · have hbI : ¬ (4096 : Int) < (b.length : Int) := by omega
    obtain ⟨m, hm⟩ : ∃ m : Nat, m = n.toNat % 8 := ⟨_, rfl⟩
    obtain ⟨k, hk⟩ : ∃ k : Nat, k = 1 + m := ⟨_, rfl⟩
    have hk1 : 1 ≤ k ∧ k ≤ 8 := by omega
    have t0 : ((n.toNat : Int).tmod 8) = (m : Int) := by rw [Int.tmod_eq_emod_of_nonneg (by omega)]; omega
    have hm8 : (m : Int) < 8 := by omega
    have hn2 : (n.toNat : Int) < 256 := by have := n.toNat_lt; omega
    have HKM := Lib.hid (show (1 : Int) + (m : Int) = (k : Int) by omega)
    have t2 : IntKind.u64.wrap (b.length : Int) = b.length := u64_of _ (by omega)
    obtain ⟨st, hst⟩ : ∃ st : Int, st = ((b.length * k : Nat) : Int) := ⟨_, rfl⟩
    have t3 : IntKind.i64.wrap ((k : Int) * (b.length : Int)) = st := by
      have h8 : b.length * k ≤ 4096 * 8 := Nat.mul_le_mul (by omega) hk1.2
      have e : (k : Int) * (b.length : Int) = st := by rw [hst, Int.natCast_mul, Int.mul_comm]
      rw [e, IntWalk.i64_in _ (by omega)]
    have hsz : (((UInt64.ofNat b.length).toNat : Nat) : Int) = b.length := by simp; omega
    have HC := Lib.hid (fun (wx : World) => copies_any wx k (UInt64.ofNat b.length) hk1.1 hk1.2)
    rw [hsz] at HC
    have HK := Lib.hid hk1
    have HST := Lib.hid hst
    have hb2 : b.length ≤ 65535 := by omega
    have HB2 := Lib.hid hb2
    clear hsz hst hk hk1 hb hb2 hm
    go_enter Tryz.func3, Tryz.ntmps3
    go_upto_region 6 with (first
      | (go_at_call 4; refine (cawake_any _).mono ?_; rintro e w1 ⟨rfl, F1⟩))
    rw [HKM.out]
    clear t0 hm8 hn2
    go_upto_region 9 with (first
      | (have hq := HU; go_at_call 8; refine (used_m HU.out.2.1).mono ?_; rintro e w5 ⟨rfl, F5⟩)
      | (have hq := FO; go_at_call 6; have HU0 := un_any (wx := w3.alloc (.cells #[.slice ao b.length cap] 22)) (pv := .slice (some ⟨w3.heap.size, 0, none⟩) 1 1) (bs := b) (n := k) HM F3 FO CO ((Fr.refl [] w3).alloc _) (one_arg (t2 := 22) (HV.out.fr0 F1) hmp (Nat.lt_of_lt_of_le HM.lt F3.size) (F2.trans0 F3)) HK.out.1 HK.out.2 HB2.out; rw [← HST.out] at HU0; refine HU0.mono ?_; rintro e w4 ⟨r, rfl, hR⟩; have HU := Lib.hid hR; clear hR)
      | (have hq := HM; go_at_call 7; refine (HC.out _).mono ?_; rintro e w3 ⟨cv, rfl, FO, CO, F3⟩)
      | (go_at_call 5; refine (much_any _).mono ?_; rintro e w2 ⟨mp, rfl, hmp, HM, F2⟩))
    have hB := heap_alloc_new w5 (.cells #[.int .i64 0, .int .i64 0, .int .i64 b.length, .int .i64 0, .int .i64 0, .int .i64 st] 42)
    have FU : Fr [mp] w2 w5 := (((F3.mono (by simp)).trans0 ((Fr.refl [] w3).alloc _)).trans HU.out.2.2 (fun i hi => .inl hi)).trans0 F5
    have FW : Fr [] w w5 := (F1.trans0 F2).trans1 FU (.inr (Nat.le_trans F1.size hmp))
    have FZ : Fr [] w5 (w5.alloc (.cells #[.int .i64 0, .int .i64 0, .int .i64 b.length, .int .i64 0, .int .i64 0, .int .i64 st] 42)) := (Fr.refl _ _).alloc _
    have FS : Fr [] w4 w5 := F5
    obtain ⟨wz, hwz⟩ : ∃ wz, wz = w5.alloc (.cells #[.int .i64 0, .int .i64 0, .int .i64 b.length, .int .i64 0, .int .i64 0, .int .i64 st] 42) := ⟨_, rfl⟩
    rw [← hwz] at hB FZ ⊢
    have HBY := Lib.hid (bytes_any wz r (.slice ao b.length cap) b b ((HU.out.1.fr0 FS).fr0 FZ) (HV.out.fr0 (FW.trans0 FZ)))
    have HX := Lib.hid (fun (wx : World) (S : Same wz wx) => six ((S.fr (S := [])).block _ (Array.getElem?_eq_some_iff.1 hB).1 (by simp) |>.trans hB))
    obtain ⟨x0, x1, x2, x3, x4, x5⟩ := HX.out wz (Same.refl _)
    have HFW := Lib.hid (FW.trans0 FZ)
    obtain ⟨ub, hub⟩ : ∃ ub, ub = w5.heap.size := ⟨_, rfl⟩
    rw [← hub] at x0 x1 x2 x3 x4 x5 HX ⊢
    clear hB FU FW FZ FS hwz CO FO HM hmp F1 F2 F3 F5 HC hub
    go_wp2_with (go_at_call 9; refine HBY.out.mono ?_; rintro e w6 ⟨rfl, S6⟩; obtain ⟨y0, y1, y2, y3, y4, y5⟩ := HX.out w6 S6)
    go_ret
    exact ⟨rfl, HFW.out.trans0 S6.fr⟩
end Go.Proofs.YtfnblemlcjdnhaaGreat
