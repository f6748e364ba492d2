/- The law HeaderwSeals: the walk. No condition but what the library's tables hold. -/
import Derived.Test.YtkodindajfdagaaGreatDoorWAwakeM
import Derived.Test.YtkodindajfdagaaGreatDoorWSealM
import Derived.Test.YtkodindajfdagaaGreatDoorHOpenAM
import Derived.Deep.RegionHeld3
namespace Go.Proofs.YtkodindajfdagaaGreatDoor
open Go.RowKit

theorem OpenR.out {w : World} {b : List UInt8} {e : Ending} {w' : World} (h : OpenR w b e w') : ∃ v1 v2, e = .returned (.tuple #[v1, v2, .int .i64 (opCode b : Int)]) ∧ Sl w' v1 (bv (opArea b)) ∧ Sl w' v2 (bv (opHead b)) ∧ Fr [] w w' := h
theorem box2 {w wr : World} {t : TypeId} {a0 a1 : Value} {S : List Nat} (F : Fr S (w.alloc (.cells #[a0, a1] t)) wr) (hS : w.heap.size ∉ S) :
    wr.cell? ⟨w.heap.size, 0, none⟩ = some a0 ∧ wr.cell? ⟨w.heap.size, 1, none⟩ = some a1 := by
  have key : ∀ (i : Nat), wr.cell? ⟨w.heap.size, i, none⟩ = #[a0, a1][i]? := fun i => by
    rw [F.cell (p := ⟨w.heap.size, i, none⟩) (by simp) hS, Go.Joins.cell_of_block (heap_alloc_new w _)]
  exact ⟨by rw [key]; rfl, by rw [key]; rfl⟩
theorem Sl.outB {w : World} {v : Value} {l : List UInt8} (h : Sl w v (bv l)) : ∃ ao cap, v = .slice ao l.length cap ∧ l.length ≤ cap ∧ cap ≤ 9223372036854775807 := by
  obtain ⟨ao, cap, e, h1, h2, -⟩ := h.out
  rw [bv_length] at e h1
  exact ⟨ao, cap, e, h1, h2⟩
theorem sealL_len (area head : List UInt8) : (sealL area head).length = 32 + ((sealA area head).length + head.length) := by simp [sealL, sealHead_len]

theorem u8_turn {x t : UInt8} (h : t ≠ 0) : x ≠ x ^^^ t := fun e => h (by
  have h1 : x ^^^ (x ^^^ t) = x ^^^ x := by rw [← e]
  rw [← UInt8.xor_assoc, UInt8.xor_self, UInt8.zero_xor] at h1
  exact h1)
/-- A byte of the header turned, by its place from the end. -/
theorem seal_set (area head : List UInt8) (t0 : UInt8) (r : Nat) (hr : r < head.length) (ht : t0 ≠ 0) (ha : area.length ≤ 16384) (hh : head.length ≤ 16384) :
    ∃ x, (sealL area head)[(sealL area head).length - 1 - r]? = some x ∧ opCode ((sealL area head).set ((sealL area head).length - 1 - r) (x ^^^ t0)) = 4 := by
  obtain ⟨l, x, t, rfl, hl⟩ : ∃ l x t, head = l ++ x :: t ∧ t.length = r := by
    refine ⟨head.take (head.length - 1 - r), head[head.length - 1 - r]'(by omega), head.drop (head.length - 1 - r + 1), ?_, ?_⟩
    · rw [List.getElem_cons_drop, List.take_append_drop]
    · rw [List.length_drop]; omega
  have hlen := sealL_len area (l ++ x :: t)
  have hi : (sealL area (l ++ x :: t)).length - 1 - r = 32 + ((sealA area (l ++ x :: t)).length + l.length) := by rw [hlen, List.length_append, List.length_cons]; omega
  rw [hi]
  have e1 : sealL area (l ++ x :: t) = (sealHead (sealA area (l ++ x :: t)).length (l ++ x :: t).length (crcL (l ++ x :: t)) ++ (sealA area (l ++ x :: t) ++ l)) ++ x :: t := by unfold sealL; simp
  have hs : (sealHead (sealA area (l ++ x :: t)).length (l ++ x :: t).length (crcL (l ++ x :: t)) ++ (sealA area (l ++ x :: t) ++ l)).length = 32 + ((sealA area (l ++ x :: t)).length + l.length) := by rw [List.length_append, sealHead_len, List.length_append]
  refine ⟨x, ?_, ?_⟩
  · rw [e1, List.getElem?_append_right (by omega), hs]
    simp
  · have e2 : (sealL area (l ++ x :: t)).set (32 + ((sealA area (l ++ x :: t)).length + l.length)) (x ^^^ t0) = sealHead (sealA area (l ++ x :: t)).length (l ++ x :: t).length (crcL (l ++ x :: t)) ++ (sealA area (l ++ x :: t) ++ (l ++ (x ^^^ t0) :: t)) := by
      conv => lhs; arg 1; rw [e1]
      rw [List.set_append_right _ _ (by omega), hs]
      simp
    rw [e2]
    exact seal_turn area l t x (x ^^^ t0) (u8_turn ht) ha hh

set_option maxRecDepth 100000 in
set_option maxHeartbeats 8000000 in
theorem walk_HeaderwSeals (w : World) (va vh : Value) (area head : List UInt8) (t0 t1 : UInt8) (hG : Gl w) (ha : Sl w va (bv area)) (hh : Sl w vh (bv head)) :
    Calls Tryz.prog 3 #[va, vh, .agg #[.int .u8 t0.toNat, .int .u8 t1.toNat]] w fun e w' => e = .returned (.bool true) ∧ Fr [] w w' := by
  obtain ⟨ao, acap, rfl, -, -, -⟩ := ha.out
  obtain ⟨ho, hcap, rfl, -, -, -⟩ := hh.out
  rw [bv_length] at ha hh
  rw [bv_length, bv_length]
  have HA := Lib.hid ha
  have HH := Lib.hid hh
  have HG := Lib.hid hG
  clear ha hh hG
  obtain ⟨wB, hwB⟩ : ∃ wB, wB = w.alloc (.cells #[.int .u8 t0.toNat, .int .u8 t1.toNat] 23) := ⟨_, rfl⟩
  have FB : Fr [] w wB := hwB ▸ (Fr.refl _ _).alloc _
  have HBX := Lib.hid (fun wx (F : Fr [] wB wx) => box2 (hwB ▸ F : Fr [] (w.alloc (.cells #[.int .u8 t0.toNat, .int .u8 t1.toNat] 23)) wx) (by simp))
  have HAW := Lib.hid (awake_any wB (HG.out.fr FB))
  have hnot : ∀ (x : Bool) (w : World), (Op.unary .not (.bool x)).run Tryz.prog w = .ok (.bool (!x)) w := fun _ _ => rfl
  go_enter Tryz.func3, Tryz.ntmps3
  go_upto_region 3 with (go_at_call 7; rw [← hwB]; refine HAW.out.mono ?_; rintro e w1 ⟨rfl, F1⟩)
  have FW1 := FB.trans0 F1
  by_cases la : area.length ≤ 16384
  rotate_left
  · have s0 : (16384 : Int) < (area.length : Int) := by omega
    clear la
    go_wp2_with fail
    go_ret
    exact ⟨rfl, FW1⟩
  by_cases lh : head.length ≤ 16384
  rotate_left
  · have s0 : ¬ (16384 : Int) < (area.length : Int) := by omega
    have s1 : (16384 : Int) < (head.length : Int) := by omega
    clear la lh
    go_wp2_with fail
    go_ret
    exact ⟨rfl, FW1⟩
  have s0 : ¬ (16384 : Int) < (area.length : Int) := by omega
  have s1 : ¬ (16384 : Int) < (head.length : Int) := by omega
  have hsl := sealL_len area head
  have hsa := sealA_len area head
  have HSO := Lib.hid (seal_open area head la lh)
  have HST := Lib.hid (seal_trail area head t0 la lh)
  have HSS := Lib.hid (seal_short area head la lh)
  have HS := Lib.hid (seal_any w1 _ _ area head (HA.out.fr0 FW1) (HH.out.fr0 FW1) la lh)
  have HRS := Lib.hid (fun w2 (F2 : Fr [] w1 w2) => rseal_any w2 _ _ area head (HA.out.fr0 (FW1.trans0 F2)) (HH.out.fr0 (FW1.trans0 F2)) la lh)
  clear hwB
  obtain ⟨B, hB⟩ : ∃ B, B = sealL area head := ⟨_, rfl⟩
  rw [← hB] at hsl HSO HST HSS HS
  simp only [← hB] at HRS
  have HB := Lib.hid hB
  clear hB
  have hBl : B.length ≤ 32800 := by omega
  have hB32 : 32 ≤ B.length := by omega
  have HSL := Lib.hid hsl
  clear hsl
  by_cases h0 : head = []
  · have t0' : ((head.length : Int) == 0) = true := by rw [h0]; rfl
    have HWA := Lib.hid (show sealA area head = [] from if_pos h0)
    clear h0
    go_upto_region 9 with (first
      | (have hq := F4; go_at_call 11; refine (open_any w4 _ B (hv4.out) (by omega)).mono ?_; intro e w5 hr; obtain ⟨x1, x2, rfl, hx1', hx2', F5⟩ := hr.out; rw [HSO.out.1]; have hx1 := Lib.hid hx1'; have hx2 := Lib.hid hx2'; obtain ⟨xo1, xc1, rfl, -⟩ := hx1'.outB; obtain ⟨xo2, xc2, rfl, -⟩ := hx2'.outB; clear hr hx1' hx2')
      | (have hq := F3; go_at_call 9; refine (bytes_any _ _ _ B B (hv2.out.fr0 F3) hv3.out).mono ?_; rw [decide_eq_true rfl]; rintro e w4 ⟨rfl, S4⟩; have F4 := S4.fr (S := []); have hv4 := Lib.hid ((hv2.out.fr0 F3).fr0 F4))
      | (have hq := F2; go_at_call 10; refine (HRS.out w2 F2).mono ?_; rintro e w3 ⟨r3, rfl, hr3, F3⟩; have hv3 := Lib.hid hr3; obtain ⟨ro3, rc3, rfl, -⟩ := hr3.outB; clear hr3)
      | (go_at_call 8; refine HS.out.mono ?_; rintro e w2 ⟨r2, rfl, hr2, F2⟩; have hv2 := Lib.hid hr2; obtain ⟨ro2, rc2, rfl, hrc2, hrm2⟩ := hr2.outB; clear hr2))
    have hv5 := Lib.hid (hv4.out.fr0 F5)
    have FW5 := Lib.hid ((((FW1.trans0 F2).trans0 F3).trans0 F4).trans0 F5)
    obtain ⟨z0, z1⟩ := HBX.out w5 ((((F1.trans0 F2).trans0 F3).trans0 F4).trans0 F5)
    have FB5 := Lib.hid ((((F1.trans0 F2).trans0 F3).trans0 F4).trans0 F5)
    clear hq
    go_upto_region 14 with (first
      | (have hq := F6; go_at_call 9; refine (bytes_any _ _ _ (opHead B) head (hx2.out.fr0 F6) (HH.out.fr0 (FW5.out.trans0 F6))).mono ?_; rw [decide_eq_true HSO.out.2.2]; rintro e w7 ⟨rfl, S7⟩)
      | (go_at_call 9; refine (bytes_any _ _ _ (opArea B) [] hx1.out (Sl.nil _)).mono ?_; rw [decide_eq_true (HSO.out.2.1.trans HWA.out)]; rintro e w6 ⟨rfl, S6⟩; have F6 : Fr [] w5 w6 := S6.fr))
    have F57 : Fr [] w5 w7 := F6.trans0 S7.fr
    have FB7 := Lib.hid (FB5.out.trans0 F57)
    have FW7 := Lib.hid (FW5.out.trans0 F57)
    have hv7 := Lib.hid (hv5.out.fr0 F57)
    rename_i K0 hK0
    go_cut [12, 13, 14] (fun v12 v13 v14 wx => v14 = .int .i64 19 ∧ Fr [] w7 wx)
    case first =>
      -- <<
      clear hK0
      have GA : Fr [] w7 (w7.alloc (.cells #[] 5)).drew := ((Fr.refl _ _).alloc _).drew
      have GB : Fr [] w7 ((w7.alloc (.cells #[] 5)).alloc (.cells #[.int .u8 t0.toNat] 5)).drew := (((Fr.refl _ _).alloc _).alloc _).drew
      have GC : Fr [] w7 ((w7.alloc (.cells #[.int .u8 t0.toNat] 5)).alloc (.cells #[] 5)).drew := (((Fr.refl _ _).alloc _).alloc _).drew
      obtain ⟨y0, y1⟩ := HBX.out w7 FB7.out
      obtain ⟨x0, x1⟩ := HBX.out _ (FB7.out.trans0 GA)
      obtain ⟨x2, x3⟩ := HBX.out _ (FB7.out.trans0 GB)
      obtain ⟨x4, x5⟩ := HBX.out _ (FB7.out.trans0 GC)
      obtain ⟨x6, x7⟩ := HBX.out _ (FB7.out.trans0 ((Fr.refl [] w7).alloc (.cells #[] 5)))
      obtain ⟨x8, x9⟩ := HBX.out _ (FB7.out.trans0 ((Fr.refl [] w7).drew))
      have OA := Lib.hid (own_frS (own_empty w7 5) ((Fr.refl [] _).drew) (by simp))
      have OB := Lib.hid (own_frS (own_empty w7 5) (((Fr.refl [] _).alloc (.cells #[.int .u8 t0.toNat] 5)).drew) (by simp))
      have OC := Lib.hid (show ((w7.alloc (.cells #[.int .u8 t0.toNat] 5)).alloc (.cells #[] 5)).drew.ownsRow w7.heap.size 5 1 (.slice (some ⟨w7.heap.size + 1, 0, none⟩) 0 0) 0 [] from by
        have h := own_frS (own_empty (w7.alloc (.cells #[.int .u8 t0.toNat] 5)) 5) ((Fr.refl [] _).drew) (by simp)
        rw [World.size_alloc] at h
        exact own_mono h (by omega))
      have TB := Lib.hid (show Sl ((w7.alloc (.cells #[] 5)).alloc (.cells #[.int .u8 t0.toNat] 5)).drew (.slice (some ⟨w7.heap.size + 1, 0, none⟩) 1 1) [.int .u8 t0.toNat] from by
        have h := (sl_one (w7.alloc (.cells #[] 5)) 5 (.int .u8 t0.toNat)).fr0 ((Fr.refl [] _).drew)
        rw [World.size_alloc] at h
        exact h)
      have TC := Lib.hid (show Sl ((w7.alloc (.cells #[.int .u8 t0.toNat] 5)).alloc (.cells #[] 5)).drew (.slice (some ⟨w7.heap.size, 0, none⟩) 1 1) [.int .u8 t0.toNat] from (sl_one w7 5 (.int .u8 t0.toNat)).fr0 (((Fr.refl [] _).alloc _).drew))
      have HST2 := Lib.hid HST.out
      go_region_law (first
        | (have hq := own9; go_simp; go_at_call 11; refine (open_any w9 _ (B ++ [t0]) (by rw [bv_append]; exact Sl.of_own own9) (by rw [List.length_append, List.length_singleton]; omega)).mono ?_; intro e w10 hr; obtain ⟨x1, x2, rfl, hx1', hx2', F10⟩ := hr.out; rw [HST2.out]; obtain ⟨xo3, xc3, rfl, -⟩ := hx1'.outB; obtain ⟨xo4, xc4, rfl, -⟩ := hx2'.outB; clear hr hx1' hx2')
        | (have hq := HT8; refine step_append_sl sty_u8 rfl _ _ (by rfl) w7.heap.size _ _ _ (by rfl) own8 _ [.int .u8 t0.toNat] (by rfl) HT8.out (by intro u hu; simp at hu; subst hu; rfl) (by simp only [List.length_singleton]; omega) (by simp only [List.length_singleton]; omega) F8.size ?_; intro v9 w9 own9 g9; obtain ⟨ro9, rc9, rfl, -⟩ := own_out own9; have F9 : Fr [] w7 w9 := F8.grown g9 (fun q hq => .inr (own_ltS own8 q hq).1); obtain ⟨n0, n1⟩ := HBX.out w9 (FB7.out.trans0 F9))
        | (have hq := own8; refine step_append_sl sty_u8 rfl _ _ (by rfl) w7.heap.size _ _ _ (by rfl) (own_frS own8 ((Fr.refl [] w8).alloc _) (by simp)) _ [.int .u8 t0.toNat] (by rfl) (sl_one _ _ _) (by intro u hu; simp at hu; subst hu; rfl) (by simp only [List.length_singleton]; omega) (by simp only [List.length_singleton]; omega) (by have := F8.size; rw [World.size_alloc]; omega) ?_; intro v9 w9 own9 g9; obtain ⟨ro9, rc9, rfl, -⟩ := own_out own9; have F9 : Fr [] w7 w9 := (F8.alloc _).grown g9 (fun q hq => .inr (own_ltS own8 q hq).1); obtain ⟨n0, n1⟩ := HBX.out w9 (FB7.out.trans0 F9))
        | (refine step_append_sl sty_u8 rfl _ _ (by rfl) w7.heap.size _ _ [] (by rfl) OA.out _ (bv B) (by rfl) (hv7.out.fr0 GA) (bv_one _) (by simp only [bv_length]; omega) (by simp only [bv_length]; omega) GA.size ?_; intro v8 w8 own8 g8; rw [bv_length, Nat.zero_add, List.nil_append] at own8; obtain ⟨ro8, rc8, rfl, -⟩ := own_out own8; have F8 : Fr [] w7 w8 := GA.grown g8 (fun q hq => .inr (own_ltS OA.out q hq).1); obtain ⟨m0, m1⟩ := HBX.out w8 (FB7.out.trans0 F8); obtain ⟨l0, l1⟩ := HBX.out _ (FB7.out.trans0 (F8.alloc (.cells #[.int .u8 t0.toNat] 5))))
        | (refine step_append_sl sty_u8 rfl _ _ (by rfl) w7.heap.size _ _ [] (by rfl) OB.out _ (bv B) (by rfl) (hv7.out.fr0 GB) (bv_one _) (by simp only [bv_length]; omega) (by simp only [bv_length]; omega) GB.size ?_; intro v8 w8 own8 g8; rw [bv_length, Nat.zero_add, List.nil_append] at own8; obtain ⟨ro8, rc8, rfl, -⟩ := own_out own8; have F8 : Fr [] w7 w8 := GB.grown g8 (fun q hq => .inr (own_ltS OB.out q hq).1); obtain ⟨m0, m1⟩ := HBX.out w8 (FB7.out.trans0 F8); obtain ⟨l0, l1⟩ := HBX.out _ (FB7.out.trans0 (F8.alloc (.cells #[.int .u8 t0.toNat] 5))); have HT8 := Lib.hid (TB.out.fr (S := [w7.heap.size]) ((Fr.refl _ _).grown g8 (fun q hq => .inl (by cases hq; simp))) (fun q hq => by cases hq; simp)))
        | (refine step_append_sl sty_u8 rfl _ _ (by rfl) w7.heap.size _ _ [] (by rfl) OC.out _ (bv B) (by rfl) (hv7.out.fr0 GC) (bv_one _) (by simp only [bv_length]; omega) (by simp only [bv_length]; omega) GC.size ?_; intro v8 w8 own8 g8; rw [bv_length, Nat.zero_add, List.nil_append] at own8; obtain ⟨ro8, rc8, rfl, -⟩ := own_out own8; have F8 : Fr [] w7 w8 := GC.grown g8 (fun q hq => .inr (own_ltS OC.out q hq).1); obtain ⟨m0, m1⟩ := HBX.out w8 (FB7.out.trans0 F8); obtain ⟨l0, l1⟩ := HBX.out _ (FB7.out.trans0 (F8.alloc (.cells #[.int .u8 t0.toNat] 5))); have HT8 := Lib.hid (TC.out.fr (S := [w7.heap.size + 1]) ((Fr.refl _ _).grown g8 (fun q hq => .inl (by cases hq; simp))) (fun q hq => by cases hq; simp))))
      all_goals (go_simp; go_step; go_meet)
      all_goals exact ⟨rfl, F9.trans0 F10⟩
      -- >>
    case rest =>
    obtain ⟨rfl, F8⟩ := hcut
    obtain ⟨w8, hw8⟩ : ∃ w8, w8 = wc := ⟨_, rfl⟩
    rw [← hw8] at F8 ⊢
    clear hw8
    refine hK0 _ _ ?_
    clear hK0
    have hsh := (hv7.out.fr0 F8).first (B.length - 1) (by omega)
    rw [← bv_take] at hsh
    have HSh := Lib.hid (open_any w8 _ (B.take (B.length - 1)) hsh (by rw [List.length_take]; omega))
    clear hsh
    go_upto_region 18 with (go_at_call 11; refine HSh.out.mono ?_; intro e w11 hr; obtain ⟨p1, p2, rfl, hp1', hp2', F11⟩ := hr.out; rw [HSS.out]; obtain ⟨po1, pc1, rfl, -⟩ := hp1'.outB; obtain ⟨po2, pc2, rfl, -⟩ := hp2'.outB; clear hr hp1' hp2')
    obtain ⟨q0, q1⟩ := HBX.out w11 (FB7.out.trans0 (F8.trans0 F11))
    go_wp2_with fail
    go_ret
    exact ⟨rfl, FW7.out.trans0 (F8.trans0 F11)⟩
  · have t0' : ((head.length : Int) == 0) = false := by
      rw [beq_eq_false_iff_ne]
      have := List.length_pos_iff.2 h0
      omega
    have hp0 := List.length_pos_iff.2 h0
    have HWA := Lib.hid (show sealA area head = area from if_neg h0)
    clear h0
    go_upto_region 9 with (first
      | (have hq := F4; go_at_call 11; refine (open_any w4 _ B (hv4.out) (by omega)).mono ?_; intro e w5 hr; obtain ⟨x1, x2, rfl, hx1', hx2', F5⟩ := hr.out; rw [HSO.out.1]; have hx1 := Lib.hid hx1'; have hx2 := Lib.hid hx2'; obtain ⟨xo1, xc1, rfl, -⟩ := hx1'.outB; obtain ⟨xo2, xc2, rfl, -⟩ := hx2'.outB; clear hr hx1' hx2')
      | (have hq := F3; go_at_call 9; refine (bytes_any _ _ _ B B (hv2.out.fr0 F3) hv3.out).mono ?_; rw [decide_eq_true rfl]; rintro e w4 ⟨rfl, S4⟩; have F4 := S4.fr (S := []); have hv4 := Lib.hid ((hv2.out.fr0 F3).fr0 F4))
      | (have hq := F2; go_at_call 10; refine (HRS.out w2 F2).mono ?_; rintro e w3 ⟨r3, rfl, hr3, F3⟩; have hv3 := Lib.hid hr3; obtain ⟨ro3, rc3, rfl, -⟩ := hr3.outB; clear hr3)
      | (go_at_call 8; refine HS.out.mono ?_; rintro e w2 ⟨r2, rfl, hr2, F2⟩; have hv2 := Lib.hid hr2; obtain ⟨ro2, rc2, rfl, hrc2, hrm2⟩ := hr2.outB; clear hr2))
    have hv5 := Lib.hid (hv4.out.fr0 F5)
    have FW5 := Lib.hid ((((FW1.trans0 F2).trans0 F3).trans0 F4).trans0 F5)
    obtain ⟨z0, z1⟩ := HBX.out w5 ((((F1.trans0 F2).trans0 F3).trans0 F4).trans0 F5)
    have FB5 := Lib.hid ((((F1.trans0 F2).trans0 F3).trans0 F4).trans0 F5)
    clear hq
    go_upto_region 14 with (first
      | (have hq := F6; go_at_call 9; refine (bytes_any _ _ _ (opHead B) head (hx2.out.fr0 F6) (HH.out.fr0 (FW5.out.trans0 F6))).mono ?_; rw [decide_eq_true HSO.out.2.2]; rintro e w7 ⟨rfl, S7⟩)
      | (go_at_call 9; refine (bytes_any _ _ _ (opArea B) area hx1.out (HA.out.fr0 FW5.out)).mono ?_; rw [decide_eq_true (HSO.out.2.1.trans HWA.out)]; rintro e w6 ⟨rfl, S6⟩; have F6 : Fr [] w5 w6 := S6.fr))
    have F57 : Fr [] w5 w7 := F6.trans0 S7.fr
    have FB7 := Lib.hid (FB5.out.trans0 F57)
    have FW7 := Lib.hid (FW5.out.trans0 F57)
    have hv7 := Lib.hid (hv5.out.fr0 F57)
    rename_i K0 hK0
    go_cut [12, 13, 14] (fun v12 v13 v14 wx => v14 = .int .i64 19 ∧ Fr [] w7 wx)
    case first =>
      -- <<
      clear hK0
      have GA : Fr [] w7 (w7.alloc (.cells #[] 5)).drew := ((Fr.refl _ _).alloc _).drew
      have GB : Fr [] w7 ((w7.alloc (.cells #[] 5)).alloc (.cells #[.int .u8 t0.toNat] 5)).drew := (((Fr.refl _ _).alloc _).alloc _).drew
      have GC : Fr [] w7 ((w7.alloc (.cells #[.int .u8 t0.toNat] 5)).alloc (.cells #[] 5)).drew := (((Fr.refl _ _).alloc _).alloc _).drew
      obtain ⟨y0, y1⟩ := HBX.out w7 FB7.out
      obtain ⟨x0, x1⟩ := HBX.out _ (FB7.out.trans0 GA)
      obtain ⟨x2, x3⟩ := HBX.out _ (FB7.out.trans0 GB)
      obtain ⟨x4, x5⟩ := HBX.out _ (FB7.out.trans0 GC)
      obtain ⟨x6, x7⟩ := HBX.out _ (FB7.out.trans0 ((Fr.refl [] w7).alloc (.cells #[] 5)))
      obtain ⟨x8, x9⟩ := HBX.out _ (FB7.out.trans0 ((Fr.refl [] w7).drew))
      have OA := Lib.hid (own_frS (own_empty w7 5) ((Fr.refl [] _).drew) (by simp))
      have OB := Lib.hid (own_frS (own_empty w7 5) (((Fr.refl [] _).alloc (.cells #[.int .u8 t0.toNat] 5)).drew) (by simp))
      have OC := Lib.hid (show ((w7.alloc (.cells #[.int .u8 t0.toNat] 5)).alloc (.cells #[] 5)).drew.ownsRow w7.heap.size 5 1 (.slice (some ⟨w7.heap.size + 1, 0, none⟩) 0 0) 0 [] from by
        have h := own_frS (own_empty (w7.alloc (.cells #[.int .u8 t0.toNat] 5)) 5) ((Fr.refl [] _).drew) (by simp)
        rw [World.size_alloc] at h
        exact own_mono h (by omega))
      have TB := Lib.hid (show Sl ((w7.alloc (.cells #[] 5)).alloc (.cells #[.int .u8 t0.toNat] 5)).drew (.slice (some ⟨w7.heap.size + 1, 0, none⟩) 1 1) [.int .u8 t0.toNat] from by
        have h := (sl_one (w7.alloc (.cells #[] 5)) 5 (.int .u8 t0.toNat)).fr0 ((Fr.refl [] _).drew)
        rw [World.size_alloc] at h
        exact h)
      have TC := Lib.hid (show Sl ((w7.alloc (.cells #[.int .u8 t0.toNat] 5)).alloc (.cells #[] 5)).drew (.slice (some ⟨w7.heap.size, 0, none⟩) 1 1) [.int .u8 t0.toNat] from (sl_one w7 5 (.int .u8 t0.toNat)).fr0 (((Fr.refl [] _).alloc _).drew))
      have HST2 := Lib.hid HST.out
      go_region_law (first
        | (have hq := own9; go_simp; go_at_call 11; refine (open_any w9 _ (B ++ [t0]) (by rw [bv_append]; exact Sl.of_own own9) (by rw [List.length_append, List.length_singleton]; omega)).mono ?_; intro e w10 hr; obtain ⟨x1, x2, rfl, hx1', hx2', F10⟩ := hr.out; rw [HST2.out]; obtain ⟨xo3, xc3, rfl, -⟩ := hx1'.outB; obtain ⟨xo4, xc4, rfl, -⟩ := hx2'.outB; clear hr hx1' hx2')
        | (have hq := HT8; refine step_append_sl sty_u8 rfl _ _ (by rfl) w7.heap.size _ _ _ (by rfl) own8 _ [.int .u8 t0.toNat] (by rfl) HT8.out (by intro u hu; simp at hu; subst hu; rfl) (by simp only [List.length_singleton]; omega) (by simp only [List.length_singleton]; omega) F8.size ?_; intro v9 w9 own9 g9; obtain ⟨ro9, rc9, rfl, -⟩ := own_out own9; have F9 : Fr [] w7 w9 := F8.grown g9 (fun q hq => .inr (own_ltS own8 q hq).1); obtain ⟨n0, n1⟩ := HBX.out w9 (FB7.out.trans0 F9))
        | (have hq := own8; refine step_append_sl sty_u8 rfl _ _ (by rfl) w7.heap.size _ _ _ (by rfl) (own_frS own8 ((Fr.refl [] w8).alloc _) (by simp)) _ [.int .u8 t0.toNat] (by rfl) (sl_one _ _ _) (by intro u hu; simp at hu; subst hu; rfl) (by simp only [List.length_singleton]; omega) (by simp only [List.length_singleton]; omega) (by have := F8.size; rw [World.size_alloc]; omega) ?_; intro v9 w9 own9 g9; obtain ⟨ro9, rc9, rfl, -⟩ := own_out own9; have F9 : Fr [] w7 w9 := (F8.alloc _).grown g9 (fun q hq => .inr (own_ltS own8 q hq).1); obtain ⟨n0, n1⟩ := HBX.out w9 (FB7.out.trans0 F9))
        | (refine step_append_sl sty_u8 rfl _ _ (by rfl) w7.heap.size _ _ [] (by rfl) OA.out _ (bv B) (by rfl) (hv7.out.fr0 GA) (bv_one _) (by simp only [bv_length]; omega) (by simp only [bv_length]; omega) GA.size ?_; intro v8 w8 own8 g8; rw [bv_length, Nat.zero_add, List.nil_append] at own8; obtain ⟨ro8, rc8, rfl, -⟩ := own_out own8; have F8 : Fr [] w7 w8 := GA.grown g8 (fun q hq => .inr (own_ltS OA.out q hq).1); obtain ⟨m0, m1⟩ := HBX.out w8 (FB7.out.trans0 F8); obtain ⟨l0, l1⟩ := HBX.out _ (FB7.out.trans0 (F8.alloc (.cells #[.int .u8 t0.toNat] 5))))
        | (refine step_append_sl sty_u8 rfl _ _ (by rfl) w7.heap.size _ _ [] (by rfl) OB.out _ (bv B) (by rfl) (hv7.out.fr0 GB) (bv_one _) (by simp only [bv_length]; omega) (by simp only [bv_length]; omega) GB.size ?_; intro v8 w8 own8 g8; rw [bv_length, Nat.zero_add, List.nil_append] at own8; obtain ⟨ro8, rc8, rfl, -⟩ := own_out own8; have F8 : Fr [] w7 w8 := GB.grown g8 (fun q hq => .inr (own_ltS OB.out q hq).1); obtain ⟨m0, m1⟩ := HBX.out w8 (FB7.out.trans0 F8); obtain ⟨l0, l1⟩ := HBX.out _ (FB7.out.trans0 (F8.alloc (.cells #[.int .u8 t0.toNat] 5))); have HT8 := Lib.hid (TB.out.fr (S := [w7.heap.size]) ((Fr.refl _ _).grown g8 (fun q hq => .inl (by cases hq; simp))) (fun q hq => by cases hq; simp)))
        | (refine step_append_sl sty_u8 rfl _ _ (by rfl) w7.heap.size _ _ [] (by rfl) OC.out _ (bv B) (by rfl) (hv7.out.fr0 GC) (bv_one _) (by simp only [bv_length]; omega) (by simp only [bv_length]; omega) GC.size ?_; intro v8 w8 own8 g8; rw [bv_length, Nat.zero_add, List.nil_append] at own8; obtain ⟨ro8, rc8, rfl, -⟩ := own_out own8; have F8 : Fr [] w7 w8 := GC.grown g8 (fun q hq => .inr (own_ltS OC.out q hq).1); obtain ⟨m0, m1⟩ := HBX.out w8 (FB7.out.trans0 F8); obtain ⟨l0, l1⟩ := HBX.out _ (FB7.out.trans0 (F8.alloc (.cells #[.int .u8 t0.toNat] 5))); have HT8 := Lib.hid (TC.out.fr (S := [w7.heap.size + 1]) ((Fr.refl _ _).grown g8 (fun q hq => .inl (by cases hq; simp))) (fun q hq => by cases hq; simp))))
      all_goals (go_simp; go_step; go_meet)
      all_goals exact ⟨rfl, F9.trans0 F10⟩
      -- >>
    case rest =>
    obtain ⟨rfl, F8⟩ := hcut
    obtain ⟨w8, hw8⟩ : ∃ w8, w8 = wc := ⟨_, rfl⟩
    rw [← hw8] at F8 ⊢
    clear hw8
    refine hK0 _ _ ?_
    clear hK0
    have hsh := (hv7.out.fr0 F8).first (B.length - 1) (by omega)
    rw [← bv_take] at hsh
    have HSh := Lib.hid (open_any w8 _ (B.take (B.length - 1)) hsh (by rw [List.length_take]; omega))
    clear hsh
    go_upto_region 18 with (go_at_call 11; refine HSh.out.mono ?_; intro e w11 hr; obtain ⟨p1, p2, rfl, hp1', hp2', F11⟩ := hr.out; rw [HSS.out]; obtain ⟨po1, pc1, rfl, -⟩ := hp1'.outB; obtain ⟨po2, pc2, rfl, -⟩ := hp2'.outB; clear hr hp1' hp2')
    obtain ⟨q0, q1⟩ := HBX.out w11 (FB7.out.trans0 (F8.trans0 F11))
    by_cases ht : t0 = 0
    · have e0 : ((t0.toNat : Int) == 0) = true := by rw [ht]; rfl
      clear ht
      go_wp2_with fail
      go_ret
      exact ⟨rfl, FW7.out.trans0 (F8.trans0 F11)⟩
    have e0 : ((t0.toNat : Int) == 0) = false := by
      rw [beq_eq_false_iff_ne]
      intro e
      exact ht (UInt8.toNat_inj.1 (by show t0.toNat = 0; omega))
    have HT0 := Lib.hid ht
    clear ht
    have hv11 := Lib.hid ((hv7.out.fr0 F8).fr0 F11)
    have FW11 := Lib.hid (FW7.out.trans0 (F8.trans0 F11))
    have FB11 := Lib.hid (FB7.out.trans0 (F8.trans0 F11))
    have F12 : Fr [] w11 (w11.alloc (.cells #[] 5)) := (Fr.refl _ _).alloc _
    go_upto_region 21 with (at_builtin; refine wpList_append_sl sty_u8 rfl _ _ (by rfl) w11.heap.size _ _ [] (by rfl) (own_empty w11 5) _ (bv B) (by rfl) (hv11.out.fr0 F12) (bv_one _) (by simp only [bv_length]; omega) (by simp only [bv_length]; omega) F12.size ?_; intro v13 w13 own13 g13; rw [bv_length, Nat.zero_add, List.nil_append] at own13)
    obtain ⟨r, hr⟩ : ∃ r, r = t1.toNat % head.length := ⟨_, rfl⟩
    have hrl : r < head.length := by rw [hr]; exact Nat.mod_lt _ hp0
    have HSE := Lib.hid (seal_set area head t0 r hrl HT0.out la lh)
    rw [← HB.out] at HSE
    obtain ⟨x, hx, hcx⟩ := HSE.out
    have F13 : Fr [] w11 w13 := F12.grown g13 (fun q hq => .inr (own_ltS (own_empty w11 5) q hq).1)
    obtain ⟨g, cap13, rfl, hnc13⟩ : ∃ g cap, v13 = .slice (some ⟨g, 0, none⟩) B.length cap ∧ B.length ≤ cap := by
      rcases own13.2 with ⟨_, hn⟩ | ⟨g, cap, cur, e, hb, hg, hnc, _⟩
      · omega
      · exact ⟨g, cap, e, hnc⟩
    obtain ⟨i, hi⟩ : ∃ i, i = B.length - 1 - r := ⟨_, rfl⟩
    rw [← hi] at hx hcx
    have hil : i < B.length := by omega
    have k2 := own13.cellAt i (by omega)
    rw [bv_get _ _ _ hx] at k2
    have k3 := own13.frozenAt i
    obtain ⟨b0, b1⟩ := HBX.out w13 (FB11.out.trans0 F13)
    have d0 : w13.drew.cell? ⟨w.heap.size, 0, none⟩ = some (.int .u8 t0.toNat) := b0
    have d1 : w13.drew.cell? ⟨w.heap.size, 1, none⟩ = some (.int .u8 t1.toNat) := b1
    have d2 : w13.drew.cell? ⟨g, i, none⟩ = some (.int .u8 x.toNat) := k2
    have d3 : w13.drew.frozen? ⟨g, i, none⟩ = false := k3
    have hE : wrap64 ((B.length : Int) - 1 - (wrap64 (t1.toNat : Int)).tmod (head.length : Int)) = (i : Int) := by
      have ht1 := t1.toNat_lt
      have e1 : wrap64 (t1.toNat : Int) = (t1.toNat : Int) := by unfold wrap64; omega
      have e2 : (t1.toNat : Int).tmod (head.length : Int) = (r : Int) := by rw [hr]; exact (Int.ofNat_tmod _ _).symm
      rw [e1, e2]
      have := HSL.out
      unfold wrap64
      omega
    have HCX := Lib.hid hcx
    have HX := Lib.hid hx
    have HI := Lib.hid hi
    have HR := Lib.hid hr
    clear hx hcx hi hr
    rename_i K0 hK0
    go_cut [] (fun wx => wx = (w13.setCell ⟨g, i, none⟩ (.int .u8 ((x.toNat ^^^ t0.toNat : Nat) : Int))).drew)
    case first =>
      -- <<
      clear hK0
      go_region
      all_goals (go_simp; go_step; go_meet)
      all_goals rw [xor_u8_nat _ _ x.toNat_lt t0.toNat_lt]
      -- >>
    case rest =>
    have o14 := own_frS (own13.stored i (.int .u8 ((x.toNat ^^^ t0.toNat : Nat) : Int))).1 ((Fr.refl [] _).drew) (by simp)
    have hbs : (bv B).set i (.int .u8 ((x.toNat ^^^ t0.toNat : Nat) : Int)) = bv (B.set i (x ^^^ t0)) := by
      rw [← UInt8.toNat_xor]
      unfold bv
      rw [List.map_set]
    rw [hbs] at o14
    have F14 : Fr [] w11 (w13.setCell ⟨g, i, none⟩ (.int .u8 ((x.toNat ^^^ t0.toNat : Nat) : Int))).drew := (F13.setCell (p := ⟨g, i, none⟩) (.inr (own_ltS own13 g rfl).1) _).drew
    rw [← hcut] at o14 F14
    clear hcut
    have HSc := Lib.hid (open_any wc _ (B.set i (x ^^^ t0)) (Sl.of_own o14) (by rw [List.length_set]; omega))
    refine hK0 _ _ ?_
    clear hK0 hE k2 k3 d0 d1 d2 d3 b0 b1
    go_wp2_with (go_at_call 11; refine HSc.out.mono ?_; intro e w15 hr; obtain ⟨p1, p2, rfl, hp1', hp2', F15⟩ := hr.out; rw [HCX.out]; obtain ⟨po3, pc3, rfl, -⟩ := hp1'.outB; obtain ⟨po4, pc4, rfl, -⟩ := hp2'.outB; clear hr hp1' hp2')
    go_ret
    exact ⟨rfl, FW11.out.trans0 (F14.trans0 F15)⟩
end Go.Proofs.YtkodindajfdagaaGreatDoor
