/- Contracts: slices.Concat of four rows of bytes; headerw.Seal. No condition but that lengths fit. -/
import Derived.Test.YthbkcjlpelihlaaGreatDoorGAE
import Derived.Test.YthbkcjlpelihlaaGreatDoorHOpenAM
import Derived.Lib.AppendZerosOnto
import Derived.LoopN
import Derived.Test.YthbkcjlpelihlaaGreatDoorGAD
namespace Go.Proofs.YthbkcjlpelihlaaGreatDoor
open Go.RowKit Go.Lib

theorem eput_le (b : List UInt8) (k v : Nat) (h : Cur.sized (k : Int) = true) : put b (k : Int) v = b ++ leBytes k v := by
  unfold put
  rw [if_pos h]
  rfl

/-- 'append(nil, make([]uint8, n)...)'. -/
theorem wpList_zerosB {w : World} {ops : Array Oper} {rest : List Oper} {o : Oper} {a : Act} {Q : Exit → Act → World → Prop} (hgd : o.guard = none) (s x : Operand)
    (ho : o.op = .call { callee := .builtin .append, args := #[s, x], argTypes := #[26, 3] }) (n : Nat) (hs : a.eval s = .slice none 0 0) (hx : a.eval x = .int .i64 n) (h0 : 0 < n) (hn : n ≤ 1000000000)
    (h : ∀ G w', n ≤ G → G ≤ 9223372036854775807 → w'.ownsRow w.heap.size 5 1 (.slice (some ⟨w.heap.size, 0, none⟩) 0 G) 0 [] → Fr [] w w' → wpList Tryz.prog ops Q rest (a.put o.dst (.slice (some ⟨w.heap.size, 0, none⟩) n G)) w') :
    wpList Tryz.prog ops Q (o :: rest) a w := by
  obtain ⟨i0, hi, hz0, hz1, hz2⟩ := info_parts info_u8
  have hrun := fun ty => run_append_grow_zeros (P := Tryz.prog) w 26 3 ty 5 i0 (.int .u8 0) .i64 .i64 Tryz.underlying26 Tryz.underlying3 hi hz0 none 0 0 [] (run_firstCells_none w.drew _ 0 0 0) n (by omega) (by omega) (by omega) (by omega) (by rw [hz2]; omega) (by rw [hz2]; have := nextslicecap_le (need := 0 + n) (old := 0) (by omega); omega)
  simp only [Nat.zero_add] at hrun
  have hge := grownCap_ge w n 0 5
  have hle := grownCap_le_maxLen w n 0 5 (by unfold maxLen; omega)
  generalize grownCap w n 0 5 = G at hrun hge hle
  refine wpList_plain hgd fun K hK => ?_
  unfold Oper.wp
  simp [execOp, ho, resolve, invoke, builtin, hs, hx, hrun, Result.andThen]
  refine hK _ _ (h G _ hge (by unfold maxLen at hle; omega) ?_ ?_)
  · refine ⟨rfl, .inr ⟨w.heap.size, G, _, rfl, Nat.le_refl _, heap_alloc_new w.drew _, Nat.zero_le _, hle, ?_, by simp⟩⟩
    simp [Builtin.zeroCells, Value.cells]
    omega
  · exact ((Fr.refl _ _).drew).alloc _

theorem growb_any (w : World) (n : Nat) (hn : n ≤ 1000000000) :
    Calls Tryz.prog 52 #[.slice none 0 0, .int .i64 n] w fun e w' => ∃ r, e = .returned r ∧ w'.ownsRow w.heap.size 5 1 r 0 [] ∧ Fr [] w w' := by
  by_cases h0 : n = 0
  · subst h0
    go_enter Tryz.func52, Tryz.ntmps52
    go_wp2
    go_ret
    exact ⟨_, rfl, World.ownsRow_nil _ _ _ _, Fr.refl _ _⟩
  · have hpos : (0 : Int) < n := by omega
    go_enter Tryz.func52, Tryz.ntmps52
    go_wp2_with (at_builtin; refine wpList_zerosB rfl _ _ (by rfl) n (by rfl) (by rfl) (by omega) hn ?_; intro G w1 hge hle hown F1)
    go_ret
    exact ⟨_, rfl, hown, F1⟩


theorem cells4 {w wr : World} {g : Nat} {t : TypeId} {a0 a1 a2 a3 : Value} (hg : g < w.heap.size) (h : w.heap[g]? = some (.cells #[a0, a1, a2, a3] t)) (F : Fr [] w wr) :
    wr.cell? ⟨g, 0, none⟩ = some a0 ∧ wr.cell? ⟨g, 1, none⟩ = some a1 ∧ wr.cell? ⟨g, 2, none⟩ = some a2 ∧ wr.cell? ⟨g, 3, none⟩ = some a3 := by
  have key : ∀ (i : Nat), wr.cell? ⟨g, i, none⟩ = #[a0, a1, a2, a3][i]? := fun i => by
    rw [F.cell (p := ⟨g, i, none⟩) hg (by simp), Go.Joins.cell_of_block h]
  exact ⟨by rw [key]; rfl, by rw [key]; rfl, by rw [key]; rfl, by rw [key]; rfl⟩

set_option maxRecDepth 100000 in
set_option maxHeartbeats 2000000 in
/-- 'slices.Concat(a, b, c, d)'. -/
theorem concatb_any (w : World) (g : Nat) (t : TypeId) (va vb vc vd : Value) (a b c d : List UInt8) (hg : w.heap[g]? = some (.cells #[va, vb, vc, vd] t)) (ha : Sl w va (bv a)) (hb : Sl w vb (bv b)) (hc : Sl w vc (bv c)) (hd : Sl w vd (bv d))
    (la : a.length ≤ 100000) (lb : b.length ≤ 100000) (lc : c.length ≤ 100000) (ld : d.length ≤ 100000) :
    Calls Tryz.prog 29 #[.slice (some ⟨g, 0, none⟩) 4 4] w fun e w' => ∃ r, e = .returned r ∧ Sl w' r (bv (a ++ b ++ c ++ d)) ∧ Fr [] w w' := by
  have HA := Lib.hid ha
  have HB := Lib.hid hb
  have HC := Lib.hid hc
  have HD := Lib.hid hd
  have HL : g < w.heap.size := (Array.getElem?_eq_some_iff.1 hg).1
  obtain ⟨aoa, capa, rfl, ga, ma, -⟩ := ha.out
  obtain ⟨aob, capb, rfl, gb, mb, -⟩ := hb.out
  obtain ⟨aoc, capc, rfl, gc, mc, -⟩ := hc.out
  obtain ⟨aod, capd, rfl, gd, md, -⟩ := hd.out
  have HK := Lib.hid (fun wx (F : Fr [] w wx) => cells4 HL hg F)
  obtain ⟨k0, k1, k2, k3⟩ := HK.out w (Fr.refl _ _)
  clear ha hb hc hd hg
  simp only [bv_length] at *
  go_enter Tryz.func29, Tryz.ntmps29
  go_wp2_with fail
  refine wp_loop_rounds 5 ?_
  rw [rounds_succ]
  go_wp2_with fail
  rw [rounds_succ]
  go_wp2_with fail
  rw [rounds_succ]
  go_wp2_with fail
  rw [rounds_succ]
  go_wp2_with fail
  rw [rounds_succ]
  go_wp2_with fail
  rw [show ((a.length : Int) + (b.length : Int) + (c.length : Int) + (d.length : Int)) = ((a.length + b.length + c.length + d.length : Nat) : Int) from by push_cast; rfl]
  refine (growb_any w _ (by omega)).mono ?_
  rintro e w1 ⟨r, rfl, own1, F1⟩
  obtain ⟨q0, q1, q2, q3⟩ := HK.out w1 F1
  clear k0 k1 k2 k3
  obtain ⟨ro, rc, rfl, -⟩ := own_out own1
  go_wp2_with fail
  refine wp_loop_rounds 5 ?_
  rw [rounds_succ]
  go_wp2_with (at_builtin; refine wpList_append_sl sty_u8 rfl _ _ (by rfl) w.heap.size _ _ _ (by rfl) own1 _ _ (by rfl) (HA.out.fr0 F1) (bv_one _) (by simp only [bv_length]; omega) (by simp only [bv_length]; omega) F1.size ?_)
  intro v2 w2 own2 g2
  have F2 : Fr [] w w2 := F1.grown g2 (fun q hq => .inr (own1.lt q hq).1)
  simp only [bv_length] at own2
  obtain ⟨ro2, rc2, rfl, -⟩ := own_out own2
  clear q0 q1 q2 q3 g2
  obtain ⟨q0, q1, q2, q3⟩ := HK.out w2 F2
  go_wp2_with fail
  rw [rounds_succ]
  go_wp2_with (at_builtin; refine wpList_append_sl sty_u8 rfl _ _ (by rfl) w.heap.size _ _ _ (by rfl) own2 _ _ (by rfl) (HB.out.fr0 F2) (bv_one _) (by simp only [bv_length]; omega) (by simp only [bv_length]; omega) F2.size ?_)
  intro v3 w3 own3 g3
  have F3 : Fr [] w w3 := F2.grown g3 (fun q hq => .inr (own2.lt q hq).1)
  simp only [bv_length] at own3
  obtain ⟨ro3, rc3, rfl, -⟩ := own_out own3
  clear q0 q1 q2 q3 g3
  obtain ⟨q0, q1, q2, q3⟩ := HK.out w3 F3
  go_wp2_with fail
  rw [rounds_succ]
  go_wp2_with (at_builtin; refine wpList_append_sl sty_u8 rfl _ _ (by rfl) w.heap.size _ _ _ (by rfl) own3 _ _ (by rfl) (HC.out.fr0 F3) (bv_one _) (by simp only [bv_length]; omega) (by simp only [bv_length]; omega) F3.size ?_)
  intro v4 w4 own4 g4
  have F4 : Fr [] w w4 := F3.grown g4 (fun q hq => .inr (own3.lt q hq).1)
  simp only [bv_length] at own4
  obtain ⟨ro4, rc4, rfl, -⟩ := own_out own4
  clear q0 q1 q2 q3 g4
  obtain ⟨q0, q1, q2, q3⟩ := HK.out w4 F4
  go_wp2_with fail
  rw [rounds_succ]
  go_wp2_with (at_builtin; refine wpList_append_sl sty_u8 rfl _ _ (by rfl) w.heap.size _ _ _ (by rfl) own4 _ _ (by rfl) (HD.out.fr0 F4) (bv_one _) (by simp only [bv_length]; omega) (by simp only [bv_length]; omega) F4.size ?_)
  intro v5 w5 own5 g5
  have F5 : Fr [] w w5 := F4.grown g5 (fun q hq => .inr (own4.lt q hq).1)
  simp only [bv_length] at own5
  obtain ⟨ro5, rc5, rfl, -⟩ := own_out own5
  clear q0 q1 q2 q3 g5
  obtain ⟨q0, q1, q2, q3⟩ := HK.out w5 F5
  go_wp2_with fail
  rw [rounds_succ]
  go_wp2_with fail
  go_ret
  refine ⟨_, rfl, ?_, F5⟩
  have := Sl.of_own own5
  simp only [List.append_assoc, bv_append] at this ⊢
  exact this
/- The two Seals. -/
theorem Fr.of_eq {a b : World} (h : b = a) : Fr [] a b := h ▸ Fr.refl _ _

set_option maxRecDepth 100000 in
set_option maxHeartbeats 4000000 in
theorem seal_any (w : World) (va vh : Value) (area head : List UInt8) (ha : Sl w va (bv area)) (hh : Sl w vh (bv head)) (la : area.length ≤ 16384) (lh : head.length ≤ 16384) :
    Calls Tryz.prog 10 #[va, vh] w fun e w' => ∃ r, e = .returned r ∧ Sl w' r (bv (sealL area head)) ∧ Fr [] w w' := by
  obtain ⟨ao, acap, rfl, -, -, -⟩ := ha.out
  obtain ⟨ho, hcap, rfl, -, -, -⟩ := hh.out
  rw [bv_length] at ha hh
  rw [bv_length, bv_length]
  have HA0 := Lib.hid ha
  have HH := Lib.hid hh
  clear ha hh
  have hsl := sealA_len area head
  have HAE := Lib.hid (show (head = [] → sealA area head = []) ∧ (head ≠ [] → sealA area head = area) from ⟨fun h => if_pos h, fun h => if_neg h⟩)
  have HL := Lib.hid (show sealL area head = (([55, 122, 188, 175, 39, 28, 0, 4] ++ leBytes 4 (crcL ((leBytes 8 (sealA area head).length ++ leBytes 8 head.length) ++ leBytes 4 (crcL head)))) ++ ((leBytes 8 (sealA area head).length ++ leBytes 8 head.length) ++ leBytes 4 (crcL head))) ++ sealA area head ++ head by
    unfold sealL sealHead sealStart
    simp only [List.append_assoc])
  generalize sealA area head = A at *
  go_enter Tryz.func10, Tryz.ntmps10
  refine wp_seq_k fun K0 hK0 => ?_
  go_cut [4] (fun v4 wx => v4 = .slice none 0 0 ∧ wx = w)
  case first =>
    clear hK0
    go_wp2_with fail
    go_meet
    case rel => exact ⟨rfl, rfl⟩
  case rest =>
  obtain ⟨rfl, hw⟩ := hcut
  have hw' := hw.symm
  clear hw
  subst hw'
  (refine hK0 _ _ ?_; clear hK0; refine wp_seq_k fun K1 hK1 => ?_)
  go_cut [0] (fun v0 wx => ∃ ao cap, v0 = .slice ao A.length cap ∧ Sl w (.slice ao A.length cap) (bv A) ∧ wx = w)
  case first =>
    clear hK1
    by_cases h0 : head = []
    · have hA := HAE.out.1 h0
      have t0 : ((head.length : Int) == 0) = true := by rw [h0]; rfl
      clear h0
      go_wp2_with fail
      go_meet
      case rel => exact ⟨none, 0, by rw [hA]; rfl, by rw [hA]; exact Sl.nil _, rfl⟩
    · have hA := HAE.out.2 h0
      have t0 : ((head.length : Int) == 0) = false := by
        rw [beq_eq_false_iff_ne]
        have := List.length_pos_iff.2 h0
        omega
      clear h0
      go_wp2_with fail
      go_meet
      case rel => exact ⟨ao, acap, by rw [hA], by rw [hA]; exact HA0.out, rfl⟩
  case rest =>
  obtain ⟨ao2, acap2, rfl, hA, hw⟩ := hcut
  have hw' := hw.symm
  clear hw HA0
  subst hw'
  refine hK1 _ _ ?_
  clear hK1
  have HA := Lib.hid hA
  clear hA
  have hw1 : IntKind.u64.wrap (A.length : Int) = (A.length : Int) := by simp [IntKind.wrap, IntKind.bits, IntKind.signed]; omega
  have hw2 : IntKind.u64.wrap (head.length : Int) = (head.length : Int) := by simp [IntKind.wrap, IntKind.bits, IntKind.signed]; omega
  have hc1 := crcL_lt head
  obtain ⟨C1, hC1⟩ : ∃ C1, C1 = crcL head := ⟨_, rfl⟩
  rw [← hC1] at hc1 HL
  have hw3 : IntKind.u64.wrap (C1 : Int) = (C1 : Int) := by simp [IntKind.wrap, IntKind.bits, IntKind.signed]; omega
  obtain ⟨st, hst⟩ : ∃ st, st = (leBytes 8 A.length ++ leBytes 8 head.length) ++ leBytes 4 C1 := ⟨_, rfl⟩
  rw [← hst] at HL
  have hsl3 : st.length = 20 := by rw [hst]; simp [leBytes_length]
  have hc2 := crcL_lt st
  obtain ⟨C2, hC2⟩ : ∃ C2, C2 = crcL st := ⟨_, rfl⟩
  rw [← hC2] at hc2 HL
  have hw4 : IntKind.u64.wrap (C2 : Int) = (C2 : Int) := by simp [IntKind.wrap, IntKind.bits, IntKind.signed]; omega
  obtain ⟨out, hout⟩ : ∃ out, out = ([55, 122, 188, 175, 39, 28, 0, 4] ++ leBytes 4 C2 : List UInt8) := ⟨_, rfl⟩
  rw [← hout] at HL
  obtain ⟨P1, hP1⟩ : ∃ P1, P1 = leBytes 8 A.length := ⟨_, rfl⟩
  rw [← hP1] at hst
  obtain ⟨P2, hP2⟩ : ∃ P2, P2 = P1 ++ leBytes 8 head.length := ⟨_, rfl⟩
  rw [← hP2] at hst
  have HP1 := Lib.hid (show put [] (8 : Nat) A.length = P1 by rw [hP1]; exact eput_le [] 8 _ (by decide))
  have HP2 := Lib.hid (show put P1 (8 : Nat) head.length = P2 by rw [hP2]; exact eput_le _ 8 _ (by decide))
  have HP3 := Lib.hid (show put P2 (4 : Nat) C1 = st by rw [hst]; exact eput_le _ 4 _ (by decide))
  have HP4 := Lib.hid (show put [55, 122, 188, 175, 39, 28, 0, 4] (4 : Nat) C2 = out by rw [hout]; exact eput_le _ 4 _ (by decide))
  have HLB := Lib.hid (show P1.length = 8 ∧ P2.length = 16 ∧ out.length = 12 ∧ st.length = 20 from ⟨by rw [hP1, leBytes_length], by rw [hP2, hP1]; simp [leBytes_length], by rw [hout]; simp [leBytes_length], hsl3⟩)
  have HC1 := Lib.hid hC1
  have HC2 := Lib.hid hC2
  clear hst hC1 hC2 hP1 hP2 hout hsl3
  go_upto_region 8 with (first
    | (have hq := O2; go_at_call 27; refine (put_any W5 _ [55, 122, 188, 175, 39, 28, 0, 4] (4 : Nat) C2 (HO.out.fr0 GW5) (by decide) (by omega)).mono ?_; rw [HP4.out]; rintro e W6 ⟨r6, rfl, o6, G6⟩; obtain ⟨ro6, rc6, rfl, -⟩ := own_out o6; have HO6 := Lib.hid (Sl.of_own o6); have HS6 := Lib.hid ((HS3.out.fr0 (GL.trans0 GW5)).fr0 G6); have FF6 := (FF3.trans0 (GL.trans0 GW5)).trans0 G6)
    | (have hq := O1; go_at_call 28; refine (crcof_any _ _ st (HS3.out.fr0 ((Fr.refl [] W3).alloc _)) (by have := HLB.out.2.2.2; omega)).mono ?_; rw [← HC2.out]; rintro e W5 ⟨rfl, GW5⟩; have O2 := 0; have GL : Fr [] W3 (W3.alloc (.cells #[.int .u8 55, .int .u8 122, .int .u8 188, .int .u8 175, .int .u8 39, .int .u8 28, .int .u8 0, .int .u8 4] 5)) := (Fr.refl _ _).alloc _; have HO := Lib.hid (sl_lit W3 5 (bv [55, 122, 188, 175, 39, 28, 0, 4]) 8 rfl (by decide)))
    | (have hq := D1; go_at_call 27; refine (put_any W4 _ P2 (4 : Nat) C1 (HS2.out.fr0 GW4) (by have := HLB.out.2.1; omega) (by omega)).mono ?_; rw [HP3.out]; rintro e W3 ⟨r3, rfl, o3, G3⟩; obtain ⟨ro3, rc3, rfl, -⟩ := own_out o3; have HS3 := Lib.hid (Sl.of_own o3); have FF3 := (FF2.trans0 GW4).trans0 G3; have O1 := 0)
    | (have hq := S2; go_at_call 28; refine (crcof_any W2 _ head (HH.out.fr0 FF2) (by omega)).mono ?_; rw [← HC1.out]; rintro e W4 ⟨rfl, GW4⟩; have D1 := 0)
    | (have hq := S1; go_at_call 27; refine (put_any W1 _ P1 (8 : Nat) head.length (Sl.of_own o1) (by have := HLB.out.1; omega) (by omega)).mono ?_; rw [HP2.out]; rintro e W2 ⟨r2, rfl, o2, G2⟩; obtain ⟨ro2, rc2, rfl, -⟩ := own_out o2; have HS2 := Lib.hid (Sl.of_own o2); have FF2 := G1.trans0 G2; have S2 := 0)
    | (go_at_call 27; refine (put_any w _ [] (8 : Nat) A.length (Sl.nil w) (by decide) (by omega)).mono ?_; rw [HP1.out]; rintro e W1 ⟨r1, rfl, o1, G1⟩; obtain ⟨ro1, rc1, rfl, -⟩ := own_out o1; have S1 := 0))
  have FA := (Fr.refl [] W6).alloc (.cells #[.slice ro6 out.length rc6, .slice ro3 st.length rc3, .slice ao2 A.length acap2, .slice ho head.length hcap] 26)
  have HCC := Lib.hid (concatb_any (W6.alloc (.cells #[.slice ro6 out.length rc6, .slice ro3 st.length rc3, .slice ao2 A.length acap2, .slice ho head.length hcap] 26)) W6.heap.size 26 _ _ _ _ out st A head (heap_alloc_new W6 _) (HO6.out.fr0 FA) (HS6.out.fr0 FA) (HA.out.fr0 (FF6.trans0 FA)) (HH.out.fr0 (FF6.trans0 FA)) (by have := HLB.out.2.2.1; omega) (by have := HLB.out.2.2.2; omega) (by omega) (by omega))
  rw [← HL.out] at HCC
  go_wp2_with (go_at_call 29; refine HCC.out.mono ?_; rintro e W7 ⟨r7, rfl, h7, F7⟩)
  go_ret
  exact ⟨_, rfl, h7, (FF6.trans0 FA).trans0 F7⟩

end Go.Proofs.YthbkcjlpelihlaaGreatDoor
/- A book without folders; the head of an empty archive. No condition. -/
namespace Go.Proofs.YthbkcjlpelihlaaGreatDoor
open Go.RowKit

theorem folders_none {w : World} {g mp fc : Nat} {fao : Option Addr} {av pv cv sv ev x9 x10 : Value} (h : BkAt w g mp av pv cv (.slice fao 0 fc) sv ev x9 x10) :
    Calls Tryz.prog 103 #[.pointer (some ⟨g, 0, none⟩)] w fun e w' => e = .returned (.int .i64 0) ∧ w' = w := by
  obtain ⟨c0, c1, c2, c3, c4, c5, c6, c7, c8, c9, c10, cf⟩ := cells11 h.blk
  clear h
  go_enter Tryz.func103, Tryz.ntmps103
  go_wp2_with fail
  go_ret
  exact ⟨rfl, rfl⟩
theorem head_nil : opHead (sealL [] []) = [] ∧ opCode (sealL [] []) = 0 := by
  obtain ⟨h1, h2, h3⟩ := seal_open [] [] (by decide) (by decide)
  exact ⟨h3, h1⟩
end Go.Proofs.YthbkcjlpelihlaaGreatDoor
