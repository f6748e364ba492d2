/- The reference's streams: packs. No condition but that lengths fit. -/
import Derived.Test.YtkodindajfdagaaDoorGAV
import Derived.Test.YtkodindajfdagaaDoorWMayTM
import Derived.Deep.RegionHeld3
namespace Go.Proofs.YtkodindajfdagaaDoor
open Go.RowKit

noncomputable def sc (l : List Bool) : Code := cpart l (Tryd.f14.body.getD .skip)
/-- Behind some steps slot 3 holds the bytes cs. -/
def SB (wA : World) (g : Nat) (cs : List UInt8) (a : Act) (w' : World) : Prop :=
  ∃ A v, a = ⟨A, []⟩ ∧ A.size = 335 ∧ (∀ h : 1 < A.size, A[1] = .pointer (some ⟨g, 0, none⟩)) ∧ (∀ h : 3 < A.size, A[3] = v) ∧ StB wA.heap.size wA (.slice none 0 0) v cs w'

/-- The packs' loop. -/
def SPI (wA : World) (g : Nat) (c4 : List UInt8) (ps : List UInt64) (k : Nat) (a : Act) (w' : World) : Prop :=
  ∃ A v, a = ⟨A, []⟩ ∧ A.size = 335 ∧ Slots A [(1, .pointer (some ⟨g, 0, none⟩)), (3, v), (4, .int .i64 (k : Int))] ∧ StB wA.heap.size wA (.slice none 0 0) v (c4 ++ numsB (ps.take k)) w'
def SPJ (wA : World) (g : Nat) (c4 : List UInt8) (ps : List UInt64) (k : Nat) (a : Act) (w' : World) : Prop :=
  ∃ A v, a = ⟨A, []⟩ ∧ A.size = 335 ∧ Slots A [(1, .pointer (some ⟨g, 0, none⟩)), (3, v), (4, .int .i64 (k : Int))] ∧ StB wA.heap.size wA (.slice none 0 0) v (c4 ++ numsB (ps.take (k + 1))) w'

set_option maxRecDepth 100000 in
set_option maxHeartbeats 400000 in
theorem sp_loop (wA w : World) (g : Nat) (A : Array Value) (v : Value) (c4 : List UInt8) (pao : Option Addr) (pcap NP : Nat) (ps : List UInt64) (hz : A.size = 335)
    (h1 : ∀ h : 1 < A.size, A[1] = .pointer (some ⟨g, 0, none⟩)) (h3 : ∀ h : 3 < A.size, A[3] = v) (h4 : ∀ h : 4 < A.size, A[4] = .int .i64 0)
    (S : StB wA.heap.size wA (.slice none 0 0) v c4 w) (hNP : ps.length = NP) (hP : RowAt wA wA.heap.size 1 (.slice pao NP pcap) NP (u64v ps)) (hlen : NP ≤ 100000) (hl : c4.length + (numsB ps).length ≤ 40000000)
    (HBX : ∀ wx, Fr [] wA wx → wx.cell? ⟨g, 2, none⟩ = some (.slice pao NP pcap)) :
    (sc [true, true, false, true, false, true, true, false, true]).wp Tryd.prog (Only (SB wA g (c4 ++ numsB ps))) ⟨A, []⟩ w := by
  have HBa := Lib.hid (Nat.le_refl wA.heap.size)
  conv => arg 2; whnf
  refine for_count (N := NP) (SPI wA g c4 ps) (SPJ wA g c4 ps) ⟨A, v, rfl, hz, ⟨h1, h3, h4, trivial⟩, by rw [List.take_zero, show numsB [] = [] from rfl, List.append_nil]; exact S⟩ ?_ ?_ ?_ ?_
  · clear h1 h3 h4 hz S
    rintro k _ wr hk ⟨A, v, rfl, hz, ⟨h1, h3, h4, -⟩, SK⟩
    have hB := HBX wr SK.fr
    have HSK := Lib.hid SK
    clear SK HBX hP hl
    refine only_hide fun R HR => ?_
    go_wp2_with fail
    exact only_mk (HR.out _ _ ⟨by simp [Act.eval, hz], _, v, rfl, by simp [hz], ⟨fun _ => by simp [slot_set, h1], fun _ => by simp [slot_set, h3], fun _ => by simp [slot_set, h4], trivial⟩, HSK.out⟩)
  · clear h1 h3 h4 hz S
    rintro k _ wr hk ⟨A, v, rfl, hz, ⟨h1, h3, h4, -⟩, SK⟩
    have hB := HBX wr SK.fr
    obtain ⟨x, hx⟩ := some_get ps k (by omega)
    obtain ⟨b1, o1, hao, hb1, e0⟩ := (hP.fr0 SK.fr).word hx hk
    subst hao
    have hle := numsB_le (l := ps) k
    have HTK := Lib.hid (show c4 ++ numsB (ps.take (k + 1)) = (c4 ++ numsB (ps.take k)) ++ shortN x.toNat by rw [numsB_take hx, List.append_assoc])
    have HYL := Lib.hid (show (c4 ++ numsB (ps.take k)).length ≤ 40000000 by rw [List.length_append]; omega)
    have hx64 := x.toNat_lt
    have HSK := Lib.hid SK
    obtain ⟨vo, vc, rfl, -⟩ := own_out SK.own
    generalize c4 ++ numsB (ps.take k) = Y at *
    have hkI : (k : Int) < (NP : Int) := by omega
    clear hx SK hle hl hP HBX hNP
    refine only_hide fun R HR => ?_
    go_wp2_with (go_at_call 30; refine (num_sb HSK.out (Fr.refl _ _) HBa.out x.toNat (by have := HYL.out; omega) hx64).mono ?_; rintro e w7 ⟨r7, rfl, S7⟩; rw [← HTK.out] at S7; obtain ⟨ro7, rc7, rfl, -⟩ := own_out S7.own)
    exact only_mk (HR.out _ _ ⟨_, _, rfl, by simp [hz], ⟨fun _ => by simp [slot_set, h1], fun _ => by simp, fun _ => by simp [slot_set, h4], trivial⟩, S7⟩)
  · clear h1 h3 h4 hz S
    rintro k _ wr hk ⟨A, v, rfl, hz, ⟨h1, h3, h4, -⟩, SK⟩
    have HSK := Lib.hid SK
    clear SK HBX hP hl
    refine only_hide fun R HR => ?_
    go_wp2_with fail
    exact only_mk (HR.out _ _ ⟨_, v, rfl, by simp [hz], ⟨fun _ => by simp [slot_set, h1], fun _ => by simp [slot_set, h3], fun _ => by simp, trivial⟩, HSK.out⟩)
  · rintro _ wr ⟨A, v, rfl, hz, ⟨h1, h3, h4, -⟩, SK⟩
    rw [List.take_of_length_le (by omega)] at SK
    exact ⟨A, v, rfl, hz, h1, h3, SK⟩

set_option maxRecDepth 100000 in
set_option maxHeartbeats 1000000 in
theorem sp_head (wA : World) (g : Nat) (A : Array Value) (pl : UInt64) (pao : Option Addr) (pcap NP : Nat) (hz : A.size = 335)
    (h1 : ∀ h : 1 < A.size, A[1] = .pointer (some ⟨g, 0, none⟩)) (h3 : ∀ h : 3 < A.size, A[3] = .slice none 0 0) (hlen : NP ≤ 100000)
    (HBX : ∀ wx, Fr [] wA wx → wx.cell? ⟨g, 1, none⟩ = some (.int .u64 pl.toNat) ∧ wx.cell? ⟨g, 2, none⟩ = some (.slice pao NP pcap)) :
    (sc [true, true, false, true, false, false]).wp Tryd.prog (Only (SB wA g (6 :: (shortN pl.toNat ++ shortN NP)))) ⟨A, []⟩ wA := by
  have HBa := Lib.hid (Nat.le_refl wA.heap.size)
  have HS0 := Lib.hid (StB.none wA)
  have hpl64 := pl.toNat_lt
  have hwr : IntKind.u64.wrap (NP : Int) = (NP : Int) := by simp [IntKind.wrap, IntKind.bits, IntKind.signed]; omega
  have hwrI : IntKind.u64.wrap (IntKind.i64.wrap (NP : Int)) = (NP : Int) := by simp [IntKind.wrap, IntKind.bits, IntKind.signed]; omega
  have hsp := shortN_le pl.toNat
  obtain ⟨c1, hc1⟩ : ∃ c1 : List UInt8, c1 = [] ++ [6] := ⟨_, rfl⟩
  obtain ⟨c2, hc2⟩ : ∃ c2, c2 = c1 ++ shortN pl.toNat := ⟨_, rfl⟩
  obtain ⟨c3, hc3⟩ : ∃ c3, c3 = c2 ++ shortN NP := ⟨_, rfl⟩
  have HC1 := Lib.hid hc1
  have HC2 := Lib.hid hc2
  have HC3 := Lib.hid hc3
  have HL3 := Lib.hid (show c1.length ≤ 1000 ∧ c2.length ≤ 1000 from by
    have g1 := congrArg List.length hc1
    have g2 := congrArg List.length hc2
    simp only [List.length_append, List.length_cons, List.length_nil] at g1 g2
    omega)
  have HE := Lib.hid (show 6 :: (shortN pl.toNat ++ shortN NP) = c3 by rw [hc3, hc2, hc1]; simp)
  have HBH := Lib.hid HBX
  obtain ⟨k1, k2⟩ := HBX wA (Fr.refl _ _)
  clear hc1 hc2 hc3 hsp HBX
  conv => arg 2; whnf
  rw [HE.out]
  refine only_hide fun R HR => ?_
  refine wp_region_held_drew (S := fun wx => wx.cell? ⟨g, 1, none⟩ = some (.int .u64 pl.toNat) ∧ wx.cell? ⟨g, 2, none⟩ = some (.slice pao NP pcap)) (by kernel_rfl) (HBH.out _ (Fr.refl [] wA).drew) (fun _ => ?_)
  refine wpAnyH_take (i := 0) (v := ?_) (arr_get _ 0 _ rfl) (by kernel_rfl) (by kernel_rfl) (by kernel_rfl) (fun _ _ _ h => by cases h.1) (Or.inl ⟨by rfl, ?_⟩) (HBH.out _ (Fr.refl [] wA).drew) ?_
  rotate_left
  · rintro w ⟨f1, f2⟩
    go_simp
    all_goals with_reducible rfl
  try simp only [Act.put]
  refine wpAnyH_take (i := 3) (v := ?_) (arr_get _ 3 _ rfl) (by kernel_rfl) (by kernel_rfl) (by kernel_rfl) (fun _ _ _ h => by cases h.1) (Or.inl ⟨by rfl, ?_⟩) (HBH.out _ (Fr.refl [] wA).drew) ?_
  rotate_left
  · rintro w ⟨f1, f2⟩
    go_simp
    all_goals with_reducible rfl
  try simp only [Act.put]
  refine wpAnyH_take (i := 4) (v := ?_) (arr_get _ 4 _ rfl) (by kernel_rfl) (by kernel_rfl) (by kernel_rfl) (fun _ _ _ h => by cases h.1) (Or.inl ⟨by rfl, ?_⟩) (HBH.out _ (Fr.refl [] wA).drew) ?_
  rotate_left
  · rintro w ⟨f1, f2⟩
    go_simp
    all_goals with_reducible rfl
  try simp only [Act.put]
  refine wpAnyH_take (i := 6) (v := ?_) (arr_get _ 6 _ rfl) (by kernel_rfl) (by kernel_rfl) (by kernel_rfl) (fun _ _ _ h => by cases h.1) (Or.inl ⟨by rfl, ?_⟩) (HBH.out _ (Fr.refl [] wA).drew) ?_
  rotate_left
  · rintro w ⟨f1, f2⟩
    go_simp
    all_goals with_reducible rfl
  try simp only [Act.put]
  refine wpAnyH_take (i := 7) (v := ?_) (arr_get _ 7 _ rfl) (by kernel_rfl) (by kernel_rfl) (by kernel_rfl) (fun _ _ _ h => by cases h.1) (Or.inl ⟨by rfl, ?_⟩) (HBH.out _ (Fr.refl [] wA).drew) ?_
  rotate_left
  · rintro w ⟨f1, f2⟩
    go_simp
    all_goals with_reducible rfl
  try simp only [Act.put]
  refine wpAnyH_take (i := 8) (v := ?_) (arr_get _ 8 _ rfl) (by kernel_rfl) (by kernel_rfl) (by kernel_rfl) (fun _ _ _ h => by cases h.1) (Or.inl ⟨by rfl, ?_⟩) (HBH.out _ (Fr.refl [] wA).drew) ?_
  rotate_left
  · rintro w ⟨f1, f2⟩
    go_simp
    all_goals with_reducible rfl
  try simp only [Act.put]
  refine wpAnyH_take (i := 9) (v := ?_) (arr_get _ 9 _ rfl) (by kernel_rfl) (by kernel_rfl) (by kernel_rfl) (fun _ _ _ h => by cases h.1) (Or.inl ⟨by rfl, ?_⟩) (HBH.out _ (Fr.refl [] wA).drew) ?_
  rotate_left
  · rintro w ⟨f1, f2⟩
    go_simp
    all_goals with_reducible rfl
  try simp only [Act.put]
  refine wpAnyH_ready (rs := [1]) (by kernel_rfl) (by simp) ?_
  refine AllReadyH.cons (arr_get _ 1 _ rfl) (fun K hK => ?_) AllReadyH.nil
  go_simp
  refine hK.out _ _ (HBH.out _ ((Fr.refl [] wA).drew.alloc _)) (fun _ => ?_)
  clear hK K
  try simp only [Act.put]
  refine wpAnyH_ready (rs := [2]) (by kernel_rfl) (by simp) ?_
  refine AllReadyH.cons (arr_get _ 2 _ rfl) (fun K hK => ?_) AllReadyH.nil
  refine step_append_b0 sty_u8 rfl (.tmp 30) (.tmp 31) (by rfl) HS0.out ((Fr.refl [] wA).drew.alloc _) (by go_simp) _ [6] (by go_simp) (sl_one _ _ _) (by decide) ?_; intro v1 w1 S1; rw [← HC1.out] at S1; obtain ⟨ro1, rc1, rfl, -⟩ := own_out S1.own
  refine hK.out _ _ (HBH.out _ S1.fr) (fun _ => ?_)
  clear hK K
  try simp only [Act.put]
  refine wpAnyH_ready (rs := [5]) (by kernel_rfl) (by simp) ?_
  refine AllReadyH.cons (arr_get _ 5 _ rfl) (fun K hK => ?_) AllReadyH.nil
  go_simp
  (go_at_call 30; refine (num_sb S1 (Fr.refl _ _) HBa.out pl.toNat (by have := HL3.out; omega) hpl64).mono ?_; rintro e w2 ⟨r2, rfl, S2⟩; rw [← HC2.out] at S2; obtain ⟨ro2, rc2, rfl, -⟩ := own_out S2.own)
  refine hK.out _ _ (HBH.out _ S2.fr) (fun _ => ?_)
  clear hK K
  try simp only [Act.put]
  refine wpAnyH_ready (rs := [10]) (by kernel_rfl) (by simp) ?_
  refine AllReadyH.cons (arr_get _ 10 _ rfl) (fun K hK => ?_) AllReadyH.nil
  go_simp
  (go_at_call 30; refine (num_sb S2 (Fr.refl _ _) HBa.out NP (by have := HL3.out; omega) (by omega)).mono ?_; rintro e w3 ⟨r3, rfl, S3⟩; rw [← HC3.out] at S3; obtain ⟨ro3, rc3, rfl, -⟩ := own_out S3.own)
  refine hK.out _ _ (HBH.out _ S3.fr) (fun _ => ?_)
  clear hK K
  try simp only [Act.put]
  refine wpAnyH_ready (rs := [11]) (by kernel_rfl) (by simp) ?_
  refine AllReadyH.cons (arr_get _ 11 _ rfl) (fun K hK => ?_) AllReadyH.nil
  go_simp
  refine hK.out _ _ (HBH.out _ S3.fr) (fun _ => ?_)
  clear hK K
  try simp only [Act.put]
  refine wpAnyH_done (by kernel_rfl) ?_ _
  exact only_mk (HR.out _ _ ⟨_, _, rfl, by simp [hz], fun _ => by simp [slot_set, h1], fun _ => by simp, S3⟩)

set_option maxRecDepth 100000 in
set_option maxHeartbeats 1000000 in
/-- 9, if there are packs. -/
theorem sp_nine (wA : World) (g : Nat) (pao : Option Addr) (pcap NP : Nat) (c : List UInt8) (hl : c.length ≤ 40000000) (hlen : NP ≤ 100000) (HBX : ∀ wx, Fr [] wA wx → wx.cell? ⟨g, 2, none⟩ = some (.slice pao NP pcap)) (a : Act) (w : World) (hS : SB wA g c a w) :
    (sc [true, true, false, true, false, true, false]).wp Tryd.prog (Only (SB wA g (c ++ if NP = 0 then [] else [9]))) a w := by
  have HBa := Lib.hid (Nat.le_refl wA.heap.size)
  obtain ⟨A, v, rfl, hz, h1, h3, S⟩ := hS
  obtain ⟨vo, vc, rfl, -⟩ := own_out S.own
  have HS := Lib.hid S
  have k2 := HBX w S.fr
  have HL := Lib.hid hl
  clear S HBX hl
  conv => arg 2; whnf
  refine only_seq (R := fun a' w' => a'.eval (.tmp 44) = .bool (decide (0 < NP)) ∧ w' = w ∧ ∃ A, a' = ⟨A, []⟩ ∧ A.size = 335 ∧ Slots A [(1, .pointer (some ⟨g, 0, none⟩)), (3, .slice vo c.length vc)]) ?_ ?_
  · refine only_hide fun R HR => ?_
    go_wp2_with fail
    exact only_mk (HR.out _ _ ⟨by simp [Act.eval, hz], rfl, _, rfl, by simp [hz], fun _ => by simp [slot_set, h1], fun _ => by simp [slot_set, h3], trivial⟩)
  · clear h1 h3 hz A k2
    rintro _ _ ⟨he, rfl, A, rfl, hz, h1, h3, -⟩
    by_cases h0 : NP = 0
    · rw [if_pos h0, List.append_nil]
      refine wp_cond_false (by rw [he, decide_eq_false (by omega)]) (wp_skip (only_mk ⟨A, _, rfl, hz, h1, h3, HS.out⟩))
    · rw [if_neg h0]
      refine wp_cond_true (by rw [he, decide_eq_true (by omega)]) ?_
      clear he
      refine only_hide fun R HR => ?_
      go_wp2_with (at_builtin; refine wpList_append_st sty_u8 rfl (.tmp 45) (.tmp 46) (by rfl) HS.out ((Fr.refl _ _).alloc _) (by go_simp) _ [9] (by go_simp) (sl_one _ _ _) HBa.out (by have := HL.out; simp only [List.length_cons, List.length_nil]; omega) ?_; intro v4 w4 S4; obtain ⟨ro4, rc4, rfl, -⟩ := own_out S4.own)
      exact only_mk (HR.out _ _ ⟨_, _, rfl, by simp [hz], fun _ => by simp [slot_set, h1], fun _ => by simp, S4⟩)

set_option maxRecDepth 100000 in
set_option maxHeartbeats 1000000 in
/-- The checks, and 0. -/
theorem sp_tail (wA : World) (g : Nat) (cao : Option Addr) (ccap NC : Nat) (cs : List Ck) (c : List UInt8) (hNC : cs.length = NC) (hC : RowAt wA wA.heap.size 2 (.slice cao NC ccap) NC (ckV cs)) (hn : NC ≤ 100000) (hl : c.length + (sumsW cs).length ≤ 40000000) (HBX : ∀ wx, Fr [] wA wx → wx.cell? ⟨g, 3, none⟩ = some (.slice cao NC ccap)) (a : Act) (w : World) (hS : SB wA g c a w) :
    (sc [true, true, false, true, false, true, true, true]).wp Tryd.prog (Only (SB wA g ((c ++ sumsW cs) ++ [0]))) a w := by
  have HBa := Lib.hid (Nat.le_refl wA.heap.size)
  obtain ⟨A, v, rfl, hz, h1, h3, S⟩ := hS
  obtain ⟨vo, vc, rfl, -⟩ := own_out S.own
  have HS := Lib.hid S
  have k2 := HBX w S.fr
  have hCs := hC.fr0 (show Fr [] wA w from S.fr)
  have HCs := Lib.hid (fun w2 (F : Fr (Value.slice vo c.length vc).ownBlock.toList w w2) => hC.fr0 (S.above F))
  have HL := Lib.hid hl
  have HN := Lib.hid hNC
  obtain ⟨Y, hY⟩ : ∃ Y, Y = c ++ sumsW cs := ⟨_, rfl⟩
  have HY := Lib.hid hY
  have HYL := Lib.hid (show Y.length ≤ 40000000 by rw [hY, List.length_append]; exact hl)
  rw [← hY]
  clear S HBX hl hC hCs hY hNC
  conv => arg 2; whnf
  refine only_hide fun R HR => ?_
  go_wp2_with (first
      | (have hq := S8; at_builtin; refine wpList_append_st sty_u8 rfl (.tmp 65) (.tmp 66) (by rfl) S8 ((Fr.refl _ _).alloc _) (by go_simp) _ [0] (by go_simp) (sl_one _ _ _) HBa.out (by have := HYL.out; simp only [List.length_cons, List.length_nil]; omega) ?_; intro v9 w9 S9; obtain ⟨ro9, rc9, rfl, -⟩ := own_out S9.own)
      | (go_at_call 31; refine (sums_sb (hi := wA.heap.size) HS.out (Fr.refl _ _) HBa.out _ cs (by rw [HN.out]; exact HCs.out) (by rw [HN.out]; omega) (by have := HL.out; omega)).mono ?_; rintro e w8 ⟨r8, rfl, S8⟩; rw [← HY.out] at S8; obtain ⟨ro8, rc8, rfl, -⟩ := own_out S8.own))
  exact only_mk (HR.out _ _ ⟨_, _, rfl, by simp [hz], fun _ => by simp [slot_set, h1], fun _ => by simp, S9⟩)

set_option maxRecDepth 100000 in
set_option maxHeartbeats 1000000 in
theorem sp_packs (wA : World) (g : Nat) (pl : UInt64) (pao cao : Option Addr) (pcap NP ccap NC : Nat) (ps : List UInt64) (cs : List Ck) (hNP : ps.length = NP) (hNC : cs.length = NC) (hP : RowAt wA wA.heap.size 1 (.slice pao NP pcap) NP (u64v ps)) (hC : RowAt wA wA.heap.size 2 (.slice cao NC ccap) NC (ckV cs)) (hn1 : NP ≤ 100000) (hn2 : NC ≤ 100000) (hl : (packsW pl ps cs).length ≤ 40000000)
    (HBX : ∀ wx, Fr [] wA wx → wx.cell? ⟨g, 1, none⟩ = some (.int .u64 pl.toNat) ∧ wx.cell? ⟨g, 2, none⟩ = some (.slice pao NP pcap) ∧ wx.cell? ⟨g, 3, none⟩ = some (.slice cao NC ccap))
    (A : Array Value) (hz : A.size = 335) (h1 : ∀ h : 1 < A.size, A[1] = .pointer (some ⟨g, 0, none⟩)) (h3 : ∀ h : 3 < A.size, A[3] = .slice none 0 0) :
    (sc [true, true, false]).wp Tryd.prog (Only (SB wA g (packsW pl ps cs))) ⟨A, []⟩ wA := by
  have hplz : pl = 0 ↔ pl.toNat = 0 := ⟨fun h => by rw [h]; rfl, fun h => UInt64.toNat_inj.1 h⟩
  have hpsz : ps = [] ↔ NP = 0 := ⟨fun h => by rw [← hNP, h]; rfl, fun h => List.eq_nil_of_length_eq_zero (by rw [hNP]; exact h)⟩
  obtain ⟨k1, k2, k3⟩ := HBX wA (Fr.refl _ _)
  conv => arg 2; whnf
  by_cases hno : ps = [] ∧ pl = 0
  · have HE := Lib.hid (show packsW pl ps cs = [] from if_pos hno)
    have t1 : decide ((0 : Int) < (NP : Int)) = false := decide_eq_false (by have := hpsz.1 hno.1; omega)
    have t1' : decide (0 < NP) = false := decide_eq_false (by have := hpsz.1 hno.1; omega)
    have t2 : decide ((0 : Int) < (pl.toNat : Int)) = false := decide_eq_false (by have := hplz.1 hno.2; omega)
    have t2' : decide (0 < pl.toNat) = false := decide_eq_false (by have := hplz.1 hno.2; omega)
    refine only_seq (R := fun a' w' => a'.eval (.tmp 29) = .bool false ∧ SB wA g [] a' w') ?_ (fun a w h => wp_cond_false h.1 (wp_skip (only_mk (by rw [HE.out]; exact h.2))))
    clear hno hplz hpsz hP hC HBX hNP hNC hl
    refine only_hide fun R HR => ?_
    go_wp2_with fail
    exact only_mk (HR.out _ _ ⟨by simp [Act.eval, hz], _, _, rfl, by simp [hz], fun _ => by simp [slot_set, h1], fun _ => by simp [slot_set, h3], StB.none _⟩)
  · have HE := Lib.hid (show packsW pl ps cs = (((((6 :: (shortN pl.toNat ++ shortN NP)) ++ if NP = 0 then [] else [9]) ++ numsB ps) ++ sumsW cs) ++ [0]) from by
      have e : packsW pl ps cs = 6 :: (shortN pl.toNat ++ (shortN ps.length ++ ((if ps = [] then [] else [9]) ++ (numsB ps ++ (sumsW cs ++ [0]))))) := if_neg hno
      rw [hNP] at e
      refine e.trans ?_
      by_cases h0 : NP = 0
      · rw [if_pos h0, if_pos (hpsz.2 h0)]; simp
      · rw [if_neg h0, if_neg (fun h => h0 (hpsz.1 h))]; simp)
    have hle := congrArg List.length HE.out
    rw [List.length_append, List.length_append, List.length_append] at hle
    refine only_seq (R := fun a' w' => a'.eval (.tmp 29) = .bool true ∧ w' = wA ∧ ∃ A, a' = ⟨A, []⟩ ∧ A.size = 335 ∧ Slots A [(1, .pointer (some ⟨g, 0, none⟩)), (3, .slice none 0 0)]) ?_ ?_
    · clear HE hP hC HBX hNC hl hle
      by_cases h0 : NP = 0
      · have hp : pl.toNat ≠ 0 := fun h => hno ⟨hpsz.2 h0, hplz.2 h⟩
        have t1 : decide ((0 : Int) < (NP : Int)) = false := decide_eq_false (by omega)
        have t1' : decide (0 < NP) = false := decide_eq_false (by omega)
        have t2 : decide ((0 : Int) < (pl.toNat : Int)) = true := decide_eq_true (by omega)
        have t2' : decide (0 < pl.toNat) = true := decide_eq_true (by omega)
        clear hno hplz hpsz hNP h0
        refine only_hide fun R HR => ?_
        go_wp2_with fail
        exact only_mk (HR.out _ _ ⟨by simp [Act.eval, hz], rfl, _, rfl, by simp [hz], fun _ => by simp [slot_set, h1], fun _ => by simp [slot_set, h3], trivial⟩)
      · have t1 : decide ((0 : Int) < (NP : Int)) = true := decide_eq_true (by omega)
        have t1' : decide (0 < NP) = true := decide_eq_true (by omega)
        clear hno hplz hpsz hNP h0
        refine only_hide fun R HR => ?_
        go_wp2_with fail
        exact only_mk (HR.out _ _ ⟨by simp [Act.eval, hz], rfl, _, rfl, by simp [hz], fun _ => by simp [slot_set, h1], fun _ => by simp [slot_set, h3], trivial⟩)
    · clear h1 h3 hz A
      rintro _ w' ⟨he, hw, A, rfl, hz, h1, h3, -⟩
      subst w'
      refine wp_cond_true he ?_
      refine only_seq (sp_head _ g A pl pao pcap NP hz h1 h3 hn1 (fun wx F => ⟨(HBX wx F).1, (HBX wx F).2.1⟩)) (fun a w h => ?_)
      refine only_seq (sp_nine _ g pao pcap NP _ (by have h1 := shortN_le pl.toNat; have h2 := shortN_le NP; simp only [List.length_cons, List.length_append]; omega) hn1 (fun wx F => (HBX wx F).2.1) a w h) (fun a w h => ?_)
      refine only_seq (R := SB wA g ((((6 :: (shortN pl.toNat ++ shortN NP)) ++ if NP = 0 then [] else [9])) ++ numsB ps)) ?_ (fun a w h => ?_)
      · refine only_seq (R := fun a' w' => ∃ A v, a' = ⟨A, []⟩ ∧ A.size = 335 ∧ Slots A [(1, .pointer (some ⟨g, 0, none⟩)), (3, v), (4, .int .i64 0)] ∧ StB wA.heap.size wA (.slice none 0 0) v (((6 :: (shortN pl.toNat ++ shortN NP)) ++ if NP = 0 then [] else [9])) w') ?_ ?_
        · obtain ⟨A, v, rfl, hz, h1, h3, S⟩ := h
          have HS := Lib.hid S
          clear S hplz hpsz hno hP hC HBX hl hle
          refine only_hide fun R HR => ?_
          go_wp2_with fail
          exact only_mk (HR.out _ _ ⟨_, v, rfl, by simp [hz], ⟨fun _ => by simp [slot_set, h1], fun _ => by simp [slot_set, h3], fun _ => by simp, trivial⟩, HS.out⟩)
        · rintro _ w ⟨A, v, rfl, hz, ⟨h1, h3, h4, -⟩, S⟩
          exact sp_loop _ w g A v _ pao pcap NP ps hz h1 h3 h4 S hNP hP hn1 (by simp only [List.length_cons, List.length_nil] at hle; omega) (fun wx F => (HBX wx F).2.1)
      · rw [HE.out]
        exact sp_tail _ g cao ccap NC cs _ hNC hC hn2 (by simp only [List.length_append, List.length_cons, List.length_nil] at hle ⊢; omega) (fun wx F => (HBX wx F).2.2) a w h
end Go.Proofs.YtkodindajfdagaaDoor
