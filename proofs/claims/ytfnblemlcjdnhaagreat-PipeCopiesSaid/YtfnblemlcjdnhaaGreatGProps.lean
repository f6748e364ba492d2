/- Contracts: properties of coders, told right or not. No condition but that lengths fit. -/
import Derived.Test.YtfnblemlcjdnhaaGreatGBase
import Derived.Test.YtfnblemlcjdnhaaGreatSrcB
namespace Go.Proofs.YtfnblemlcjdnhaaGreat
open Go.RowKit

def mayP (o m : Int) : Bool := decide (2 ≤ o) && decide (o ≤ 64) && (decide (2048 ≤ m) && decide (m ≤ 4294967259))

/-- What a setting of PPMD must be. -/
def ppmdOk (b : List UInt8) : Bool := b.length == 5 && mayP (b.getD 0 0).toNat (leNat (b.drop 1))

/-- Properties are right. -/
def propsOk (m : Int) (b : List UInt8) : Bool :=
  if m = 2 then b.length == 1
  else if m = 4 then b.length == 5 && decide ((b.getD 0 0).toNat < 225)
  else if m = 5 then b.length == 1 && decide ((b.getD 0 0).toNat ≤ 40)
  else if m = 7 then ppmdOk b
  else b.length == 0

def codeOf (b : Bool) : Int := if b then 0 else 11

/-- Some first result, and a code. -/
def Parsed (ok : Bool) (w : World) (e : Ending) (w' : World) : Prop := ∃ x, e = .returned (.tuple #[x, .int .i64 (codeOf ok)]) ∧ Fr [] w w'

theorem delta_parse (w : World) (v : Value) (b : List UInt8) (hb : Sl w v (bv b)) :
    Calls Tryz.prog 38 #[v] w (Parsed (b.length == 1) w) := by
  obtain ⟨ao, cap, rfl, g, m, o⟩ := hb.out
  simp only [bv_length] at *
  by_cases h : b.length = 1
  · obtain ⟨b1, o1, rfl, -, c1⟩ := o 0 (by omega)
    obtain ⟨x, hx⟩ := some_get b 0 (by omega)
    have d1 : w.cell? ⟨b1, o1, none⟩ = some (.int .u8 x.toNat) := by
      have := c1 0 (by omega)
      rw [bv_get _ _ _ hx] at this
      exact this
    have hb1 : ((b.length : Int) != 1) = false := by simp [h]
    have hc : ((b.length : Int)) = 1 := by omega
    have E := Lib.hid (show codeOf (b.length == 1) = 0 by simp [codeOf, h])
    clear o c1 hx h hb
    go_enter Tryz.func38, Tryz.ntmps38
    go_wp2
    go_ret2
    exact ⟨_, by rw [E.out]; rfl, Fr.refl _ _⟩
  · have hb1 : ((b.length : Int) != 1) = true := by rw [bne_iff_ne]; omega
    have E := Lib.hid (show codeOf (b.length == 1) = 11 by simp [codeOf, h])
    clear o h hb
    go_enter Tryz.func38, Tryz.ntmps38
    go_wp2
    go_ret2
    exact ⟨_, by rw [E.out]; rfl, Fr.refl _ _⟩

theorem lzma2_dict (w : World) (x : UInt8) :
    Calls Tryz.prog 58 #[.int .u8 x.toNat] w (Parsed (decide (x.toNat ≤ 40)) w) := by
  have hx := x.toNat_lt
  by_cases h : 40 < x.toNat
  · have E := Lib.hid (show codeOf (decide (x.toNat ≤ 40)) = 11 by simp [codeOf]; omega)
    go_enter Tryz.func58, Tryz.ntmps58
    go_wp2
    go_ret2
    exact ⟨_, by rw [E.out]; rfl, Fr.refl _ _⟩
  · have E := Lib.hid (show codeOf (decide (x.toNat ≤ 40)) = 0 by simp [codeOf]; omega)
    by_cases h2 : x.toNat = 40
    · have hq : ((x.toNat : Int) == 40) = true := by simp [h2]
      go_enter Tryz.func58, Tryz.ntmps58
      go_wp2
      go_ret2
      exact ⟨_, by rw [E.out]; rfl, Fr.refl _ _⟩
    · have hq : ((x.toNat : Int) == 40) = false := by simp; omega
      go_enter Tryz.func58, Tryz.ntmps58
      go_wp2
      go_ret2
      exact ⟨_, by rw [E.out]; rfl, Fr.refl _ _⟩

theorem cells4 {w : World} {g : Nat} {a b c d : Value} {t : TypeId} (h : w.heap[g]? = some (.cells #[a, b, c, d] t)) :
    (w.cell? ⟨g, 0, none⟩ = some a ∧ w.cell? ⟨g, 1, none⟩ = some b ∧ w.cell? ⟨g, 2, none⟩ = some c ∧ w.cell? ⟨g, 3, none⟩ = some d) ∧
    (w.frozen? ⟨g, 0, none⟩ = false ∧ w.frozen? ⟨g, 1, none⟩ = false ∧ w.frozen? ⟨g, 2, none⟩ = false ∧ w.frozen? ⟨g, 3, none⟩ = false) := by
  refine ⟨⟨?_, ?_, ?_, ?_⟩, frozen_of_row _ _ _ _ _ h, frozen_of_row _ _ _ _ _ h, frozen_of_row _ _ _ _ _ h, frozen_of_row _ _ _ _ _ h⟩
  all_goals rw [Go.Joins.cell_of_block h]; rfl

set_option maxRecDepth 100000 in
theorem lzma_parse (w : World) (v : Value) (b : List UInt8) (hb : Sl w v (bv b)) :
    Calls Tryz.prog 56 #[v] w (Parsed (b.length == 5 && decide ((b.getD 0 0).toNat < 225)) w) := by
  have hS := hb
  obtain ⟨ao, cap, rfl, g, m, o⟩ := hb.out
  simp only [bv_length] at *
  by_cases h : b.length = 5
  · obtain ⟨b1, o1, rfl, hb1, c1⟩ := o 0 (by omega)
    obtain ⟨x, hx⟩ := some_get b 0 (by omega)
    have d1 : w.cell? ⟨b1, o1, none⟩ = some (.int .u8 x.toNat) := by
      have := c1 0 (by omega)
      rw [bv_get _ _ _ hx] at this
      exact this
    have hxd : b.getD 0 0 = x := by simp [List.getD_eq_getElem?_getD, hx]
    have hb5 : ((b.length : Int) != 5) = false := by simp [h]
    have hlt := x.toNat_lt
    rw [hxd]
    by_cases h2 : x.toNat < 225
    · have E := Lib.hid (show codeOf (b.length == 5 && decide (x.toNat < 225)) = 0 by simp [codeOf, h, h2])
      have hS2 : Sl w (.slice (some ⟨b1, o1 + 1, none⟩) 4 (cap - 1)) (bv ((b.drop 1).take 4)) := by
        have := hS.cut 1 5 (by omega) (by omega)
        rw [if_neg (by omega)] at this
        rw [bv_take, bv_drop]
        exact this
      have HS := Lib.hid hS2
      have HB := Lib.hid (show ((b.drop 1).take 4).length ≤ 140737488355328 by simp; omega)
      clear hS2
      have HH := Lib.hid h
      have hl5 : (b.length : Int) = 5 := by omega
      clear o c1 hx hxd hS hb
      go_enter Tryz.func56, Tryz.ntmps56
      go_wp2_with (first
        | (go_at_call 79; refine (new_any _ _ _ (HS.out.fr0 ((Fr.refl _ _).alloc _)) HB.out).mono ?_; rintro e w1 ⟨pp, q, rfl, hp, -, hc, F1⟩; have hk := cells4 ((F1.block w.heap.size (by simp) (by simp)).trans (heap_alloc_new w _)))
        | (go_at_call 80; refine (num_any _ pp q _ 4 hc HB.out).mono ?_; rintro e w2 ⟨rfl, -, F2⟩; have hk2 := cells4 ((F2.block w.heap.size (Nat.lt_of_lt_of_le (by simp) F1.size) (by simp at hp ⊢; omega)).trans ((F1.block w.heap.size (by simp) (by simp)).trans (heap_alloc_new w _)))))
      all_goals
        have FF : Fr [] w w2 := ((((Fr.refl _ _).alloc _).trans0 F1).trans F2 (by simp at hp ⊢; omega))
        clear F1 F2 hc hk
      · refine bodyPost_ret (v := .tuple #[.agg #[.int .i64 ((x.toNat : Int) % 9), .int .i64 ((x.toNat : Int) / 9 % 5), .int .i64 ((x.toNat : Int) / 45), .int .i64 (wrap64 ((Cur.mk ((b.drop 1).take 4) 0 0).num 4).1)], .int .i64 0]) (by simp [results, Tryz.results56, go_sem, hk2]) rfl ?_
        exact ⟨_, rfl, (((FF.setCell (.inr (Nat.le_refl _)) _).setCell (.inr (Nat.le_refl _)) _).setCell (.inr (Nat.le_refl _)) _).setCell (.inr (Nat.le_refl _)) _⟩
      · refine bodyPost_ret (v := .tuple #[.agg #[.int .i64 ((x.toNat : Int) % 9), .int .i64 ((x.toNat : Int) / 9 % 5), .int .i64 ((x.toNat : Int) / 45), .int .i64 4096], .int .i64 0]) (by simp [results, Tryz.results56, go_sem, hk2]) rfl ?_
        exact ⟨_, rfl, (((FF.setCell (.inr (Nat.le_refl _)) _).setCell (.inr (Nat.le_refl _)) _).setCell (.inr (Nat.le_refl _)) _).setCell (.inr (Nat.le_refl _)) _⟩
    · have E := Lib.hid (show codeOf (b.length == 5 && decide (x.toNat < 225)) = 11 by simp [codeOf, h2])
      clear o c1 hx hxd hS hb
      go_enter Tryz.func56, Tryz.ntmps56
      go_wp2
      refine bodyPost_ret (v := .tuple #[.agg #[.int .i64 0, .int .i64 0, .int .i64 0, .int .i64 0], .int .i64 11]) (by simp [results, Tryz.results56, go_sem]) rfl ?_
      exact ⟨_, by rw [E.out], (Fr.refl _ _).alloc _⟩
  · have hb5 : ((b.length : Int) != 5) = true := by rw [bne_iff_ne]; omega
    have E := Lib.hid (show codeOf (b.length == 5 && decide ((b.getD 0 0).toNat < 225)) = 11 by simp [codeOf, h])
    clear o h hb hS
    go_enter Tryz.func56, Tryz.ntmps56
    go_wp2
    refine bodyPost_ret (v := .tuple #[.agg #[.int .i64 0, .int .i64 0, .int .i64 0, .int .i64 0], .int .i64 11]) (by simp [results, Tryz.results56, go_sem]) rfl ?_
    exact ⟨_, by rw [E.out], (Fr.refl _ _).alloc _⟩


theorem ppmd_may (w : World) (o m : Int) :
    Calls Tryz.prog 83 #[.agg #[.int .i64 o, .int .i64 m]] w fun e w' => e = .returned (.bool (mayP o m)) ∧ Fr [] w w' := by
  unfold mayP
  go_enter Tryz.func83, Tryz.ntmps83
  go_wp2
  all_goals
    go_ret
    refine ⟨?_, (Fr.refl _ _).alloc _⟩
    first | (simp [*]; done) | (simp [*]; intros; omega)

theorem cells2 {w : World} {g : Nat} {a b : Value} {t : TypeId} (h : w.heap[g]? = some (.cells #[a, b] t)) :
    (w.cell? ⟨g, 0, none⟩ = some a ∧ w.cell? ⟨g, 1, none⟩ = some b) ∧ (w.frozen? ⟨g, 0, none⟩ = false ∧ w.frozen? ⟨g, 1, none⟩ = false) := by
  refine ⟨⟨?_, ?_⟩, frozen_of_row _ _ _ _ _ h, frozen_of_row _ _ _ _ _ h⟩
  all_goals rw [Go.Joins.cell_of_block h]; rfl

/-- A cursor that has read 1 and 4 bytes. -/
def read14 (b : List UInt8) : Nat × Nat × Cur := (((Cur.mk b 0 0).num 1).1, (((Cur.mk b 0 0).num 1).2.num 4).1, (((Cur.mk b 0 0).num 1).2.num 4).2)

theorem read14_ok (b : List UInt8) : (b.length = 5 → read14 b = ((b.getD 0 0).toNat, leNat (b.drop 1), ⟨b, 5, 0⟩)) ∧ (b.length < 5 → (read14 b).2.2.code ≠ 0) ∧ (5 < b.length → (read14 b).2.2.code = 0 ∧ 0 < (read14 b).2.2.left) := by
  refine ⟨fun h => ?_, fun h => ?_, fun h => ?_⟩
  · match b, h with
    | [a0, a1, a2, a3, a4], _ => simp [read14, Cur.num, Cur.sized, Cur.take, Cur.left, leNat]
  · match b, h with
    | [], _ => simp [read14, Cur.num, Cur.sized, Cur.take, Cur.left, Cur.fail]
    | [a0], _ => simp [read14, Cur.num, Cur.sized, Cur.take, Cur.left, Cur.fail]
    | [a0, a1], _ => simp [read14, Cur.num, Cur.sized, Cur.take, Cur.left, Cur.fail]
    | [a0, a1, a2], _ => simp [read14, Cur.num, Cur.sized, Cur.take, Cur.left, Cur.fail]
    | [a0, a1, a2, a3], _ => simp [read14, Cur.num, Cur.sized, Cur.take, Cur.left, Cur.fail]
  · match b, h with
    | a0 :: a1 :: a2 :: a3 :: a4 :: a5 :: l, _ =>
      have h1 : ¬ (l.length + 1 + 1 + 1 + 1 + 1 + 1 < 1) := by omega
      have h2 : ¬ (l.length + 1 + 1 + 1 + 1 + 1 < 4) := by omega
      simp [read14, Cur.num, Cur.sized, Cur.take, Cur.left, h1, h2]

theorem num_b' (c : Cur) (n : Int) : (c.num n).2.b = c.b := by
  unfold Cur.num; split
  · exact Cur.take_b _ _
  · rfl


set_option maxRecDepth 100000 in
theorem ppmd_parse (w : World) (v : Value) (b : List UInt8) (hb : Sl w v (bv b)) (hl : b.length ≤ 2000) :
    Calls Tryz.prog 57 #[v] w (Parsed (ppmdOk b) w) := by
  have HB := Lib.hid hb
  obtain ⟨ao, cap, rfl, -⟩ := hb.out
  clear hb
  obtain ⟨r5, rl, rg⟩ := read14_ok b
  have hXb := num_b' (Cur.mk b 0 0) 1
  unfold read14 at r5 rl rg
  generalize hX : (Cur.mk b 0 0).num 1 = X at r5 rl rg hXb
  obtain ⟨X1, X2⟩ := X
  dsimp only at r5 rl rg hXb
  generalize hY : X2.num 4 = Y at r5 rl rg
  obtain ⟨Y1, Y2⟩ := Y
  dsimp only at r5 rl rg
  have HX := Lib.hid hX
  have HY := Lib.hid hY
  have HXb := Lib.hid hXb
  have R5 := Lib.hid r5
  have RL := Lib.hid rl
  have RG := Lib.hid rg
  clear hX hY hXb r5 rl rg
  have hl2 : b.length ≤ 140737488355328 := by omega
  go_enter Tryz.func57, Tryz.ntmps57
  go_wp2_with fail
  refine (new_any _ _ b (HB.out.fr0 ((Fr.refl _ _).alloc _)) hl2).mono ?_
  rintro e w1 ⟨pp, q, rfl, hp, hq, hc, F1⟩
  have hp' : w.heap.size + 1 ≤ pp := by simpa using hp
  have hq' : ∀ k, q = some k → w.heap.size + 1 ≤ k := fun k hk => by have := (hq k hk).1; simpa using this
  clear hp hq
  go_wp2_with fail
  refine (num_any w1 pp q _ 1 hc hl2).mono ?_
  rw [HX.out]
  rintro e w2 ⟨rfl, hc2, F2⟩
  clear hc
  dsimp only at hc2
  go_wp2_with fail
  refine (num_any w2 pp q _ 4 hc2 (by rw [HXb.out]; exact hl2)).mono ?_
  rw [HY.out]
  rintro e w3 ⟨rfl, hc3, F3⟩
  clear hc2
  dsimp only at hc3
  have hkb := ((F3.block w.heap.size (Nat.lt_of_lt_of_le (Nat.lt_of_lt_of_le (by simp) F1.size) F2.size) (by simp; omega)).trans ((F2.block w.heap.size (Nat.lt_of_lt_of_le (by simp) F1.size) (by simp; omega)).trans ((F1.block w.heap.size (by simp) (by simp)).trans (heap_alloc_new w _))))
  have FF : Fr [] w w3 := ((((Fr.refl _ _).alloc _).trans0 F1).trans F2 (by simp; omega)).trans F3 (by simp; omega)
  have hs3 : w.heap.size < w3.heap.size := by have h1 := F1.size; have h2 := F2.size; have h3 := F3.size; rw [World.size_alloc] at h1; omega
  clear F1 F2 F3
  go_wp2_with fail
  have hA : ∃ w4, w4 = w3.alloc (.cells #[.int .i64 (wrap64 (X1 : Int)), .int .i64 (wrap64 (Y1 : Int))] 135) := ⟨_, rfl⟩
  obtain ⟨w4, hw4⟩ := hA
  have F4 : Fr [] w3 w4 := hw4 ▸ (Fr.refl _ _).alloc _
  have hc4 := hc3.fr F4 (by simp) (by simp)
  have kp := cells2 (hw4 ▸ heap_alloc_new w3 _ : w4.heap[w3.heap.size]? = some (.cells #[.int .i64 (wrap64 (X1 : Int)), .int .i64 (wrap64 (Y1 : Int))] 135))
  have hb4 := (F4.block w.heap.size hs3 (by simp)).trans hkb
  have hk4 := cells2 hb4
  have F04 := FF.trans0 F4
  have hs4 : w.heap.size < w4.heap.size := Nat.lt_of_lt_of_le hs3 F4.size
  have hs34 : w3.heap.size < w4.heap.size := by rw [hw4]; simp
  rw [← hw4]
  clear hw4 hc3 FF F4 hkb
  refine (code_any w4 pp q Y2 hc4).mono ?_
  rintro e w4b ⟨rfl, rfl⟩
  by_cases h1 : b.length < 5
  · have t0 : ((Y2.code : Int) != 0) = true := by have := RL.out h1; rw [bne_iff_ne]; omega
    have E := Lib.hid (show codeOf (ppmdOk b) = 11 by simp [codeOf, ppmdOk]; omega)
    have HC := Lib.hid hc4
    clear h1 hc4
    go_wp2
    refine bodyPost_ret (v := .tuple #[.agg #[.int .i64 0, .int .i64 0], .int .i64 11]) (by simp [results, Tryz.results57, go_sem, hk4]) rfl ?_
    exact ⟨_, by rw [E.out], (F04.setCell (.inr (Nat.le_refl _)) _).setCell (.inr (Nat.le_refl _)) _⟩
  · by_cases h2 : 5 < b.length
    · have t0 : ((Y2.code : Int) != 0) = false := by have := (RG.out h2).1; rw [this]; rfl
      have t1 : (0 : Int) < (Y2.left : Int) := by have := (RG.out h2).2; omega
      have E := Lib.hid (show codeOf (ppmdOk b) = 11 by simp [codeOf, ppmdOk]; omega)
      clear h1 h2
      go_wp2_with fail
      refine (left_any w4 pp q Y2 hc4).mono ?_
      rintro e w5 ⟨rfl, s5⟩
      have hk5 := cells2 ((s5.fr (S := []).block w.heap.size hs4 (by simp)).trans hb4)
      clear hc4
      go_wp2
      refine bodyPost_ret (v := .tuple #[.agg #[.int .i64 0, .int .i64 0], .int .i64 11]) (by simp [results, Tryz.results57, go_sem, hk5]) rfl ?_
      exact ⟨_, by rw [E.out], ((F04.trans0 s5.fr).setCell (.inr (Nat.le_refl _)) _).setCell (.inr (Nat.le_refl _)) _⟩
    · have h5 : b.length = 5 := by omega
      have hR := R5.out h5
      simp only [Prod.mk.injEq] at hR
      obtain ⟨e1, e2, e3⟩ := hR
      have hx0 := (b.getD 0 0).toNat_lt
      have hx1 := leNat_lt (b.drop 1)
      rw [List.length_drop, h5] at hx1
      have w1' : wrap64 (X1 : Int) = ((b.getD 0 0).toNat : Int) := by rw [e1]; unfold wrap64; omega
      have w2' : wrap64 (Y1 : Int) = (leNat (b.drop 1) : Int) := by rw [e2]; unfold wrap64; omega
      have t0 : ((Y2.code : Int) != 0) = false := by rw [e3]; rfl
      have t1 : (Y2.left : Int) = 0 := by rw [e3]; simp [Cur.left]; omega
      have t2 : decide ((0 : Int) < (Y2.left : Int)) = false := by rw [t1]; rfl
      rw [w1', w2'] at kp
      have EP : ppmdOk b = mayP (b.getD 0 0).toNat (leNat (b.drop 1)) := by simp [ppmdOk, h5]
      generalize ((b.getD 0 0).toNat : Int) = o at kp w1' EP ⊢
      generalize (leNat (b.drop 1) : Int) = m at kp w2' EP ⊢
      rw [w1', w2']
      have HEP := Lib.hid EP
      clear e1 e2 e3 h1 h2 hx0 hx1 EP
      go_wp2_with fail
      refine (left_any w4 pp q Y2 hc4).mono ?_
      rintro e w5 ⟨rfl, s5⟩
      have hk5 := cells2 ((s5.fr (S := []).block w.heap.size hs4 (by simp)).trans hb4)
      have F5 := F04.trans0 s5.fr
      have kp0 : w5.cell? ⟨w3.heap.size, 0, none⟩ = some (.int .i64 o) := by rw [s5.cell]; exact kp.1.1
      have kp1 : w5.cell? ⟨w3.heap.size, 1, none⟩ = some (.int .i64 m) := by rw [s5.cell]; exact kp.1.2
      have hs5 : w.heap.size < w5.heap.size := by rw [s5.size]; exact hs4
      clear hc4 kp
      cases hmay : mayP o m with
      | true =>
        have HM := Lib.hid hmay
        clear hmay
        go_wp2_with (go_at_call 83; refine (ppmd_may _ _ _).mono ?_; rw [HM.out]; rintro e w6 ⟨rfl, F6⟩; have q0 := (F6.cell (p := ⟨w3.heap.size, 0, none⟩) (by rw [s5.size]; exact hs34) (by simp)).trans kp0; have q1 := (F6.cell (p := ⟨w3.heap.size, 1, none⟩) (by rw [s5.size]; exact hs34) (by simp)).trans kp1; have hk6 := cells2 ((F6.block w.heap.size hs5 (by simp)).trans ((s5.fr (S := []).block w.heap.size hs4 (by simp)).trans hb4)))
        refine bodyPost_ret (v := .tuple #[.agg #[.int .i64 o, .int .i64 m], .int .i64 0]) (by simp [results, Tryz.results57, go_sem, hk6]) rfl ?_
        exact ⟨_, by rw [HEP.out, HM.out]; rfl, ((F5.trans0 F6).setCell (.inr (Nat.le_refl _)) _).setCell (.inr (Nat.le_refl _)) _⟩
      | false =>
        have HM := Lib.hid hmay
        clear hmay
        go_wp2_with (go_at_call 83; refine (ppmd_may _ _ _).mono ?_; rw [HM.out]; rintro e w6 ⟨rfl, F6⟩; have hk6 := cells2 ((F6.block w.heap.size hs5 (by simp)).trans ((s5.fr (S := []).block w.heap.size hs4 (by simp)).trans hb4)))
        refine bodyPost_ret (v := .tuple #[.agg #[.int .i64 0, .int .i64 0], .int .i64 11]) (by simp [results, Tryz.results57, go_sem, hk6]) rfl ?_
        exact ⟨_, by rw [HEP.out, HM.out]; rfl, ((F5.trans0 F6).setCell (.inr (Nat.le_refl _)) _).setCell (.inr (Nat.le_refl _)) _⟩
end Go.Proofs.YtfnblemlcjdnhaaGreat
