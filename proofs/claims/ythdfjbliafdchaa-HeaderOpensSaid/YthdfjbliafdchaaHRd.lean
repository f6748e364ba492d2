/- Contracts: the reader of a header: fail, ok, byte, end. No condition. -/
import Derived.Test.YthdfjbliafdchaaHSpec
import Derived.Test.YthdfjbliafdchaaSrcC
namespace Go.Proofs.Ythdfjbliafdchaa
open Go.RowKit

/-- A reader's fields that hold what was read: their values. -/
structure DV where
  pk : Value
  pl : Value
  ps : Value
  cs : Value
  fs : Value
  ss : Value
  es : Value

/-- The reader lies in block p, its cursor in block cp, that one's bytes in block q. -/
structure RdAt (w : World) (p cp : Nat) (q : Option Nat) (s : Rs) (d : DV) : Prop where
  blk : w.heap[p]? = some (.cells #[.pointer (some ⟨cp, 0, none⟩), .int .i64 s.k, d.pk, d.pl, d.ps, d.cs, d.fs, d.ss, d.es] 72 (0, 0))
  cur : CurAt w cp q s.c
  ne : p ≠ cp
  nq : q ≠ some p
  ql : ∀ k, q = some k → k < w.heap.size

theorem RdAt.lt {w : World} {p cp : Nat} {q : Option Nat} {s : Rs} {d : DV} (h : RdAt w p cp q s d) : p < w.heap.size := (Array.getElem?_eq_some_iff.1 h.blk).1
theorem RdAt.fr {w w' : World} {p cp : Nat} {q : Option Nat} {s : Rs} {d : DV} {S : List Nat} (h : RdAt w p cp q s d) (F : Fr S w w') (h1 : p ∉ S) (h2 : cp ∉ S) (h3 : ∀ k, q = some k → k ∉ S) : RdAt w' p cp q s d :=
  ⟨(F.block p h.lt h1).trans h.blk, h.cur.fr F h2 h3, h.ne, h.nq, fun k hk => Nat.lt_of_lt_of_le (h.ql k hk) F.size⟩
theorem RdAt.same {w w' : World} {p cp : Nat} {q : Option Nat} {s : Rs} {d : DV} (h : RdAt w p cp q s d) (F : Same w w') : RdAt w' p cp q s d := h.fr (S := []) F.fr (by simp) (by simp) (by simp)
theorem RdAt.fr0 {w w' : World} {p cp : Nat} {q : Option Nat} {s : Rs} {d : DV} (h : RdAt w p cp q s d) (F : Fr [] w w') : RdAt w' p cp q s d := h.fr F (by simp) (by simp) (by simp)
/-- The cursor has gone on. -/
theorem RdAt.cur' {w w' : World} {p cp : Nat} {q : Option Nat} {s : Rs} {d : DV} {c : Cur} (h : RdAt w p cp q s d) (F : Fr [cp] w w') (hc : CurAt w' cp q c) : RdAt w' p cp q { s with c := c } d :=
  ⟨(F.block p h.lt (by simp [h.ne])).trans h.blk, hc, h.ne, h.nq, fun k hk => Nat.lt_of_lt_of_le (h.ql k hk) F.size⟩

/-- A block of nine cells. -/
theorem cells9 {w : World} {g : Nat} {t : TypeId} {a0 a1 a2 a3 a4 a5 a6 a7 a8 : Value} (h : w.heap[g]? = some (.cells #[a0, a1, a2, a3, a4, a5, a6, a7, a8] t (0, 0))) :
    w.cell? ⟨g, 0, none⟩ = some a0 ∧ w.cell? ⟨g, 1, none⟩ = some a1 ∧ w.cell? ⟨g, 2, none⟩ = some a2 ∧ w.cell? ⟨g, 3, none⟩ = some a3 ∧ w.cell? ⟨g, 4, none⟩ = some a4 ∧ w.cell? ⟨g, 5, none⟩ = some a5 ∧ w.cell? ⟨g, 6, none⟩ = some a6 ∧ w.cell? ⟨g, 7, none⟩ = some a7 ∧ w.cell? ⟨g, 8, none⟩ = some a8 ∧ (∀ j, w.frozen? ⟨g, j, none⟩ = false) :=
  ⟨by simp [Go.Joins.cell_of_block h], by simp [Go.Joins.cell_of_block h], by simp [Go.Joins.cell_of_block h], by simp [Go.Joins.cell_of_block h], by simp [Go.Joins.cell_of_block h], by simp [Go.Joins.cell_of_block h], by simp [Go.Joins.cell_of_block h], by simp [Go.Joins.cell_of_block h], by simp [Go.Joins.cell_of_block h], fun j => Go.Joins.unfrozen_of_block h j⟩

/-- The code has turned. -/
theorem RdAt.code {w : World} {p cp : Nat} {q : Option Nat} {s : Rs} {d : DV} (h : RdAt w p cp q s d) (k : Nat) : RdAt (w.setCell ⟨p, 1, none⟩ (.int .i64 (k : Int))) p cp q { s with k := k } d :=
  ⟨Go.Joins.block_setCell h.blk _, h.cur.fr ((Fr.refl [p] w).setCell (by simp) _) (by simp; exact fun e => h.ne e.symm) (by rintro k hk e; simp at e; subst e; exact h.nq hk), h.ne, h.nq, fun k hk => by rw [World.size_setCell]; exact h.ql k hk⟩

theorem natz (n : Nat) : ((n : Int) == 0) = (n == 0) := by rw [Bool.eq_iff_iff]; simp

set_option maxHeartbeats 400000 in
theorem rfail_any (w : World) (p cp : Nat) (q : Option Nat) (s : Rs) (d : DV) (e : Nat) (h : RdAt w p cp q s d) :
    Calls Try.prog 32 #[.pointer (some ⟨p, 0, none⟩), .int .i64 (e : Int)] w fun r w' => r = .returned (.tuple #[]) ∧ RdAt w' p cp q (s.fail e) d ∧ Fr [p] w w' := by
  obtain ⟨c0, c1, -, -, -, -, -, -, -, cf⟩ := cells9 h.blk
  have H := Lib.hid h
  clear h
  by_cases hk : s.k = 0
  · have hb : ((s.k : Int) == 0) = true := by simp [hk]
    have HK := Lib.hid hk
    clear hk
    go_enter Try.func32, Try.ntmps32
    go_wp2
    go_end0
    exact ⟨rfl, by rw [Rs.fail, if_pos HK.out]; exact H.out.code e, (Fr.refl _ _).setCell (by simp) _⟩
  · have hb : ((s.k : Int) == 0) = false := by simp; omega
    have HK := Lib.hid hk
    clear hk
    go_enter Try.func32, Try.ntmps32
    go_wp2
    go_end0
    exact ⟨rfl, by rw [Rs.fail, if_neg HK.out]; exact H.out, Fr.refl _ _⟩

set_option maxHeartbeats 400000 in
theorem ok_any (w : World) (p cp : Nat) (q : Option Nat) (s : Rs) (d : DV) (h : RdAt w p cp q s d) :
    Calls Try.prog 31 #[.pointer (some ⟨p, 0, none⟩)] w fun r w' => r = .returned (.bool (s.ok.k == 0)) ∧ RdAt w' p cp q s.ok d ∧ Fr [p] w w' := by
  obtain ⟨c0, c1, -, -, -, -, -, -, -, cf⟩ := cells9 h.blk
  have H := Lib.hid h
  clear h
  by_cases hk : s.k = 0
  · have hb : ((s.k : Int) == 0) = true := by simp [hk]
    have HK := Lib.hid hk
    clear hk
    go_enter Try.func31, Try.ntmps31
    go_wp2_with (go_at_call 55; refine (code_any _ cp q s.c H.out.cur).mono ?_; rintro e w1 ⟨rfl, rfl⟩)
    go_ret
    have e : s.ok = { s with k := s.c.code } := by rw [Rs.ok, if_pos HK.out]
    exact ⟨by rw [e]; simp [natz], by rw [e]; exact H.out.code _, (Fr.refl _ _).setCell (by simp) _⟩
  · have hb : ((s.k : Int) == 0) = false := by simp; omega
    have HK := Lib.hid hk
    clear hk
    go_enter Try.func31, Try.ntmps31
    go_wp2_with (go_at_call 55; refine (code_any _ cp q s.c H.out.cur).mono ?_; rintro e w1 ⟨rfl, rfl⟩)
    go_ret
    have e : s.ok = s := by rw [Rs.ok, if_neg HK.out]
    exact ⟨by rw [e]; simp [HK.out], by rw [e]; exact H.out, Fr.refl _ _⟩

theorem RdAt.le {w : World} {p cp : Nat} {q : Option Nat} {s : Rs} {d : DV} (h : RdAt w p cp q s d) : s.c.at_ ≤ s.c.b.length := h.cur.le

theorem num1_lt (s : Rs) : s.byte.1 < 256 := by
  have h1 : (s.c.take 1).1.length ≤ 1 := by unfold Cur.take; split <;> simp; omega
  have h2 := leNat_lt (s.c.take 1).1
  show (s.c.num 1).1 < 256
  have e : (s.c.num 1).1 = leNat (s.c.take 1).1 := rfl
  rw [e]
  have : 256 ^ (s.c.take 1).1.length ≤ 256 ^ 1 := Nat.pow_le_pow_right (by omega) h1
  omega

set_option maxHeartbeats 400000 in
theorem byte_any (w : World) (p cp : Nat) (q : Option Nat) (s : Rs) (d : DV) (h : RdAt w p cp q s d) (hb : s.c.b.length ≤ 10000000) :
    Calls Try.prog 28 #[.pointer (some ⟨p, 0, none⟩)] w fun r w' => r = .returned (.int .i64 (s.byte.1 : Int)) ∧ RdAt w' p cp q s.byte.2 d ∧ Fr [cp] w w' := by
  obtain ⟨c0, c1, -, -, -, -, -, -, -, cf⟩ := cells9 h.blk
  have H := Lib.hid h
  have HB := Lib.hid (show s.c.b.length ≤ 140737488355328 by omega)
  have hlt : (s.byte.1 : Int) < 256 := by have := num1_lt s; omega
  have h0 : (0 : Int) ≤ (s.byte.1 : Int) := by omega
  have HE := Lib.hid (show (s.c.num 1).1 = s.byte.1 from rfl)
  have HE2 := Lib.hid (show ({ s with c := (s.c.num 1).2 } : Rs) = s.byte.2 from rfl)
  generalize s.byte.1 = v at *
  clear h hb
  go_enter Try.func28, Try.ntmps28
  go_wp2_with (go_at_call 23; refine (num_any _ cp q s.c 1 H.out.cur HB.out).mono ?_; rw [HE.out]; rintro e w1 ⟨rfl, hC, F1⟩; have hR := H.out.cur' F1 hC; rw [HE2.out] at hR)
  go_ret
  exact ⟨by go_num, hR, F1⟩
end Go.Proofs.Ythdfjbliafdchaa
