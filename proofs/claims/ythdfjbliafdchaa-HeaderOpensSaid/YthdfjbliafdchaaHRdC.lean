/- The reader's fields are written; what follows an 'and'. No condition. -/
import Derived.Test.YthdfjbliafdchaaHSums
namespace Go.Proofs.Ythdfjbliafdchaa
open Go.RowKit

theorem RdAt.put {w : World} {p cp : Nat} {q : Option Nat} {s : Rs} {d d' : DV} (h : RdAt w p cp q s d) (i : Nat) (v : Value)
    (hb : (w.setCell ⟨p, i, none⟩ v).heap[p]? = some (.cells #[.pointer (some ⟨cp, 0, none⟩), .int .i64 s.k, d'.pk, d'.pl, d'.ps, d'.cs, d'.fs, d'.ss, d'.es] 72 (0, 0))) : RdAt (w.setCell ⟨p, i, none⟩ v) p cp q s d' :=
  ⟨hb, h.cur.fr ((Fr.refl [p] w).setCell (by simp) _) (by simp; exact fun e => h.ne e.symm) (by rintro k hk e; simp at e; subst e; exact h.nq hk), h.ne, h.nq, fun k hk => by rw [World.size_setCell]; exact h.ql k hk⟩
theorem RdAt.put2 {w : World} {p cp : Nat} {q : Option Nat} {s : Rs} {d : DV} (h : RdAt w p cp q s d) (v : Value) : RdAt (w.setCell ⟨p, 2, none⟩ v) p cp q s { d with pk := v } := h.put 2 v (Go.Joins.block_setCell h.blk _)
theorem RdAt.put3 {w : World} {p cp : Nat} {q : Option Nat} {s : Rs} {d : DV} (h : RdAt w p cp q s d) (v : Value) : RdAt (w.setCell ⟨p, 3, none⟩ v) p cp q s { d with pl := v } := h.put 3 v (Go.Joins.block_setCell h.blk _)
theorem RdAt.put4 {w : World} {p cp : Nat} {q : Option Nat} {s : Rs} {d : DV} (h : RdAt w p cp q s d) (v : Value) : RdAt (w.setCell ⟨p, 4, none⟩ v) p cp q s { d with ps := v } := h.put 4 v (Go.Joins.block_setCell h.blk _)
theorem RdAt.put5 {w : World} {p cp : Nat} {q : Option Nat} {s : Rs} {d : DV} (h : RdAt w p cp q s d) (v : Value) : RdAt (w.setCell ⟨p, 5, none⟩ v) p cp q s { d with cs := v } := h.put 5 v (Go.Joins.block_setCell h.blk _)
theorem RdAt.put6 {w : World} {p cp : Nat} {q : Option Nat} {s : Rs} {d : DV} (h : RdAt w p cp q s d) (v : Value) : RdAt (w.setCell ⟨p, 6, none⟩ v) p cp q s { d with fs := v } := h.put 6 v (Go.Joins.block_setCell h.blk _)
theorem RdAt.put7 {w : World} {p cp : Nat} {q : Option Nat} {s : Rs} {d : DV} (h : RdAt w p cp q s d) (v : Value) : RdAt (w.setCell ⟨p, 7, none⟩ v) p cp q s { d with ss := v } := h.put 7 v (Go.Joins.block_setCell h.blk _)
theorem RdAt.put8 {w : World} {p cp : Nat} {q : Option Nat} {s : Rs} {d : DV} (h : RdAt w p cp q s d) (v : Value) : RdAt (w.setCell ⟨p, 8, none⟩ v) p cp q s { d with es := v } := h.put 8 v (Go.Joins.block_setCell h.blk _)

/-- 'c and nothing is wrong': what it says, and the reader behind it. -/
def Rs.at (s : Rs) (c : Bool) : Bool × Rs := if c then (s.ok.k == 0, s.ok) else (false, s)
theorem Rs.at_false (s : Rs) : s.at false = (false, s) := rfl
theorem Rs.at_true (s : Rs) : s.at true = (s.ok.k == 0, s.ok) := rfl
theorem Rs.at_c (s : Rs) (c : Bool) : (s.at c).2.c = s.c := by cases c <;> rfl

theorem lim_ok (s : Rs) (bad : Nat → Rs → Bool) (e : Nat) (he : e ≠ 0) : (s.lim bad e).2.ok = (s.lim bad e).2 := by
  unfold Rs.lim
  split
  · exact Rs.ok_ok _
  · split
    · exact Rs.fail_ok he
    · exact Rs.ok_ok _
theorem lim_b (s : Rs) (bad : Nat → Rs → Bool) (e : Nat) : (s.lim bad e).2.c.b = s.c.b := by
  have h : s.number.2.c.b = s.c.b := number_b s.c
  unfold Rs.lim
  split
  · exact h
  · split
    · exact h
    · exact h
theorem size_b (s : Rs) : s.size.2.c.b = s.c.b := lim_b _ _ _
theorem things_b (s : Rs) : s.things.2.c.b = s.c.b := lim_b _ _ _
theorem below_b (s : Rs) (m : Nat) : (s.below m).2.c.b = s.c.b := lim_b _ _ _
theorem byte_b (s : Rs) : s.byte.2.c.b = s.c.b := num_b s.c 1
theorem size_le (s : Rs) : s.size.1 ≤ 1099511627776 := by
  unfold Rs.size Rs.lim
  split
  · simp
  · split
    · simp
    · rename_i h
      simpa using h
theorem things_le (s : Rs) : s.things.1 ≤ s.c.b.length := by
  have h : s.number.2.ok.c.b = s.c.b := number_b s.c
  unfold Rs.things Rs.lim
  split
  · simp
  · split
    · simp
    · rename_i h2
      have := left_le s.number.2.ok.c
      rw [h] at this
      simp at h2
      omega
theorem below_lt (s : Rs) (m : Nat) (hm : 0 < m) : (s.below m).1 < m := by
  unfold Rs.below Rs.lim
  split
  · exact hm
  · split
    · exact hm
    · rename_i h2
      simpa using h2
theorem sumsL_b : ∀ (hs : List Bool) (s : Rs) (out : List Ck), (sumsL hs s out).2.c.b = s.c.b
  | [], s, out => rfl
  | false :: t, s, out => by
    rw [sumsL_false]
    split
    · rfl
    · rw [sumsL_b t]
      rfl
  | true :: t, s, out => by
    rw [sumsL_true]
    split
    · exact num_b s.c 4
    · rw [sumsL_b t]
      exact num_b s.c 4
theorem sums_b (s : Rs) (n : Nat) : (s.sums n).2.c.b = s.c.b := by
  unfold Rs.sums
  rw [sumsL_b]
  exact told_b s.c n
theorem end_b (s : Rs) (id : Nat) : (s.end_ id).c.b = s.c.b := by
  unfold Rs.end_
  split <;> rfl
theorem things_ok (w : World) (p cp : Nat) (q : Option Nat) (s : Rs) (d : DV) (h : RdAt w p cp q s d) (hb : s.c.b.length ≤ 10000000) :
    Calls Try.prog 58 #[.pointer (some ⟨p, 0, none⟩)] w fun e w' => e = .returned (.int .i64 (s.things.1 : Int)) ∧ RdAt w' p cp q s.things.2 d ∧ Fr [p, cp] w w' := things_any w p cp q s d h hb
theorem size_ok (w : World) (p cp : Nat) (q : Option Nat) (s : Rs) (d : DV) (h : RdAt w p cp q s d) (hb : s.c.b.length ≤ 10000000) :
    Calls Try.prog 61 #[.pointer (some ⟨p, 0, none⟩)] w fun e w' => e = .returned (.int .u64 (s.size.1 : Int)) ∧ RdAt w' p cp q s.size.2 d ∧ Fr [p, cp] w w' := size_any w p cp q s d h hb
theorem below_ok (w : World) (p cp : Nat) (q : Option Nat) (s : Rs) (d : DV) (m : Nat) (hm : m ≤ 10000000) (h : RdAt w p cp q s d) (hb : s.c.b.length ≤ 10000000) :
    Calls Try.prog 79 #[.pointer (some ⟨p, 0, none⟩), .int .i64 (m : Int)] w fun e w' => e = .returned (.int .i64 ((s.below m).1 : Int)) ∧ RdAt w' p cp q (s.below m).2 d ∧ Fr [p, cp] w w' := below_any w p cp q s d m hm h hb
end Go.Proofs.Ythdfjbliafdchaa
