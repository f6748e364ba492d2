/- Contracts: Bits. No condition but that lengths fit. -/
import Derived.Test.YthdfjbliafdchaaSrcC
import Derived.Test.YthdfjbliafdchaaBitsSpec
namespace Go.Proofs.Ythdfjbliafdchaa
open Go.RowKit

theorem info_bool : (Try.prog.info? 4).map (fun i => (i.zero, i.size, i.bytes)) = some (some (.bool false), 1, 1) := by kernel_rfl
theorem sty_bool : SlTy Try.prog 108 4 (.bool false) 1 := ⟨Try.underlying108, by obtain ⟨i, h⟩ := info_parts info_bool; exact ⟨i, h⟩, rfl⟩

/-- How many were read is written anew. -/
theorem CurAt.setAt {w : World} {p : Nat} {q : Option Nat} {c : Cur} (h : CurAt w p q c) (n : Nat) (hz : c.code = 0) (hn : n ≤ c.b.length) :
    CurAt (w.setCell ⟨p, 1, none⟩ (.int .i64 n)) p q { c with at_ := n } ∧ Fr [p] w (w.setCell ⟨p, 1, none⟩ (.int .i64 n)) := by
  have F : Fr [p] w (w.setCell ⟨p, 1, none⟩ (.int .i64 n)) := (Fr.refl _ _).setCell (by simp) _
  obtain ⟨ao, m, cap, h1, h2, h3⟩ := h.ok
  refine ⟨CurAt.of_fr (c := { c with at_ := n }) (n := m) F (Go.Joins.block_setCell h1 _) ?_ h3 h.ne hn, F⟩
  have : ({ c with at_ := n } : Cur).live = c.live := by unfold Cur.live; simp [hz]
  rw [this]; exact h2

/-- New bits, and the cursor behind it. -/
def TakeBits (p : Nat) (q : Option Nat) (r : List Bool × Cur) (w : World) (e : Ending) (w' : World) : Prop :=
  ∃ v, e = .returned v ∧ w'.ownsRow w.heap.size 4 1 v r.1.length (tv r.1) ∧ CurAt w' p q r.2 ∧ Fr [p] w w'

set_option maxHeartbeats 1000000 in
theorem bits_fail (w : World) (p : Nat) (q : Option Nat) (c : Cur) (n : Int) (hn : -9223372036854775808 ≤ n ∧ n ≤ 9223372036854775807) (h : CurAt w p q c) (hf : c.code ≠ 0 ∨ n < 0 ∨ c.left < (n.toNat + 7) / 8) :
    Calls Try.prog 73 #[.pointer (some ⟨p, 0, none⟩), .int .i64 n] w (TakeBits p q ([], c.fail 3) w) := by
  have hcap : c.at_ + c.left ≤ 9223372036854775807 := by
    obtain ⟨_, cap, _, _, _, _, _, _, _, h1, h2⟩ := h.out
    omega
  by_cases h0 : n < 0
  · go_enter Try.func73, Try.ntmps73
    go_wp2_with fail
    refine (fail_any _ p q c 3 _ rfl (by decide) h).mono ?_
    rintro e w2 ⟨rfl, hc2, hf2⟩
    go_wp2_with fail
    go_ret
    exact ⟨_, rfl, World.ownsRow_nil _ _ _ _, hc2, hf2⟩
  · obtain ⟨n, rfl⟩ := Int.eq_ofNat_of_zero_le (show 0 ≤ n by omega)
    rw [Int.toNat_natCast] at hf
    by_cases h1 : c.left < n / 8
    · have h1' : (c.left : Int) < (n : Int) / 8 := by omega
      clear hf
      go_enter Try.func73, Try.ntmps73
      go_wp2_with fail
      refine (left_any w p q c h).mono ?_
      rintro e w1 ⟨rfl, s1⟩
      have hc1 := h.same s1
      go_wp2_with fail
      refine (fail_any _ p q c 3 _ rfl (by decide) hc1).mono ?_
      rintro e w2 ⟨rfl, hc2, hf2⟩
      clear h hc1
      go_wp2_with fail
      go_ret
      exact ⟨_, rfl, World.ownsRow_nil _ _ _ _, hc2, s1.fr.trans hf2 (by simp)⟩
    · have h1' : (n : Int) / 8 ≤ (c.left : Int) := by omega
      by_cases h2 : c.left < (n + 7) / 8
      · have h2' : (c.left : Int) < ((n : Int) - (n : Int) / 8 * 8 + 7) / 8 + (n : Int) / 8 := by omega
        clear hf
        go_enter Try.func73, Try.ntmps73
        go_wp2_with fail
        refine (left_any w p q c h).mono ?_
        rintro e w1 ⟨rfl, s1⟩
        have hc1 := h.same s1
        go_wp2_with fail
        refine (left_any w1 p q c hc1).mono ?_
        rintro e w2 ⟨rfl, s2⟩
        have hc2 := hc1.same s2
        go_wp2_with fail
        refine (fail_any _ p q c 3 _ rfl (by decide) hc2).mono ?_
        rintro e w3 ⟨rfl, hc3, hf3⟩
        clear h hc1 hc2
        go_wp2_with fail
        go_ret
        exact ⟨_, rfl, World.ownsRow_nil _ _ _ _, hc3, (s1.trans s2).fr.trans hf3 (by simp)⟩
      · have h2' : ((n : Int) - (n : Int) / 8 * 8 + 7) / 8 + (n : Int) / 8 ≤ (c.left : Int) := by omega
        have hz : ((c.code : Int) != 0) = true := by rw [bne_iff_ne]; omega
        clear hf
        go_enter Try.func73, Try.ntmps73
        go_wp2_with fail
        refine (left_any w p q c h).mono ?_
        rintro e w1 ⟨rfl, s1⟩
        have hc1 := h.same s1
        go_wp2_with fail
        refine (left_any w1 p q c hc1).mono ?_
        rintro e w2 ⟨rfl, s2⟩
        have hc2 := hc1.same s2
        obtain ⟨ao, cap, hh, d0, d1, d2, hfz, hs, hq, hl, hm⟩ := hc2.out
        clear hh hs hq hl hm
        go_wp2_with fail
        refine (fail_any _ p q c 3 _ rfl (by decide) hc2).mono ?_
        rintro e w3 ⟨rfl, hc3, hf3⟩
        clear h hc1 hc2 d0 d1 d2 hfz
        go_wp2_with fail
        go_ret
        exact ⟨_, rfl, World.ownsRow_nil _ _ _ _, hc3, (s1.trans s2).fr.trans hf3 (by simp)⟩

end Go.Proofs.Ythdfjbliafdchaa
