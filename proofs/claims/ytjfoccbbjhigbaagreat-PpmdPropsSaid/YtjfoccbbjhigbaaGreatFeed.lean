/- Contracts of a feed. No condition but that lengths fit. -/
import Derived.Test.YtjfoccbbjhigbaaGreatSrcB
namespace Go.Proofs.YtjfoccbbjhigbaaGreat
open Go.RowKit

/-- The feed lies in block p, its bytes in block q; k were given. -/
structure FeedAt (w : World) (p : Nat) (q : Option Nat) (bs : List UInt8) (k : Nat) : Prop where
  ok : ∃ ao cap, w.heap[p]? = some (.cells #[.slice ao bs.length cap, .int .i64 k] 107 (0, 0)) ∧
    Sl w (.slice ao bs.length cap) (bv bs) ∧ (Value.slice ao bs.length cap).ownBlock = q
  le : k ≤ bs.length
  ne : q ≠ some p

theorem FeedAt.lt {w : World} {p : Nat} {q : Option Nat} {bs : List UInt8} {k : Nat} (h : FeedAt w p q bs k) : p < w.heap.size := by
  obtain ⟨_, _, h, _⟩ := h.ok
  exact (Array.getElem?_eq_some_iff.1 h).1

theorem FeedAt.fr {w w' : World} {p : Nat} {q : Option Nat} {bs : List UInt8} {k : Nat} {S : List Nat} (h : FeedAt w p q bs k) (hf : Fr S w w') (hp : p ∉ S) (hq : ∀ k, q = some k → k ∉ S) : FeedAt w' p q bs k := by
  obtain ⟨ao, cap, h1, h2, h3⟩ := h.ok
  refine ⟨⟨ao, cap, ?_, h2.fr hf (fun k hk => hq k (h3 ▸ hk)), h3⟩, h.le, h.ne⟩
  rw [hf.block p h.lt hp, h1]

theorem FeedAt.same {w w' : World} {p : Nat} {q : Option Nat} {bs : List UInt8} {k : Nat} (h : FeedAt w p q bs k) (hf : Same w w') : FeedAt w' p q bs k := h.fr (S := []) hf.fr (by simp) (by simp)

theorem FeedAt.out {w : World} {p : Nat} {q : Option Nat} {bs : List UInt8} {k : Nat} (h : FeedAt w p q bs k) : ∃ ao cap,
    w.heap[p]? = some (.cells #[.slice ao bs.length cap, .int .i64 k] 107 (0, 0)) ∧
    w.cell? ⟨p, 0, none⟩ = some (.slice ao bs.length cap) ∧ w.cell? ⟨p, 1, none⟩ = some (.int .i64 k) ∧
    (∀ j, w.frozen? ⟨p, j, none⟩ = false) ∧ Sl w (.slice ao bs.length cap) (bv bs) ∧ (Value.slice ao bs.length cap).ownBlock = q ∧ bs.length ≤ cap ∧ cap ≤ 9223372036854775807 := by
  obtain ⟨ao, cap, h1, h2, h3⟩ := h.ok
  have hc := h2.caps
  exact ⟨ao, cap, h1, by simp [Go.Joins.cell_of_block h1], by simp [Go.Joins.cell_of_block h1], fun j => Go.Joins.unfrozen_of_block h1 j, h2, h3, hc.1, hc.2⟩

/-- The feed is new. -/
def NewFeedAt (bs : List UInt8) (w : World) (e : Ending) (w' : World) : Prop :=
  ∃ p q, e = .returned (.pointer (some ⟨p, 0, none⟩)) ∧ w.heap.size ≤ p ∧ (∀ k, q = some k → w.heap.size ≤ k ∧ k < p) ∧ FeedAt w' p q bs 0 ∧ Fr [] w w'

theorem newfeed_any (w : World) (v : Value) (bs : List UInt8) (h : Sl w v (bv bs)) (hb : bs.length ≤ 140737488355328) :
    Calls Tryz.prog 22 #[v] w (NewFeedAt bs w) := by
  obtain ⟨ao, cap, rfl, g, m, o⟩ := h.out
  go_enter Tryz.func22, Tryz.ntmps22
  go_wp2_with fail
  refine (clone_any w _ bs h hb).mono ?_
  rintro e w1 ⟨r, rfl, hown, hf1⟩
  have hs := Sl.of_own hown
  obtain ⟨ao2, cap2, rfl, g2, m2, o2⟩ := hs.out
  have hz := hf1.size
  rw [bv_length] at *
  clear h o o2
  go_wp2
  go_ret
  have F : Fr [] w1 (w1.alloc (.cells #[.slice ao2 bs.length cap2, .int .i64 0] 107)) := (Fr.refl _ _).alloc _
  refine ⟨w1.heap.size, (Value.slice ao2 bs.length cap2).ownBlock, rfl, hz, hown.lt, ⟨⟨ao2, cap2, ?_, hs.fr0 F, rfl⟩, Nat.zero_le _, fun hk => ?_⟩, hf1.trans0 F⟩
  · exact heap_alloc_new _ _
  · have := (hown.lt _ hk).2
    omega

theorem next_none (w : World) (p : Nat) (q : Option Nat) (bs : List UInt8) (k : Nat) (hk : k = bs.length) (h : FeedAt w p q bs k) :
    Calls Tryz.prog 207 #[.pointer (some ⟨p, 0, none⟩)] w fun e w' => e = .returned (.tuple #[.int .u8 0, .bool false]) ∧ Same w w' := by
  subst hk
  obtain ⟨ao, cap, _, c0, c1, hf, _, _, hl, hm⟩ := h.out
  clear h
  go_enter Tryz.func207, Tryz.ntmps207
  go_wp2
  go_quiet (fail)
  go_wp2
  go_ret2
  exact ⟨rfl, Same.drewN _⟩

theorem next_some (w : World) (p : Nat) (q : Option Nat) (bs : List UInt8) (k : Nat) (x : UInt8) (hx : bs[k]? = some x) (h : FeedAt w p q bs k) :
    Calls Tryz.prog 207 #[.pointer (some ⟨p, 0, none⟩)] w fun e w' => e = .returned (.tuple #[.int .u8 x.toNat, .bool true]) ∧ FeedAt w' p q bs (k + 1) ∧ Fr [p] w w' := by
  have hlt := (List.getElem?_eq_some_iff.1 hx).1
  obtain ⟨ao, cap, hh, c0, c1, hf, hs, hq, hl, hm⟩ := h.out
  have HX := Lib.hid hx
  clear hx
  have t0 : ((k : Int) == (bs.length : Int)) = false := by simp; omega
  go_enter Tryz.func207, Tryz.ntmps207
  go_wp2
  go_quiet (fail)
  clear hh c0 c1 hf hs hq hl hm
  obtain ⟨wA, hwA⟩ : ∃ wA, wA = w.drewN nq := ⟨_, rfl⟩
  rw [← hwA]
  have sA : Same w wA := ⟨_, hwA⟩
  clear hwA
  have hA := h.same sA
  obtain ⟨ao2, cap2, hh, c0, c1, hf, hs, hq, hl, hm⟩ := hA.out
  have hne := h.ne
  obtain ⟨ao', cap', e0, -, -, o⟩ := hs.out
  injection e0 with e1 e2 e3
  subst e1 e3
  obtain ⟨b1, of1, rfl, -, cc⟩ := o k (by rw [bv_length]; exact hlt)
  have d1 : wA.cell? ⟨b1, of1 + k, none⟩ = some (.int .u8 x.toNat) := by rw [cc _ (by rw [bv_length]; exact hlt), bv_get _ _ _ HX.out]
  have hb1 : b1 ≠ p := by rintro rfl; exact hne (by rw [← hq]; rfl)
  obtain ⟨w1, hw1⟩ : ∃ w1 : World, w1 = wA.setCell ⟨p, 1, none⟩ (.int .i64 ((k : Int) + 1)) := ⟨_, rfl⟩
  have HW1 := Lib.hid hw1
  clear hw1
  have F1 : Fr [p] wA w1 := by rw [HW1.out]; exact (Fr.refl _ _).setCell (by simp) _
  have hh1 : w1.heap[p]? = some (.cells #[.slice (some ⟨b1, of1, none⟩) bs.length cap2, .int .i64 ((k : Int) + 1)] 107 (0, 0)) := by rw [HW1.out]; exact Go.Joins.block_setCell hh _
  have d0' : w1.cell? ⟨p, 0, none⟩ = some (.slice (some ⟨b1, of1, none⟩) bs.length cap2) := by simp [Go.Joins.cell_of_block hh1]
  have d1' : w1.cell? ⟨p, 1, none⟩ = some (.int .i64 ((k : Int) + 1)) := by simp [Go.Joins.cell_of_block hh1]
  have d2' : w1.cell? ⟨b1, of1 + k, none⟩ = some (.int .u8 x.toNat) := by
    rw [F1.cell (p := ⟨b1, of1 + k, none⟩) (World.block_lt_of_cell? _ _ d1) (by simpa using hb1), d1]
  have hfin : FeedAt w1 p q bs (k + 1) :=
    ⟨⟨_, cap2, hh1, hs.fr F1 (fun j hj => by rintro hj2; simp at hj2; subst hj2; exact hne (hq ▸ hj)), hq⟩, hlt, hne⟩
  clear h o cc d1 e2 hs hq hh1 hA
  go_wp2
  rw [← HW1.out]
  clear hh c0 c1 hf
  have e5 : IntKind.i64.wrap ((k : Int) + 1 - 1) = k := by rw [IntWalk.i64_in _ (by omega)]; omega
  have e6 : (k : Int) + 1 - 1 = k := by omega
  have t3 : (k : Int) < (bs.length : Int) := by omega
  go_quiet (fail)
  clear e5 e6
  go_wp2
  go_ret2
  exact ⟨rfl, hfin.same (Same.drewN _), (sA.fr.trans F1 (by simp)).trans0 (Same.drewN _).fr⟩
end Go.Proofs.YtjfoccbbjhigbaaGreat
