/- Contracts of the cursor's small functions, and of the references' Bytes. No condition but that lengths fit. -/
import Derived.Test.YtjfoccbbjhigbaaGreatBase
import Derived.Test.YtjfoccbbjhigbaaGreatSrcSpec
namespace Go.Proofs.YtjfoccbbjhigbaaGreat
open Go.RowKit

theorem info_u8 : (Tryz.prog.info? 5).map (fun i => (i.zero, i.size, i.bytes)) = some (some (.int .u8 0), 1, 1) := by kernel_rfl
theorem sty_u8 : SlTy Tryz.prog 22 5 (.int .u8 0) 1 := ⟨Tryz.underlying22, by obtain ⟨i, h⟩ := info_parts info_u8; exact ⟨i, h⟩, rfl⟩

/-- The value is new, reads as these bytes, and the old memory is as it was. -/
def NewBytes (bs : List UInt8) (w : World) (e : Ending) (w' : World) : Prop :=
  ∃ r, e = .returned r ∧ w'.ownsRow w.heap.size 5 1 r bs.length (bv bs) ∧ Fr [] w w'

theorem clone_any (w : World) (v : Value) (bs : List UInt8) (h : Sl w v (bv bs)) (hb : bs.length ≤ 140737488355328) :
    Calls Tryz.prog 43 #[v] w (NewBytes bs w) := by
  have hq := @Lib.run_eql_slice_nil
  have hS := h
  obtain ⟨ao, cap, rfl, h1, h2, h3, _⟩ := h
  rw [bv_length] at h1
  cases ao with
  | none =>
    have := h3 rfl
    subst this
    have : bs = [] := List.eq_nil_of_length_eq_zero (by omega)
    subst this
    go_enter Tryz.func43, Tryz.ntmps43
    go_wp2_with fail
    go_ret
    exact ⟨_, rfl, World.ownsRow_nil w w.heap.size 5 1, Fr.refl _ _⟩
  | some ad =>
    have hy : Sl (w.alloc (.cells #[] 5)) (.slice (some ad) (bv bs).length cap) (bv bs) := hS.fr0 ((Fr.refl _ _).alloc _)
    have hbv := bv_length bs
    have hone := bv_one bs
    clear h3 hS
    go_enter Tryz.func43, Tryz.ntmps43
    go_wp2_with (at_builtin; refine wpList_append_sl sty_u8 rfl _ _ rfl w.heap.size _ 0 [] rfl (own_empty w _) _ (bv bs) rfl hy hone ?_ ?_ ?_ ?_)
    all_goals first | omega | skip
    · simp
    · intro v' w' hown hg
      have hF : Fr [] w w' := ((Fr.refl [] w).alloc _).grown hg (by simp [Value.ownBlock])
      clear hone hg hy
      go_wp2
      go_ret
      exact ⟨_, rfl, by simpa [bv_length] using hown, hF⟩

/-- The cursor of the program lies in block p, its bytes in block q. -/
structure CurAt (w : World) (p : Nat) (q : Option Nat) (c : Cur) : Prop where
  ok : ∃ ao n cap, w.heap[p]? = some (.cells #[.slice ao n cap, .int .i64 c.at_, .int .i64 c.code] 170 (0, 0)) ∧
    Sl w (.slice ao n cap) (bv c.live) ∧ (Value.slice ao n cap).ownBlock = q
  le : c.at_ ≤ c.b.length
  ne : q ≠ some p

theorem CurAt.lt {w : World} {p : Nat} {q : Option Nat} {c : Cur} (h : CurAt w p q c) : p < w.heap.size := by
  obtain ⟨_, _, _, h, _⟩ := h.ok
  exact (Array.getElem?_eq_some_iff.1 h).1

theorem CurAt.fr {w w' : World} {p : Nat} {q : Option Nat} {c : Cur} {S : List Nat} (h : CurAt w p q c) (hf : Fr S w w') (hp : p ∉ S) (hq : ∀ k, q = some k → k ∉ S) : CurAt w' p q c := by
  obtain ⟨ao, n, cap, h1, h2, h3⟩ := h.ok
  refine ⟨⟨ao, n, cap, ?_, h2.fr hf (fun k hk => hq k (h3 ▸ hk)), h3⟩, h.le, h.ne⟩
  rw [hf.block p h.lt hp, h1]

/-- The cursor's cells, for a walk. -/
theorem CurAt.out {w : World} {p : Nat} {q : Option Nat} {c : Cur} (h : CurAt w p q c) : ∃ ao cap,
    w.heap[p]? = some (.cells #[.slice ao (c.at_ + c.left) cap, .int .i64 c.at_, .int .i64 c.code] 170 (0, 0)) ∧
    w.cell? ⟨p, 0, none⟩ = some (.slice ao (c.at_ + c.left) cap) ∧ w.cell? ⟨p, 1, none⟩ = some (.int .i64 c.at_) ∧ w.cell? ⟨p, 2, none⟩ = some (.int .i64 c.code) ∧
    (∀ j, w.frozen? ⟨p, j, none⟩ = false) ∧ Sl w (.slice ao (c.at_ + c.left) cap) (bv c.live) ∧ (Value.slice ao (c.at_ + c.left) cap).ownBlock = q ∧ c.at_ + c.left ≤ cap ∧ cap ≤ 9223372036854775807 := by
  obtain ⟨ao, n, cap, h1, h2, h3⟩ := h.ok
  have hn := h2.len
  rw [bv_length, c.live_left h.le] at hn
  subst hn
  have hc := h2.caps
  exact ⟨ao, cap, h1, by simp [Go.Joins.cell_of_block h1], by simp [Go.Joins.cell_of_block h1], by simp [Go.Joins.cell_of_block h1], fun j => Go.Joins.unfrozen_of_block h1 j, h2, h3, hc.1, hc.2⟩

theorem left_any (w : World) (p : Nat) (q : Option Nat) (c : Cur) (h : CurAt w p q c) :
    Calls Tryz.prog 48 #[.pointer (some ⟨p, 0, none⟩)] w fun e w' => e = .returned (.int .i64 c.left) ∧ Same w w' := by
  obtain ⟨ao, cap, _, c0, c1, c2, hf, _, _, hl, hm⟩ := h.out
  have hle := h.le
  clear h
  go_enter Tryz.func48, Tryz.ntmps48
  go_wp2
  go_quiet (fail)
  go_wp2
  go_ret
  exact ⟨by simp; omega, Same.drewN _⟩

theorem code_any (w : World) (p : Nat) (q : Option Nat) (c : Cur) (h : CurAt w p q c) :
    Calls Tryz.prog 47 #[.pointer (some ⟨p, 0, none⟩)] w fun e w' => e = .returned (.int .i64 c.code) ∧ w = w' := by
  obtain ⟨ao, cap, _, c0, c1, c2, hf, _, _, hl, hm⟩ := h.out
  clear h
  go_enter Tryz.func47, Tryz.ntmps47
  go_wp2
  go_ret
  exact ⟨rfl, rfl⟩

theorem CurAt.same {w w' : World} {p : Nat} {q : Option Nat} {c : Cur} (h : CurAt w p q c) (hf : Same w w') : CurAt w' p q c := h.fr (S := []) hf.fr (by simp) (by simp)

theorem CurAt.of_fr {w w' : World} {p : Nat} {q : Option Nat} {c : Cur} {ao : Option Addr} {n cap : Nat} (hf : Fr [p] w w')
    (hh : w'.heap[p]? = some (.cells #[.slice ao n cap, .int .i64 c.at_, .int .i64 c.code] 170 (0, 0)))
    (hs : Sl w (.slice ao n cap) (bv c.live)) (hq : (Value.slice ao n cap).ownBlock = q) (hne : q ≠ some p) (hle : c.at_ ≤ c.b.length) : CurAt w' p q c :=
  ⟨⟨ao, n, cap, hh, hs.fr hf (fun k hk => by rintro h; simp at h; subst h; exact hne (hq ▸ hk)), hq⟩, hle, hne⟩

theorem Cur.live_fail (c : Cur) (k : Nat) (hk : k ≠ 0) : (c.fail k).live = c.live.take c.at_ := by
  unfold Cur.live Cur.fail
  by_cases h : c.code = 0
  · simp [h, hk]
  · simp [h, List.take_take]

theorem fail_any (w : World) (p : Nat) (q : Option Nat) (c : Cur) (k : Nat) (cc : Int) (hcc : cc = k) (hk : k ≠ 0) (h : CurAt w p q c) :
    Calls Tryz.prog 86 #[.pointer (some ⟨p, 0, none⟩), .int .i64 cc] w fun e w' => e = .returned (.tuple #[]) ∧ CurAt w' p q (c.fail k) ∧ Fr [p] w w' := by
  subst hcc
  obtain ⟨ao, cap, hh, c0, c1, c2, hf, hs, hq, hl, hm⟩ := h.out
  have hle := h.le
  have hne := h.ne
  have hlt := h.lt
  clear h
  have hs' := hs.first c.at_ (by omega)
  rw [← bv_take, ← Cur.live_fail c k hk] at hs'
  by_cases hc : c.code = 0
  · have hb : ((c.code : Int) == 0) = true := by simp [hc]
    have HC := Lib.hid hc
    clear hc
    go_enter Tryz.func86, Tryz.ntmps86
    go_wp2
    go_region
    all_goals go_wp2
    go_end0
    have F : Fr [p] w ((w.setCell ⟨p, 2, none⟩ (.int .i64 k)).setCell ⟨p, 0, none⟩ (.slice ao c.at_ cap)).drew :=
      (((Fr.refl _ _).setCell (by simp) _).setCell (by simp) _).drew
    exact ⟨rfl, CurAt.of_fr F (by have := HC.out; simp only [Cur.fail, this, if_true]; exact Go.Joins.block_setCell (Go.Joins.block_setCell hh _) _) hs' (by rw [← hq]; cases ao <;> rfl) hne hle, F⟩
  · have hb : ((c.code : Int) == 0) = false := by simp; omega
    have HC := Lib.hid hc
    clear hc
    go_enter Tryz.func86, Tryz.ntmps86
    go_wp2
    go_region
    all_goals go_wp2
    go_end0
    have F : Fr [p] w (w.setCell ⟨p, 0, none⟩ (.slice ao c.at_ cap)).drew := ((Fr.refl _ _).setCell (by simp) _).drew
    exact ⟨rfl, CurAt.of_fr F (by have := HC.out; simp only [Cur.fail, this, if_false]; exact Go.Joins.block_setCell hh _) hs' (by rw [← hq]; cases ao <;> rfl) hne hle, F⟩

/-- New bytes, and the cursor behind it. -/
def TakeBytes (p : Nat) (q : Option Nat) (r : List UInt8 × Cur) (w : World) (e : Ending) (w' : World) : Prop :=
  ∃ v, e = .returned v ∧ w'.ownsRow w.heap.size 5 1 v r.1.length (bv r.1) ∧ CurAt w' p q r.2 ∧ Fr [p] w w'

set_option maxRecDepth 100000 in
theorem take_any (w : World) (p : Nat) (q : Option Nat) (c : Cur) (n : Nat) (nn : Int) (hn : nn = n) (hn64 : n < 18446744073709551616) (h : CurAt w p q c) (hb : c.b.length ≤ 140737488355328) :
    Calls Tryz.prog 88 #[.pointer (some ⟨p, 0, none⟩), .int .u64 nn] w (TakeBytes p q (c.take n) w) := by
  subst hn
  have hle := h.le
  have hll : c.left ≤ c.b.length := by unfold Cur.left; split <;> omega
  by_cases hc : c.left < n
  · go_enter Tryz.func88, Tryz.ntmps88
    go_wp2_with fail
    refine (left_any w p q c h).mono ?_
    rintro e w1 ⟨rfl, s1⟩
    have h1 := h.same s1
    clear h
    go_wp2_with fail
    refine (fail_any _ p q c 3 _ rfl (by decide) h1).mono ?_
    rintro e w2 ⟨rfl, hc2, hf2⟩
    go_wp2_with fail
    go_ret
    have e1 : c.take n = ([], c.fail 3) := by unfold Cur.take; rw [if_pos (.inr hc)]
    rw [e1]
    exact ⟨_, rfl, World.ownsRow_nil _ _ _ _, hc2, s1.fr.trans hf2 (by simp)⟩
  · by_cases hz : c.code = 0
    · have hb0 : ((c.code : Int) != 0) = false := by simp [hz]
      have hlv : c.live = c.b := by simp [Cur.live, hz]
      have HZ := Lib.hid hz
      have HL := Lib.hid hlv
      have hll2 : c.at_ + c.left = c.b.length := by rw [← c.live_left hle, hlv]
      have HL2 := Lib.hid hll2
      clear hz hlv hll2
      go_enter Tryz.func88, Tryz.ntmps88
      go_wp2_with fail
      refine (left_any w p q c h).mono ?_
      rintro e w1 ⟨rfl, s1⟩
      obtain ⟨ao, cap, hh, c0, c1, c2, hf, hs, hq, hl, hm⟩ := (h.same s1).out
      go_wp2_with fail
      have e1 : IntKind.i64.wrap (n : Int) = n := IntWalk.i64_in _ (by omega)
      have e2 : IntKind.i64.wrap ((c.at_ : Int) + n) = (c.at_ : Int) + n := IntWalk.i64_in _ (by omega)
      have e3 : ((c.at_ : Int) + n).toNat = c.at_ + n := by omega
      have e4 : (0 : Int) ≤ (c.at_ : Int) + n := by omega
      have e5 : (c.at_ : Int) + n ≤ (cap : Int) := by omega
      have e6 : c.at_ + n - c.at_ = n := by omega
      go_still_tail 16, (by kernel_rfl)
      have hs2 := hs.cut c.at_ (c.at_ + n) (by omega) (by omega)
      rw [e6, ← bv_drop, ← bv_take, HL.out] at hs2
      clear e1 e2 e3 e4 e5 e6
      change wpList _ _ _ _ _ w1.drew
      generalize (if cap = c.at_ then ao else Option.map (fun x => x.add c.at_) ao) = ad at hs2 ⊢
      obtain ⟨w2, hw2⟩ : ∃ w2, w2 = w1.drew := ⟨_, rfl⟩
      rw [← hw2]
      have s2 : Same w1 w2 := hw2 ▸ Same.drew
      clear hw2
      have hcc : CurAt w2 p q c := (h.same s1).same s2
      have hs3 := hs2.fr0 s2.fr
      clear hs2 hh c0 c1 c2 hf hs hq h hb0
      go_wp2_with fail
      refine (clone_any w2 _ _ hs3 (by simp; omega)).mono ?_
      rintro e w3 ⟨r, rfl, hown, hf3⟩
      have hlen : ((c.b.drop c.at_).take n).length = n := by have := HL2.out; simp; omega
      have hc3 := hcc.fr hf3 (by simp) (by simp)
      have hplt := hcc.lt
      obtain ⟨ao3, cap3, hh, c0, c1, c2, hf, hs, hq, hl3, hm3⟩ := hc3.out
      have hne := hc3.ne
      clear hcc hs3 hc3
      go_wp2
      go_ret
      have F : Fr [p] w3 (w3.setCell ⟨p, 1, none⟩ (.int .i64 (c.at_ + n))) := (Fr.refl _ _).setCell (by simp) _
      have e1 : c.take n = ((c.b.drop c.at_).take n, { c with at_ := c.at_ + n }) := by
        have := HZ.out
        unfold Cur.take; rw [if_neg (by omega)]
      rw [e1]
      refine ⟨_, rfl, ?_, ?_, ?_⟩
      · refine own_mono (own_fr hown F ?_) (by have := s1.size; have := s2.size; omega)
        intro k hk
        have := hown.lt k hk
        simp
        omega
      · refine CurAt.of_fr (c := { c with at_ := c.at_ + n }) (n := c.at_ + c.left) F ?_ ?_ hq hne (by have := HL2.out; dsimp only; omega)
        · exact Go.Joins.block_setCell hh _
        · have : ({ c with at_ := c.at_ + n } : Cur).live = c.live := by unfold Cur.live; simp [HZ.out]
          rw [this]; exact hs
      · exact ((s1.trans s2).fr.trans0 hf3).trans F (by simp)
    · have hb0 : ((c.code : Int) != 0) = true := by simp; omega
      have HZ := Lib.hid hz
      clear hz
      go_enter Tryz.func88, Tryz.ntmps88
      go_wp2_with fail
      refine (left_any w p q c h).mono ?_
      rintro e w1 ⟨rfl, s1⟩
      have h1 := h.same s1
      obtain ⟨ao, cap, hh, c0, c1, c2, hf, hs, hq, hl, hm⟩ := h1.out
      clear h
      go_wp2_with fail
      refine (fail_any _ p q c 3 _ rfl (by decide) h1).mono ?_
      rintro e w2 ⟨rfl, hc2, hf2⟩
      clear hh c0 c1 c2 hf hs hq hl hm
      go_wp2_with fail
      go_ret
      have e1 : c.take n = ([], c.fail 3) := by unfold Cur.take; rw [if_pos (.inl HZ.out)]
      rw [e1]
      exact ⟨_, rfl, World.ownsRow_nil _ _ _ _, hc2, s1.fr.trans hf2 (by simp)⟩
end Go.Proofs.YtjfoccbbjhigbaaGreat
