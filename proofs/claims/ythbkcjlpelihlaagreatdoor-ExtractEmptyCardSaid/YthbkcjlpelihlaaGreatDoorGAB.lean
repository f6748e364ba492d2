/- Contracts of the cursor's small functions, and of the references' Bytes. No condition but that lengths fit. -/
import Derived.Test.YthbkcjlpelihlaaGreatDoorBaseM
import Derived.Test.YthbkcjlpelihlaaGreatDoorGAA
import Derived.WalkKit
import Derived.Lib.BitFns
namespace Go.Proofs.YthbkcjlpelihlaaGreatDoor
open Go.RowKit

theorem info_u8 : (Tryz.prog.info? 5).map (fun i => (i.zero, i.size, i.bytes)) = some (some (.int .u8 0), 1, 1) := by kernel_rfl
theorem sty_u8 : SlTy Tryz.prog 26 5 (.int .u8 0) 1 := ⟨Tryz.underlying26, by obtain ⟨i, h⟩ := info_parts info_u8; exact ⟨i, h⟩, rfl⟩

/-- The value is new, reads as these bytes, and the old memory is as it was. -/
def NewBytes (bs : List UInt8) (w : World) (e : Ending) (w' : World) : Prop :=
  ∃ r, e = .returned r ∧ w'.ownsRow w.heap.size 5 1 r bs.length (bv bs) ∧ Fr [] w w'

theorem clone_any (w : World) (v : Value) (bs : List UInt8) (h : Sl w v (bv bs)) (hb : bs.length ≤ 140737488355328) :
    Calls Tryz.prog 47 #[v] w (NewBytes bs w) := by
  have hq := @Lib.run_eql_slice_nil
  have hS := h
  obtain ⟨ao, cap, rfl, h1, h2, h3, _⟩ := h
  rw [bv_length] at h1
  cases ao with
  | none =>
    have := h3 rfl
    subst this
    have : bs = [] := List.eq_nil_of_length_eq_zero (by omega)
    subst this
    go_enter Tryz.func47, Tryz.ntmps47
    go_wp2_with fail
    go_ret
    exact ⟨_, rfl, World.ownsRow_nil w w.heap.size 5 1, Fr.refl _ _⟩
  | some ad =>
    have hy : Sl (w.alloc (.cells #[] 5)) (.slice (some ad) (bv bs).length cap) (bv bs) := hS.fr0 ((Fr.refl _ _).alloc _)
    have hbv := bv_length bs
    have hone := bv_one bs
    clear h3 hS
    go_enter Tryz.func47, Tryz.ntmps47
    go_wp2_with (at_builtin; refine wpList_append_sl sty_u8 rfl _ _ rfl w.heap.size _ 0 [] rfl (own_empty w _) _ (bv bs) rfl hy hone ?_ ?_ ?_ ?_)
    all_goals first | omega | skip
    · simp
    · intro v' w' hown hg
      have hF : Fr [] w w' := ((Fr.refl [] w).alloc _).grown hg (by simp [Value.ownBlock])
      clear hone hg hy
      go_wp2
      go_ret
      exact ⟨_, rfl, by simpa [bv_length] using hown, hF⟩

/-- The cursor of the program lies in block p, its bytes in block q. -/
structure CurAt (w : World) (p : Nat) (q : Option Nat) (c : Cur) : Prop where
  ok : ∃ ao n cap, w.heap[p]? = some (.cells #[.slice ao n cap, .int .i64 c.at_, .int .i64 c.code] 212 (0, 0)) ∧
    Sl w (.slice ao n cap) (bv c.live) ∧ (Value.slice ao n cap).ownBlock = q
  le : c.at_ ≤ c.b.length
  ne : q ≠ some p

theorem CurAt.lt {w : World} {p : Nat} {q : Option Nat} {c : Cur} (h : CurAt w p q c) : p < w.heap.size := by
  obtain ⟨_, _, _, h, _⟩ := h.ok
  exact (Array.getElem?_eq_some_iff.1 h).1

theorem CurAt.fr {w w' : World} {p : Nat} {q : Option Nat} {c : Cur} {S : List Nat} (h : CurAt w p q c) (hf : Fr S w w') (hp : p ∉ S) (hq : ∀ k, q = some k → k ∉ S) : CurAt w' p q c := by
  obtain ⟨ao, n, cap, h1, h2, h3⟩ := h.ok
  refine ⟨⟨ao, n, cap, ?_, h2.fr hf (fun k hk => hq k (h3 ▸ hk)), h3⟩, h.le, h.ne⟩
  rw [hf.block p h.lt hp, h1]

/-- The cursor's cells, for a walk. -/
theorem CurAt.out {w : World} {p : Nat} {q : Option Nat} {c : Cur} (h : CurAt w p q c) : ∃ ao cap,
    w.heap[p]? = some (.cells #[.slice ao (c.at_ + c.left) cap, .int .i64 c.at_, .int .i64 c.code] 212 (0, 0)) ∧
    w.cell? ⟨p, 0, none⟩ = some (.slice ao (c.at_ + c.left) cap) ∧ w.cell? ⟨p, 1, none⟩ = some (.int .i64 c.at_) ∧ w.cell? ⟨p, 2, none⟩ = some (.int .i64 c.code) ∧
    (∀ j, w.frozen? ⟨p, j, none⟩ = false) ∧ Sl w (.slice ao (c.at_ + c.left) cap) (bv c.live) ∧ (Value.slice ao (c.at_ + c.left) cap).ownBlock = q ∧ c.at_ + c.left ≤ cap ∧ cap ≤ 9223372036854775807 := by
  obtain ⟨ao, n, cap, h1, h2, h3⟩ := h.ok
  have hn := h2.len
  rw [bv_length, c.live_left h.le] at hn
  subst hn
  have hc := h2.caps
  exact ⟨ao, cap, h1, by simp [Go.Joins.cell_of_block h1], by simp [Go.Joins.cell_of_block h1], by simp [Go.Joins.cell_of_block h1], fun j => Go.Joins.unfrozen_of_block h1 j, h2, h3, hc.1, hc.2⟩

theorem left_any (w : World) (p : Nat) (q : Option Nat) (c : Cur) (h : CurAt w p q c) :
    Calls Tryz.prog 174 #[.pointer (some ⟨p, 0, none⟩)] w fun e w' => e = .returned (.int .i64 c.left) ∧ Same w w' := by
  obtain ⟨ao, cap, _, c0, c1, c2, hf, _, _, hl, hm⟩ := h.out
  have hle := h.le
  clear h
  go_enter Tryz.func174, Tryz.ntmps174
  go_wp2
  go_quiet (fail)
  go_wp2
  go_ret
  exact ⟨by simp; omega, Same.drewN _⟩

theorem code_any (w : World) (p : Nat) (q : Option Nat) (c : Cur) (h : CurAt w p q c) :
    Calls Tryz.prog 224 #[.pointer (some ⟨p, 0, none⟩)] w fun e w' => e = .returned (.int .i64 c.code) ∧ w = w' := by
  obtain ⟨ao, cap, _, c0, c1, c2, hf, _, _, hl, hm⟩ := h.out
  clear h
  go_enter Tryz.func224, Tryz.ntmps224
  go_wp2
  go_ret
  exact ⟨rfl, rfl⟩

theorem CurAt.same {w w' : World} {p : Nat} {q : Option Nat} {c : Cur} (h : CurAt w p q c) (hf : Same w w') : CurAt w' p q c := h.fr (S := []) hf.fr (by simp) (by simp)

theorem CurAt.of_fr {w w' : World} {p : Nat} {q : Option Nat} {c : Cur} {ao : Option Addr} {n cap : Nat} (hf : Fr [p] w w')
    (hh : w'.heap[p]? = some (.cells #[.slice ao n cap, .int .i64 c.at_, .int .i64 c.code] 212 (0, 0)))
    (hs : Sl w (.slice ao n cap) (bv c.live)) (hq : (Value.slice ao n cap).ownBlock = q) (hne : q ≠ some p) (hle : c.at_ ≤ c.b.length) : CurAt w' p q c :=
  ⟨⟨ao, n, cap, hh, hs.fr hf (fun k hk => by rintro h; simp at h; subst h; exact hne (hq ▸ hk)), hq⟩, hle, hne⟩

theorem Cur.live_fail (c : Cur) (k : Nat) (hk : k ≠ 0) : (c.fail k).live = c.live.take c.at_ := by
  unfold Cur.live Cur.fail
  by_cases h : c.code = 0
  · simp [h, hk]
  · simp [h, List.take_take]

theorem fail_any (w : World) (p : Nat) (q : Option Nat) (c : Cur) (k : Nat) (cc : Int) (hcc : cc = k) (hk : k ≠ 0) (h : CurAt w p q c) :
    Calls Tryz.prog 129 #[.pointer (some ⟨p, 0, none⟩), .int .i64 cc] w fun e w' => e = .returned (.tuple #[]) ∧ CurAt w' p q (c.fail k) ∧ Fr [p] w w' := by
  subst hcc
  obtain ⟨ao, cap, hh, c0, c1, c2, hf, hs, hq, hl, hm⟩ := h.out
  have hle := h.le
  have hne := h.ne
  have hlt := h.lt
  clear h
  have hs' := hs.first c.at_ (by omega)
  rw [← bv_take, ← Cur.live_fail c k hk] at hs'
  by_cases hc : c.code = 0
  · have hb : ((c.code : Int) == 0) = true := by simp [hc]
    have HC := Lib.hid hc
    clear hc
    go_enter Tryz.func129, Tryz.ntmps129
    go_wp2
    go_region
    all_goals go_wp2
    go_end0
    have F : Fr [p] w ((w.setCell ⟨p, 2, none⟩ (.int .i64 k)).setCell ⟨p, 0, none⟩ (.slice ao c.at_ cap)).drew :=
      (((Fr.refl _ _).setCell (by simp) _).setCell (by simp) _).drew
    exact ⟨rfl, CurAt.of_fr F (by have := HC.out; simp only [Cur.fail, this, if_true]; exact Go.Joins.block_setCell (Go.Joins.block_setCell hh _) _) hs' (by rw [← hq]; cases ao <;> rfl) hne hle, F⟩
  · have hb : ((c.code : Int) == 0) = false := by simp; omega
    have HC := Lib.hid hc
    clear hc
    go_enter Tryz.func129, Tryz.ntmps129
    go_wp2
    go_region
    all_goals go_wp2
    go_end0
    have F : Fr [p] w (w.setCell ⟨p, 0, none⟩ (.slice ao c.at_ cap)).drew := ((Fr.refl _ _).setCell (by simp) _).drew
    exact ⟨rfl, CurAt.of_fr F (by have := HC.out; simp only [Cur.fail, this, if_false]; exact Go.Joins.block_setCell hh _) hs' (by rw [← hq]; cases ao <;> rfl) hne hle, F⟩

/-- New bytes, and the cursor behind it. -/
def TakeBytes (p : Nat) (q : Option Nat) (r : List UInt8 × Cur) (w : World) (e : Ending) (w' : World) : Prop :=
  ∃ v, e = .returned v ∧ w'.ownsRow w.heap.size 5 1 v r.1.length (bv r.1) ∧ CurAt w' p q r.2 ∧ Fr [p] w w'

set_option maxRecDepth 100000 in
theorem take_any (w : World) (p : Nat) (q : Option Nat) (c : Cur) (n : Nat) (nn : Int) (hn : nn = n) (hn64 : n < 18446744073709551616) (h : CurAt w p q c) (hb : c.b.length ≤ 140737488355328) :
    Calls Tryz.prog 131 #[.pointer (some ⟨p, 0, none⟩), .int .u64 nn] w (TakeBytes p q (c.take n) w) := by
  subst hn
  have hle := h.le
  have hll : c.left ≤ c.b.length := by unfold Cur.left; split <;> omega
  by_cases hc : c.left < n
  · go_enter Tryz.func131, Tryz.ntmps131
    go_wp2_with fail
    refine (left_any w p q c h).mono ?_
    rintro e w1 ⟨rfl, s1⟩
    have h1 := h.same s1
    clear h
    go_wp2_with fail
    refine (fail_any _ p q c 3 _ rfl (by decide) h1).mono ?_
    rintro e w2 ⟨rfl, hc2, hf2⟩
    go_wp2_with fail
    go_ret
    have e1 : c.take n = ([], c.fail 3) := by unfold Cur.take; rw [if_pos (.inr hc)]
    rw [e1]
    exact ⟨_, rfl, World.ownsRow_nil _ _ _ _, hc2, s1.fr.trans hf2 (by simp)⟩
  · by_cases hz : c.code = 0
    · have hb0 : ((c.code : Int) != 0) = false := by simp [hz]
      have hlv : c.live = c.b := by simp [Cur.live, hz]
      have HZ := Lib.hid hz
      have HL := Lib.hid hlv
      have hll2 : c.at_ + c.left = c.b.length := by rw [← c.live_left hle, hlv]
      have HL2 := Lib.hid hll2
      clear hz hlv hll2
      go_enter Tryz.func131, Tryz.ntmps131
      go_wp2_with fail
      refine (left_any w p q c h).mono ?_
      rintro e w1 ⟨rfl, s1⟩
      obtain ⟨ao, cap, hh, c0, c1, c2, hf, hs, hq, hl, hm⟩ := (h.same s1).out
      go_wp2_with fail
      have e1 : IntKind.i64.wrap (n : Int) = n := IntWalk.i64_in _ (by omega)
      have e2 : IntKind.i64.wrap ((c.at_ : Int) + n) = (c.at_ : Int) + n := IntWalk.i64_in _ (by omega)
      have e3 : ((c.at_ : Int) + n).toNat = c.at_ + n := by omega
      have e4 : (0 : Int) ≤ (c.at_ : Int) + n := by omega
      have e5 : (c.at_ : Int) + n ≤ (cap : Int) := by omega
      have e6 : c.at_ + n - c.at_ = n := by omega
      go_still_tail 16, (by kernel_rfl)
      have hs2 := hs.cut c.at_ (c.at_ + n) (by omega) (by omega)
      rw [e6, ← bv_drop, ← bv_take, HL.out] at hs2
      clear e1 e2 e3 e4 e5 e6
      change wpList _ _ _ _ _ w1.drew
      generalize (if cap = c.at_ then ao else Option.map (fun x => x.add c.at_) ao) = ad at hs2 ⊢
      obtain ⟨w2, hw2⟩ : ∃ w2, w2 = w1.drew := ⟨_, rfl⟩
      rw [← hw2]
      have s2 : Same w1 w2 := hw2 ▸ Same.drew
      clear hw2
      have hcc : CurAt w2 p q c := (h.same s1).same s2
      have hs3 := hs2.fr0 s2.fr
      clear hs2 hh c0 c1 c2 hf hs hq h hb0
      go_wp2_with fail
      refine (clone_any w2 _ _ hs3 (by simp; omega)).mono ?_
      rintro e w3 ⟨r, rfl, hown, hf3⟩
      have hlen : ((c.b.drop c.at_).take n).length = n := by have := HL2.out; simp; omega
      have hc3 := hcc.fr hf3 (by simp) (by simp)
      have hplt := hcc.lt
      obtain ⟨ao3, cap3, hh, c0, c1, c2, hf, hs, hq, hl3, hm3⟩ := hc3.out
      have hne := hc3.ne
      clear hcc hs3 hc3
      go_wp2
      go_ret
      have F : Fr [p] w3 (w3.setCell ⟨p, 1, none⟩ (.int .i64 (c.at_ + n))) := (Fr.refl _ _).setCell (by simp) _
      have e1 : c.take n = ((c.b.drop c.at_).take n, { c with at_ := c.at_ + n }) := by
        have := HZ.out
        unfold Cur.take; rw [if_neg (by omega)]
      rw [e1]
      refine ⟨_, rfl, ?_, ?_, ?_⟩
      · refine own_mono (own_fr hown F ?_) (by have := s1.size; have := s2.size; omega)
        intro k hk
        have := hown.lt k hk
        simp
        omega
      · refine CurAt.of_fr (c := { c with at_ := c.at_ + n }) (n := c.at_ + c.left) F ?_ ?_ hq hne (by have := HL2.out; dsimp only; omega)
        · exact Go.Joins.block_setCell hh _
        · have : ({ c with at_ := c.at_ + n } : Cur).live = c.live := by unfold Cur.live; simp [HZ.out]
          rw [this]; exact hs
      · exact ((s1.trans s2).fr.trans0 hf3).trans F (by simp)
    · have hb0 : ((c.code : Int) != 0) = true := by simp; omega
      have HZ := Lib.hid hz
      clear hz
      go_enter Tryz.func131, Tryz.ntmps131
      go_wp2_with fail
      refine (left_any w p q c h).mono ?_
      rintro e w1 ⟨rfl, s1⟩
      have h1 := h.same s1
      obtain ⟨ao, cap, hh, c0, c1, c2, hf, hs, hq, hl, hm⟩ := h1.out
      clear h
      go_wp2_with fail
      refine (fail_any _ p q c 3 _ rfl (by decide) h1).mono ?_
      rintro e w2 ⟨rfl, hc2, hf2⟩
      clear hh c0 c1 c2 hf hs hq hl hm
      go_wp2_with fail
      go_ret
      have e1 : c.take n = ([], c.fail 3) := by unfold Cur.take; rw [if_pos (.inl HZ.out)]
      rw [e1]
      exact ⟨_, rfl, World.ownsRow_nil _ _ _ _, hc2, s1.fr.trans hf2 (by simp)⟩
end Go.Proofs.YthbkcjlpelihlaaGreatDoor
/- Arithmetic on bits, in plain Lean. No condition. -/
namespace Go.Proofs.YthbkcjlpelihlaaGreatDoor
open Go.RowKit

theorem pow256 (k : Nat) : 256 ^ k = 2 ^ (8 * k) := by rw [Nat.pow_mul]

theorem pow256_le {k m : Nat} (h : k ≤ m) : 256 ^ k ≤ 256 ^ m := Nat.pow_le_pow_right (by decide) h

theorem wrap_u64_nat (a : Nat) (h : a < 18446744073709551616) : IntKind.u64.wrap (a : Int) = a := by
  rw [IntKind.wrap_u64]; omega

theorem or_high (s x k : Nat) (hs : s < 2 ^ k) : s ||| x * 2 ^ k = s + 2 ^ k * x := by
  rw [Nat.or_comm, Nat.mul_comm, ← Nat.two_pow_add_eq_or_of_lt hs, Nat.add_comm]

theorem byte_high (k x : Nat) (hk : k < 8) (hx : x < 256) : 256 ^ k * x < 18446744073709551616 ∧ x * 2 ^ (8 * k) < 18446744073709551616 := by
  have h1 : 256 ^ k * 256 ≤ 256 ^ 8 := by rw [← Nat.pow_succ]; exact pow256_le (by omega)
  have h2 : 256 ^ k * x < 256 ^ k * 256 := Nat.mul_lt_mul_of_pos_left hx (Nat.pow_pos (by decide))
  have h3 : (256 : Nat) ^ 8 = 18446744073709551616 := by decide
  rw [← pow256, Nat.mul_comm x]
  omega

/-- One step of 'v |= uint64(x) << (8*i)'. -/
theorem least_step (s k : Nat) (x : UInt8) (hk : k < 8) (hs : s < 256 ^ k) :
    bits BinOp.or IntKind.u64 (s : Int) (IntKind.u64.wrap (IntKind.u64.wrap (x.toNat : Int) * 2 ^ (8 * k))) = ((s + 256 ^ k * x.toNat : Nat) : Int) := by
  have hx := x.toNat_lt
  have hb := byte_high k x.toNat hk (by omega)
  have h1 : 256 ^ k ≤ 256 ^ 8 := pow256_le (by omega)
  have h3 : (256 : Nat) ^ 8 = 18446744073709551616 := by decide
  rw [wrap_u64_nat _ (by omega)]
  have e : ((x.toNat : Int) * 2 ^ (8 * k)) = ((x.toNat * 2 ^ (8 * k) : Nat) : Int) := by push_cast; rfl
  rw [e, wrap_u64_nat _ hb.2, bits_or_u64_nat _ _ (by omega) hb.2, or_high _ _ _ (by rw [← pow256]; exact hs), pow256]

theorem ones_bitLen (x : Nat) (hx : x < 256) : 8 - (Lib.bitLen (255 - x) : Int) = (Cur.ones x : Int) := by
  have h : ∀ y : Fin 256, 8 - (Lib.bitLen (255 - y.val) : Int) = (Cur.ones y.val : Int) := by decide +kernel
  exact h ⟨x, hx⟩

theorem xor_u8 (x : Nat) (hx : x < 256) : bits BinOp.xor IntKind.u8 IntKind.u8.max (x : Int) = ((255 - x : Nat) : Int) := by
  have h : ∀ y : Fin 256, bits BinOp.xor IntKind.u8 IntKind.u8.max (y.val : Int) = ((255 - y.val : Nat) : Int) := by decide +kernel
  exact h ⟨x, hx⟩

theorem mask_u8 (k x : Nat) (hk : k < 8) (hx : x < 256) : bits BinOp.and IntKind.u8 (x : Int) (127 / 2 ^ k) = ((x % 2 ^ (7 - k) : Nat) : Int) := by
  have h : ∀ (j : Fin 8) (y : Fin 256), bits BinOp.and IntKind.u8 (y.val : Int) (127 / 2 ^ j.val) = ((y.val % 2 ^ (7 - j.val) : Nat) : Int) := by decide +kernel
  exact h ⟨k, hk⟩ ⟨x, hx⟩
end Go.Proofs.YthbkcjlpelihlaaGreatDoor
/- Contracts: least, Num, New. No condition but that lengths fit. -/
namespace Go.Proofs.YthbkcjlpelihlaaGreatDoor
open Go.RowKit

theorem least_any (w : World) (v : Value) (bs : List UInt8) (h : Sl w v (bv bs)) (hb : bs.length ≤ 8) :
    Calls Tryz.prog 130 #[v] w fun e w' => e = .returned (.int .u64 (leNat bs)) ∧ w = w' := by
  obtain ⟨ao, cap, rfl, g, m, o⟩ := h.out
  clear h
  simp only [bv_length] at *
  go_enter Tryz.func130, Tryz.ntmps130
  go_wp2
  go_loop [3, 8] (fun v i => ∃ k : Nat, k ≤ bs.length ∧ i = .int .i64 k ∧ v = .int .u64 (leNat (bs.take k))) (fun _ i => bs.length - (intOf i).toNat)
  case atStart => exact ⟨0, Nat.zero_le _, rfl, rfl⟩
  case round =>
    obtain ⟨k, hk, rfl, rfl⟩ := hrel
    by_cases hlt : k < bs.length
    · obtain ⟨b1, of1, rfl, -, c1⟩ := o k hlt
      obtain ⟨x, hx⟩ := some_get bs k hlt
      have d1 : w.cell? ⟨b1, of1 + k, none⟩ = some (.int .u8 x.toNat) := by rw [c1 k hlt, bv_get _ _ _ hx]
      have hs := leNat_take bs k x hx
      obtain ⟨s, hs0⟩ : ∃ s, s = leNat (bs.take k) := ⟨_, rfl⟩
      rw [← hs0] at hs ⊢
      have hlt8 : s < 256 ^ k := by
        have := leNat_lt (bs.take k)
        rw [hs0]
        rwa [List.length_take_of_le (by omega)] at this
      have HB := Lib.hid (least_step s k x (by omega) hlt8)
      have HS := Lib.hid hs
      clear o c1 hx hs0 hs hlt8
      go_wp2
      go_round
      case rel => exact ⟨k + 1, by omega, by go_num, by rw [HB.out, HS.out]⟩
      case measure => simp [intOf]; omega
    · have hk2 : k = bs.length := by omega
      have HK := Lib.hid hk2
      clear hk2 o
      go_wp2
      go_ret
      exact ⟨by rw [HK.out, List.take_of_length_le (Nat.le_refl _)]; rfl, rfl⟩

/-- The cursor is new. -/
def NewCur (c : Cur) (w : World) (e : Ending) (w' : World) : Prop :=
  ∃ p q, e = .returned (.pointer (some ⟨p, 0, none⟩)) ∧ w.heap.size ≤ p ∧ (∀ k, q = some k → w.heap.size ≤ k ∧ k < p) ∧ CurAt w' p q c ∧ Fr [] w w'

theorem new_any (w : World) (v : Value) (bs : List UInt8) (h : Sl w v (bv bs)) (hb : bs.length ≤ 140737488355328) :
    Calls Tryz.prog 84 #[v] w (NewCur ⟨bs, 0, 0⟩ w) := by
  obtain ⟨ao, cap, rfl, g, m, o⟩ := h.out
  go_enter Tryz.func84, Tryz.ntmps84
  go_wp2_with fail
  refine (clone_any w _ bs h hb).mono ?_
  rintro e w1 ⟨r, rfl, hown, hf1⟩
  have hr := hown.lt
  have hs := Sl.of_own hown
  obtain ⟨ao2, cap2, rfl, g2, m2, o2⟩ := hs.out
  have hz := hf1.size
  clear h o o2
  go_wp2
  go_ret
  have F : Fr [] w1 (w1.alloc (.cells #[.slice ao2 (bv bs).length cap2, .int .i64 0, .int .i64 0] 212)) := (Fr.refl _ _).alloc _
  refine ⟨w1.heap.size, (Value.slice ao2 (bv bs).length cap2).ownBlock, rfl, hz, hown.lt, ⟨⟨ao2, _, cap2, ?_, hs.fr0 F, rfl⟩, Nat.zero_le _, fun hk => ?_⟩, hf1.trans0 F⟩
  · exact heap_alloc_new _ _
  · have := (hown.lt _ hk).2
    omega

theorem sized_any (w : World) (n : Int) :
    Calls Tryz.prog 48 #[.int .i64 n] w fun e w' => e = .returned (.bool (Cur.sized n)) ∧ w = w' := by
  by_cases h1 : n = 1
  · subst h1
    go_enter Tryz.func48, Tryz.ntmps48
    go_wp2
    go_ret
    exact ⟨rfl, rfl⟩
  · by_cases h2 : n = 2
    · subst h2
      go_enter Tryz.func48, Tryz.ntmps48
      go_wp2
      go_ret
      exact ⟨rfl, rfl⟩
    · by_cases h4 : n = 4
      · subst h4
        go_enter Tryz.func48, Tryz.ntmps48
        go_wp2
        go_ret
        exact ⟨rfl, rfl⟩
      · have b1 : (n == 1) = false := by simpa using h1
        have b2 : (n == 2) = false := by simpa using h2
        have b4 : (n == 4) = false := by simpa using h4
        have e : Cur.sized n = (n == 8) := by simp [Cur.sized, b1, b2, b4]
        rw [e]
        clear h1 h2 h4 e
        go_enter Tryz.func48, Tryz.ntmps48
        go_wp2
        go_ret
        exact ⟨rfl, rfl⟩

theorem num_any (w : World) (p : Nat) (q : Option Nat) (c : Cur) (n : Int) (h : CurAt w p q c) (hb : c.b.length ≤ 140737488355328) :
    Calls Tryz.prog 85 #[.pointer (some ⟨p, 0, none⟩), .int .i64 n] w fun e w' =>
      e = .returned (.int .u64 (c.num n).1) ∧ CurAt w' p q (c.num n).2 ∧ Fr [p] w w' := by
  by_cases hn : Cur.sized n = true
  · have e1 : c.num n = (leNat (c.take n.toNat).1, (c.take n.toNat).2) := by unfold Cur.num; rw [if_pos hn]
    have hr : 0 ≤ n ∧ n ≤ 8 := by unfold Cur.sized at hn; simp at hn; omega
    have hl : (c.take n.toNat).1.length ≤ 8 := by unfold Cur.take; split <;> simp; omega
    rw [e1]
    obtain ⟨m, rfl⟩ := Int.eq_ofNat_of_zero_le hr.1
    rw [Int.toNat_natCast] at *
    have HN := Lib.hid hn
    clear hn e1
    go_enter Tryz.func85, Tryz.ntmps85
    go_wp2_with fail
    refine (sized_any w _).mono ?_
    rintro e w1 ⟨rfl, rfl⟩
    rw [HN.out]
    go_wp2_with fail
    refine (take_any w p q c m _ rfl (by omega) h hb).mono ?_
    rintro e w1 ⟨r, rfl, hown, hc1, hf1⟩
    clear h
    go_wp2_with fail
    refine (least_any w1 _ _ (Sl.of_own hown) hl).mono ?_
    rintro e w2 ⟨rfl, rfl⟩
    go_wp2_with fail
    go_ret
    exact ⟨rfl, hc1, hf1⟩
  · have hn' : Cur.sized n = false := by simpa using hn
    have e1 : c.num n = (0, c.fail 3) := by unfold Cur.num; rw [if_neg hn]
    rw [e1]
    have HN := Lib.hid hn'
    clear hn hn' e1
    go_enter Tryz.func85, Tryz.ntmps85
    go_wp2_with fail
    refine (sized_any w _).mono ?_
    rintro e w1 ⟨rfl, rfl⟩
    rw [HN.out]
    go_wp2_with fail
    refine (fail_any w p q c 3 _ rfl (by decide) h).mono ?_
    rintro e w2 ⟨rfl, hc2, hf2⟩
    go_wp2_with fail
    go_ret
    exact ⟨rfl, hc2, hf2⟩
end Go.Proofs.YthbkcjlpelihlaaGreatDoor
/- Contracts: Len8, LeadingZeros8, Number. No condition but that lengths fit. -/
namespace Go.Proofs.YthbkcjlpelihlaaGreatDoor
open Go.RowKit

theorem len8_raw (x : Int) (w : World) (h0 : 0 ≤ x) (h1 : x ≤ 255) :
    Calls Tryz.prog 379 #[.int .u8 x] w fun e w' => e = .returned (.int .i64 (wrap64 (Lib.len8 x))) ∧ w = w' := by
  go_enter Tryz.func379, Tryz.ntmps379
  go_wp2
  go_ret
  exact ⟨rfl, rfl⟩

theorem len8_any (x : Int) (w : World) (h0 : 0 ≤ x) (h1 : x ≤ 255) :
    Calls Tryz.prog 379 #[.int .u8 x] w fun e w' => e = .returned (.int .i64 (Lib.bitLen x.toNat)) ∧ w = w' :=
  (len8_raw x w h0 h1).mono fun _ _ ⟨h, hw⟩ => ⟨h.trans (congrArg (fun n => Ending.returned (.int .i64 n)) (by unfold wrap64; exact Lib.len8_int x h0 h1)), hw⟩

theorem lead8_any (x : Nat) (w : World) (h1 : x < 256) :
    Calls Tryz.prog 357 #[.int .u8 x] w fun e w' => e = .returned (.int .i64 (8 - (Lib.bitLen x : Int))) ∧ w = w' := by
  have l := Lib.bitLen_le8 ⟨x, h1⟩
  simp only at l
  go_enter Tryz.func357, Tryz.ntmps357
  go_wp2_with fail
  refine (len8_any x w (by omega) (by omega)).mono ?_
  rintro e w1 ⟨rfl, rfl⟩
  rw [Int.toNat_natCast]
  go_wp2
  go_ret
  exact ⟨rfl, rfl⟩

theorem number_any (w : World) (p : Nat) (q : Option Nat) (c : Cur) (h : CurAt w p q c) (hb : c.b.length ≤ 140737488355328) :
    Calls Tryz.prog 318 #[.pointer (some ⟨p, 0, none⟩)] w fun e w' =>
      e = .returned (.int .u64 c.number.1) ∧ CurAt w' p q c.number.2 ∧ Fr [p] w w' := by
  have hle := h.le
  by_cases h0 : c.left = 0
  · have e1 : c.number = (0, c.fail 3) := by unfold Cur.number; rw [if_pos (by omega)]
    rw [e1]
    have t0 : ((c.left : Int) == 0) = true := by simp [h0]
    have H0 := Lib.hid h0
    clear h0 e1
    go_enter Tryz.func318, Tryz.ntmps318
    go_wp2_with fail
    refine (left_any w p q c h).mono ?_
    rintro e w1 ⟨rfl, s1⟩
    have h1 := h.same s1
    clear h
    go_wp2_with fail
    refine (fail_any _ p q c 3 _ rfl (by decide) h1).mono ?_
    rintro e w2 ⟨rfl, hc2, hf2⟩
    go_wp2_with fail
    go_ret
    exact ⟨rfl, hc2, s1.fr.trans hf2 (by simp)⟩
  · have t0 : ((c.left : Int) == 0) = false := by simp; omega
    have hz : c.code = 0 := by unfold Cur.left at h0; split at h0 <;> simp_all
    have hlv : c.live = c.b := by simp [Cur.live, hz]
    have hll2 : c.at_ + c.left = c.b.length := by rw [← c.live_left hle, hlv]
    obtain ⟨x, hx⟩ := some_get c.b c.at_ (by omega)
    have hhead : c.head = x.toNat := by unfold Cur.head; simp [hx]
    have hx256 := x.toNat_lt
    have hone := ones_bitLen x.toNat (by omega)
    have hole := Cur.ones_le x.toNat
    have HZ := Lib.hid hz
    have HLV := Lib.hid hlv
    have HL2 := Lib.hid hll2
    have HX := Lib.hid hx
    have HH := Lib.hid hhead
    have HO := Lib.hid hone
    clear hz hlv hll2 hx hhead hone
    go_enter Tryz.func318, Tryz.ntmps318
    go_wp2_with fail
    refine (left_any w p q c h).mono ?_
    rintro e w1 ⟨rfl, s1⟩
    have h1 := h.same s1
    clear h
    obtain ⟨ao, cap, hh, c0, c1, c2, hf, hs, hq, hl, hm⟩ := h1.out
    have hj : c.at_ < (bv c.live).length := by rw [bv_length, HLV.out]; have := HL2.out; omega
    obtain ⟨ao', cap', e0, -, -, o⟩ := hs.out
    injection e0 with e1 e2 e3
    subst e1 e3
    obtain ⟨b1, of1, rfl, -, cc⟩ := o c.at_ hj
    have d1 : w1.cell? ⟨b1, of1 + c.at_, none⟩ = some (.int .u8 x.toNat) := by rw [cc _ hj, HLV.out, bv_get _ _ _ HX.out]
    have hlt1 : (c.at_ : Int) < ((c.at_ + c.left : Nat) : Int) := by omega
    have hlt2 : (c.at_ : Int) < (c.at_ : Int) + (c.left : Int) := by omega
    clear o cc hs hq e2 hh hj
    go_wp2_with fail
    go_quiet (fail)
    go_wp2_with fail
    rw [xor_u8 _ hx256]
    refine (lead8_any (255 - x.toNat) _ (by omega)).mono ?_
    rintro e w2 ⟨rfl, hw2⟩
    rw [HO.out]
    have s2 : Same w1 w2 := hw2 ▸ Same.drewN _
    clear hw2
    obtain ⟨k, hk⟩ : ∃ k, k = Cur.ones x.toNat := ⟨_, rfl⟩
    rw [← hk] at hole ⊢
    have HK := Lib.hid hk
    clear hk d1 c0 c1 c2 hlt1 hlt2
    have h2 := h1.same s2
    clear h1
    go_wp2_with fail
    refine (left_any w2 p q c h2).mono ?_
    rintro e w3 ⟨rfl, s3⟩
    have h3 := h2.same s3
    have s03 : Same w w3 := (s1.trans s2).trans s3
    clear h2 s1 s2 s3
    by_cases hlk : c.left < 1 + k
    · have hlk' : (c.left : Int) < 1 + (k : Int) := by omega
      go_wp2_with fail
      refine (fail_any _ p q c 3 _ rfl (by decide) h3).mono ?_
      rintro e w4 ⟨rfl, hc4, hf4⟩
      go_wp2_with fail
      go_ret
      have e1 : c.number = (0, c.fail 3) := by unfold Cur.number; rw [if_pos (by rw [HH.out, ← HK.out]; exact hlk)]
      rw [e1]
      exact ⟨rfl, hc4, s03.fr.trans hf4 (by simp)⟩
    · have hlk' : 1 + (k : Int) ≤ (c.left : Int) := by omega
      obtain ⟨ao, cap, hh, c0, c1, c2, hf, hs, hq, hl, hm⟩ := h3.out
      have hne := h3.ne
      have hle1 := HL2.out
      obtain ⟨c', hc'⟩ : ∃ c' : Cur, c' = { c with at_ := c.at_ + 1 } := ⟨_, rfl⟩
      have F1 : Fr [p] w3 (w3.setCell ⟨p, 1, none⟩ (.int .i64 ((c.at_ : Int) + 1))) := (Fr.refl _ _).setCell (by simp) _
      have h4 : CurAt (w3.setCell ⟨p, 1, none⟩ (.int .i64 ((c.at_ : Int) + 1))) p q c' := by
        refine CurAt.of_fr (n := c.at_ + c.left) F1 (by rw [hc']; exact Go.Joins.block_setCell hh _) ?_ hq hne (by rw [hc']; dsimp only; omega)
        have : c'.live = c.live := by rw [hc']; unfold Cur.live; simp [HZ.out]
        rw [this]; exact hs
      have hb' : c'.b.length ≤ 140737488355328 := by rw [hc']; exact hb
      have e4 : c'.take k = ((c.b.drop (c.at_ + 1)).take k, { c with at_ := c.at_ + 1 + k }) := by
        have hz := HZ.out
        rw [hc']
        unfold Cur.take Cur.left
        simp only [hz, if_true]
        rw [if_neg (by simp; omega)]
      have E4 := Lib.hid e4
      have e5 : c.number = (leNat ((c.b.drop (c.at_ + 1)).take k) + 256 ^ k * (if k < 7 then x.toNat % 2 ^ (7 - k) else 0), { c with at_ := c.at_ + 1 + k }) := by
        unfold Cur.number; rw [if_neg (by rw [HH.out, ← HK.out]; exact hlk), HH.out, ← HK.out]
      have E5 := Lib.hid e5
      have hlen : ((c.b.drop (c.at_ + 1)).take k).length = k := by simp; omega
      clear hs hq hl hh e4 e5 hc' h3 hle1 hlen
      go_wp2_with fail
      refine (take_any _ p q c' k _ rfl (by omega) h4 hb').mono ?_
      rintro e w5 ⟨r, rfl, hown, hc5, hf5⟩
      rw [E4.out] at hown hc5
      clear h4 c0 c1 c2 hf
      go_wp2_with fail
      refine (least_any w5 _ _ (Sl.of_own hown) (by simp; omega)).mono ?_
      rintro e w6 ⟨rfl, rfl⟩
      have F : Fr [p] w w5 := (s03.fr.trans F1 (by simp)).trans hf5 (by simp)
      by_cases hk7 : k < 7
      · have hk7' : (k : Int) < 7 := by omega
        go_wp2_with fail
        go_ret
        rw [E5.out]
        refine ⟨?_, hc5, F⟩
        have hsl : leNat (List.take k (List.drop (c.at_ + 1) c.b)) < 256 ^ k := by
          have := leNat_lt (List.take k (List.drop (c.at_ + 1) c.b))
          rwa [List.length_take_of_le (by have := HL2.out; simp; omega)] at this
        have hm := mask_u8 k x.toNat (by omega) (by omega)
        have hlt : x.toNat % 2 ^ (7 - k) < 256 := Nat.lt_of_le_of_lt (Nat.mod_le _ _) (by omega)
        obtain ⟨y, hy⟩ : ∃ y : UInt8, y.toNat = x.toNat % 2 ^ (7 - k) := ⟨UInt8.ofNat (x.toNat % 2 ^ (7 - k)), by simp; omega⟩
        have hst := least_step _ k y (by omega) hsl
        rw [hy] at hst
        simp only [hk7, if_true]
        rw [← hst, ← hm]
        rfl
      · have hk7' : 7 ≤ (k : Int) := by omega
        have HK7 := Lib.hid hk7
        clear hk7
        go_wp2_with fail
        go_ret
        rw [E5.out]
        refine ⟨?_, hc5, F⟩
        simp [HK7.out]
end Go.Proofs.YthbkcjlpelihlaaGreatDoor
