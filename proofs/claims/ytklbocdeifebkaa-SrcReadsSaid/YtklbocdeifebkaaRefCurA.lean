/- Contracts of the reference's cursor: Left, fail, Take, Value, Num. No condition but that lengths fit. -/
import Derived.Test.YtklbocdeifebkaaReadC
import Derived.Test.YtklbocdeifebkaaRefPut
import Derived.Deep.RegionHeld3
namespace Go.Proofs.Ytklbocdeifebkaa
open Go.RowKit

/-- The reference's cursor lies in block p; its bytes (v) are elsewhere. -/
structure RCurAt (w : World) (p : Nat) (v : Value) (c : Cur) : Prop where
  cells : w.heap[p]? = some (.cells #[v, .int .i64 c.at_, .int .i64 c.code] 54 (0, 0))
  bytes : Sl w v (bv c.b)
  le : c.at_ ≤ c.b.length
  ne : v.ownBlock ≠ some p

theorem RCurAt.lt {w : World} {p : Nat} {v : Value} {c : Cur} (h : RCurAt w p v c) : p < w.heap.size := (Array.getElem?_eq_some_iff.1 h.cells).1

theorem RCurAt.fr {w w' : World} {p : Nat} {v : Value} {c : Cur} {S : List Nat} (h : RCurAt w p v c) (hf : Fr S w w') (hp : p ∉ S) (hq : ∀ k, v.ownBlock = some k → k ∉ S) : RCurAt w' p v c :=
  ⟨by rw [hf.block p h.lt hp, h.cells], h.bytes.fr hf hq, h.le, h.ne⟩

theorem RCurAt.same {w w' : World} {p : Nat} {v : Value} {c : Cur} (h : RCurAt w p v c) (hf : Same w w') : RCurAt w' p v c := h.fr (S := []) hf.fr (by simp) (by simp)

theorem RCurAt.out {w : World} {p : Nat} {v : Value} {c : Cur} (h : RCurAt w p v c) : ∃ ao cap, v = .slice ao c.b.length cap ∧
    w.heap[p]? = some (.cells #[.slice ao c.b.length cap, .int .i64 c.at_, .int .i64 c.code] 54 (0, 0)) ∧
    w.cell? ⟨p, 0, none⟩ = some (.slice ao c.b.length cap) ∧ w.cell? ⟨p, 1, none⟩ = some (.int .i64 c.at_) ∧ w.cell? ⟨p, 2, none⟩ = some (.int .i64 c.code) ∧
    (∀ j, w.frozen? ⟨p, j, none⟩ = false) ∧ c.b.length ≤ cap ∧ cap ≤ 9223372036854775807 := by
  obtain ⟨ao, cap, rfl, h1, h2, _⟩ := h.bytes
  rw [bv_length] at *
  have hc := h.cells
  exact ⟨ao, cap, rfl, hc, by simp [Go.Joins.cell_of_block hc], by simp [Go.Joins.cell_of_block hc], by simp [Go.Joins.cell_of_block hc], fun j => Go.Joins.unfrozen_of_block hc j, h1, h2⟩

theorem RCurAt.write {w : World} {p : Nat} {v : Value} {c c' : Cur} {w' : World} (h : RCurAt w p v c) (hf : Fr [p] w w') (hb : c'.b = c.b) (hle : c'.at_ ≤ c.b.length)
    (hc : w'.heap[p]? = some (.cells #[v, .int .i64 c'.at_, .int .i64 c'.code] 54 (0, 0))) : RCurAt w' p v c' := by
  have hne := h.ne
  refine ⟨hc, by rw [hb]; exact h.bytes.fr hf (fun k hk => by rintro h2; simp at h2; subst h2; exact hne hk), by rw [hb]; exact hle, hne⟩

theorem RCurAt.setAt {w : World} {p : Nat} {v : Value} {c : Cur} (h : RCurAt w p v c) (n : Nat) (hn : n ≤ c.b.length) :
    RCurAt (w.setCell ⟨p, 1, none⟩ (.int .i64 n)) p v { c with at_ := n } ∧ Fr [p] w (w.setCell ⟨p, 1, none⟩ (.int .i64 n)) := by
  have F : Fr [p] w (w.setCell ⟨p, 1, none⟩ (.int .i64 n)) := (Fr.refl _ _).setCell (by simp) _
  exact ⟨h.write F rfl hn (Go.Joins.block_setCell h.cells _), F⟩

theorem rleft_any (w : World) (p : Nat) (v : Value) (c : Cur) (h : RCurAt w p v c) :
    Calls Try.prog 43 #[.pointer (some ⟨p, 0, none⟩)] w fun e w' => e = .returned (.int .i64 c.left) ∧ Same w w' := by
  obtain ⟨ao, cap, _, _, c0, c1, c2, hf, hl, hm⟩ := h.out
  have hle := h.le
  clear h
  by_cases hz : c.code = 0
  · have t0 : ((c.code : Int) != 0) = false := by simp [hz]
    have e : c.left = c.b.length - c.at_ := by unfold Cur.left; rw [if_pos hz]
    rw [e]
    clear hz e
    go_enter Try.func43, Try.ntmps43
    go_wp2
    go_quiet (fail)
    go_wp2
    go_ret
    exact ⟨by simp; omega, Same.drewN _⟩
  · have t0 : ((c.code : Int) != 0) = true := by rw [bne_iff_ne]; omega
    have e : c.left = 0 := by unfold Cur.left; rw [if_neg hz]
    rw [e]
    clear hz e
    go_enter Try.func43, Try.ntmps43
    go_wp2
    go_ret
    exact ⟨rfl, Same.refl _⟩

theorem rfail_any (w : World) (p : Nat) (v : Value) (c : Cur) (k : Nat) (cc : Int) (hcc : cc = k) (_hk : k ≠ 0) (h : RCurAt w p v c) :
    Calls Try.prog 53 #[.pointer (some ⟨p, 0, none⟩), .int .i64 cc] w fun e w' => e = .returned (.tuple #[]) ∧ RCurAt w' p v (c.fail k) ∧ Fr [p] w w' := by
  subst hcc
  obtain ⟨ao, cap, rfl, hh, c0, c1, c2, hf, hl, hm⟩ := h.out
  by_cases hz : c.code = 0
  · have t0 : ((c.code : Int) == 0) = true := by simp [hz]
    have HZ := Lib.hid hz
    have H := Lib.hid h
    clear hz h
    go_enter Try.func53, Try.ntmps53
    go_wp2
    go_end0
    have F : Fr [p] w (w.setCell ⟨p, 2, none⟩ (.int .i64 k)) := (Fr.refl _ _).setCell (by simp) _
    refine ⟨rfl, H.out.write F rfl H.out.le ?_, F⟩
    have e : (c.fail k).code = k := by unfold Cur.fail; simp [HZ.out]
    rw [e]
    exact Go.Joins.block_setCell hh _
  · have t0 : ((c.code : Int) == 0) = false := by simp; omega
    have e : c.fail k = c := by unfold Cur.fail; rw [if_neg hz]
    rw [e]
    have H := Lib.hid h
    clear hz h e
    go_enter Try.func53, Try.ntmps53
    go_wp2
    go_end0
    exact ⟨rfl, H.out, Fr.refl _ _⟩

theorem value_any (w : World) (v : Value) (bs : List UInt8) (h : Sl w v (bv bs)) (hb : bs.length ≤ 8) :
    Calls Try.prog 54 #[v] w fun e w' => e = .returned (.int .u64 (leNat bs)) ∧ Same w w' := by
  obtain ⟨ao, cap, rfl, g, m, o⟩ := h.out
  clear h
  rw [bv_length] at *
  have HO := Lib.hid o
  clear o
  go_enter Try.func54, Try.ntmps54
  go_wp2_with fail
  go_loopw [3, 4] (fun v i wr => ∃ (k Q : Nat), k ≤ bs.length ∧ i = .int .i64 k ∧ v = .int .u64 Q ∧ Hid (Q = leNat (bs.take k)) ∧ Same w wr) (fun _ i _ => bs.length - (intOf i).toNat)
  case atStart => exact ⟨0, 0, Nat.zero_le _, rfl, rfl, rfl, Same.refl w⟩
  case round =>
    obtain ⟨k, Q, hk, rfl, rfl, HQ, hS⟩ := hrel
    by_cases hlt : k < bs.length
    · have hlt' : (k : Int) < (bs.length : Int) := by omega
      obtain ⟨b1, of1, rfl, -, c1⟩ := HO.out k hlt
      obtain ⟨x, hx⟩ := some_get bs k hlt
      have d0 : w.cell? ⟨b1, of1 + k, none⟩ = some (.int .u8 x.toNat) := by rw [c1 k hlt, bv_get _ _ _ hx]
      have d1 : wr.cell? ⟨b1, of1 + k, none⟩ = some (.int .u8 x.toNat) := by rw [hS.cell, d0]
      have hs := leNat_take bs k x hx
      have hx8 := x.toNat_lt
      obtain ⟨P, hP⟩ : ∃ P, P = 256 ^ k := ⟨_, rfl⟩
      have hbh := byte_high k x.toNat (by omega) (by omega)
      have hQl : Q < P := by
        have := leNat_lt (bs.take k)
        rwa [List.length_take_of_le (by omega), ← HQ.out, ← hP] at this
      rw [← hP] at hs hbh
      obtain ⟨R, hR⟩ : ∃ R, R = x.toNat * P := ⟨_, rfl⟩
      have hRb : R < 18446744073709551616 := by rw [hR, Nat.mul_comm]; exact hbh.1
      have hRI : (x.toNat : Int) * (P : Int) = (R : Int) := by rw [hR]; simp
      have hQR : Q + R < 18446744073709551616 := by
        have h1 := leNat_lt (bs.take (k + 1))
        rw [List.length_take_of_le (by omega)] at h1
        have h2 : 256 ^ (k + 1) ≤ 256 ^ 8 := pow256_le (by omega)
        have h3 : (256 : Nat) ^ 8 = 18446744073709551616 := by decide
        rw [hs, ← HQ.out, Nat.mul_comm, ← hR] at h1
        omega
      have hnx : leNat (bs.take (k + 1)) = Q + R := by rw [hs, ← HQ.out, Nat.mul_comm, ← hR]
      have HNX := Lib.hid hnx
      have D0 := Lib.hid d0
      have hw1 : IntKind.u64.wrap (R : Int) = (R : Int) := wrap_u64_nat _ hRb
      have hw2 : IntKind.u64.wrap ((Q : Int) + (R : Int)) = (Q : Int) + (R : Int) := by
        have := wrap_u64_nat _ hQR
        rwa [Int.natCast_add] at this
      have hw3 : IntKind.u64.wrap (x.toNat : Int) = (x.toNat : Int) := wrap_u64_nat _ (by omega)
      have HP := fun w => Lib.hid (power_any w k P (by omega) hP)
      clear c1 hx hs hP hbh hR hnx d0 hQl
      go_wp2_with fail
      go_region_held3 (fun w' => w'.cell? ⟨b1, of1 + k, none⟩ = some (.int .u8 x.toNat)) (go_keep)
        (first | (go_at_call 50; refine (HP _).out.mono ?_; rintro e wx ⟨rfl, rfl⟩))
      clear HP hw1 hw2 hw3
      go_wp2_with fail
      go_roundw
      case rel => exact ⟨k + 1, Q + R, by omega, by go_num, by simp, HNX.out.symm, hS.trans Same.drew⟩
      case measure => simp [intOf]; omega
    · have hlt' : (bs.length : Int) ≤ (k : Int) := by omega
      go_wp2_with fail
      go_ret
      have hq := HQ.out
      rw [List.take_of_length_le (by omega)] at hq
      exact ⟨by rw [← hq]; rfl, hS⟩

/-- New bytes, and the reference's cursor behind it. -/
def RTake (p : Nat) (v : Value) (r : List UInt8 × Cur) (w : World) (e : Ending) (w' : World) : Prop :=
  ∃ x, e = .returned x ∧ w'.ownsRow w.heap.size 5 1 x r.1.length (bv r.1) ∧ RCurAt w' p v r.2 ∧ Fr [p] w w'

theorem rtake_any (w : World) (p : Nat) (v : Value) (c : Cur) (n : Nat) (nn : Int) (hn : nn = n) (hn64 : n < 18446744073709551616) (h : RCurAt w p v c) (hb : c.b.length ≤ 140737488355328) :
    Calls Try.prog 37 #[.pointer (some ⟨p, 0, none⟩), .int .u64 nn] w (RTake p v (c.take n) w) := by
  subst hn
  have hle := h.le
  have hll : c.left ≤ c.b.length := by unfold Cur.left; split <;> omega
  obtain ⟨ao, cap, rfl, hh, c0, c1, c2, hf, hl, hm⟩ := h.out
  by_cases hz : c.code = 0
  · have t0 : ((c.code : Int) != 0) = false := by simp [hz]
    by_cases hc : c.left < n
    · have e1 : c.take n = ([], c.fail 3) := by unfold Cur.take; rw [if_pos (.inr hc)]
      have E1 := Lib.hid e1
      clear hz e1 hh
      go_enter Try.func37, Try.ntmps37
      go_wp2_with fail
      refine (rleft_any w p _ c h).mono ?_
      rintro e w1 ⟨rfl, s1⟩
      have h1 := h.same s1
      clear h c0 c1 c2 hf
      go_wp2_with fail
      refine (rfail_any _ p _ c 3 _ rfl (by decide) h1).mono ?_
      rintro e w2 ⟨rfl, hc2, hf2⟩
      go_wp2_with fail
      go_ret
      rw [E1.out]
      exact ⟨_, rfl, World.ownsRow_nil _ _ _ _, hc2, s1.fr.trans hf2 (by simp)⟩
    · have hlc : c.at_ + c.left = c.b.length := by unfold Cur.left; rw [if_pos hz]; omega
      have e1' : c.take n = ((c.b.drop c.at_).take n, { c with at_ := c.at_ + n }) := by unfold Cur.take; rw [if_neg (by omega)]
      have E1 := Lib.hid e1'
      have hcut := h.bytes.cut c.at_ (c.at_ + n) (by omega) (by omega)
      have e6 : c.at_ + n - c.at_ = n := by omega
      rw [e6, ← bv_drop, ← bv_take] at hcut
      have hn1 : n ≤ c.b.length := by omega
      have hn2 : c.at_ + n ≤ c.b.length := by omega
      have hlen : ((c.b.drop c.at_).take n).length = n := by simp; omega
      have HLN := Lib.hid hlen
      have hrange : c.at_ + n ≤ cap := by omega
      clear hz e1' hh hlc e6 hlen hle
      go_enter Try.func37, Try.ntmps37
      go_wp2_with fail
      refine (rleft_any w p _ c h).mono ?_
      rintro e w1 ⟨rfl, s1⟩
      have h1 := h.same s1
      have hcut1 := hcut.fr0 s1.fr
      clear h c0 c1 c2 hf hcut
      obtain ⟨_, _, e0, hh, c0, c1, c2, hf, _⟩ := h1.out
      injection e0 with e1 e2 e3
      subst e1 e3
      clear e2
      have e1 : IntKind.i64.wrap (n : Int) = n := IntWalk.i64_in _ (by omega)
      have e2 : IntKind.i64.wrap ((c.at_ : Int) + n) = (c.at_ : Int) + n := IntWalk.i64_in _ (by omega)
      have e3 : ((c.at_ : Int) + n).toNat = c.at_ + n := by omega
      have e4 : (0 : Int) ≤ (c.at_ : Int) + n := by omega
      have e5 : (c.at_ : Int) + n ≤ (cap : Int) := by omega
      have e6 : c.at_ + n - c.at_ = n := by omega
      have hplt := h1.lt
      go_wp2_with fail
      go_region_held3 (fun w' => w'.cell? ⟨p, 0, none⟩ = some (.slice ao c.b.length cap) ∧ w'.cell? ⟨p, 1, none⟩ = some (.int .i64 c.at_)) (first | go_keep | (simp [go_sem, World.cell?_alloc_lt, hplt, *]))
        (first | (refine step_append_sl sty_u8 rfl _ _ (by rfl) w1.heap.size _ 0 [] (by rfl) (own_empty w1 _) _ (bv ((c.b.drop c.at_).take n)) (by rfl) (hcut1.fr0 (((Fr.refl _ _).alloc _).drew)) (bv_one _) (by rw [bv_length, HLN.out]; omega) (by rw [bv_length, HLN.out]; omega) (by simp) ?_; intro v3 w3 hown3 hg3; have F3 : Fr [] w1 w3 := (((Fr.refl _ _).alloc _).drew).grown hg3 (fun k hk => .inr (by simp [Value.ownBlock] at hk; omega)); have k0 := (F3.cell (p := ⟨p, 0, none⟩) hplt (by simp)).trans c0; have k1 := (F3.cell (p := ⟨p, 1, none⟩) hplt (by simp)).trans c1))
      generalize (if cap = c.at_ then ao else Option.map (fun x => x.add c.at_) ao) = ad
      have h3 := h1.fr F3 (by simp) (by simp)
      clear e1 e2 e3 e4 e5 hg3 k0 k1 c0 c1 c2 hf hcut1
      obtain ⟨_, _, e0, hh3, c0, c1, c2, hf, _⟩ := h3.out
      injection e0 with e1 e2 e3
      subst e1 e3
      clear e2
      obtain ⟨hset, Fs⟩ := h3.setAt (c.at_ + n) hn2
      rw [Int.natCast_add] at hset Fs
      have hown4 := own_fr hown3 Fs (fun k hk => by have := hown3.lt k hk; simp; omega)
      clear hh hown3
      go_wp2_with fail
      go_ret
      rw [E1.out]
      refine ⟨_, rfl, ?_, hset, (s1.fr.trans0 F3).trans Fs (by simp)⟩
      have := own_mono hown4 (by have := s1.size; omega : w.heap.size ≤ w1.heap.size)
      simpa [bv_length] using this
  · have t0 : ((c.code : Int) != 0) = true := by rw [bne_iff_ne]; omega
    have e1 : c.take n = ([], c.fail 3) := by unfold Cur.take; rw [if_pos (.inl hz)]
    have E1 := Lib.hid e1
    clear hz e1 hh
    go_enter Try.func37, Try.ntmps37
    go_wp2_with fail
    refine (rfail_any w p _ c 3 _ rfl (by decide) h).mono ?_
    rintro e w2 ⟨rfl, hc2, hf2⟩
    clear c0 c1 c2 hf
    go_wp2_with fail
    go_ret
    rw [E1.out]
    exact ⟨_, rfl, World.ownsRow_nil _ _ _ _, hc2, hf2⟩

theorem rnum_any (w : World) (p : Nat) (v : Value) (c : Cur) (n : Int) (h : RCurAt w p v c) (hb : c.b.length ≤ 140737488355328) :
    Calls Try.prog 35 #[.pointer (some ⟨p, 0, none⟩), .int .i64 n] w fun e w' =>
      e = .returned (.int .u64 (c.num n).1) ∧ RCurAt w' p v (c.num n).2 ∧ Fr [p] w w' := by
  by_cases hn : Cur.sized n = true
  · have e1 : c.num n = (leNat (c.take n.toNat).1, (c.take n.toNat).2) := by unfold Cur.num; rw [if_pos hn]
    have hr : 0 ≤ n ∧ n ≤ 8 ∧ (n = 1 ∨ n = 2 ∨ n = 4 ∨ n = 8) := by unfold Cur.sized at hn; simp at hn; omega
    have hl : (c.take n.toNat).1.length ≤ 8 := by unfold Cur.take; split <;> simp; omega
    rw [e1]
    obtain ⟨m, rfl⟩ := Int.eq_ofNat_of_zero_le hr.1
    rw [Int.toNat_natCast] at *
    have hcase : (((m : Int) != 1) = false) ∨ (((m : Int) != 1) = true ∧ ((m : Int) != 2) = false) ∨ (((m : Int) != 1) = true ∧ ((m : Int) != 2) = true ∧ ((m : Int) != 4) = false) ∨
        (((m : Int) != 1) = true ∧ ((m : Int) != 2) = true ∧ ((m : Int) != 4) = true ∧ ((m : Int) != 8) = false) := by
      rcases hr.2.2 with h | h | h | h <;> simp [h]
    have hm8 : m ≤ 8 := by omega
    clear hn e1 hr
    rcases hcase with m1 | ⟨m1, m2⟩ | ⟨m1, m2, m4⟩ | ⟨m1, m2, m4, m8⟩
    all_goals
      go_enter Try.func35, Try.ntmps35
      go_wp2_with fail
      refine (rtake_any w p v c m _ rfl (by omega) h hb).mono ?_
      rintro e w1 ⟨r, rfl, hown, hc1, hf1⟩
      go_wp2_with fail
      refine (value_any w1 _ _ (Sl.of_own hown) hl).mono ?_
      rintro e w2 ⟨rfl, s2⟩
      go_wp2_with fail
      go_ret
      exact ⟨rfl, hc1.same s2, hf1.trans0 s2.fr⟩
  · have hn' : Cur.sized n = false := by simpa using hn
    have e1 : c.num n = (0, c.fail 3) := by unfold Cur.num; rw [if_neg hn]
    rw [e1]
    obtain ⟨n1, n2, n4, n8⟩ : (n == 1) = false ∧ (n == 2) = false ∧ (n == 4) = false ∧ (n == 8) = false := by
      unfold Cur.sized at hn'; simpa [and_assoc] using hn'
    have m1 : (n != 1) = true := by simp [bne, n1]
    have m2 : (n != 2) = true := by simp [bne, n2]
    have m4 : (n != 4) = true := by simp [bne, n4]
    have m8 : (n != 8) = true := by simp [bne, n8]
    clear hn e1 hn' n1 n2 n4 n8
    go_enter Try.func35, Try.ntmps35
    go_wp2_with fail
    refine (rfail_any w p v c 3 _ rfl (by decide) h).mono ?_
    rintro e w2 ⟨rfl, hc2, hf2⟩
    go_wp2_with fail
    go_ret
    exact ⟨rfl, hc2, hf2⟩
end Go.Proofs.Ytklbocdeifebkaa
