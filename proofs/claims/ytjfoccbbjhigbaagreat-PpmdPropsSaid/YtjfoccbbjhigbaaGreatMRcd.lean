/- Contracts: the range decoder of PPMd over a feed (layer 6). No condition but that numbers fit. -/
import Derived.Test.YtjfoccbbjhigbaaGreatFeed
import Derived.Test.YtjfoccbbjhigbaaGreatBits
import Derived.Deep.RegionHeld3
namespace Go.Proofs.YtjfoccbbjhigbaaGreat
open Go.RowKit

/-- A range decoder: its range and code, how many bytes it took, whether it is bad. -/
structure Rd where
  rng : Nat
  code : Nat
  at_ : Nat
  bad : Bool
def Rd.byte (bs : List UInt8) (r : Rd) : Nat := if r.bad then 0 else match bs[r.at_]? with | some x => x.toNat | none => 0
def Rd.next (bs : List UInt8) (r : Rd) : Rd := if r.bad then r else match bs[r.at_]? with | some _ => { r with at_ := r.at_ + 1 } | none => { r with bad := true }
def Rd.shift (bs : List UInt8) (r : Rd) : Rd := { (r.next bs) with code := r.code % 16777216 * 256 + r.byte bs }
/-- Levelled, in so many steps at most. -/
def lev (bs : List UInt8) : Nat → Rd → Rd
  | 0, r => r
  | n + 1, r => if r.rng < 16777216 ∧ r.bad = false then lev bs n (Rd.shift bs { r with rng := r.rng * 256 }) else r
structure RcAt (w : World) (rp fp : Nat) (q : Option Nat) (bs : List UInt8) (r : Rd) : Prop where
  blk : w.heap[rp]? = some (.cells #[.iface 52 (.pointer (some ⟨fp, 0, none⟩)), .int .u32 r.rng, .int .u32 r.code, .bool r.bad] 166 (0, 0))
  feed : FeedAt w fp q bs r.at_
  n1 : rp ≠ fp
  n2 : ∀ k, q = some k → k ≠ rp
  rl : r.rng < 4294967296
  cl : r.code < 4294967296
theorem meth_feed (p : Nat) (w : World) : (method 346 52 (.pointer (some ⟨p, 0, none⟩)) "Next").run Tryz.prog w = .ok (207, .pointer (some ⟨p, 0, none⟩)) w := by kernel_rfl
section
variable {w : World} {rp fp : Nat} {q : Option Nat} {bs : List UInt8} {r : Rd}
theorem RcAt.lt (h : RcAt w rp fp q bs r) : rp < w.heap.size := (Array.getElem?_eq_some_iff.1 h.blk).1
theorem RcAt.fr (h : RcAt w rp fp q bs r) {w' : World} {S : List Nat} (F : Fr S w w') (h1 : rp ∉ S) (h2 : fp ∉ S) (h3 : ∀ k, q = some k → k ∉ S) : RcAt w' rp fp q bs r := ⟨(F.block rp h.lt h1).trans h.blk, h.feed.fr F h2 h3, h.n1, h.n2, h.rl, h.cl⟩
theorem RcAt.same (h : RcAt w rp fp q bs r) {w' : World} (s : Same w w') : RcAt w' rp fp q bs r := h.fr (s.fr (S := [])) (by simp) (by simp) (by simp)
theorem RcAt.cells (h : RcAt w rp fp q bs r) : w.cell? ⟨rp, 0, none⟩ = some (.iface 52 (.pointer (some ⟨fp, 0, none⟩))) ∧ w.cell? ⟨rp, 1, none⟩ = some (.int .u32 r.rng) ∧ w.cell? ⟨rp, 2, none⟩ = some (.int .u32 r.code) ∧ w.cell? ⟨rp, 3, none⟩ = some (.bool r.bad) ∧ ∀ j, w.frozen? ⟨rp, j, none⟩ = false :=
  ⟨by simp [Go.Joins.cell_of_block h.blk], by simp [Go.Joins.cell_of_block h.blk], by simp [Go.Joins.cell_of_block h.blk], by simp [Go.Joins.cell_of_block h.blk], fun j => Go.Joins.unfrozen_of_block h.blk j⟩
theorem RcAt.set (h : RcAt w rp fp q bs r) {j : Nat} {v : Value} {r' : Rd} (e : (#[Value.iface 52 (.pointer (some ⟨fp, 0, none⟩)), .int .u32 r.rng, .int .u32 r.code, .bool r.bad]).setIfInBounds j v = #[Value.iface 52 (.pointer (some ⟨fp, 0, none⟩)), .int .u32 r'.rng, .int .u32 r'.code, .bool r'.bad]) (ha : r'.at_ = r.at_) (h1 : r'.rng < 4294967296) (h2 : r'.code < 4294967296) : RcAt (w.setCell ⟨rp, j, none⟩ v) rp fp q bs r' := by
  have F : Fr [rp] w (w.setCell ⟨rp, j, none⟩ v) := (Fr.refl _ _).setCell (.inl (by simp)) _
  exact ⟨by rw [← e]; exact Go.Joins.block_setCell h.blk v, by rw [ha]; exact h.feed.fr F (by simpa using Ne.symm h.n1) (fun k hk => by simpa using h.n2 k hk), h.n1, h.n2, h1, h2⟩
theorem RcAt.setRng (h : RcAt w rp fp q bs r) (x : Nat) (hx : x < 4294967296) : RcAt (w.setCell ⟨rp, 1, none⟩ (.int .u32 x)) rp fp q bs { r with rng := x } := h.set rfl rfl hx h.cl
theorem RcAt.setCode (h : RcAt w rp fp q bs r) (x : Nat) (hx : x < 4294967296) : RcAt (w.setCell ⟨rp, 2, none⟩ (.int .u32 x)) rp fp q bs { r with code := x } := h.set rfl rfl h.rl hx
theorem RcAt.setBad (h : RcAt w rp fp q bs r) (x : Bool) : RcAt (w.setCell ⟨rp, 3, none⟩ (.bool x)) rp fp q bs { r with bad := x } := h.set rfl rfl h.rl h.cl
set_option maxRecDepth 100000 in
theorem rcnext_any (h : RcAt w rp fp q bs r) : Calls Tryz.prog 84 #[.pointer (some ⟨rp, 0, none⟩)] w fun e w' => e = .returned (.int .u8 (r.byte bs)) ∧ RcAt w' rp fp q bs (r.next bs) ∧ Fr [rp, fp] w w' := by
  obtain ⟨c0, c1, c2, c3, z⟩ := h.cells
  have hl := h.lt
  have HH := Lib.hid h
  clear h
  by_cases hb : r.bad = true
  · rw [hb] at c3
    have e1 : r.byte bs = 0 := by unfold Rd.byte; rw [if_pos hb]
    have e2 : r.next bs = r := by unfold Rd.next; rw [if_pos hb]
    rw [e1, e2]
    clear hb e1 e2
    go_enter Tryz.func84, Tryz.ntmps84
    go_wp2_with fail
    go_ret
    exact ⟨rfl, HH.out, Fr.refl _ _⟩
  · have hb2 : r.bad = false := by simpa using hb
    rw [hb2] at c3
    clear hb
    have HB := Lib.hid hb2
    clear hb2
    cases hx : bs[r.at_]? with
    | none =>
      have hk : r.at_ = bs.length := by have := HH.out.feed.le; have := List.getElem?_eq_none_iff.1 hx; omega
      have e1 : r.byte bs = 0 := by unfold Rd.byte; rw [HB.out, hx]; rfl
      have e2 : r.next bs = { r with bad := true } := by unfold Rd.next; rw [HB.out, hx]; rfl
      rw [e1, e2]
      have HN := Lib.hid (next_none w fp q bs r.at_ hk HH.out.feed)
      clear e1 e2 hx hk
      go_enter Tryz.func84, Tryz.ntmps84
      have hm := meth_feed fp
      have HC := Lib.hid (fun (wx : World) (s : Same w wx) => (HH.out.same s).cells)
      go_wp2_with (go_at_call 207; refine HN.out.mono ?_; rintro e w1 ⟨rfl, s1⟩; obtain ⟨k0, k1, k2, k3, kz⟩ := HC.out w1 s1; have kl := (HH.out.same s1).lt)
      go_ret
      exact ⟨rfl, (HH.out.same s1).setBad true, (s1.fr (S := [rp, fp])).setCell (.inl (by simp)) _⟩
    | some x =>
      have e1 : r.byte bs = x.toNat := by unfold Rd.byte; rw [HB.out, hx]; rfl
      have e2 : r.next bs = { r with at_ := r.at_ + 1 } := by unfold Rd.next; rw [HB.out, hx]; rfl
      rw [e1, e2]
      have HN := Lib.hid (next_some w fp q bs r.at_ x hx HH.out.feed)
      clear e1 e2 hx
      have hm := meth_feed fp
      have HC := Lib.hid (fun (wx : World) (Fd : FeedAt wx fp q bs (r.at_ + 1)) (F : Fr [fp] w wx) => (show RcAt wx rp fp q bs { r with at_ := r.at_ + 1 } from ⟨(F.block rp HH.out.lt (by simpa using HH.out.n1)).trans HH.out.blk, Fd, HH.out.n1, HH.out.n2, HH.out.rl, HH.out.cl⟩))
      go_enter Tryz.func84, Tryz.ntmps84
      go_wp2_with (go_at_call 207; refine HN.out.mono ?_; rintro e w1 ⟨rfl, Fd, F1⟩; obtain ⟨k0, k1, k2, k3, kz⟩ := (HC.out w1 Fd F1).cells; have kl := (HC.out w1 Fd F1).lt)
      go_ret
      refine ⟨rfl, ?_, ((Fr.refl [rp, fp] w).trans F1 (fun i hi => .inl (by simp at hi; simp [hi]))).setCell (.inl (by simp)) _⟩
      have h := (HC.out w1 Fd F1).setBad false
      rw [show ({ ({ r with at_ := r.at_ + 1 } : Rd) with bad := false } : Rd) = { r with at_ := r.at_ + 1 } from by rw [← HB.out]] at h
      exact h
theorem Rd.next_code (bs : List UInt8) (r : Rd) : (r.next bs).code = r.code := by
  unfold Rd.next
  split
  · rfl
  · split <;> rfl
theorem Rd.next_rng (bs : List UInt8) (r : Rd) : (r.next bs).rng = r.rng := by
  unfold Rd.next
  split
  · rfl
  · split <;> rfl
theorem Rd.byte_lt (bs : List UInt8) (r : Rd) : r.byte bs < 256 := by
  unfold Rd.byte
  split
  · omega
  · split
    · rename_i x _; exact x.toNat_lt
    · omega
theorem or_u32 (a b : Nat) (ha : a < 4294967296) (hb : b < 4294967296) : bits .or .u32 (a : Int) (b : Int) = ((a ||| b : Nat) : Int) := by
  have hx : a ||| b < 2 ^ 32 := Nat.or_lt_two_pow (by omega) (by omega)
  have h1 : (BitVec.ofInt 32 (a : Int)).toNat = a := by rw [BitVec.ofInt_natCast, BitVec.toNat_ofNat]; exact Nat.mod_eq_of_lt (by omega)
  have h2 : (BitVec.ofInt 32 (b : Int)).toNat = b := by rw [BitVec.ofInt_natCast, BitVec.toNat_ofNat]; exact Nat.mod_eq_of_lt (by omega)
  show IntKind.u32.wrap ((BitVec.ofInt 32 (a : Int) ||| BitVec.ofInt 32 (b : Int)).toNat : Int) = _
  rw [BitVec.toNat_or, h1, h2]
  exact IntWalk.u32_in _ (by omega)
theorem shift_u32 (c b : Nat) (hb : b < 256) : bits .or .u32 (IntKind.u32.wrap ((c : Int) * 256)) (IntKind.u32.wrap (b : Int)) = ((c % 16777216 * 256 + b : Nat) : Int) := by
  have e1 : IntKind.u32.wrap ((c : Int) * 256) = ((c % 16777216 * 256 : Nat) : Int) := by rw [IntKind.wrap_u32]; omega
  have e2 : IntKind.u32.wrap (b : Int) = (b : Int) := IntWalk.u32_in _ (by omega)
  rw [e1, e2, or_u32 _ _ (by omega) (by omega), Nat.or_comm, or_high b (c % 16777216) 8 (by omega)]
  omega
def rngOf (w : World) (rp : Nat) : Nat := (intOf ((w.cell? ⟨rp, 1, none⟩).getD undef)).toNat
theorem lev_none (bs : List UInt8) (n : Nat) (r : Rd) (h : ¬ (r.rng < 16777216 ∧ r.bad = false)) : lev bs n r = r := by
  cases n with
  | zero => rfl
  | succ n => exact if_neg h
set_option maxRecDepth 100000 in
set_option maxHeartbeats 1000000 in
theorem level_any (h : RcAt w rp fp q bs r) (hr : 1 ≤ r.rng) : Calls Tryz.prog 128 #[.pointer (some ⟨rp, 0, none⟩)] w fun e w' => e = .returned (.tuple #[]) ∧ RcAt w' rp fp q bs (lev bs 4 r) ∧ Fr [rp, fp] w w' := by
  go_enter Tryz.func128, Tryz.ntmps128
  go_wp2_with fail
  go_loopw [] (fun wr => ∃ k x, 1 ≤ k ∧ k ≤ 4 ∧ 256 ^ (4 - k) ≤ x.rng ∧ lev bs k x = lev bs 4 r ∧ RcAt wr rp fp q bs x ∧ Fr [rp, fp] w wr) (fun wr => 16777216 - rngOf wr rp)
  case atStart => exact ⟨4, r, by omega, by omega, hr, rfl, h, Fr.refl _ _⟩
  case round =>
    obtain ⟨k, x, hk1, hk4, hx, hlev, hX, hF⟩ := hrel
    rename World => wA
    obtain ⟨c0, c1, c2, c3, z⟩ := hX.cells
    have hl := hX.lt
    have HX := Lib.hid hX
    have HF := Lib.hid hF
    have HL := Lib.hid hlev
    clear hX hF hlev h
    by_cases hlt : x.rng < 16777216
    · have hI : (x.rng : Int) < 16777216 := by omega
      by_cases hb : x.bad = true
      · rw [hb] at c3
        have hb0 := hb
        clear hb
        have e : lev bs k x = x := lev_none bs k x (by simp [hb0])
        have e2 := Lib.hid (HL.out.symm.trans e)
        clear e
        go_wp2_with fail
        go_end0
        exact ⟨rfl, by rw [e2.out]; exact HX.out, HF.out⟩
      · have hb2 : x.bad = false := by simpa using hb
        rw [hb2] at c3
        clear hb
        have HB := Lib.hid hb2
        clear hb2
        go_wp2_with fail
        obtain ⟨w2, hw2⟩ : ∃ w2, w2 = wA.setCell ⟨rp, 1, none⟩ (.int .u32 ((x.rng * 256 : Nat) : Int)) := ⟨_, rfl⟩
        have hw2' : wA.setCell ⟨rp, 1, none⟩ (.int .u32 ((x.rng : Int) * 256)) = w2 := hw2.symm
        rw [hw2']
        have H2 : RcAt w2 rp fp q bs { x with rng := x.rng * 256 } := hw2 ▸ HX.out.setRng _ (by omega)
        have F2 : Fr [rp, fp] w w2 := hw2 ▸ HF.out.setCell (.inl (by simp)) _
        obtain ⟨y, hy⟩ : ∃ y : Rd, y = { x with rng := x.rng * 256 } := ⟨_, rfl⟩
        rw [← hy] at H2
        have k2 : w2.cell? ⟨rp, 2, none⟩ = some (.int .u32 y.code) := H2.cells.2.2.1
        have HN := Lib.hid (fun (wx : World) (s : Same w2 wx) => rcnext_any (H2.same s))
        have HK := Lib.hid (fun (wx : World) (h : RcAt wx rp fp q bs (y.next bs)) => show wx.cell? ⟨rp, 2, none⟩ = some (.int .u32 y.code) ∧ (∀ j, wx.frozen? ⟨rp, j, none⟩ = false) ∧ rp < wx.heap.size from ⟨by have := h.cells.2.2.1; rw [Rd.next_code] at this; exact this, h.cells.2.2.2.2, h.lt⟩)
        have HY := Lib.hid hy
        have HF2 := Lib.hid F2
        have HC1 := Lib.hid c1
        clear c0 c1 c2 c3 z hl HX HF hw2 hw2' H2 F2 hy
        go_region_law (first
          | (go_simp; go_at_call 84; refine (HN.out _ Same.drew).mono ?_; rintro e w3 ⟨rfl, H3, F3⟩; obtain ⟨kc, kz, kl⟩ := HK.out _ H3))
        all_goals
          have ev := Lib.hid (shift_u32 y.code (y.byte bs) (Rd.byte_lt bs y))
          rw [ev.out]
          go_wp2_with fail
          go_roundw
          case rel =>
            have H5 := H3.setCode (y.code % 16777216 * 256 + y.byte bs) (by have := Rd.byte_lt bs y; omega)
            have e5 : lev bs k x = lev bs (k - 1) (Rd.shift bs y) := by
              obtain ⟨j, rfl⟩ : ∃ j, k = j + 1 := ⟨k - 1, by omega⟩
              rw [HY.out]
              exact if_pos ⟨hlt, HB.out⟩
            have hp : 256 ^ (4 - (k - 1)) ≤ (Rd.shift bs y).rng := by
              have : (Rd.shift bs y).rng = x.rng * 256 := by show (y.next bs).rng = _; rw [Rd.next_rng, HY.out]
              rw [this, show 4 - (k - 1) = 4 - k + 1 from by omega, Nat.pow_succ]
              omega
            have hk2 : 2 ≤ k := by
              rcases Nat.lt_or_ge k 2 with h | h
              · obtain rfl : k = 1 := by omega
                have : (256 : Nat) ^ (4 - 1) = 16777216 := by decide
                omega
              · exact h
            exact ⟨k - 1, Rd.shift bs y, by omega, by omega, hp, e5.symm.trans HL.out, H5, (HF2.out.trans (Same.drew.fr.trans F3 (fun i hi => .inl hi)) (fun i hi => .inl hi)).setCell (.inl (by simp)) _⟩
          case measure =>
            have H5 := H3.setCode (y.code % 16777216 * 256 + y.byte bs) (by have := Rd.byte_lt bs y; omega)
            have a1 : rngOf wA rp = x.rng := by unfold rngOf; rw [HC1.out]; simp [intOf]
            have a2 : ∀ wx, RcAt wx rp fp q bs (Rd.shift bs y) → rngOf wx rp = x.rng * 256 := fun wx h => by
              unfold rngOf
              rw [h.cells.2.1, show (Rd.shift bs y).rng = x.rng * 256 from by show (y.next bs).rng = _; rw [Rd.next_rng, HY.out]]
              simp [intOf]
              omega
            have a3 := a2 _ H5
            have : 1 ≤ x.rng := Nat.le_trans (Nat.pow_pos (by decide)) hx
            rw [a1, a3]
            omega
    · have e : lev bs k x = x := lev_none bs k x (by simp [hlt])
      have e2 := Lib.hid (HL.out.symm.trans e)
      clear e
      have hI : ¬ (x.rng : Int) < 16777216 := by omega
      cases hb : x.bad
      all_goals rw [hb] at c3; clear hb
      · go_wp2_with fail
        go_end0
        exact ⟨rfl, by rw [e2.out]; exact HX.out, HF.out⟩
      · go_wp2_with fail
        go_end0
        exact ⟨rfl, by rw [e2.out]; exact HX.out, HF.out⟩
/-- A place in a whole. -/
def Rd.place (total : Nat) (r : Rd) : Nat := if r.bad ∨ total ≤ r.code / (r.rng / total) then 0 else r.code / (r.rng / total)
def Rd.placed (total : Nat) (r : Rd) : Rd := if r.bad then r else { r with rng := r.rng / total, bad := decide (total ≤ r.code / (r.rng / total)) }
/-- A share is taken. -/
def Rd.take (bs : List UInt8) (start size : Nat) (r : Rd) : Rd := if r.bad then r else lev bs 4 { r with code := r.code - start * r.rng, rng := r.rng * size }
set_option maxRecDepth 100000 in
theorem rcbad_any (h : RcAt w rp fp q bs r) : Calls Tryz.prog 72 #[.pointer (some ⟨rp, 0, none⟩)] w fun e w' => e = .returned (.bool r.bad) ∧ w' = w := by
  obtain ⟨c0, c1, c2, c3, z⟩ := h.cells
  clear h
  go_enter Tryz.func72, Tryz.ntmps72
  go_wp2_with fail
  go_ret
  exact ⟨rfl, rfl⟩
set_option maxRecDepth 100000 in
theorem place_any (h : RcAt w rp fp q bs r) (total : Nat) (h1 : 1 ≤ total) (h2 : r.bad = false → total ≤ r.rng) : Calls Tryz.prog 77 #[.pointer (some ⟨rp, 0, none⟩), .int .u32 total] w fun e w' => e = .returned (.int .u32 (r.place total)) ∧ RcAt w' rp fp q bs (r.placed total) ∧ Fr [rp] w w' := by
  obtain ⟨c0, c1, c2, c3, z⟩ := h.cells
  have hl := h.lt
  have HH := Lib.hid h
  clear h
  by_cases hb : r.bad = true
  · rw [hb] at c3
    have e1 : r.place total = 0 := by unfold Rd.place; rw [if_pos (.inl hb)]
    have e2 : r.placed total = r := by unfold Rd.placed; rw [if_pos hb]
    rw [e1, e2]
    clear hb e1 e2 h2
    go_enter Tryz.func77, Tryz.ntmps77
    go_wp2_with fail
    go_ret
    exact ⟨rfl, HH.out, Fr.refl _ _⟩
  · have hb2 : r.bad = false := by simpa using hb
    rw [hb2] at c3
    have ht := h2 hb2
    clear hb h2
    obtain ⟨R, hR⟩ : ∃ R, R = r.rng / total := ⟨_, rfl⟩
    have hR1 : 1 ≤ R := by rw [hR]; exact (Nat.one_le_div_iff h1).2 ht
    have hRl : R < 4294967296 := by rw [hR]; exact Nat.lt_of_le_of_lt (Nat.div_le_self _ _) HH.out.rl
    obtain ⟨P, hP⟩ : ∃ P, P = r.code / R := ⟨_, rfl⟩
    have hPl : P < 4294967296 := by rw [hP]; exact Nat.lt_of_le_of_lt (Nat.div_le_self _ _) HH.out.cl
    have q1 : (r.rng : Int).tdiv (total : Int) = (R : Int) := by rw [hR]; rfl
    have q2 : (r.code : Int).tdiv (R : Int) = (P : Int) := by rw [hP]; rfl
    have HRP := Lib.hid (And.intro hR hP)
    have HB := Lib.hid hb2
    have htl : total < 4294967296 := Nat.lt_of_le_of_lt ht HH.out.rl
    have t0 : ((total : Int) == 0) = false := by simp; omega
    have t1 : ((R : Int) == 0) = false := by simp; omega
    clear hR hP hb2
    have e1 : r.place total = if total ≤ P then 0 else P := by unfold Rd.place; rw [HB.out, ← HRP.out.1, ← HRP.out.2]; simp
    have e2 : r.placed total = { r with rng := R, bad := decide (total ≤ P) } := by unfold Rd.placed; rw [HB.out, ← HRP.out.1, ← HRP.out.2]; rfl
    rw [e1, e2]
    clear e1 e2
    go_enter Tryz.func77, Tryz.ntmps77
    go_wp2_with fail
    obtain ⟨w2, hw2⟩ : ∃ w2, w2 = w.setCell ⟨rp, 1, none⟩ (.int .u32 (R : Int)) := ⟨_, rfl⟩
    rw [← hw2]
    have H2 : RcAt w2 rp fp q bs { r with rng := R } := hw2 ▸ HH.out.setRng _ (by omega)
    have F2 : Fr [rp] w w2 := hw2 ▸ (Fr.refl _ _).setCell (.inl (by simp)) _
    clear c0 c1 c2 c3 z hl hw2 q1
    obtain ⟨c0, c1, c2, c3, z⟩ := (H2.same Same.drew).cells
    obtain ⟨d0, d1, d2, d3, -⟩ := H2.cells
    have hl := (H2.same Same.drew).lt
    simp only at d1 d2 c1 c2
    have HH2 := Lib.hid H2
    clear H2
    go_region
    by_cases hp : total ≤ P
    · have t2 : decide ((total : Int) ≤ (P : Int)) = true := by simpa using hp
      have t3 : (total : Int) ≤ (P : Int) := by omega
      have hd : decide (total ≤ P) = true := by simpa using hp
      go_wp2_with fail
      go_ret
      exact ⟨rfl, (HH2.out.setBad true).same Same.drew, (F2.setCell (.inl (by simp)) _).drew⟩
    · have t2 : decide ((total : Int) ≤ (P : Int)) = false := by simpa using hp
      have t3 : ¬ (total : Int) ≤ (P : Int) := by omega
      have hd : decide (total ≤ P) = false := by simpa using hp
      go_wp2_with fail
      go_ret
      refine ⟨rfl, ?_, F2.drew⟩
      have h := HH2.out.same (Same.drew)
      rw [show ({ r with rng := R, bad := false } : Rd) = { r with rng := R } from by rw [← HB.out]]
      exact h
end
end Go.Proofs.YtjfoccbbjhigbaaGreat
