/- Contract: the reader's sums. No condition but that lengths fit. -/
import Derived.Test.YthdfjbliafdchaaHRdB
import Derived.Test.YthdfjbliafdchaaHSm
import Derived.Test.YthdfjbliafdchaaReadC
namespace Go.Proofs.Ythdfjbliafdchaa
open Go.RowKit

theorem bits_b (c : Cur) (n : Int) : (c.bits n).2.b = c.b := by
  unfold Cur.bits Cur.fail
  split
  · rfl
  · split <;> rfl
theorem told_b (c : Cur) (n : Int) : (c.told n).2.b = c.b := by
  unfold Cur.told
  split
  · rfl
  · split
    · rfl
    · split
      · split
        · exact bits_b _ n
        · exact bits_b _ n
      · rfl
theorem bits_len (c : Cur) (n : Int) : (c.bits n).1.length ≤ n.toNat := by
  unfold Cur.bits
  split
  · simp
  · split
    · simp
    · simp [unpack]
theorem told_len (c : Cur) (n : Int) : (c.told n).1.length ≤ n.toNat := by
  unfold Cur.told
  split
  · simp
  · split
    · simp
    · split
      · split
        · simp
        · exact bits_len _ n
      · simp

theorem two_lt {p cp b : Nat} (h : p < b ∧ cp < b) : ∀ i ∈ [p, cp], i < b := by simp; exact h
theorem RdAt.qlt {w : World} {p cp : Nat} {q : Option Nat} {s : Rs} {d : DV} (h : RdAt w p cp q s d) : ∀ k, q = some k → k < w.heap.size := h.ql
/-- What a call's own row grows by leaves the reader alone. -/
theorem RdAt.grownB {w w' : World} {p cp : Nat} {q : Option Nat} {s : Rs} {d : DV} {base e m n : Nat} {v : Value} {xs : List Value} {w0 : World} (h : RdAt w p cp q s d) (hg : w.grownBy w' v.ownBlock) (own : w0.ownsRow base e m v n xs) (h1 : p < base) (h2 : cp < base) (h3 : ∀ k, q = some k → k < base) : RdAt w' p cp q s d := by
  have hb : ∀ k, v.ownBlock = some k → base ≤ k := fun k hk => (own_ltS own k hk).1
  have F : Fr v.ownBlock.toList w w' := (Fr.refl _ _).grown hg (fun k hk => .inl (by rw [hk]; simp))
  refine h.fr F ?_ ?_ ?_
  · intro hm; have := hb p (by simpa using hm); omega
  · intro hm; have := hb cp (by simpa using hm); omega
  · intro k hk hm; have := hb k (by simpa using hm); have := h3 k hk; omega

def ckV (l : List Ck) : List Value := l.flatMap fun c => [.bool c.has, .int .u32 c.sum.toNat]
theorem ckV_append (a b : List Ck) : ckV (a ++ b) = ckV a ++ ckV b := by simp [ckV]

def sumsL : List Bool → Rs → List Ck → List Ck × Rs
  | [], s, out => (out, s.ok)
  | h :: t, s, out =>
    if (if h then (s.num 4).2 else s).ok.k ≠ 0 then ([], (if h then (s.num 4).2 else s).ok)
    else sumsL t (if h then (s.num 4).2 else s).ok (out ++ [⟨h, UInt32.ofNat (if h then (s.num 4).1 else 0)⟩])
theorem sumsL_false (t : List Bool) (s : Rs) (out : List Ck) : sumsL (false :: t) s out = if s.ok.k ≠ 0 then ([], s.ok) else sumsL t s.ok (out ++ [⟨false, 0⟩]) := rfl
theorem sumsL_true (t : List Bool) (s : Rs) (out : List Ck) : sumsL (true :: t) s out = if (s.num 4).2.ok.k ≠ 0 then ([], (s.num 4).2.ok) else sumsL t (s.num 4).2.ok (out ++ [⟨true, UInt32.ofNat (s.num 4).1⟩]) := rfl
def Rs.told (s : Rs) (n : Int) : List Bool × Rs := ((s.c.told n).1, { s with c := (s.c.told n).2 })
def Rs.sums (s : Rs) (n : Nat) : List Ck × Rs := sumsL (s.told n).1 (s.told n).2 []

theorem info_ck : (Try.prog.info? 45).map (fun i => (i.zero, i.size, i.bytes)) = some (some (.agg #[.bool false, .int .u32 0]), 2, 8) := by kernel_rfl
theorem sty_ck : SlTyM Try.prog 31 45 (.agg #[.bool false, .int .u32 0]) 2 8 := ⟨Try.underlying31, by obtain ⟨i, h⟩ := info_parts info_ck; exact ⟨i, h⟩, rfl, by decide⟩

def SumsR (w : World) (p cp : Nat) (q : Option Nat) (r : List Ck × Rs) (d : DV) (e : Ending) (w' : World) : Prop :=
  (∃ v, e = .returned v ∧ Sm w' w.heap.size 45 2 v r.1.length (ckV r.1)) ∧ RdAt w' p cp q r.2 d ∧ Fr [p, cp] w w'

theorem num4_lt (s : Rs) : (s.num 4).1 < 4294967296 := by
  have h1 : (s.c.take 4).1.length ≤ 4 := by unfold Cur.take; split <;> simp; omega
  have h2 := leNat_lt (s.c.take 4).1
  show (s.c.num 4).1 < 4294967296
  have e : (s.c.num 4).1 = leNat (s.c.take 4).1 := rfl
  rw [e]
  have : 256 ^ (s.c.take 4).1.length ≤ 256 ^ 4 := Nat.pow_le_pow_right (by omega) h1
  omega

set_option maxRecDepth 100000 in
set_option maxHeartbeats 2000000 in
theorem sums_any (w : World) (p cp : Nat) (q : Option Nat) (s : Rs) (d : DV) (n : Nat) (h : RdAt w p cp q s d) (hb : s.c.b.length ≤ 10000000) (hn : n ≤ 10000000) :
    Calls Try.prog 62 #[.pointer (some ⟨p, 0, none⟩), .int .i64 (n : Int)] w (SumsR w p cp q (s.sums n) d) := by
  obtain ⟨c0, -⟩ := cells9 h.blk
  have HR0 := Lib.hid h
  have HB := Lib.hid (show s.c.b.length ≤ 140737488355328 / 16 by omega)
  have HTL := Lib.hid (show (s.told n).1.length ≤ n from Nat.le_trans (told_len s.c n) (by simp))
  have HTB := Lib.hid (show (s.told n).2.c.b.length ≤ 10000000 by rw [show (s.told n).2.c.b = s.c.b from told_b s.c n]; exact hb)
  have HN := Lib.hid hn
  have HS := Lib.hid (show s.sums n = sumsL (s.told n).1 (s.told n).2 [] from rfl)
  have HT1 := Lib.hid (show (s.c.told n).1 = (s.told n).1 from rfl)
  have HT2 := Lib.hid (show ({ s with c := (s.c.told n).2 } : Rs) = (s.told n).2 from rfl)
  have HLT := Lib.hid (And.intro h.lt h.cur.lt)
  have HLQ := Lib.hid h.qlt
  clear h hb hn
  generalize (s.told n).1 = hs at *
  generalize (s.told n).2 = t at *
  obtain ⟨N, hN⟩ : ∃ N, hs.length = N := ⟨_, rfl⟩
  rw [hN] at HTL
  have HNN := Lib.hid hN
  go_enter Try.func62, Try.ntmps62
  go_wp2_with (go_at_call 77; refine (told_any _ cp q s.c n (by have := HN.out; omega) HR0.out.cur HB.out).mono ?_; intro e w1 h1; unfold TakeBits at h1; rw [HT1.out, hN] at h1; obtain ⟨bv1, rfl, own1, hC, F1⟩ := h1; have R1 := HR0.out.cur' F1 hC; rw [HT2.out] at R1; obtain ⟨bao, bcap, rfl, -⟩ := own_outS own1)
  have HSl := Lib.hid (Sm.of_own w.heap.size own1 (Nat.le_refl _))
  have hNM : (N : Int) ≤ 10000000 := by have := HTL.out; have := HN.out; omega
  have HF1 := Lib.hid F1
  clear own1 hC hN
  go_loopw [5, 16] (fun out i wr => ∃ (k : Nat) (L : List Ck) (u : Rs), k ≤ N ∧ i = .int .i64 ((k : Int)) ∧ L.length = k ∧ sumsL hs t [] = sumsL (hs.drop k) u L ∧ u.c.b.length ≤ 10000000 ∧ wr.ownsRow w1.heap.size 45 2 out k (ckV L) ∧ RdAt wr p cp q u d ∧ Fr [p, cp] w1 wr) (fun _ i _ => N - (intOf i).toNat)
  case atStart => exact ⟨0, [], t, Nat.zero_le _, rfl, rfl, by simp, HTB.out, World.ownsRow_nil _ _ _ _, R1, Fr.refl _ _⟩
  case round =>
    obtain ⟨k, L, u, hk, rfl, hLk, hsum, hub, own, RU, F⟩ := hrel
    obtain ⟨oao, ocap, rfl, -⟩ := own_outS own
    have HOwn := Lib.hid own
    have HU := Lib.hid RU
    have HUB := Lib.hid hub
    have HLK := Lib.hid hLk
    have HF := Lib.hid F
    have hplt : p < w1.heap.size ∧ cp < w1.heap.size := by have := HLT.out; have := HF1.out.size; omega
    have HW1 := Lib.hid hplt
    clear own RU hub hLk F hplt
    by_cases hlt : k < N
    · obtain ⟨x, hx⟩ := some_get hs k (by rw [HNN.out]; exact hlt)
      have hltI : (k : Int) < (N : Int) := by omega
      have HD := Lib.hid (show hs.drop k = x :: hs.drop (k + 1) by rw [List.drop_eq_getElem_cons (by rw [HNN.out]; exact hlt), (List.getElem?_eq_some_iff.1 hx).2])
      rw [HD.out] at hsum
      have HSum := Lib.hid hsum
      clear hsum
      obtain ⟨b1, o1, rfl, hb1, hcl⟩ : ∃ b o, bao = some ⟨b, o, none⟩ ∧ (w.heap.size ≤ b ∧ b < w1.heap.size) ∧ w1.cell? ⟨b, o + k, none⟩ = some (.bool x) := by
        obtain ⟨ao', cap', he, -, -, ho⟩ := HSl.out.out
        injection he with e1 e2 e3
        obtain ⟨b, o, hbo, hlo, hb, hc⟩ := ho k hlt
        exact ⟨b, o, e1.trans hbo, ⟨hlo, hb⟩, (hc k (by omega)).trans (tv_get _ _ _ hx)⟩
      have f0 : wr.cell? ⟨b1, o1 + k, none⟩ = some (.bool x) := (HF.out.cell (p := ⟨b1, o1 + k, none⟩) hb1.2 (by simp; have := HLT.out; omega)).trans hcl
      clear hcl hx
      obtain ⟨wA, hwA⟩ : ∃ wA, wA = wr.alloc (.cells #[.bool x, .int .u32 0] 45) := ⟨_, rfl⟩
      obtain ⟨g, hg⟩ : ∃ g, wr.heap.size = g := ⟨_, rfl⟩
      have hgA : wA.heap[g]? = some (.cells #[.bool x, .int .u32 0] 45 (0, 0)) := by rw [hwA, ← hg]; exact heap_alloc_new wr _
      have FA : Fr [] wr wA := hwA ▸ (Fr.refl _ _).alloc _
      have RA := HU.out.fr0 FA
      have HGp := Lib.hid (show g ≠ p ∧ g ≠ cp ∧ g < wA.heap.size ∧ w1.heap.size ≤ g by
        have := HW1.out; have := HF.out.size
        have := (Array.getElem?_eq_some_iff.1 hgA).1
        omega)
      have HF0 := Lib.hid (F1.two2 (p := p))
      have HQ := Lib.hid (show ∀ k, q = some k → k < w1.heap.size from fun j hj => by have := HLQ.out j hj; have := HF1.out.size; omega)
      have HQG := Lib.hid (show ∀ k, q = some k → k ≠ g from fun j hj e => by have := HQ.out j hj; have := HGp.out; omega)
      cases x with
      | false =>
        by_cases hz : u.ok.k = 0
        · have HO := Lib.hid (Rs.ok_of_zero hz)
          have HK := Lib.hid (show (u.ok.k == 0) = true by rw [hz]; rfl)
          have HE := Lib.hid (show sumsL (false :: hs.drop (k + 1)) u L = sumsL (hs.drop (k + 1)) u (L ++ [⟨false, 0⟩]) by rw [sumsL_false, if_neg (by simp [hz]), Rs.ok_of_zero hz])
          clear hz
          go_wp2_with (first
            | (at_builtin; refine wpList_append_struct sty_ck rfl _ _ (by rfl) w1.heap.size _ _ _ (by rfl) own4 w4.heap.size [.bool false, .int .u32 0] (by rfl) hgS rfl rfl (by omega) (by decide) sz4 ?_; intro v2 w6 own6 g6; obtain ⟨vao2, vcap2, rfl, -⟩ := own_outS own6; have F06 : Fr [p, cp] w1 w6 := (F04.alloc _).grown g6 (fun t ht => .inr (own_ltS own4 t ht).1); have R6 := (R4.fr0 ((Fr.refl _ _).alloc _)).grownB g6 own4 HW1.out.1 HW1.out.2 HQ.out)
            | (go_at_call 31; rw [← hwA]; refine (ok_any _ p cp q u d RA).mono ?_; rw [HK.out, HO.out]; rintro e w4 ⟨rfl, R4, F4⟩; have hg4 : w4.heap[g]? = some (.cells #[.bool false, .int .u32 0] 45 (0, 0)) := (F4.block g HGp.out.2.2.1 (fun hm => HGp.out.1 (List.mem_singleton.1 hm))).trans hgA; have e0 : w4.cell? ⟨g, 0, none⟩ = some (.bool false) := (by simp [Go.Joins.cell_of_block hg4]); have e1 : w4.cell? ⟨g, 1, none⟩ = some (.int .u32 0) := (by simp [Go.Joins.cell_of_block hg4]); have F04 : Fr [p, cp] w1 w4 := (HF.out.trans0 FA).tr2 F4.two1; have own4 := own_frB HOwn.out ((Fr.tr2 (p := p) (cp := cp) (FA.mono (by simp)) F4.two1).alloc (.cells #[.bool false, .int .u32 0] 45)) (two_lt HW1.out); have hgS := heap_alloc_new w4 (.cells #[.bool false, .int .u32 0] 45); have sz4 : w1.heap.size ≤ (w4.alloc (.cells #[.bool false, .int .u32 0] 45)).heap.size := (by rw [World.size_alloc]; have := F04.size; omega)))
          go_roundw
          case rel => exact ⟨k + 1, L ++ [⟨false, 0⟩], u, by omega, by go_num, by rw [List.length_append, HLK.out]; rfl, by rw [HSum.out, HE.out], HUB.out, by rw [ckV_append]; exact own6, R6, F06⟩
          case measure => simp [intOf]; omega
        · have HK := Lib.hid (show (u.ok.k == 0) = false by rw [beq_eq_false_iff_ne]; exact hz)
          have HE := Lib.hid (show sumsL (false :: hs.drop (k + 1)) u L = ([], u.ok) by rw [sumsL_false, if_pos hz])
          clear hz
          go_wp2_with (first
            | (go_at_call 31; rw [← hwA]; refine (ok_any _ p cp q u d RA).mono ?_; rw [HK.out]; rintro e w4 ⟨rfl, R4, F4⟩; have hg4 : w4.heap[g]? = some (.cells #[.bool false, .int .u32 0] 45 (0, 0)) := (F4.block g HGp.out.2.2.1 (fun hm => HGp.out.1 (List.mem_singleton.1 hm))).trans hgA; have e0 : w4.cell? ⟨g, 0, none⟩ = some (.bool false) := (by simp [Go.Joins.cell_of_block hg4]); have e1 : w4.cell? ⟨g, 1, none⟩ = some (.int .u32 0) := (by simp [Go.Joins.cell_of_block hg4]); have F04 : Fr [p, cp] w1 w4 := (HF.out.trans0 FA).tr2 F4.two1; have own4 := own_frB HOwn.out ((Fr.tr2 (p := p) (cp := cp) (FA.mono (by simp)) F4.two1).alloc (.cells #[.bool false, .int .u32 0] 45)) (two_lt HW1.out); have hgS := heap_alloc_new w4 (.cells #[.bool false, .int .u32 0] 45); have sz4 : w1.heap.size ≤ (w4.alloc (.cells #[.bool false, .int .u32 0] 45)).heap.size := (by rw [World.size_alloc]; have := F04.size; omega)))
          go_ret
          exact ⟨⟨_, by rfl, by rw [HS.out, HSum.out, HE.out]; exact Sm.nil _ _ _ _⟩, by rw [HS.out, HSum.out, HE.out]; exact R4, HF0.out.tr2 F04⟩
      | true =>
        have a0 : (wr.alloc (.cells #[.bool true, .int .u32 0] 45)).cell? ⟨p, 0, none⟩ = some (.pointer (some ⟨cp, 0, none⟩)) := hwA ▸ (cells9 RA.blk).1
        obtain ⟨v, hv⟩ : ∃ v, (u.num 4).1 = v := ⟨_, rfl⟩
        obtain ⟨t4, ht4⟩ : ∃ t4, (u.num 4).2 = t4 := ⟨_, rfl⟩
        have hw4 : IntKind.u32.wrap (v : Int) = (v : Int) := IntWalk.u32_in _ (by have := num4_lt u; omega)
        have HV := Lib.hid (show (u.c.num 4).1 = v from hv)
        have HU4 := Lib.hid (show ({ u with c := (u.c.num 4).2 } : Rs) = t4 from ht4)
        have HUB2 := Lib.hid (show u.c.b.length ≤ 140737488355328 by have := HUB.out; omega)
        have HUB4 := Lib.hid (show t4.c.b.length ≤ 10000000 by rw [← ht4]; show (u.c.num 4).2.b.length ≤ 10000000; rw [num_b]; exact HUB.out)
        have HST := Lib.hid (sumsL_true (hs.drop (k + 1)) u L)
        rw [hv, ht4] at HST
        have HVN := Lib.hid (show ((UInt32.ofNat v).toNat : Int) = (v : Int) by have := num4_lt u; rw [hv] at this; simp; omega)
        clear hv ht4
        by_cases hz : t4.ok.k = 0
        · have HO := Lib.hid (Rs.ok_of_zero hz)
          have HK := Lib.hid (show (t4.ok.k == 0) = true by rw [hz]; rfl)
          have HE := Lib.hid (show sumsL (true :: hs.drop (k + 1)) u L = sumsL (hs.drop (k + 1)) t4 (L ++ [⟨true, UInt32.ofNat v⟩]) by rw [HST.out, if_neg (by simp [hz]), Rs.ok_of_zero hz])
          clear hz
          go_wp2_with (first
            | (at_builtin; refine wpList_append_struct sty_ck rfl _ _ (by rfl) w1.heap.size _ _ _ (by rfl) own4 w4.heap.size [.bool true, .int .u32 (v : Int)] (by rfl) hgS rfl rfl (by omega) (by decide) sz4 ?_; intro v2 w6 own6 g6; obtain ⟨vao2, vcap2, rfl, -⟩ := own_outS own6; have F06 : Fr [p, cp] w1 w6 := (F04.alloc _).grown g6 (fun t ht => .inr (own_ltS own4 t ht).1); have R6 := (R4.fr0 ((Fr.refl _ _).alloc _)).grownB g6 own4 HW1.out.1 HW1.out.2 HQ.out)
            | (go_at_call 31;  have R3 := R2.fr ((Fr.refl [g] w2).setCell (p := ⟨g, 1, none⟩) (by simp) (.int .u32 (v : Int))) (by simp; exact fun e => HGp.out.1 e.symm) (by simp; exact fun e => HGp.out.2.1 e.symm) (by simpa using HQG.out); refine (ok_any _ p cp q t4 d R3).mono ?_; rw [HK.out, HO.out]; rintro e w4 ⟨rfl, R4, F4⟩; have hg4 : w4.heap[g]? = some (.cells #[.bool true, .int .u32 (v : Int)] 45 (0, 0)) := (F4.block g (by have := HGp.out; have := F2.size; simp; omega) (fun hm => HGp.out.1 (List.mem_singleton.1 hm))).trans (Go.Joins.block_setCell hg2 _); have e0 : w4.cell? ⟨g, 0, none⟩ = some (.bool true) := (by simp [Go.Joins.cell_of_block hg4]); have e1 : w4.cell? ⟨g, 1, none⟩ = some (.int .u32 (v : Int)) := (by simp [Go.Joins.cell_of_block hg4]); have F04 : Fr [p, cp] w1 w4 := (((HF.out.trans0 FA).tr2 F2.two2).setCell (p := ⟨g, 1, none⟩) (.inr HGp.out.2.2.2) _).tr2 F4.two1; have own4 := own_frB HOwn.out ((Fr.tr2 (p := p) (cp := cp) ((Fr.tr2 (p := p) (cp := cp) (FA.mono (by simp)) F2.two2).setCell (p := ⟨g, 1, none⟩) (.inr (by show wr.heap.size ≤ g; omega)) _) F4.two1).alloc (.cells #[.bool true, .int .u32 (v : Int)] 45)) (two_lt HW1.out); have hgS := heap_alloc_new w4 (.cells #[.bool true, .int .u32 (v : Int)] 45); have sz4 : w1.heap.size ≤ (w4.alloc (.cells #[.bool true, .int .u32 (v : Int)] 45)).heap.size := (by rw [World.size_alloc]; have := F04.size; omega))
            | (go_at_call 23; rw [← hwA]; refine (num_any _ cp q u.c 4 RA.cur HUB2.out).mono ?_; rw [HV.out]; rintro e w2 ⟨rfl, hC2, F2⟩; have R2 := RA.cur' F2 hC2; rw [HU4.out] at R2; have hg2 : w2.heap[g]? = some (.cells #[.bool true, .int .u32 0] 45 (0, 0)) := (F2.block g HGp.out.2.2.1 (fun hm => HGp.out.2.1 (List.mem_singleton.1 hm))).trans hgA; have i1 : w2.cell? ⟨g, 1, none⟩ = some (.int .u32 0) := (by simp [Go.Joins.cell_of_block hg2]); have iz := Go.Joins.unfrozen_of_block hg2 1))
          go_roundw
          case rel => exact ⟨k + 1, L ++ [⟨true, UInt32.ofNat v⟩], t4, by omega, by go_num, by rw [List.length_append, HLK.out]; rfl, by rw [HSum.out, HE.out], HUB4.out, by rw [ckV_append]; simp only [ckV, List.flatMap_cons, List.flatMap_nil, List.append_nil, HVN.out]; exact own6, R6, F06⟩
          case measure => simp [intOf]; omega
        · have HK := Lib.hid (show (t4.ok.k == 0) = false by rw [beq_eq_false_iff_ne]; exact hz)
          have HE := Lib.hid (show sumsL (true :: hs.drop (k + 1)) u L = ([], t4.ok) by rw [HST.out, if_pos hz])
          clear hz
          go_wp2_with (first
            | (go_at_call 31;  have R3 := R2.fr ((Fr.refl [g] w2).setCell (p := ⟨g, 1, none⟩) (by simp) (.int .u32 (v : Int))) (by simp; exact fun e => HGp.out.1 e.symm) (by simp; exact fun e => HGp.out.2.1 e.symm) (by simpa using HQG.out); refine (ok_any _ p cp q t4 d R3).mono ?_; rw [HK.out]; rintro e w4 ⟨rfl, R4, F4⟩; have hg4 : w4.heap[g]? = some (.cells #[.bool true, .int .u32 (v : Int)] 45 (0, 0)) := (F4.block g (by have := HGp.out; have := F2.size; simp; omega) (fun hm => HGp.out.1 (List.mem_singleton.1 hm))).trans (Go.Joins.block_setCell hg2 _); have e0 : w4.cell? ⟨g, 0, none⟩ = some (.bool true) := (by simp [Go.Joins.cell_of_block hg4]); have e1 : w4.cell? ⟨g, 1, none⟩ = some (.int .u32 (v : Int)) := (by simp [Go.Joins.cell_of_block hg4]); have F04 : Fr [p, cp] w1 w4 := (((HF.out.trans0 FA).tr2 F2.two2).setCell (p := ⟨g, 1, none⟩) (.inr HGp.out.2.2.2) _).tr2 F4.two1; have own4 := own_frB HOwn.out ((Fr.tr2 (p := p) (cp := cp) ((Fr.tr2 (p := p) (cp := cp) (FA.mono (by simp)) F2.two2).setCell (p := ⟨g, 1, none⟩) (.inr (by show wr.heap.size ≤ g; omega)) _) F4.two1).alloc (.cells #[.bool true, .int .u32 (v : Int)] 45)) (two_lt HW1.out); have hgS := heap_alloc_new w4 (.cells #[.bool true, .int .u32 (v : Int)] 45); have sz4 : w1.heap.size ≤ (w4.alloc (.cells #[.bool true, .int .u32 (v : Int)] 45)).heap.size := (by rw [World.size_alloc]; have := F04.size; omega))
            | (go_at_call 23; rw [← hwA]; refine (num_any _ cp q u.c 4 RA.cur HUB2.out).mono ?_; rw [HV.out]; rintro e w2 ⟨rfl, hC2, F2⟩; have R2 := RA.cur' F2 hC2; rw [HU4.out] at R2; have hg2 : w2.heap[g]? = some (.cells #[.bool true, .int .u32 0] 45 (0, 0)) := (F2.block g HGp.out.2.2.1 (fun hm => HGp.out.2.1 (List.mem_singleton.1 hm))).trans hgA; have i1 : w2.cell? ⟨g, 1, none⟩ = some (.int .u32 0) := (by simp [Go.Joins.cell_of_block hg2]); have iz := Go.Joins.unfrozen_of_block hg2 1))
          go_ret
          exact ⟨⟨_, by rfl, by rw [HS.out, HSum.out, HE.out]; exact Sm.nil _ _ _ _⟩, by rw [HS.out, HSum.out, HE.out]; exact R4, HF0.out.tr2 F04⟩
    · have hke : k = N := by omega
      have HE := Lib.hid (show sumsL (hs.drop k) u L = (L, u.ok) by rw [List.drop_of_length_le (by rw [HNN.out]; omega)]; rfl)
      have HSum := Lib.hid hsum
      have hltI : (N : Int) ≤ (k : Int) := by omega
      clear hsum
      go_wp2_with (go_at_call 31; refine (ok_any _ p cp q u d HU.out).mono ?_; rintro e w4 ⟨rfl, R4, F4⟩)
      go_ret
      refine ⟨⟨_, by rfl, ?_⟩, by rw [HS.out, HSum.out, HE.out]; exact R4, F1.two2.tr2 (HF.out.tr2 F4.two1)⟩
      rw [HS.out, HSum.out, HE.out]
      show Sm w4 w.heap.size 45 2 (Value.slice oao N ocap) L.length (ckV L)
      have h6 := own_frB HOwn.out F4 (by simp; exact HW1.out.1)
      have h7 := Sm.of_own w.heap.size h6 F1.size
      rw [HLK.out]
      subst hke
      exact h7
end Go.Proofs.Ythdfjbliafdchaa
