/- The law GraphOne: the walk. No condition. -/
import Derived.Test.YtakpeffpocjgoaaGAwake
import Derived.Test.YtakpeffpocjgoaaGRefQ
namespace Go.Proofs.Ytakpeffpocjgoaa
open Go.RowKit

theorem own_ne {w : World} {b b' e e' : Nat} {v v' : Value} {n n' : Nat} {xs xs' : List Value} (h : w.ownsRow b e 1 v n xs) (h' : w.ownsRow b' e' 1 v' n' xs') (hne : e ≠ e') (k : Nat) (hk : v.ownBlock = some k) : v'.ownBlock ≠ some k := by
  intro hk'
  rcases h.2 with ⟨rfl, _⟩ | ⟨g, cap, cur, rfl, _, hg, _⟩
  · simp [Value.ownBlock] at hk
  · rcases h'.2 with ⟨rfl, _⟩ | ⟨g', cap', cur', rfl, _, hg', _⟩
    · simp [Value.ownBlock] at hk'
    · simp [Value.ownBlock] at hk hk'
      subst hk hk'
      rw [hg] at hg'
      simp at hg'
      exact hne hg'.2

/-- An owned row does not lie in a block of another type. -/
theorem own_ne_block {w : World} {b e t : Nat} {v : Value} {n : Nat} {xs : List Value} {g : Nat} {c : Array Value} (h : w.ownsRow b e 1 v n xs) (hg : w.heap[g]? = some (.cells c t)) (hne : e ≠ t) : v.ownBlock ≠ some g := by
  intro hk
  rcases h.2 with ⟨rfl, _⟩ | ⟨g', cap, cur, rfl, _, hg', _⟩
  · simp [Value.ownBlock] at hk
  · simp [Value.ownBlock] at hk
    subst hk
    rw [hg'] at hg
    simp at hg
    exact hne hg.2

def natInts (k : Nat) : List Int := (List.range k).map fun (i : Nat) => (i : Int)
theorem natInts_succ (k : Nat) : natInts (k + 1) = natInts k ++ [(k : Int)] := by simp [natInts, List.range_succ]
theorem natInts_len (k : Nat) : (natInts k).length = k := by simp [natInts]

theorem frozen6 {w : World} {g : Nat} {c : Array Value} {t : TypeId} (h : w.heap[g]? = some (.cells c t)) (j : Nat) : w.frozen? ⟨g, j, none⟩ = false := frozen_of_row _ _ _ _ _ h

/-- What is laid in turn. -/
theorem four_of {w : World} {g : Nat} {a b c d : Value} {t : TypeId} (h : w.heap[g]? = some (.cells #[a, b, c, d] t)) : w.cell? ⟨g, 0, none⟩ = some a ∧ w.cell? ⟨g, 1, none⟩ = some b ∧ w.cell? ⟨g, 2, none⟩ = some c ∧ w.cell? ⟨g, 3, none⟩ = some d := (cells4 h).1

theorem arr4 {w : World} {g : Nat} {t : TypeId} {a0 a1 a2 a3 : UInt64} (h : w.heap[g]? = some (.cells #[.int .u64 a0.toNat, .int .u64 a1.toNat, .int .u64 a2.toNat, .int .u64 a3.toNat] t)) (k : Nat) (y : UInt64) (hy : [a0, a1, a2, a3][k]? = some y) : w.cell? ⟨g, k, none⟩ = some (.int .u64 y.toNat) := by
  rw [Go.Joins.cell_of_block h]
  have hk : k < 4 := by have := (List.getElem?_eq_some_iff.1 hy).1; simpa using this
  match k, hk with
  | 0, _ => simp at hy; subst hy; rfl
  | 1, _ => simp at hy; subst hy; rfl
  | 2, _ => simp at hy; subst hy; rfl
  | 3, _ => simp at hy; subst hy; rfl

theorem setCell_block {w : World} {g : Nat} {a b c d e f : Value} {t : TypeId} (h : w.heap[g]? = some (.cells #[a, b, c, d, e, f] t)) (u : Value) : (w.setCell ⟨g, 2, none⟩ u).heap[g]? = some (.cells #[a, b, u, d, e, f] t) := by
  have hlt : g < w.heap.size := (Array.getElem?_eq_some_iff.1 h).1
  have h' : w.heap[g] = .cells #[a, b, c, d, e, f] t (0, 0) := by simpa [Array.getElem?_eq_getElem hlt] using h
  show (w.heap.modify g _)[g]? = _
  rw [Array.getElem?_eq_getElem (by simpa using hlt), Array.getElem_modify_self, h']
  rfl

set_option maxRecDepth 100000 in
theorem walk_GraphOne (w : World) (m : Int) (pv : Value) (b : List UInt8) (hb : Sl w pv (bv b)) (size a0 a1 a2 a3 : UInt64) :
    Calls Try.prog 4 #[.agg #[.int .i64 m, pv], .int .u64 size.toNat, .agg #[.int .u64 a0.toNat, .int .u64 a1.toNat, .int .u64 a2.toNat, .int .u64 a3.toNat]] w fun e w' => e = .returned (.bool true) ∧ Fr [] w w' := by
  have HB := Lib.hid hb
  obtain ⟨ao, cap, rfl, -, -, -⟩ := hb.out
  clear hb
  simp only [bv_length] at *
  go_enter Try.func4, Try.ntmps4
  go_wp2_with fail
  obtain ⟨w1, hw1⟩ : ∃ w1, w1 = w.alloc (.cells #[.int .i64 m, .slice ao b.length cap] 38) := ⟨_, rfl⟩
  have F1 : Fr [] w w1 := hw1 ▸ (Fr.refl _ _).alloc _
  have b0 : w1.heap[w.heap.size]? = some (.cells #[.int .i64 m, .slice ao b.length cap] 38) := hw1 ▸ heap_alloc_new w _
  have s1 : w1.heap.size = w.heap.size + 1 := by rw [hw1]; simp
  rw [← hw1]
  clear hw1
  obtain ⟨w2, hw2⟩ : ∃ w2, w2 = w1.alloc (.cells #[.int .u64 a0.toNat, .int .u64 a1.toNat, .int .u64 a2.toNat, .int .u64 a3.toNat] 40) := ⟨_, rfl⟩
  have F2 : Fr [] w1 w2 := hw2 ▸ (Fr.refl _ _).alloc _
  have b1 : w2.heap[w.heap.size + 1]? = some (.cells #[.int .u64 a0.toNat, .int .u64 a1.toNat, .int .u64 a2.toNat, .int .u64 a3.toNat] 40) := by rw [← s1]; exact hw2 ▸ heap_alloc_new w1 _
  have s2 : w2.heap.size = w.heap.size + 2 := by rw [hw2]; simp; omega
  rw [← hw2]
  clear hw2
  refine (awake_any w2).mono ?_
  rintro e w3 ⟨rfl, F3⟩
  have b0' := ((F2.trans0 F3).block w.heap.size (by omega) (by simp)).trans b0
  have b1' := (F3.block (w.heap.size + 1) (by omega) (by simp)).trans b1
  have F03 := (F1.trans0 F2).trans0 F3
  have s3 := F3.size
  clear b0 b1 F1 F2 F3 s1
  obtain ⟨⟨k0, k1⟩, -⟩ := cells2 b0'
  by_cases hlong : 1000 < b.length
  · have hl : (1000 : Int) < b.length := by omega
    go_wp2_with fail
    go_ret
    exact ⟨rfl, F03⟩
  have hl : (b.length : Int) ≤ 1000 := by omega
  have q0 := fun o1 o2 o3 => (((((Fr.refl [] w3).alloc o1).alloc o2).alloc o3).cell (p := ⟨w.heap.size, 0, none⟩) (by dsimp only; omega) (by simp)).trans k0
  have q1 := fun o1 o2 o3 => (((((Fr.refl [] w3).alloc o1).alloc o2).alloc o3).cell (p := ⟨w.heap.size, 1, none⟩) (by dsimp only; omega) (by simp)).trans k1
  go_wp2_with fail
  obtain ⟨w4, hw4⟩ : ∃ w4, w4 = w3.alloc (.cells #[.int .i64 m, .slice ao b.length cap] 38) := ⟨_, rfl⟩
  have F4 : Fr [] w3 w4 := hw4 ▸ (Fr.refl _ _).alloc _
  have c0 : w4.heap[w3.heap.size]? = some (.cells #[.int .i64 m, .slice ao b.length cap] 38) := hw4 ▸ heap_alloc_new w3 _
  have s4 : w4.heap.size = w3.heap.size + 1 := by rw [hw4]; simp
  rw [← hw4]
  clear hw4
  obtain ⟨w5, hw5⟩ : ∃ w5, w5 = w4.alloc (.cells #[.int .u64 size.toNat] 39) := ⟨_, rfl⟩
  have F5 : Fr [] w4 w5 := hw5 ▸ (Fr.refl _ _).alloc _
  have c1 : w5.heap[w3.heap.size + 1]? = some (.cells #[.int .u64 size.toNat] 39) := by rw [← s4]; exact hw5 ▸ heap_alloc_new w4 _
  have s5 : w5.heap.size = w3.heap.size + 1 + 1 := by rw [hw5]; simp; omega
  rw [← hw5]
  clear hw5
  obtain ⟨w6, hw6⟩ : ∃ w6, w6 = w5.alloc (.cells #[.slice (some ⟨w3.heap.size, 0, none⟩) 1 1, .slice none 0 0, .slice none 0 0, .slice (some ⟨w3.heap.size + 1, 0, none⟩) 1 1, .bool false, .int .u32 0] 30) := ⟨_, rfl⟩
  have F6 : Fr [] w5 w6 := hw6 ▸ (Fr.refl _ _).alloc _
  have c2 : w6.heap[w3.heap.size + 1 + 1]? = some (.cells #[.slice (some ⟨w3.heap.size, 0, none⟩) 1 1, .slice none 0 0, .slice none 0 0, .slice (some ⟨w3.heap.size + 1, 0, none⟩) 1 1, .bool false, .int .u32 0] 30) := by rw [← s5]; exact hw6 ▸ heap_alloc_new w5 _
  have s6 : w6.heap.size = w3.heap.size + 3 := by rw [hw6]; simp; omega
  rw [← hw6]
  clear hw6 q0 q1
  refine (rins_any _ _ _).mono ?_
  rintro e w7 ⟨rfl, F7⟩
  have s7 := F7.size
  have F37 := ((F4.trans0 F5).trans0 F6).trans0 F7
  have d0 := (F37.block w.heap.size (by omega) (by simp)).trans b0'
  have d1 := (F37.block (w.heap.size + 1) (by omega) (by simp)).trans b1'
  have d2 := (((F5.trans0 F6).trans0 F7).block w3.heap.size (by omega) (by simp)).trans c0
  have d3 := ((F6.trans0 F7).block (w3.heap.size + 1) (by omega) (by simp)).trans c1
  have d4 := (F7.block (w3.heap.size + 1 + 1) (by omega) (by simp)).trans c2
  have F07 := F03.trans0 F37
  have hs7 : w3.heap.size + 3 ≤ w7.heap.size := by omega
  clear F03 F37 F4 F5 F6 F7 c0 c1 c2 s4 s5 s6 b0' b1' k0 k1
  have hn := ins_le m
  have hn2 : ins m = 0 ∨ ins m = 1 ∨ ins m = 4 := by unfold ins; repeat' split
                                                     all_goals simp
  have hsolo := solo_code ⟨m, b⟩ size ([a0, a1, a2, a3].take (ins m)) (by simp; omega)
  have HSolo := Lib.hid hsolo
  have HD := Lib.hid (And.intro d0 (And.intro d1 (And.intro d2 (And.intro d3 d4))))
  clear hsolo d0 d1 d2 d3 d4
  generalize hins : ins m = n at hn hn2 HSolo ⊢
  have HI := Lib.hid hins
  clear hins
  go_wp2_with fail
  go_loopw [9, 10, 11] (fun pk gr i wr => ∃ (k : Nat) (fp : Value), k ≤ n ∧ i = .int .i64 k ∧ gr = .bool (bigP size || ([a0, a1, a2, a3].take k).any bigP) ∧
      wr.heap[w3.heap.size + 1 + 1]? = some (.cells #[.slice (some ⟨w3.heap.size, 0, none⟩) 1 1, .slice none 0 0, fp, .slice (some ⟨w3.heap.size + 1, 0, none⟩) 1 1, .bool false, .int .u32 0] 30) ∧
      wr.ownsRow w7.heap.size 3 1 fp k (iv (natInts k)) ∧ wr.ownsRow w7.heap.size 39 1 pk k (u64v ([a0, a1, a2, a3].take k)) ∧ Fr [w3.heap.size + 1 + 1] w7 wr) (fun _ _ i _ => n - (intOf i).toNat)
  case atStart =>
    refine ⟨0, _, Nat.zero_le _, rfl, ?_, HD.out.2.2.2.2, World.ownsRow_nil _ _ _ _, World.ownsRow_nil _ _ _ _, Fr.refl _ _⟩
    simp [bigP]
    omega
  case round =>
    obtain ⟨k, fp, hk, rfl, rfl, hgf, ownF, ownP, F⟩ := hrel
    by_cases hlt : k < n
    · obtain ⟨y, hy⟩ := some_get [a0, a1, a2, a3] k (by simp; omega)
      obtain ⟨q0, q1, q2, q3, q4, q5⟩ := cells6 hgf
      obtain ⟨fao, fcap, hfp, -⟩ := own_out ownF
      obtain ⟨pao, pcap, hpk, -⟩ := own_out ownP
      subst hfp hpk
      have hT := take_succ3 _ _ _ hy
      have HY := Lib.hid hy
      have HT := Lib.hid hT
      clear hy hT
      go_wp2_with (at_builtin; refine wpList_append_sl sty_int rfl _ _ (by rfl) w7.heap.size _ _ _ (by rfl) (ownF.alloc _) _ [.int .i64 (k : Int)] (by rfl) (sl_one _ _ _) (by intro u hu; simp at hu; subst hu; rfl) (by simp; omega) (by simp; omega) (by have := F.size; simp; omega) ?_)
      intro fp2 w8 ownF2 g8
      obtain ⟨fao2, fcap2, hfp2, -⟩ := own_out ownF2
      subst hfp2
      have hne1 : (Value.slice fao k fcap).ownBlock ≠ some (w3.heap.size + 1 + 1) := own_ne_block ownF hgf (by decide)
      have F8 : Fr [w3.heap.size + 1 + 1] w7 w8 := (F.alloc _).grown g8 (fun k hk => .inr (ownF.lt k hk).1)
      have hgf8 := (g8.block (w3.heap.size + 1 + 1) (by have := F.size; simp; omega) (fun h => hne1 h.symm)).trans ((((Fr.refl [] wr).alloc (.cells #[.int .i64 (k : Int)] 3)).block (w3.heap.size + 1 + 1) (by have := F.size; omega) (by simp)).trans hgf)
      have ownP8 : w8.ownsRow w7.heap.size 39 1 (.slice pao k pcap) k (u64v ([a0, a1, a2, a3].take k)) := by
        refine own_fr (own_fr ownP ((Fr.refl [] wr).alloc _) (by simp)) ((Fr.refl (Value.slice fao k fcap).ownBlock.toList _).grown g8 (fun k hk => .inl (by simp [hk]))) (fun j hj hm => ?_)
        simp at hm
        exact own_ne ownP ownF (by decide) j hj hm
      obtain ⟨y0, y1, y2, y3, y4, y5⟩ := cells6 hgf8
      have fz := frozen6 hgf8 2
      have hset := setCell_block hgf8 (.slice fao2 (k + 1) fcap2)
      have F9 : Fr [w3.heap.size + 1 + 1] w7 (w8.setCell ⟨w3.heap.size + 1 + 1, 2, none⟩ (.slice fao2 (k + 1) fcap2)) := F8.setCell (.inl (by simp)) _
      have Fs : Fr [w3.heap.size + 1 + 1] w8 (w8.setCell ⟨w3.heap.size + 1 + 1, 2, none⟩ (.slice fao2 (k + 1) fcap2)) := (Fr.refl _ _).setCell (.inl (by simp)) _
      have hne2 := own_ne_block ownF2 hgf8 (by decide)
      have hne3 := own_ne_block ownP8 hgf8 (by decide)
      have ownF9 := own_fr ownF2 Fs (fun j hj hm => by simp at hm; subst hm; exact hne2 hj)
      have ownP9 := own_fr ownP8 Fs (fun j hj hm => by simp at hm; subst hm; exact hne3 hj)
      clear hne1 hne2 hne3 ownF ownP hgf ownF2 ownP8 hgf8 F8 g8 Fs
      have e9 := arr4 ((F9.block (w.heap.size + 1) (by omega) (by simp; omega)).trans HD.out.2.1) k y HY.out
      have hk4 : (k : Int) < 4 := by omega
      have hsl : Sl ((w8.setCell ⟨w3.heap.size + 1 + 1, 2, none⟩ (.slice fao2 (k + 1) fcap2)).alloc (.cells #[.int .u64 y.toNat] 39)) (.slice (some ⟨w8.heap.size, 0, none⟩) 1 1) [.int .u64 y.toNat] := by
        have := sl_one (w8.setCell ⟨w3.heap.size + 1 + 1, 2, none⟩ (.slice fao2 (k + 1) fcap2)) 39 (.int .u64 y.toNat)
        rwa [World.size_setCell] at this
      have HSL := Lib.hid hsl
      clear hsl
      go_wp2_with (at_builtin; refine wpList_append_sl sty_u64 rfl _ _ (by rfl) w7.heap.size _ _ _ (by rfl) (ownP9.alloc _) _ [.int .u64 y.toNat] (by rfl) HSL.out (by intro u hu; simp at hu; subst hu; rfl) (by simp; omega) (by simp; omega) (by have := F9.size; simp only [World.size_alloc]; omega) ?_)
      intro pk3 w10 ownP10 g10
      have F10 : Fr [w3.heap.size + 1 + 1] w7 w10 := (F9.alloc _).grown g10 (fun j hj => .inr (ownP9.lt j hj).1)
      have hneP := own_ne_block ownP9 hset (by decide)
      have hgf10 := (g10.block (w3.heap.size + 1 + 1) (by have := F9.size; simp only [World.size_alloc]; omega) (fun h => hneP h.symm)).trans ((((Fr.refl [] (w8.setCell ⟨w3.heap.size + 1 + 1, 2, none⟩ (.slice fao2 (k + 1) fcap2))).alloc (.cells #[.int .u64 y.toNat] 39)).block (w3.heap.size + 1 + 1) (by have := F9.size; omega) (by simp)).trans hset)
      have ownF10 := own_fr (own_fr ownF9 ((Fr.refl [] _).alloc (.cells #[.int .u64 y.toNat] 39)) (by simp)) ((Fr.refl (Value.slice pao k pcap).ownBlock.toList _).grown g10 (fun j hj => .inl (by simp [hj]))) (fun j hj hm => by
        simp at hm
        exact own_ne ownF9 ownP9 (by decide) j hj hm)
      have e10 := arr4 ((F10.block (w.heap.size + 1) (by omega) (by simp; omega)).trans HD.out.2.1) k y HY.out
      have HO := Lib.hid (And.intro hgf10 (And.intro ownF10 (And.intro ownP10 F10)))
      clear hgf10 ownF10 ownP10 F10 hneP g10 e9 ownF9 ownP9 hset F9 fz y0 y1 y2 y3 y4 y5 q0 q1 q2 q3 q4 q5 F
      have hP1 : u64v ([a0, a1, a2, a3].take (k + 1)) = u64v ([a0, a1, a2, a3].take k) ++ [.int .u64 y.toNat] := by rw [HT.out]; simp [u64v]
      have HP1 := Lib.hid hP1
      have hany : ([a0, a1, a2, a3].take (k + 1)).any bigP = (([a0, a1, a2, a3].take k).any bigP || bigP y) := by rw [HT.out]; simp
      have HAny := Lib.hid hany
      clear hP1 hany
      generalize hgr : (bigP size || ([a0, a1, a2, a3].take k).any bigP) = gr
      have hgr2 : (bigP size || ([a0, a1, a2, a3].take (k + 1)).any bigP) = (gr || bigP y) := by rw [HAny.out, ← Bool.or_assoc, hgr]
      have HG2 := Lib.hid hgr2
      clear hgr hgr2
      cases gr with
      | true =>
        go_wp2_with fail
        go_roundw
        case rel => exact ⟨k + 1, _, by omega, by go_num, by rw [HG2.out]; rfl, HO.out.1, by rw [natInts_succ]; simpa [iv] using HO.out.2.1, by rw [HP1.out]; exact HO.out.2.2.1, HO.out.2.2.2⟩
        case measure => simp [intOf]; omega
      | false =>
        go_wp2_with fail
        go_roundw
        case rel => exact ⟨k + 1, _, by omega, by go_num, by rw [HG2.out]; simp [bigP]; omega, HO.out.1, by rw [natInts_succ]; simpa [iv] using HO.out.2.1, by rw [HP1.out]; exact HO.out.2.2.1, HO.out.2.2.2⟩
        case measure => simp [intOf]; omega
    · have hk2 : k = n := by omega
      subst hk2
      have hws : w7.heap.size ≤ wr.heap.size := F.size
      have d0 := (F.block w.heap.size (by omega) (by simp; omega)).trans HD.out.1
      have d1 := (F.block (w.heap.size + 1) (by omega) (by simp; omega)).trans HD.out.2.1
      have FT : Fr [] w wr := F07.trans F (by simp; omega)
      have hSl := HB.out.fr0 FT
      have hfo : Fo wr (.agg #[.slice (some ⟨w3.heap.size, 0, none⟩) 1 1, .slice none 0 0, fp, .slice (some ⟨w3.heap.size + 1, 0, none⟩) 1 1, .bool false, .int .u32 0]) (soloF ⟨m, b⟩ size) := by
        refine ⟨_, _, _, _, _, _, rfl, co_block ((F.block w3.heap.size (by omega) (by simp; omega)).trans HD.out.2.2.1) b hSl, bi_nil _, ?_, sl_block (l := u64v [size]) ((F.block (w3.heap.size + 1) (by omega) (by simp)).trans HD.out.2.2.2.1) 1 rfl (by simp)⟩
        have := Sl.of_own ownF
        rw [← HI.out] at this
        exact this
      have HFO := Lib.hid (fun w' (F' : Fr [] wr w') => hfo.fr F')
      have HNP := Lib.hid (fun w' (F' : Fr [] wr w') => (Sl.of_own ownP).fr0 F')
      have HSM := Lib.hid (show Small (soloF ⟨m, b⟩ size) from ⟨by simp [soloF], by simp [soloF], by simp [soloF]; have := ins_le m; omega, by simp [soloF]⟩)
      have HPR := Lib.hid (show ∀ c ∈ (soloF ⟨m, b⟩ size).coders, c.props.length ≤ 2000 from fun c hc => by simp [soloF] at hc; subst hc; dsimp only; omega)
      have HLE := Lib.hid (show ([a0, a1, a2, a3].take k).length ≤ 400 by simp; omega)
      have HSl := Lib.hid hSl
      obtain ⟨q0, q1, q2, q3, q4, q5⟩ := cells6 hgf
      have hgf2 := hgf
      have ⟨⟨k0, k1⟩, _⟩ := cells2 d0
      have k2 := (four_of d1).1
      have HGF := Lib.hid hgf
      have hsz : w3.heap.size + 1 + 1 < wr.heap.size := by omega
      have hdef : soloCode ⟨m, b⟩ size ([a0, a1, a2, a3].take k) = if k = 0 then 10 else if (bigP size || ([a0, a1, a2, a3].take k).any bigP) = true then 7 else if (!propsOk m b) = true then 11 else if (m = 1 ∨ m = 2 ∨ m = 3) ∧ ([a0, a1, a2, a3].take k)[0]? ≠ some size then 13 else 0 := by
        unfold soloCode
        rw [show ins (⟨m, b⟩ : Coder).method = k from HI.out]
      have hcode := HSolo.out.trans hdef
      clear hfo hSl ownF ownP hgf F HSolo hdef
      generalize hgr : (bigP size || ([a0, a1, a2, a3].take k).any bigP) = gr at hcode ⊢
      clear hgr
      have HCode := Lib.hid hcode
      clear hcode
      have ct : codeOf true = 0 := rfl
      have cf : codeOf false = 11 := rfl
      by_cases hk0 : k = 0
      · have E := Lib.hid (show codeP (soloF ⟨m, b⟩ size) ([a0, a1, a2, a3].take k) = 10 by rw [HCode.out, if_pos hk0])
        have t0 : ((k : Int) == 0) = true := by simp [hk0]
        clear hk0
        go_wp2_with (go_at_call 9; refine (check_any _ _ _ (soloF ⟨m, b⟩ size) (HFO.out _ (Fr.refl _ _)) HSM.out HPR.out _ (HNP.out _ (Fr.refl _ _)) HLE.out).mono ?_; rw [E.out]; rintro e w9 ⟨rfl, F9⟩)
        go_ret
        exact ⟨rfl, FT.trans0 F9⟩
      have t0 : ((k : Int) == 0) = false := by simp [hk0]
      cases gr with
      | true =>
        have E := Lib.hid (show codeP (soloF ⟨m, b⟩ size) ([a0, a1, a2, a3].take k) = 7 by rw [HCode.out, if_neg hk0, if_pos rfl])
        clear hk0
        go_wp2_with (go_at_call 9; refine (check_any _ _ _ (soloF ⟨m, b⟩ size) (HFO.out _ (Fr.refl _ _)) HSM.out HPR.out _ (HNP.out _ (Fr.refl _ _)) HLE.out).mono ?_; rw [E.out]; rintro e w9 ⟨rfl, F9⟩)
        go_ret
        exact ⟨rfl, FT.trans0 F9⟩
      | false =>
        cases hok : propsOk m b with
        | false =>
          have HOK := Lib.hid hok
          have E := Lib.hid (show codeP (soloF ⟨m, b⟩ size) ([a0, a1, a2, a3].take k) = 11 by rw [HCode.out, if_neg hk0, if_neg (by simp), if_pos (by rw [hok]; rfl)])
          clear hk0 hok
          go_wp2_with (first | (go_at_call 12; refine (rprops_any _ m _ b (HSl.out)).mono ?_; rw [HOK.out]; rintro e wq ⟨rfl, Fq⟩; obtain ⟨x0, x1⟩ := (cells2 ((Fq.block w.heap.size (by omega) (by simp)).trans d0)).1; obtain ⟨z0, z1, z2, z3, z4, z5⟩ := cells6 ((Fq.block (w3.heap.size + 1 + 1) hsz (by simp)).trans HGF.out); have x2 := (four_of ((Fq.block (w.heap.size + 1) (by omega) (by simp)).trans d1)).1) | (go_at_call 9; refine (check_any _ _ _ (soloF ⟨m, b⟩ size) (HFO.out _ Fq) HSM.out HPR.out _ (HNP.out _ Fq) HLE.out).mono ?_; rw [E.out]; rintro e w9 ⟨rfl, F9⟩))
          go_ret
          exact ⟨rfl, (FT.trans0 Fq).trans0 F9⟩
        | true =>
          have HOK := Lib.hid hok
          obtain ⟨tl, htl⟩ : ∃ tl, [a0, a1, a2, a3].take k = a0 :: tl := by
            obtain ⟨j, rfl⟩ : ∃ j, k = j + 1 := ⟨k - 1, by omega⟩
            exact ⟨_, rfl⟩
          have hm1 : (m = 1 ∨ m = 2 ∨ m = 3) ↔ m ≤ 3 := by
            have := HI.out
            unfold ins at this
            constructor
            · omega
            · intro h3
              split at this
              · omega
              · split at this <;> omega
          by_cases hm3 : m ≤ 3
          · by_cases hsz2 : a0 = size
            · have E := Lib.hid (show codeP (soloF ⟨m, b⟩ size) ([a0, a1, a2, a3].take k) = 0 by rw [HCode.out, if_neg hk0, if_neg (by simp), if_neg (by rw [hok]; simp), if_neg (by rw [htl]; simp [hsz2])])
              have t1 : ((a0.toNat : Int) != (size.toNat : Int)) = false := by rw [hsz2]; simp
              clear hk0 hok htl hm1 hsz2
              go_wp2_with (first | (go_at_call 12; refine (rprops_any _ m _ b (HSl.out)).mono ?_; rw [HOK.out]; rintro e wq ⟨rfl, Fq⟩; obtain ⟨x0, x1⟩ := (cells2 ((Fq.block w.heap.size (by omega) (by simp)).trans d0)).1; obtain ⟨z0, z1, z2, z3, z4, z5⟩ := cells6 ((Fq.block (w3.heap.size + 1 + 1) hsz (by simp)).trans HGF.out); have x2 := (four_of ((Fq.block (w.heap.size + 1) (by omega) (by simp)).trans d1)).1) | (go_at_call 9; refine (check_any _ _ _ (soloF ⟨m, b⟩ size) (HFO.out _ Fq) HSM.out HPR.out _ (HNP.out _ Fq) HLE.out).mono ?_; rw [E.out]; rintro e w9 ⟨rfl, F9⟩))
              go_ret
              exact ⟨rfl, (FT.trans0 Fq).trans0 F9⟩
            · have E := Lib.hid (show codeP (soloF ⟨m, b⟩ size) ([a0, a1, a2, a3].take k) = 13 by rw [HCode.out, if_neg hk0, if_neg (by simp), if_neg (by rw [hok]; simp), if_pos ⟨hm1.2 hm3, by rw [htl]; simpa using hsz2⟩])
              have t1 : ((a0.toNat : Int) != (size.toNat : Int)) = true := by rw [bne_iff_ne]; intro h; exact hsz2 (UInt64.toNat_inj.1 (by omega))
              clear hk0 hok htl hm1 hsz2
              go_wp2_with (first | (go_at_call 12; refine (rprops_any _ m _ b (HSl.out)).mono ?_; rw [HOK.out]; rintro e wq ⟨rfl, Fq⟩; obtain ⟨x0, x1⟩ := (cells2 ((Fq.block w.heap.size (by omega) (by simp)).trans d0)).1; obtain ⟨z0, z1, z2, z3, z4, z5⟩ := cells6 ((Fq.block (w3.heap.size + 1 + 1) hsz (by simp)).trans HGF.out); have x2 := (four_of ((Fq.block (w.heap.size + 1) (by omega) (by simp)).trans d1)).1) | (go_at_call 9; refine (check_any _ _ _ (soloF ⟨m, b⟩ size) (HFO.out _ Fq) HSM.out HPR.out _ (HNP.out _ Fq) HLE.out).mono ?_; rw [E.out]; rintro e w9 ⟨rfl, F9⟩))
              go_ret
              exact ⟨rfl, (FT.trans0 Fq).trans0 F9⟩
          · have E := Lib.hid (show codeP (soloF ⟨m, b⟩ size) ([a0, a1, a2, a3].take k) = 0 by rw [HCode.out, if_neg hk0, if_neg (by simp), if_neg (by rw [hok]; simp), if_neg (fun h => hm3 (hm1.1 h.1))])
            have t1 : ¬ m ≤ 3 := hm3
            clear hk0 hok htl hm1
            go_wp2_with (first | (go_at_call 12; refine (rprops_any _ m _ b (HSl.out)).mono ?_; rw [HOK.out]; rintro e wq ⟨rfl, Fq⟩; obtain ⟨x0, x1⟩ := (cells2 ((Fq.block w.heap.size (by omega) (by simp)).trans d0)).1; obtain ⟨z0, z1, z2, z3, z4, z5⟩ := cells6 ((Fq.block (w3.heap.size + 1 + 1) hsz (by simp)).trans HGF.out); have x2 := (four_of ((Fq.block (w.heap.size + 1) (by omega) (by simp)).trans d1)).1) | (go_at_call 9; refine (check_any _ _ _ (soloF ⟨m, b⟩ size) (HFO.out _ Fq) HSM.out HPR.out _ (HNP.out _ Fq) HLE.out).mono ?_; rw [E.out]; rintro e w9 ⟨rfl, F9⟩))
            go_ret
            exact ⟨rfl, (FT.trans0 Fq).trans0 F9⟩
end Go.Proofs.Ytakpeffpocjgoaa
