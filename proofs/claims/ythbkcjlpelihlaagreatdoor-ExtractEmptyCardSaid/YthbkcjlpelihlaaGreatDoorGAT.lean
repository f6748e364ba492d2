/- Contract: an extraction without entries (layer 26): all steps. No condition but that nothing is spent and lengths fit. -/
import Derived.Test.YthbkcjlpelihlaaGreatDoorEExtCM
import Derived.Test.YthbkcjlpelihlaaGreatDoorGAP
import Derived.Test.YthbkcjlpelihlaaGreatDoorGAA
import Derived.Test.YthbkcjlpelihlaaGreatDoorGAB
import Derived.Test.YthbkcjlpelihlaaGreatDoorGAE
namespace Go.Proofs.YthbkcjlpelihlaaGreatDoor
open Go.RowKit Go.Maps

set_option maxRecDepth 100000 in
set_option maxHeartbeats 4000000 in
theorem all0_any {w : World} {g sp mp bp fc fc2 lo n nc : Nat} {fo fo2 : Option Addr} {root : List UInt8} {mb : Option Nat} {fi : Int} {pv av pv2 cv sv ev x9 x10 : Value} {a o f d s k : Int} {fl : Fl} {K : Tree} (W : WkAt w g sp mp bp (.slice fo 0 fc) root [] mb fi pv) (B : BkAt w bp mp av pv2 cv (.slice fo2 0 fc2) sv ev x9 x10) (M : MtN w mp a o f d s k) (hs : 0 ≤ s) (hs2 : s ≤ 800000) (S : SandAt w lo sp n nc fl K) (hG : Gl w) (hgm : g ≠ mp) (hgb : bp ≠ g) (hbm : bp ≠ mp) (hm3 : 3 ≤ mp) (hg3 : 3 ≤ g) (hlo : 3 ≤ lo)
    (hK : MayK K) (hr : kindK K root = 1) (hrc : cleanL foldL root = true) (hrl : root.length ≤ 1000) (hcl : ∀ i, i < 10 → cleanL foldL (stP root i) = true) (hex : ∃ i, i < 10 ∧ K (stP root i) = none) (hn : n ≤ 30000) (hnc : nc ≤ 80000)
    (hl0 : fl.ok nc root ⟨#[]⟩) (hl1 : ∀ i, i < 10 → (∀ j, j < i → K (stP root j) ≠ none) → fl.ok (nc + 1 + i) (stP root i) ⟨#[]⟩ ∧ fl.ok (nc + 1 + (i + 1)) (stP root i) ⟨#[]⟩) (hl2 : ∀ i, i < 10 → (∀ j, j < i → K (stP root j) ≠ none) → fl.ok (nc + 1 + i + 2) (stP root i) ⟨root.toArray⟩) :
    Calls Tryz.prog 45 #[.pointer (some ⟨g, 0, none⟩)] w fun e w' => e = .returned (.int .i64 0) ∧ ∃ i n' s', i < 10 ∧ (∀ j, j < i → K (stP root j) ≠ none) ∧ K (stP root i) = none ∧ SandAt w' lo sp n' (nc + 1 + i + 2 + 1) fl K ∧ n' ≤ n + 1 ∧ MtN w' mp a o f d s' k ∧ 0 ≤ s' ∧ s' ≤ s + 30 ∧ ExF lo [mp, g] w w' := by
  have hmf : ∀ (fn : Fn) (first cap : Array Value) (w : World), (Instr.makeFunc fn first cap).run Tryz.prog w = .ok (.func fn first cap) w := fun _ _ _ _ => rfl
  obtain ⟨wA, hwA⟩ : ∃ wA, wA = w.alloc (.cells #[.func (.func 69) #[.pointer (some ⟨g, 0, none⟩)] #[], .func (.func 70) #[.pointer (some ⟨g, 0, none⟩)] #[], .func (.func 71) #[.pointer (some ⟨g, 0, none⟩)] #[], .func (.func 72) #[.pointer (some ⟨g, 0, none⟩)] #[], .func (.func 73) #[.pointer (some ⟨g, 0, none⟩)] #[]] 104) := ⟨_, rfl⟩
  have FA : Fr [] w wA := hwA ▸ (Fr.refl _ _).alloc _
  have hA : wA.heap[w.heap.size]? = some (.cells #[.func (.func 69) #[.pointer (some ⟨g, 0, none⟩)] #[], .func (.func 70) #[.pointer (some ⟨g, 0, none⟩)] #[], .func (.func 71) #[.pointer (some ⟨g, 0, none⟩)] #[], .func (.func 72) #[.pointer (some ⟨g, 0, none⟩)] #[], .func (.func 73) #[.pointer (some ⟨g, 0, none⟩)] #[]] 104 (0, 0)) := hwA ▸ heap_alloc_new w _
  have hml := M.lt
  have hgl := W.lt
  have HK := Lib.hid (fun (w2 : World) (X : ExF lo [mp, g] wA w2) => show w2.cell? ⟨w.heap.size, 0, none⟩ = some (.func (.func 69) #[.pointer (some ⟨g, 0, none⟩)] #[]) ∧ w2.cell? ⟨w.heap.size, 1, none⟩ = some (.func (.func 70) #[.pointer (some ⟨g, 0, none⟩)] #[]) ∧ w2.cell? ⟨w.heap.size, 2, none⟩ = some (.func (.func 71) #[.pointer (some ⟨g, 0, none⟩)] #[]) ∧ w2.cell? ⟨w.heap.size, 3, none⟩ = some (.func (.func 72) #[.pointer (some ⟨g, 0, none⟩)] #[]) ∧ w2.cell? ⟨w.heap.size, 4, none⟩ = some (.func (.func 73) #[.pointer (some ⟨g, 0, none⟩)] #[]) from by
    have hb := X.keep hA (by simp; omega) (by decide) (by decide)
    have key := fun i => Go.Joins.cell_of_block hb i
    exact ⟨by rw [key]; rfl, by rw [key]; rfl, by rw [key]; rfl, by rw [key]; rfl, by rw [key]; rfl⟩)
  obtain ⟨k0, k1, k2, k3, k4⟩ := HK.out wA (ExF.of0 (Fr.refl _ _))
  have WA := W.fr FA (by simp)
  have HB := Lib.hid (B.fr FA (by simp))
  have hlk : lookK K root = (1, 0) := by unfold lookK; rw [if_pos hrc, hr]
  have HT := Lib.hid (target_any WA (M.fr FA (by simp)) hs (by omega) (S.fr0 FA) (hG.fr FA) hgm hm3 (by omega) (by omega) hl0 hlk)
  have HE := Lib.hid (fun (w1 : World) (S1 : SandAt w1 lo sp n (nc + 1) fl K) (M1 : MtN w1 mp a o f d (s + 1) k) (X1 : ExF lo [mp] wA w1) => enter0_any (WA.ex X1 (by simpa using hgm)) M1 (by omega) (by omega) S1 (ExF.gl (hG.fr FA) X1 hlo (by simpa using hm3)) hgm hm3 hlo hK hr hrl hcl hex (by omega) (by omega) hl1)
  have HP := Lib.hid (fun (w2 : World) (i n' : Nat) (s' : Int) (hi : i < 10) (hj : ∀ j, j < i → K (stP root j) ≠ none) (h0 : K (stP root i) = none) (S2 : SandAt w2 lo sp n' (nc + 1 + i + 2) fl (updK K (stP root i) ⟨1, [], []⟩)) (hn' : n' ≤ n + 1) (M2 : MtN w2 mp a o f d s' k) (h1 : 0 ≤ s') (h2 : s' ≤ s + 1 + 20) (W2 : WkAt w2 g sp mp bp (.slice fo 0 fc) root (stP root i) mb fi pv) (X2 : ExF lo [mp, g] wA w2) =>
    (show Calls Tryz.prog 73 #[.pointer (some ⟨g, 0, none⟩)] w2 fun e w' => e = .returned (.int .i64 0) ∧ SandAt w' lo sp n' (nc + 1 + i + 2 + 1) fl K ∧ MtN w' mp a o f d (s' + 1) k ∧ ExF lo [mp] w2 w' from by
      have hmk := stage_mk hi hr (hcl i hi) h0
      have hMK : MayK (updK K (stP root i) ⟨1, [], []⟩) := by
        have := mk_may hK (stP root i) (kd := 1) (.inl rfl)
        rwa [hmk] at this
      have hpl := clean_len (hcl i hi)
      refine (wpublish_any W2 M2 h1 (by omega) S2 hMK (ExF.gl (hG.fr FA) X2 hlo (by simp; omega)) hgm hm3 (by omega) (by omega) (by omega) (by omega) (hl2 i hi hj)).mono ?_
      rintro e w' ⟨ks, hks, -, rfl, S3, M3, X3⟩
      have hpk : publishK (updK K (stP root i) ⟨1, [], []⟩) (stP root i) root ks = (0, K) := by
        unfold publishK
        rw [hcl i hi, hrc]
        exact stage_pub hK hr h0 hks
      rw [hpk] at S3 ⊢
      exact ⟨rfl, S3, M3, X3⟩))
  have FA' := Lib.hid FA
  clear W B M S hG hK hr hrc hcl hex hl0 hl1 hl2 hlk hA WA FA
  go_enter Tryz.func45, Tryz.ntmps45
  go_wp2_with fail
  rw [← hwA]
  clear hwA
  refine wp_loop_rounds 6 ?_
  rw [rounds_succ]
  go_wp2_with (go_at_call 69; refine HT.out.mono ?_; rintro e w1 ⟨rfl, S1, M1, X1⟩)
  have X1' := Lib.hid (X1.mono (T := [mp, g]) (by simp))
  have HE1 := Lib.hid (HE.out w1 S1 M1 X1)
  obtain ⟨k0, k1, k2, k3, k4⟩ := HK.out w1 X1'.out
  clear S1 M1 X1
  rw [rounds_succ]
  go_wp2_with (go_at_call 70; refine HE1.out.mono ?_; rintro e w2 ⟨rfl, i, n', s', hi, hj, h0, S2, hn', M2, hs1, hs2', W2, X2⟩)
  have X12 := Lib.hid (X1'.out.trans X2)
  obtain ⟨k0, k1, k2, k3, k4⟩ := HK.out w2 X12.out
  have HP2 := Lib.hid (HP.out w2 i n' s' hi hj h0 S2 hn' M2 hs1 hs2' W2 X12.out)
  have HE2 := Lib.hid (entries0_any W2)
  have HF2 := Lib.hid (folders0_any W2 (HB.out.ex X12.out (by simp; exact ⟨hbm, hgb⟩)))
  have HH := Lib.hid (And.intro hi (And.intro hj h0))
  clear S2 M2 W2 X2 hj h0
  rw [rounds_succ]
  go_wp2_with (go_at_call 71; refine HE2.out.mono ?_; rintro e w3 ⟨rfl, rfl⟩)
  rw [rounds_succ]
  go_wp2_with (go_at_call 72; refine HF2.out.mono ?_; rintro e w4 ⟨rfl, rfl⟩)
  rw [rounds_succ]
  go_wp2_with (go_at_call 73; refine HP2.out.mono ?_; rintro e w5 ⟨rfl, S5, M5, X5⟩)
  rw [rounds_succ]
  go_wp2_with fail
  go_ret
  exact ⟨rfl, i, n', s' + 1, HH.out.1, HH.out.2.1, HH.out.2.2, S5, hn', M5, by omega, by omega, ((ExF.of0 FA'.out).trans X12.out).trans (X5.mono (by simp))⟩
end Go.Proofs.YthbkcjlpelihlaaGreatDoor
/- Contract: what is used of quotas. No condition. -/
namespace Go.Proofs.YthbkcjlpelihlaaGreatDoor
open Go.RowKit

set_option maxRecDepth 100000 in
theorem used_m {w : World} {p : Nat} {a o f d s k : Int} (h : MtN w p a o f d s k) :
    Calls Tryz.prog 26 #[.pointer (some ⟨p, 0, none⟩)] w fun e w' => e = .returned (.agg #[.int .i64 a, .int .i64 k, .int .i64 o, .int .i64 f, .int .i64 d, .int .i64 s]) ∧ Fr [] w w' := by
  have H0 := Lib.hid (fun (wr : World) (F : Fr [] w wr) => iload_any ⟨p, 1, none⟩ a wr ((h.fr F (by simp)).cell rfl))
  have H1 := Lib.hid (fun (wr : World) (F : Fr [] w wr) => iload_any ⟨p, 10, none⟩ k wr ((h.fr F (by simp)).cell rfl))
  have H2 := Lib.hid (fun (wr : World) (F : Fr [] w wr) => iload_any ⟨p, 3, none⟩ o wr ((h.fr F (by simp)).cell rfl))
  have H3 := Lib.hid (fun (wr : World) (F : Fr [] w wr) => iload_any ⟨p, 5, none⟩ f wr ((h.fr F (by simp)).cell rfl))
  have H4 := Lib.hid (fun (wr : World) (F : Fr [] w wr) => iload_any ⟨p, 7, none⟩ d wr ((h.fr F (by simp)).cell rfl))
  have H5 := Lib.hid (fun (wr : World) (F : Fr [] w wr) => iload_any ⟨p, 9, none⟩ s wr ((h.fr F (by simp)).cell rfl))
  have S0 := Same.drew (w := w)
  clear h
  go_enter Tryz.func26, Tryz.ntmps26
  go_wp2_with fail
  go_region_held3 (fun _ => True) (trivial) (first
    | (have hq := G5; go_at_call 46; refine (H5.out _ (by first | exact ((Fr.refl [] w).alloc _).drew | exact (Fr.refl [] w).drew)).mono ?_; rintro e w7 ⟨rfl, rfl⟩; have G6 := True.intro)
    | (have hq := G4; go_at_call 46; refine (H4.out _ (by first | exact ((Fr.refl [] w).alloc _).drew | exact (Fr.refl [] w).drew)).mono ?_; rintro e w6 ⟨rfl, rfl⟩; have G5 := True.intro)
    | (have hq := G3; go_at_call 46; refine (H3.out _ (by first | exact ((Fr.refl [] w).alloc _).drew | exact (Fr.refl [] w).drew)).mono ?_; rintro e w5 ⟨rfl, rfl⟩; have G4 := True.intro)
    | (have hq := G2; go_at_call 46; refine (H2.out _ (by first | exact ((Fr.refl [] w).alloc _).drew | exact (Fr.refl [] w).drew)).mono ?_; rintro e w4 ⟨rfl, rfl⟩; have G3 := True.intro)
    | (have hq := G1; go_at_call 46; refine (H1.out _ (by first | exact ((Fr.refl [] w).alloc _).drew | exact (Fr.refl [] w).drew)).mono ?_; rintro e w3 ⟨rfl, rfl⟩; have G2 := True.intro)
    | (go_at_call 46; refine (H0.out _ (by first | exact ((Fr.refl [] w).alloc _).drew | exact (Fr.refl [] w).drew)).mono ?_; rintro e w2 ⟨rfl, rfl⟩; have G1 := True.intro))
  obtain ⟨wU, hwU⟩ : ∃ wU, wU = (w.alloc (.cells #[.int .i64 a, .int .i64 k, .int .i64 o, .int .i64 f, .int .i64 d, .int .i64 s] 35)).drew := ⟨_, rfl⟩
  rw [← hwU]
  have FU : Fr [] w wU := hwU ▸ ((Fr.refl _ _).alloc _).drew
  have BU : wU.heap[w.heap.size]? = some (.cells #[.int .i64 a, .int .i64 k, .int .i64 o, .int .i64 f, .int .i64 d, .int .i64 s] 35 (0, 0)) := hwU ▸ heap_alloc_new w _
  have key : ∀ i : Nat, wU.cell? ⟨w.heap.size, i, none⟩ = (#[.int .i64 a, .int .i64 k, .int .i64 o, .int .i64 f, .int .i64 d, .int .i64 s] : Array Value)[i]? := Go.Joins.cell_of_block BU
  have j0 := key 0
  have j1 := key 1
  have j2 := key 2
  have j3 := key 3
  have j4 := key 4
  have j5 := key 5
  simp only [List.getElem?_toArray, List.getElem?_cons_zero, List.getElem?_cons_succ] at j0 j1 j2 j3 j4 j5
  clear key BU hwU
  go_wp2_with fail
  refine bodyPost_ret (v := .agg #[.int .i64 a, .int .i64 k, .int .i64 o, .int .i64 f, .int .i64 d, .int .i64 s]) (by simp [results, Tryz.results26, go_sem, j0, j1, j2, j3, j4, j5]) rfl ?_
  exact ⟨rfl, FU⟩
end Go.Proofs.YthbkcjlpelihlaaGreatDoor
/- Rows of bits, in plain Lean. No condition. -/
namespace Go.Proofs.YthbkcjlpelihlaaGreatDoor
open Go.RowKit

/-- The byte number j of the bits f. -/
def byteOf (f : Nat → Bool) (j : Nat) : Nat :=
  (f (8 * j)).toNat * 128 + (f (8 * j + 1)).toNat * 64 + (f (8 * j + 2)).toNat * 32 + (f (8 * j + 3)).toNat * 16 +
  (f (8 * j + 4)).toNat * 8 + (f (8 * j + 5)).toNat * 4 + (f (8 * j + 6)).toNat * 2 + (f (8 * j + 7)).toNat

theorem bool_le (b : Bool) : b.toNat ≤ 1 := by cases b <;> simp

theorem byteOf_lt (f : Nat → Bool) (j : Nat) : byteOf f j < 256 := by
  unfold byteOf
  have h0 := bool_le (f (8 * j)); have h1 := bool_le (f (8 * j + 1)); have h2 := bool_le (f (8 * j + 2)); have h3 := bool_le (f (8 * j + 3))
  have h4 := bool_le (f (8 * j + 4)); have h5 := bool_le (f (8 * j + 5)); have h6 := bool_le (f (8 * j + 6)); have h7 := bool_le (f (8 * j + 7))
  omega

theorem byteOf_congr (f g : Nat → Bool) (j : Nat) (h : ∀ t, t < 8 → f (8 * j + t) = g (8 * j + t)) : byteOf f j = byteOf g j := by
  have h0 := h 0 (by decide); have h1 := h 1 (by decide); have h2 := h 2 (by decide); have h3 := h 3 (by decide)
  have h4 := h 4 (by decide); have h5 := h 5 (by decide); have h6 := h 6 (by decide); have h7 := h 7 (by decide)
  unfold byteOf
  rw [Nat.add_zero] at h0
  rw [h0, h1, h2, h3, h4, h5, h6, h7]

theorem byteOf_bit (f : Nat → Bool) (j t : Nat) (ht : t < 8) : byteOf f j / (128 / 2 ^ t) % 2 = (f (8 * j + t)).toNat := by
  have h0 := bool_le (f (8 * j)); have h1 := bool_le (f (8 * j + 1)); have h2 := bool_le (f (8 * j + 2)); have h3 := bool_le (f (8 * j + 3))
  have h4 := bool_le (f (8 * j + 4)); have h5 := bool_le (f (8 * j + 5)); have h6 := bool_le (f (8 * j + 6)); have h7 := bool_le (f (8 * j + 7))
  have ht' : t = 0 ∨ t = 1 ∨ t = 2 ∨ t = 3 ∨ t = 4 ∨ t = 5 ∨ t = 6 ∨ t = 7 := by omega
  rcases ht' with rfl | rfl | rfl | rfl | rfl | rfl | rfl | rfl <;> simp only [Nat.reducePow, Nat.reduceDiv, Nat.add_zero] <;> unfold byteOf <;> omega

/-- The bits f below k, false from there on. -/
def upTo (f : Nat → Bool) (k n : Nat) : Bool := decide (n < k) && f n

theorem upTo_at (f : Nat → Bool) (j t s : Nat) : upTo f (8 * j + t) (8 * j + s) = (decide (s < t) && f (8 * j + s)) := by
  unfold upTo
  congr 1
  simp

theorem upTo_at0 (f : Nat → Bool) (j t : Nat) : upTo f (8 * j + t) (8 * j) = (decide (0 < t) && f (8 * j)) := upTo_at f j t 0

theorem upTo_none (f : Nat → Bool) (j s : Nat) : upTo f (8 * j) (8 * j + s) = false := by simp [upTo]; omega
theorem upTo_none0 (f : Nat → Bool) (j : Nat) : upTo f (8 * j) (8 * j) = false := by simp [upTo]

theorem byteOf_step (f : Nat → Bool) (k : Nat) : byteOf (upTo f (k + 1)) (k / 8) = byteOf (upTo f k) (k / 8) + if f k then 128 / 2 ^ (k % 8) else 0 := by
  have hk : k = 8 * (k / 8) + k % 8 := by omega
  have ht : k % 8 < 8 := by omega
  generalize k / 8 = j at *
  generalize k % 8 = t at *
  subst hk
  rw [Nat.add_assoc]
  have ht' : t = 0 ∨ t = 1 ∨ t = 2 ∨ t = 3 ∨ t = 4 ∨ t = 5 ∨ t = 6 ∨ t = 7 := by omega
  rcases ht' with rfl | rfl | rfl | rfl | rfl | rfl | rfl | rfl <;> simp only [byteOf, upTo_at, upTo_at0, Nat.add_zero, upTo_none, upTo_none0] <;> simp
  all_goals split <;> simp_all

/-- The first m bytes of the bits f. -/
def packF (f : Nat → Bool) (m : Nat) : List UInt8 := (List.range m).map fun j => UInt8.ofNat (byteOf f j)

theorem packF_length (f : Nat → Bool) (m : Nat) : (packF f m).length = m := by simp [packF]

theorem packF_get (f : Nat → Bool) (m j : Nat) (h : j < m) : (packF f m)[j]? = some (UInt8.ofNat (byteOf f j)) := by simp [packF, h]

theorem packF_congr (f g : Nat → Bool) (m : Nat) (h : ∀ n, n < 8 * m → f n = g n) : packF f m = packF g m := by
  unfold packF
  apply List.map_congr_left
  intro j hj
  rw [byteOf_congr f g j (fun t ht => h _ (by have := List.mem_range.1 hj; omega))]

theorem packF_succ (f : Nat → Bool) (m : Nat) : packF f (m + 1) = packF f m ++ [UInt8.ofNat (byteOf f m)] := by simp [packF, List.range_succ]

theorem byteOf_empty (f : Nat → Bool) (k j : Nat) (h : k ≤ 8 * j) : byteOf (upTo f k) j = 0 := by
  unfold byteOf upTo
  simp only [show ¬ (8 * j < k) from by omega, show ¬ (8 * j + 1 < k) from by omega, show ¬ (8 * j + 2 < k) from by omega, show ¬ (8 * j + 3 < k) from by omega, show ¬ (8 * j + 4 < k) from by omega, show ¬ (8 * j + 5 < k) from by omega, show ¬ (8 * j + 6 < k) from by omega, show ¬ (8 * j + 7 < k) from by omega, decide_false, Bool.false_and]
  rfl

theorem upTo_low (f : Nat → Bool) (k n : Nat) (h : n < k) : upTo f (k + 1) n = upTo f k n := by unfold upTo; simp [h, Nat.lt_succ_of_lt h]

/-- A bit that opens a byte. -/
theorem pack_open (f : Nat → Bool) (k : Nat) (h : k % 8 = 0) :
    packF (upTo f (k + 1)) ((k + 1 + 7) / 8) = packF (upTo f k) ((k + 7) / 8) ++ [UInt8.ofNat (if f k then 128 else 0)] := by
  rw [show (k + 1 + 7) / 8 = k / 8 + 1 from by omega, show (k + 7) / 8 = k / 8 from by omega, packF_succ, byteOf_step, byteOf_empty f k (k / 8) (by omega), h]
  simp only [Nat.zero_add, Nat.pow_zero, Nat.div_one]
  rw [packF_congr _ (upTo f k) (k / 8) (fun n hn => upTo_low f k n (by omega))]

/-- A bit within a byte. -/
theorem pack_in (f : Nat → Bool) (k : Nat) (h : k % 8 ≠ 0) :
    packF (upTo f (k + 1)) ((k + 1 + 7) / 8) = packF (upTo f k) (k / 8) ++ [UInt8.ofNat (byteOf (upTo f k) (k / 8) + if f k then 128 / 2 ^ (k % 8) else 0)] ∧
    packF (upTo f k) ((k + 7) / 8) = packF (upTo f k) (k / 8) ++ [UInt8.ofNat (byteOf (upTo f k) (k / 8))] := by
  rw [show (k + 1 + 7) / 8 = k / 8 + 1 from by omega, show (k + 7) / 8 = k / 8 + 1 from by omega, packF_succ, packF_succ, byteOf_step]
  rw [packF_congr (upTo f (k + 1)) (upTo f k) (k / 8) (fun n hn => upTo_low f k n (by omega))]
  exact ⟨rfl, rfl⟩

theorem byteOf_low (f : Nat → Bool) (k : Nat) : byteOf (upTo f k) (k / 8) / (128 / 2 ^ (k % 8)) % 2 = 0 := by
  rw [byteOf_bit _ _ _ (by omega)]
  unfold upTo
  rw [show 8 * (k / 8) + k % 8 = k from by omega]
  simp

theorem or_bit (y m : Nat) (hy : y < 256) (hm : m < 8) (h : y / (128 / 2 ^ m) % 2 = 0) : bits BinOp.or IntKind.u8 (y : Int) (128 / 2 ^ m) = ((y + 128 / 2 ^ m : Nat) : Int) ∧ y + 128 / 2 ^ m < 256 := by
  have key : ∀ (n : Fin 8) (z : Fin 256), z.val / (128 / 2 ^ n.val) % 2 = 0 → bits BinOp.or IntKind.u8 (z.val : Int) (128 / 2 ^ n.val) = ((z.val + 128 / 2 ^ n.val : Nat) : Int) ∧ z.val + 128 / 2 ^ n.val < 256 := by decide +kernel
  exact key ⟨m, hm⟩ ⟨y, hy⟩ h

def bitAt (row : List Bool) (n : Nat) : Bool := row.getD n false

/-- A row of bits as bytes. -/
def packBits (row : List Bool) : List UInt8 := packF (bitAt row) ((row.length + 7) / 8)

theorem packBits_upTo (row : List Bool) : packF (upTo (bitAt row) row.length) ((row.length + 7) / 8) = packBits row := by
  apply packF_congr
  intro n _
  unfold upTo bitAt
  by_cases h : n < row.length
  · simp [h]
  · simp [h]

theorem sh_bounds (t : Nat) (h : t < 8) : 1 ≤ 128 / 2 ^ t ∧ 128 / 2 ^ t ≤ 128 := by
  have key : ∀ n : Fin 8, 1 ≤ 128 / 2 ^ n.val ∧ 128 / 2 ^ n.val ≤ 128 := by decide
  exact key ⟨t, h⟩
end Go.Proofs.YthbkcjlpelihlaaGreatDoor
/- A short number that was read, put again: the plain law. No condition. -/
namespace Go.Proofs.YthbkcjlpelihlaaGreatDoor
open Go.RowKit

theorem leBytes_leNat (l : List UInt8) (y : Nat) : leBytes l.length (leNat l + 256 ^ l.length * y) = l := by
  induction l with
  | nil => rfl
  | cons x l ih =>
    have hx := x.toNat_lt
    have e : leNat (x :: l) + 256 ^ (x :: l).length * y = x.toNat + 256 * (leNat l + 256 ^ l.length * y) := by
      simp only [leNat, List.length_cons, Nat.pow_succ, Nat.mul_add]
      rw [Nat.mul_comm (256 ^ l.length) 256, Nat.mul_assoc]
      omega
    rw [e, List.length_cons, leBytes]
    have e2 : (x.toNat + 256 * (leNat l + 256 ^ l.length * y)) / 256 = leNat l + 256 ^ l.length * y := by omega
    rw [e2, ih]
    congr 1
    apply UInt8.toNat_inj.1
    simp

theorem ones_split (x : Nat) (hx : x < 256) : x = 65280 / 2 ^ Cur.ones x % 256 + (if Cur.ones x < 7 then x % 2 ^ (7 - Cur.ones x) else 0) := by
  have h : ∀ y : Fin 256, y.val = 65280 / 2 ^ Cur.ones y.val % 256 + (if Cur.ones y.val < 7 then y.val % 2 ^ (7 - Cur.ones y.val) else 0) := by decide +kernel
  exact h ⟨x, hx⟩

theorem extra_le_of (v k : Nat) (hk : k ≤ 7) (hv : v < 2 ^ (7 * k + 7)) : extra v ≤ k := by
  have hk' : k = 0 ∨ k = 1 ∨ k = 2 ∨ k = 3 ∨ k = 4 ∨ k = 5 ∨ k = 6 ∨ k = 7 := by omega
  rcases hk' with rfl | rfl | rfl | rfl | rfl | rfl | rfl | rfl <;> simp only [Nat.reduceMul, Nat.reduceAdd, Nat.reducePow] at hv <;> unfold extra <;> repeat' split
  all_goals omega

/-- A short number's value, from its bytes. -/
def shortVal (x k : Nat) (l : List UInt8) : Nat := leNat l + 256 ^ k * (if k < 7 then x % 2 ^ (7 - k) else 0)

theorem shortVal_lt (x k : Nat) (l : List UInt8) (hl : l.length = k) (hk : k ≤ 8) : shortVal x k l < 18446744073709551616 ∧ (k ≤ 7 → shortVal x k l < 2 ^ (7 * k + 7)) := by
  have h := leNat_lt l
  rw [hl] at h
  unfold shortVal
  by_cases h7 : k < 7
  · have hm : x % 2 ^ (7 - k) < 2 ^ (7 - k) := Nat.mod_lt _ (Nat.pow_pos (by decide))
    have h2 : 256 ^ k * (x % 2 ^ (7 - k)) + 256 ^ k ≤ 256 ^ k * 2 ^ (7 - k) := by
      rw [← Nat.mul_succ]; exact Nat.mul_le_mul_left _ hm
    have h3 : 256 ^ k * 2 ^ (7 - k) = 2 ^ (7 * k + 7) := by rw [pow256, ← Nat.pow_add]; congr 1; omega
    have h4 : 2 ^ (7 * k + 7) ≤ 2 ^ 64 := Nat.pow_le_pow_right (by decide) (by omega)
    rw [if_pos h7]
    omega
  · rw [if_neg h7]
    have hk' : k = 7 ∨ k = 8 := by omega
    rcases hk' with rfl | rfl
    · simp only [Nat.reducePow, Nat.reduceMul, Nat.reduceAdd] at h ⊢; omega
    · simp only [Nat.reducePow] at h; omega

theorem short_best (x : UInt8) (k : Nat) (l : List UInt8) (hk : k = Cur.ones x.toNat) (hl : l.length = k) :
    (putNumber [] (shortVal x.toNat k l)).length < 1 + k ∨ (putNumber [] (shortVal x.toNat k l)).length = 1 + k ∧ putNumber [] (shortVal x.toNat k l) = x :: l := by
  have hk8 : k ≤ 8 := by rw [hk]; exact Cur.ones_le _
  obtain ⟨hv, hv7⟩ := shortVal_lt x.toNat k l hl hk8
  have he : extra (shortVal x.toNat k l) ≤ k := by
    by_cases h : k ≤ 7
    · exact extra_le_of _ _ h (hv7 h)
    · have := extra_le (shortVal x.toNat k l); omega
  rw [putNumber_length]
  simp only [List.length_nil, Nat.zero_add]
  by_cases hlt : extra (shortVal x.toNat k l) < k
  · exact .inl (by omega)
  · have hek : extra (shortVal x.toNat k l) = k := by omega
    refine .inr ⟨by omega, ?_⟩
    have h1 := leBytes_leNat l (if k < 7 then x.toNat % 2 ^ (7 - k) else 0)
    rw [hl] at h1
    unfold putNumber firstByte
    rw [hek]
    have hs := ones_split x.toNat x.toNat_lt
    rw [← hk] at hs
    have hdiv : shortVal x.toNat k l / 256 ^ k = (if k < 7 then x.toNat % 2 ^ (7 - k) else 0) := by
      have h := leNat_lt l
      rw [hl] at h
      unfold shortVal
      rw [Nat.add_mul_div_left _ _ (Nat.pow_pos (by decide)), Nat.div_eq_of_lt h, Nat.zero_add]
    have e : (65280 / 2 ^ k % 256 + if k < 7 then shortVal x.toNat k l / 256 ^ k else 0) = x.toNat := by
      rw [hdiv]
      by_cases h7 : k < 7
      · simp only [h7, if_true] at hs ⊢; omega
      · simp only [h7, if_false] at hs ⊢; omega
    rw [e]
    unfold shortVal
    rw [h1]
    simp

theorem number_short (bs : List UInt8) : (Cur.number ⟨bs, 0, 0⟩).2.code ≠ 0 ∧ (Cur.number ⟨bs, 0, 0⟩).1 = 0 ∧ (Cur.number ⟨bs, 0, 0⟩).2.at_ = 0 ∨
    (Cur.number ⟨bs, 0, 0⟩).2.code = 0 ∧ (Cur.number ⟨bs, 0, 0⟩).1 < 18446744073709551616 ∧ (Cur.number ⟨bs, 0, 0⟩).2.at_ ≤ bs.length ∧
      ((putNumber [] (Cur.number ⟨bs, 0, 0⟩).1).length < (Cur.number ⟨bs, 0, 0⟩).2.at_ ∨
        (putNumber [] (Cur.number ⟨bs, 0, 0⟩).1).length = (Cur.number ⟨bs, 0, 0⟩).2.at_ ∧ putNumber [] (Cur.number ⟨bs, 0, 0⟩).1 = bs.take (Cur.number ⟨bs, 0, 0⟩).2.at_) := by
  unfold Cur.number
  split
  · exact .inl ⟨by simp [Cur.fail], rfl, rfl⟩
  · rename_i h
    have h' : 1 + Cur.ones (Cur.head ⟨bs, 0, 0⟩) ≤ bs.length := by simpa [Cur.left] using h
    obtain ⟨x, l, rfl⟩ : ∃ x l, bs = x :: l := by cases bs with | nil => simp at h' | cons x l => exact ⟨x, l, rfl⟩
    have hh : Cur.head ⟨x :: l, 0, 0⟩ = x.toNat := by simp [Cur.head]
    rw [hh] at h' ⊢
    obtain ⟨k, hk⟩ : ∃ k, k = Cur.ones x.toNat := ⟨_, rfl⟩
    rw [← hk] at h' ⊢
    have hlen : (l.take k).length = k := by simp at h' ⊢; omega
    have hs := short_best x k (l.take k) hk hlen
    have hv := shortVal_lt x.toNat k (l.take k) hlen (hk ▸ Cur.ones_le _)
    refine .inr ⟨rfl, ?_, by simpa using h', ?_⟩
    · exact hv.1
    · have e : (x :: l).take (0 + 1 + k) = x :: l.take k := by rw [show 0 + 1 + k = k + 1 from by omega]; rfl
      simp only [Nat.zero_add] at e
      simp only [List.drop_succ_cons, List.drop_zero, Nat.zero_add, e]
      exact hs
end Go.Proofs.YthbkcjlpelihlaaGreatDoor
