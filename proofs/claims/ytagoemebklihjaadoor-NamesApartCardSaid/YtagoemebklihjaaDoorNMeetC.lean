/- Contracts: the reference's join, Meet and Apart. No condition but that lengths fit. -/
import Derived.Test.YtagoemebklihjaaDoorNMeetP
import Derived.Test.YtagoemebklihjaaDoorNRefC
import Derived.Test.YtagoemebklihjaaDoorNApart
namespace Go.Proofs.YtagoemebklihjaaDoor
open Go.RowKit

theorem join_take_le : ∀ (ps : List (List UInt8)) (k : Nat), (joinL (ps.take k)).length ≤ (joinL ps).length
  | [], k => by simp
  | [p], 0 => by simp [joinL_nil]
  | [p], k + 1 => by simp
  | p :: q :: t, 0 => by simp [joinL_nil]
  | p :: q :: t, 1 => by rw [joinL_cons _ _ (by simp)]; simp [joinL_one]
  | p :: q :: t, k + 2 => by
    have h := join_take_le (q :: t) (k + 1)
    rw [List.take_succ_cons, joinL_cons p _ (by simp), joinL_cons p (q :: t) (by simp), List.length_append, List.length_append, List.length_cons, List.length_cons]
    omega

set_option maxRecDepth 100000 in
set_option maxHeartbeats 1000000 in
theorem rjoin_any (w : World) (v : Value) (ps : List (List UInt8)) (n : Nat) (hv : Sl w v (stv ps)) (hn : n ≤ ps.length) (hp : ps.length ≤ 1000000) (hj : (joinL ps).length ≤ 100000) :
    Calls Tryd.prog 37 #[v, .int .i64 (n : Int)] w fun e w' => e = .returned (.string ⟨(joinL (ps.take n)).toArray⟩) ∧ Fr [] w w' := by
  obtain ⟨ao, cap, rfl, -, -, o2⟩ := hv.out
  simp only [stv_len] at *
  clear hv
  have HO := Lib.hid o2
  have HN := Lib.hid hn
  have HPL := Lib.hid hp
  have HJ := Lib.hid hj
  have hn2 : (n : Int) ≤ 1000000 := by omega
  clear o2 hj hp hn
  go_enter Tryd.func37, Tryd.ntmps37
  go_wp2_with fail
  go_loopw [5, 6] (fun jn i wr => ∃ k : Nat, k ≤ n ∧ i = .int .i64 k ∧ jn = .string ⟨(joinL (ps.take k)).toArray⟩ ∧ Fr [] w wr) (fun _ i _ => n - (intOf i).toNat)
  case atStart => exact ⟨0, Nat.zero_le _, rfl, by simp [joinL_nil], Fr.refl _ _⟩
  case round =>
    obtain ⟨k, hk, rfl, rfl, F⟩ := hrel
    by_cases hlt : k < n
    · have hltp : k < ps.length := by have := HN.out; omega
      obtain ⟨b, of, rfl, hb, hcl⟩ := HO.out k hltp
      obtain ⟨p, hp⟩ := some_get ps k hltp
      have c0 : wr.cell? ⟨b, of + k, none⟩ = some (.string ⟨p.toArray⟩) := (F.cell (p := ⟨b, of + k, none⟩) hb (by simp)).trans ((hcl k hltp).trans (stv_get hp))
      have hlt' : (k : Int) < (n : Int) := by omega
      have hltI : (k : Int) < (ps.length : Int) := by omega
      have hTk := joinL_take ps k p hp
      have hJ1 := join_take_le ps (k + 1)
      have hJ := HJ.out
      have HJ0 := Lib.hid (show k = 0 → joinL (ps.take k) = [] by rintro rfl; simp [joinL_nil])
      clear hcl hp
      generalize joinL (ps.take k) = J at *
      by_cases hk0 : k = 0
      · subst hk0
        obtain rfl := HJ0.out rfl
        rw [if_pos rfl] at hTk
        have HJ2 := Lib.hid hTk
        have s1 : ¬ 9223372036854775807 < ([] : List UInt8).length + p.length := by rw [hTk] at hJ1; simp; omega
        clear hTk hJ1 hJ
        rw [Nat.add_zero] at c0
        go_wp2_with fail
        go_roundw
        case rel => exact ⟨1, by omega, rfl, by rw [HJ2.out, cat_ba]; rfl, F⟩
        case measure => simp [intOf]; omega
      · rw [if_neg hk0] at hTk
        have HJ2 := Lib.hid (show joinL (ps.take (k + 1)) = J ++ [47] ++ p by rw [hTk]; simp)
        have hl2 : (joinL (ps.take (k + 1))).length = J.length + (p.length + 1) := by rw [hTk]; simp
        have s1 : ¬ 9223372036854775807 < J.length + 1 := by omega
        have s2 : ¬ 9223372036854775807 < J.length + 1 + p.length := by omega
        have k1 : (0 : Int) < (k : Int) := by omega
        clear hTk hJ1 hJ hl2 hk0
        go_wp2_with fail
        go_roundw
        case rel => exact ⟨k + 1, by omega, by go_num, by rw [HJ2.out, ← cat_ba, ← cat_ba], F⟩
        case measure => simp [intOf]; omega
    · have hke : k = n := by omega
      subst hke
      go_wp2_with fail
      go_ret
      exact ⟨rfl, F⟩

def nmv (n : Nm) : Value := .agg #[.string ⟨n.path.toArray⟩, .bool n.dir]

/-- Two blocks of two cells that have been laid. -/
theorem box22 {w wr : World} {t : TypeId} {a b c d : Value} (F : Fr [] ((w.alloc (.cells #[a, b] t)).alloc (.cells #[c, d] t)) wr) :
    wr.cell? ⟨w.heap.size, 0, none⟩ = some a ∧ wr.cell? ⟨w.heap.size, 1, none⟩ = some b ∧ wr.cell? ⟨w.heap.size + 1, 0, none⟩ = some c ∧ wr.cell? ⟨w.heap.size + 1, 1, none⟩ = some d := by
  have hs : (w.alloc (.cells #[a, b] t)).heap.size = w.heap.size + 1 := by simp
  have key : ∀ (i : Nat), wr.cell? ⟨w.heap.size + 1, i, none⟩ = #[c, d][i]? := fun i => by
    rw [F.cell (p := ⟨w.heap.size + 1, i, none⟩) (by simp) (by simp), ← hs, Go.Joins.cell_of_block (heap_alloc_new _ _)]
  have key0 : ∀ (i : Nat), wr.cell? ⟨w.heap.size, i, none⟩ = #[a, b][i]? := fun i => by
    rw [(((Fr.refl [] _).alloc _).trans0 F).cell (p := ⟨w.heap.size, i, none⟩) (by simp) (by simp), Go.Joins.cell_of_block (heap_alloc_new w _)]
  exact ⟨by rw [key0]; rfl, by rw [key0]; rfl, by rw [key]; rfl, by rw [key]; rfl⟩

set_option maxRecDepth 100000 in
set_option maxHeartbeats 2000000 in
theorem rmeet_any (w : World) (a b : Nm) (ha : a.path.length ≤ 100000) (hb : b.path.length ≤ 100000) :
    Calls Tryd.prog 26 #[nmv a, nmv b] w fun e w' => e = .returned (.bool (meetN a b)) ∧ Fr [] w w' := by
  obtain ⟨ap, ad⟩ := a
  obtain ⟨bp, bd⟩ := b
  dsimp only at ha hb
  unfold nmv
  dsimp only
  have HA := Lib.hid ha
  have HB := Lib.hid hb
  have hME : meetN ⟨ap, ad⟩ ⟨bp, bd⟩ = ((foldL ap == foldL bp) || goM (splitL ap) (splitL bp) (((splitL ap).length == min (splitL ap).length (splitL bp).length) && !ad || ((splitL bp).length == min (splitL ap).length (splitL bp).length) && !bd) (min (splitL ap).length (splitL bp).length) 1) := rfl
  have hXL := splitL_len ap
  have hYL := splitL_len bp
  have HJX := Lib.hid (show (joinL (splitL ap)).length ≤ 100000 by rw [joinL_split]; exact ha)
  have HJY := Lib.hid (show (joinL (splitL bp)).length ≤ 100000 by rw [joinL_split]; exact hb)
  have HX := Lib.hid (show (splitL ap).length ≤ 1000000 by omega)
  have HY := Lib.hid (show (splitL bp).length ≤ 1000000 by omega)
  obtain ⟨fin, hfin⟩ : ∃ fin, fin = (((splitL ap).length == min (splitL ap).length (splitL bp).length) && !ad || ((splitL bp).length == min (splitL ap).length (splitL bp).length) && !bd) := ⟨_, rfl⟩
  rw [← hfin] at hME
  have HFin := Lib.hid hfin
  have HME := Lib.hid hME
  obtain ⟨wB, hwB⟩ : ∃ wB, wB = (w.alloc (.cells #[.string ⟨ap.toArray⟩, .bool ad] 31)).alloc (.cells #[.string ⟨bp.toArray⟩, .bool bd] 31) := ⟨_, rfl⟩
  have F0 : Fr [] w wB := hwB ▸ ((Fr.refl _ _).alloc _).alloc _
  have HBX := Lib.hid (fun wx (F : Fr [] wB wx) => box22 (hwB ▸ F : Fr [] ((w.alloc (.cells #[.string ⟨ap.toArray⟩, .bool ad] 31)).alloc (.cells #[.string ⟨bp.toArray⟩, .bool bd] 31)) wx))
  clear ha hb hME hfin hXL hYL
  go_enter Tryd.func26, Tryd.ntmps26
  go_wp2_with fail
  rw [← hwB]
  clear hwB
  refine (rsplit_ok wB ap HA.out).mono ?_
  rintro e w1 ⟨⟨ao1, cap1, rfl, hS1⟩, F1⟩
  obtain ⟨d0, d1, d2, d3⟩ := HBX.out _ F1
  go_wp2_with (go_at_call 24; refine (rsplit_ok _ bp HB.out).mono ?_; rintro e w2 ⟨⟨ao2, cap2, rfl, hS2⟩, F2⟩)
  have F02 := F1.trans0 F2
  have HS1 := Lib.hid (hS1.fr0 F2)
  have HS2 := Lib.hid hS2
  clear d0 d1 d2 d3 hS1 hS2
  obtain ⟨d0, d1, d2, d3⟩ := HBX.out _ F02
  by_cases hf : foldL ap = foldL bp
  · have t0 : (foldL ap == foldL bp) = true := by rw [hf]; simp
    clear hf
    go_region_held3 (fun w' => w'.cell? ⟨w.heap.size, 0, none⟩ = some (.string ⟨ap.toArray⟩) ∧ w'.cell? ⟨w.heap.size, 1, none⟩ = some (.bool ad) ∧ w'.cell? ⟨w.heap.size + 1, 0, none⟩ = some (.string ⟨bp.toArray⟩) ∧ w'.cell? ⟨w.heap.size + 1, 1, none⟩ = some (.bool bd))
      (first | exact ⟨d0, d1, d2, d3⟩ | exact HBX.out _ F02.drew | exact HBX.out _ G1 | exact HBX.out _ G2 | go_keep)
      (first
        | (have hq := G1; go_at_call 36; refine (rfold_any _ bp HB.out).mono ?_; rintro e wy ⟨rfl, Fy⟩; have G2 := G1.trans0 Fy)
        | (go_at_call 36; refine (rfold_any _ ap HA.out).mono ?_; rintro e wx ⟨rfl, Fx⟩; have G1 := F02.drew.trans0 Fx))
    go_wp2_with fail
    go_ret
    exact ⟨by rw [HME.out, t0]; rfl, F0.trans0 G2⟩
  have t0 : (foldL ap == foldL bp) = false := by rw [beq_eq_false_iff_ne]; exact hf
  clear hf
  go_region_held3 (fun w' => w'.cell? ⟨w.heap.size, 0, none⟩ = some (.string ⟨ap.toArray⟩) ∧ w'.cell? ⟨w.heap.size, 1, none⟩ = some (.bool ad) ∧ w'.cell? ⟨w.heap.size + 1, 0, none⟩ = some (.string ⟨bp.toArray⟩) ∧ w'.cell? ⟨w.heap.size + 1, 1, none⟩ = some (.bool bd))
    (first | exact ⟨d0, d1, d2, d3⟩ | exact HBX.out _ F02.drew | exact HBX.out _ G1 | exact HBX.out _ G2 | go_keep)
    (first
      | (have hq := G1; go_at_call 36; refine (rfold_any _ bp HB.out).mono ?_; rintro e wy ⟨rfl, Fy⟩; have G2 := G1.trans0 Fy; have H2 := H1.trans0 Fy)
      | (go_at_call 36; refine (rfold_any _ ap HA.out).mono ?_; rintro e wx ⟨rfl, Fx⟩; have G1 := F02.drew.trans0 Fx; have H1 := (Fr.refl [] w2).drew.trans0 Fx))
  have HM2 := Lib.hid (show meetN ⟨ap, ad⟩ ⟨bp, bd⟩ = goM (splitL ap) (splitL bp) fin (min (splitL ap).length (splitL bp).length) 1 by rw [HME.out, t0, Bool.false_or])
  obtain ⟨X, hX⟩ : ∃ X, splitL ap = X := ⟨_, rfl⟩
  obtain ⟨Y, hY⟩ : ∃ Y, splitL bp = Y := ⟨_, rfl⟩
  rw [hX] at HX HJX HS1 HM2 HFin ⊢
  rw [hY] at HY HJY HS2 HM2 HFin ⊢
  clear hX hY
  obtain ⟨n, hn⟩ : ∃ n, min X.length Y.length = n := ⟨_, rfl⟩
  have hnI : min (X.length : Int) (Y.length : Int) = (n : Int) := by omega
  rw [hn] at HM2 HFin
  have hnX : n ≤ X.length := by omega
  have hnY : n ≤ Y.length := by omega
  have hnM : (n : Int) ≤ 1000000 := by have := HX.out; omega
  have HNX := Lib.hid hnX
  have HNY := Lib.hid hnY
  go_wp2_with fail
  clear hnI hn hnX hnY d0 d1 d2 d3 t0
  go_loopw [8] (fun i wr => ∃ k : Nat, 1 ≤ k ∧ k ≤ n + 1 ∧ i = .int .i64 k ∧ goM X Y fin n 1 = goM X Y fin (n + 1 - k) k ∧ Fr [] w2 wr) (fun i _ => n + 1 - (intOf i).toNat)
  case atStart => exact ⟨1, by omega, by omega, rfl, by simp, H2⟩
  case round =>
    obtain ⟨k, hk1, hk, rfl, hgo, F⟩ := hrel
    by_cases hlt : k ≤ n
    · have hltI : (k : Int) ≤ (n : Int) := by omega
      have hkX : k ≤ X.length := by have := HNX.out; omega
      have hkY : k ≤ Y.length := by have := HNY.out; omega
      have HPL := Lib.hid (show (joinL (X.take k)).length ≤ 100000 from Nat.le_trans (join_take_le X k) HJX.out)
      have HQL := Lib.hid (show (joinL (Y.take k)).length ≤ 100000 from Nat.le_trans (join_take_le Y k) HJY.out)
      have HKX := Lib.hid hkX
      have HKY := Lib.hid hkY
      have e1 : n + 1 - k = (n + 1 - (k + 1)) + 1 := by omega
      have HGo := Lib.hid (show goM X Y fin n 1 = if (foldL (joinL (X.take k)) != foldL (joinL (Y.take k))) = true then false else if (joinL (X.take k) != joinL (Y.take k)) = true then true else goM X Y fin (n + 1 - (k + 1)) (k + 1) by rw [hgo, e1]; rfl)
      have HFx := Lib.hid F
      clear hgo e1 hkX hkY
      by_cases h1 : foldL (joinL (X.take k)) = foldL (joinL (Y.take k))
      · have t1 : (foldL (joinL (X.take k)) == foldL (joinL (Y.take k))) = true := by rw [h1]; simp
        by_cases h2 : joinL (X.take k) = joinL (Y.take k)
        · have t2 : (joinL (X.take k) == joinL (Y.take k)) = true := by rw [h2]; simp
          have HG2 := Lib.hid (show goM X Y fin n 1 = goM X Y fin (n + 1 - (k + 1)) (k + 1) by rw [HGo.out, if_neg (by simp [h1]), if_neg (by simp [h2])])
          clear h1 h2 HGo
          go_wp2_with fail
          generalize hPg : joinL (X.take k) = P at *
          generalize hQg : joinL (Y.take k) = Q at *
          refine (rjoin_any _ _ X k (HS1.out.fr0 HFx.out) HKX.out HX.out HJX.out).mono ?_
          rw [hPg]
          rintro e w4 ⟨rfl, F4⟩
          go_wp2_with (first
            | (have hq := F6; go_at_call 36; refine (rfold_any _ Q HQL.out).mono ?_; rintro e w7 ⟨rfl, F7⟩; have F54 := F6.trans0 F7)
            | (have hq := F5; go_at_call 36; refine (rfold_any _ P HPL.out).mono ?_; rintro e w6 ⟨rfl, F6⟩; have F6 := F5.trans0 F6)
            | (go_at_call 37; refine (rjoin_any _ _ Y k (HS2.out.fr0 (HFx.out.trans0 F4)) HKY.out HY.out HJY.out).mono ?_; rw [hQg]; rintro e w5 ⟨rfl, F5⟩; have F5 := F4.trans0 F5))
          go_roundw
          case rel => exact ⟨k + 1, by omega, by omega, by go_num, HG2.out, F.trans0 F54⟩
          case measure => simp [intOf]; omega
        · have t2 : (joinL (X.take k) == joinL (Y.take k)) = false := by rw [beq_eq_false_iff_ne]; exact h2
          have HG2 := Lib.hid (show goM X Y fin n 1 = true by rw [HGo.out, if_neg (by simp [h1]), if_pos (by simpa using h2)])
          clear h1 h2 HGo
          go_wp2_with fail
          generalize hPg : joinL (X.take k) = P at *
          generalize hQg : joinL (Y.take k) = Q at *
          refine (rjoin_any _ _ X k (HS1.out.fr0 HFx.out) HKX.out HX.out HJX.out).mono ?_
          rw [hPg]
          rintro e w4 ⟨rfl, F4⟩
          go_wp2_with (first
            | (have hq := F6; go_at_call 36; refine (rfold_any _ Q HQL.out).mono ?_; rintro e w7 ⟨rfl, F7⟩; have F54 := F6.trans0 F7)
            | (have hq := F5; go_at_call 36; refine (rfold_any _ P HPL.out).mono ?_; rintro e w6 ⟨rfl, F6⟩; have F6 := F5.trans0 F6)
            | (go_at_call 37; refine (rjoin_any _ _ Y k (HS2.out.fr0 (HFx.out.trans0 F4)) HKY.out HY.out HJY.out).mono ?_; rw [hQg]; rintro e w5 ⟨rfl, F5⟩; have F5 := F4.trans0 F5))
          go_ret
          exact ⟨by rw [HM2.out, HG2.out]; rfl, F0.trans0 (F02.trans0 (F.trans0 F54))⟩
      · have t1 : (foldL (joinL (X.take k)) == foldL (joinL (Y.take k))) = false := by rw [beq_eq_false_iff_ne]; exact h1
        have HG2 := Lib.hid (show goM X Y fin n 1 = false by rw [HGo.out, if_pos (by simpa using h1)])
        clear h1 HGo
        go_wp2_with fail
        generalize hPg : joinL (X.take k) = P at *
        generalize hQg : joinL (Y.take k) = Q at *
        refine (rjoin_any _ _ X k (HS1.out.fr0 HFx.out) HKX.out HX.out HJX.out).mono ?_
        rw [hPg]
        rintro e w4 ⟨rfl, F4⟩
        go_wp2_with (first
          | (have hq := F6; go_at_call 36; refine (rfold_any _ Q HQL.out).mono ?_; rintro e w7 ⟨rfl, F7⟩; have F54 := F6.trans0 F7)
          | (have hq := F5; go_at_call 36; refine (rfold_any _ P HPL.out).mono ?_; rintro e w6 ⟨rfl, F6⟩; have F6 := F5.trans0 F6)
          | (go_at_call 37; refine (rjoin_any _ _ Y k (HS2.out.fr0 (HFx.out.trans0 F4)) HKY.out HY.out HJY.out).mono ?_; rw [hQg]; rintro e w5 ⟨rfl, F5⟩; have F5 := F4.trans0 F5))
        go_ret
        exact ⟨by rw [HM2.out, HG2.out]; rfl, F0.trans0 (F02.trans0 (F.trans0 F54))⟩
    · have hltI : (n : Int) < (k : Int) := by omega
      have hke : k = n + 1 := by omega
      subst hke
      obtain ⟨d0, d1, d2, d3⟩ := HBX.out _ (F02.trans0 F)
      have HR := Lib.hid (show goM X Y fin n 1 = fin by rw [hgo]; simp [goM])
      clear hgo
      by_cases hx : X.length = n
      · have t1 : ((X.length : Int) == (n : Int)) = true := by rw [beq_iff_eq]; omega
        have HX1 := Lib.hid (show (X.length == n) = true by rw [beq_iff_eq]; exact hx)
        clear hx
        cases ad
        · go_wp2_with fail
          go_ret
          exact ⟨by rw [HM2.out, HR.out, HFin.out, HX1.out]; rfl, F0.trans0 (F02.trans0 F)⟩
        by_cases hy : Y.length = n
        · have t2 : ((Y.length : Int) == (n : Int)) = true := by rw [beq_iff_eq]; omega
          have HY1 := Lib.hid (show (Y.length == n) = true by rw [beq_iff_eq]; exact hy)
          clear hy
          cases bd
          · go_wp2_with fail
            go_ret
            exact ⟨by rw [HM2.out, HR.out, HFin.out, HX1.out, HY1.out]; rfl, F0.trans0 (F02.trans0 F)⟩
          · go_wp2_with fail
            go_ret
            exact ⟨by rw [HM2.out, HR.out, HFin.out, HX1.out, HY1.out]; rfl, F0.trans0 (F02.trans0 F)⟩
        · have t2 : ((Y.length : Int) == (n : Int)) = false := by rw [beq_eq_false_iff_ne]; omega
          have HY1 := Lib.hid (show (Y.length == n) = false by rw [beq_eq_false_iff_ne]; exact hy)
          clear hy
          go_wp2_with fail
          go_ret
          exact ⟨by rw [HM2.out, HR.out, HFin.out, HX1.out, HY1.out]; rfl, F0.trans0 (F02.trans0 F)⟩
      · have t1 : ((X.length : Int) == (n : Int)) = false := by rw [beq_eq_false_iff_ne]; omega
        have HX1 := Lib.hid (show (X.length == n) = false by rw [beq_eq_false_iff_ne]; exact hx)
        clear hx
        by_cases hy : Y.length = n
        · have t2 : ((Y.length : Int) == (n : Int)) = true := by rw [beq_iff_eq]; omega
          have HY1 := Lib.hid (show (Y.length == n) = true by rw [beq_iff_eq]; exact hy)
          clear hy
          cases bd
          · go_wp2_with fail
            go_ret
            exact ⟨by rw [HM2.out, HR.out, HFin.out, HX1.out, HY1.out]; rfl, F0.trans0 (F02.trans0 F)⟩
          · go_wp2_with fail
            go_ret
            exact ⟨by rw [HM2.out, HR.out, HFin.out, HX1.out, HY1.out]; rfl, F0.trans0 (F02.trans0 F)⟩
        · have t2 : ((Y.length : Int) == (n : Int)) = false := by rw [beq_eq_false_iff_ne]; omega
          have HY1 := Lib.hid (show (Y.length == n) = false by rw [beq_eq_false_iff_ne]; exact hy)
          clear hy
          go_wp2_with fail
          go_ret
          exact ⟨by rw [HM2.out, HR.out, HFin.out, HX1.out, HY1.out]; rfl, F0.trans0 (F02.trans0 F)⟩

end Go.Proofs.YtagoemebklihjaaDoor
