/- Contract: the reference's Apart. No condition but that lengths fit. -/
import Derived.Test.YtagoemebklihjaaDoorNMeetC
import Derived.Test.YtagoemebklihjaaDoorNCleansW
namespace Go.Proofs.YtagoemebklihjaaDoor
open Go.RowKit

abbrev NoM (a b : Nm) : Prop := meetN b a = false
theorem pair_more {l : List Nm} {i : Nat} {x : Nm} (hx : l[i]? = some x) (h : (l.take i).Pairwise NoM) (hall : ∀ (j : Nat) m, j < i → l[j]? = some m → meetN x m = false) : (l.take (i + 1)).Pairwise NoM := by
  rw [List.take_add_one, hx, List.pairwise_append]
  refine ⟨h, by simp, ?_⟩
  intro a ha b hb
  simp at hb
  subst hb
  obtain ⟨j, hj⟩ := List.mem_iff_getElem?.1 ha
  rw [List.getElem?_take] at hj
  split at hj
  · exact hall j a (by assumption) hj
  · cases hj
theorem pair_not {l : List Nm} {i j : Nat} {x y : Nm} (hx : l[i]? = some x) (hy : l[j]? = some y) (hj : j < i) (h : meetN x y = true) : ¬ l.Pairwise NoM := by
  intro hp
  obtain ⟨hi1, hi2⟩ := List.getElem?_eq_some_iff.1 hx
  obtain ⟨hj1, hj2⟩ := List.getElem?_eq_some_iff.1 hy
  have := List.pairwise_iff_getElem.1 hp j i hj1 hi1 hj
  unfold NoM at this
  rw [hi2, hj2, h] at this
  cases this

set_option maxRecDepth 100000 in
set_option maxHeartbeats 4000000 in
theorem rapart_any (w : World) (v : Value) (l : List Nm) (hv : Nms w v l) (hl : l.length ≤ 100) (hp : ∀ n ∈ l, n.path.length ≤ 100000) :
    Calls Tryd.prog 13 #[v] w fun e w' => e = .returned (.int .i64 (apartN l)) ∧ Fr [] w w' := by
  have HP := Lib.hid hp
  obtain ⟨ao, cap, rfl, hcap, hc⟩ := hv
  have HC := Lib.hid hc
  clear hp hc
  obtain ⟨n, hn⟩ : ∃ n, l.length = n := ⟨_, rfl⟩
  have HN := Lib.hid hn
  rw [hn] at hcap hl ⊢
  clear hn
  have hnM : (n : Int) ≤ 100 := by omega
  go_enter Tryd.func13, Tryd.ntmps13
  go_wp2_with fail
  go_loopw [3] (fun i wr => ∃ k : Nat, k ≤ n ∧ i = .int .i64 k ∧ (l.take k).any (fun n => !cleanL foldL n.path) = false ∧ Fr [] w wr) (fun i _ => n - (intOf i).toNat)
  case atStart => exact ⟨0, Nat.zero_le _, rfl, by simp, Fr.refl _ _⟩
  case round =>
    obtain ⟨k, hk, rfl, hall, F⟩ := hrel
    by_cases hlt : k < n
    · obtain ⟨m, hm⟩ := some_get l k (by rw [HN.out]; exact hlt)
      obtain ⟨b, o, rfl, hb, c0, c1⟩ := HC.out k m hm
      have d0 := (F.cell (p := ⟨b, o + k * 2, none⟩) hb (by simp)).trans c0
      have hltI : (k : Int) < (n : Int) := by omega
      have HM := Lib.hid hm
      have HT := Lib.hid (show (l.take (k + 1)).any (fun n => !cleanL foldL n.path) = !cleanL foldL m.path by rw [List.take_add_one, hm, List.any_append, hall]; simp)
      have HMP := Lib.hid (HP.out m (List.mem_of_getElem? hm))
      clear hm hall c0 c1
      cases hcl : cleanL foldL m.path with
      | true =>
        have HCL := Lib.hid hcl
        clear hcl
        go_wp2_with (go_at_call 11; refine (rclean_ys _ m.path HMP.out HCL.out).mono ?_; rintro e w2 ⟨⟨v2, rfl, hS2⟩, F2⟩)
        go_roundw
        case rel => exact ⟨k + 1, by omega, by go_num, by rw [HT.out, HCL.out]; rfl, F.trans0 F2⟩
        case measure => simp [intOf]; omega
      | false =>
        have HCL := Lib.hid hcl
        have HA := Lib.hid (show apartN l = 15 by
          unfold apartN
          rw [show l.any (fun n => !cleanL foldL n.path) = true from List.any_eq_true.2 ⟨m, List.mem_of_getElem? HM.out, by rw [hcl]; rfl⟩]
          rfl)
        clear hcl
        go_wp2_with (go_at_call 11; refine (rclean_no _ m.path HMP.out HCL.out).mono ?_; rintro e w2 ⟨rfl, F2⟩)
        go_ret
        exact ⟨by rw [HA.out]; rfl, F.trans0 F2⟩
    · have hke : k = n := by omega
      subst hke
      rw [List.take_of_length_le (by rw [HN.out]; exact Nat.le_refl _)] at hall
      have HA := Lib.hid (show apartN l = if l.Pairwise NoM then 0 else 16 by unfold apartN; rw [hall]; rfl)
      clear hall
      go_wp2_with fail
      go_loopw [6] (fun i wq => ∃ j : Nat, j ≤ k ∧ i = .int .i64 j ∧ (l.take j).Pairwise NoM ∧ Fr [] w wq) (fun i _ => k - (intOf i).toNat)
      case atStart => exact ⟨0, Nat.zero_le _, rfl, by simp, F⟩
      case round =>
        obtain ⟨j, hj, rfl, hpw, FQ⟩ := hrel
        by_cases hjk : j < k
        · obtain ⟨m, hm⟩ := some_get l j (by rw [HN.out]; exact hjk)
          obtain ⟨b, o, rfl, hb, c0, c1⟩ := HC.out j m hm
          have hjI : (j : Int) < (k : Int) := by omega
          have HPW := Lib.hid hpw
          have HM := Lib.hid hm
          have HCC := Lib.hid (And.intro c0 c1)
          have HMP := Lib.hid (HP.out m (List.mem_of_getElem? hm))
          clear hpw hm c0 c1
          go_wp2_with fail
          go_loopw [7] (fun i wx => ∃ q : Nat, q ≤ j ∧ i = .int .i64 q ∧ (∀ (p : Nat) x, p < q → l[p]? = some x → meetN m x = false) ∧ Fr [] w wx) (fun i _ => j - (intOf i).toNat)
          case atStart => exact ⟨0, Nat.zero_le _, rfl, fun p x h => by omega, FQ⟩
          case round =>
            obtain ⟨q, hq, rfl, hno, FX⟩ := hrel
            by_cases hqj : q < j
            · obtain ⟨x, hx⟩ := some_get l q (by rw [HN.out]; omega)
              obtain ⟨b2, o2, e2, hb2, c0, c1⟩ := HC.out q x hx
              obtain ⟨rfl, rfl, -⟩ : b = b2 ∧ o = o2 ∧ True := by
                injection e2 with e3
                injection e3 with e4 e5
                exact ⟨e4, e5, trivial⟩
              have hqI : (q : Int) < (j : Int) := by omega
              have hqI2 : (q : Int) < (k : Int) := by omega
              have HX4 := Lib.hid (fun wz (FZ : Fr [] w wz) => show wz.cell? ⟨b, o + j * 2, none⟩ = some (.string ⟨m.path.toArray⟩) ∧ wz.cell? ⟨b, o + j * 2 + 1, none⟩ = some (.bool m.dir) ∧ wz.cell? ⟨b, o + q * 2, none⟩ = some (.string ⟨x.path.toArray⟩) ∧ wz.cell? ⟨b, o + q * 2 + 1, none⟩ = some (.bool x.dir) from
                ⟨(FZ.cell (p := ⟨b, o + j * 2, none⟩) hb (by simp)).trans HCC.out.1, (FZ.cell (p := ⟨b, o + j * 2 + 1, none⟩) hb (by simp)).trans HCC.out.2, (FZ.cell (p := ⟨b, o + q * 2, none⟩) hb (by simp)).trans c0, (FZ.cell (p := ⟨b, o + q * 2 + 1, none⟩) hb (by simp)).trans c1⟩)
              obtain ⟨d0, d1, d2, d3⟩ := HX4.out _ FX
              have HXP := Lib.hid (HP.out x (List.mem_of_getElem? hx))
              have HXX := Lib.hid hx
              have HNo := Lib.hid hno
              clear c0 c1 e2 hx hno
              cases hmt : meetN m x with
              | true =>
                have HMT := Lib.hid hmt
                have HR := Lib.hid (show apartN l = 16 by rw [HA.out, if_neg (pair_not HM.out HXX.out hqj hmt)])
                clear hmt
                go_wp2_with fail
                go_region_held3 (fun w' => w'.cell? ⟨b, o + j * 2, none⟩ = some (.string ⟨m.path.toArray⟩) ∧ w'.cell? ⟨b, o + j * 2 + 1, none⟩ = some (.bool m.dir) ∧ w'.cell? ⟨b, o + q * 2, none⟩ = some (.string ⟨x.path.toArray⟩) ∧ w'.cell? ⟨b, o + q * 2 + 1, none⟩ = some (.bool x.dir))
                  (first | exact ⟨d0, d1, d2, d3⟩ | exact HX4.out _ FX.drew | exact HX4.out _ G1 | go_keep)
                  (first | (go_at_call 26; refine (rmeet_any _ m x HMP.out HXP.out).mono ?_; rw [HMT.out]; rintro e w2 ⟨rfl, F2⟩; have G1 := FX.drew.trans0 F2))
                go_wp2_with fail
                go_ret
                exact ⟨by rw [HR.out]; rfl, G1⟩
              | false =>
                have HMT := Lib.hid hmt
                clear hmt
                go_wp2_with fail
                go_region_held3 (fun w' => w'.cell? ⟨b, o + j * 2, none⟩ = some (.string ⟨m.path.toArray⟩) ∧ w'.cell? ⟨b, o + j * 2 + 1, none⟩ = some (.bool m.dir) ∧ w'.cell? ⟨b, o + q * 2, none⟩ = some (.string ⟨x.path.toArray⟩) ∧ w'.cell? ⟨b, o + q * 2 + 1, none⟩ = some (.bool x.dir))
                  (first | exact ⟨d0, d1, d2, d3⟩ | exact HX4.out _ FX.drew | exact HX4.out _ G1 | go_keep)
                  (first | (go_at_call 26; refine (rmeet_any _ m x HMP.out HXP.out).mono ?_; rw [HMT.out]; rintro e w2 ⟨rfl, F2⟩; have G1 := FX.drew.trans0 F2))
                go_wp2_with fail
                go_roundw
                case rel => exact ⟨q + 1, by omega, by go_num, fun p y hp hy => by
                  by_cases e : p = q
                  · subst e
                    rw [HXX.out] at hy
                    injection hy with hy
                    exact hy ▸ HMT.out
                  · exact HNo.out p y (by omega) hy, G1⟩
                case measure => simp [intOf]; omega
            · have hqe : q = j := by omega
              subst hqe
              have HPM := Lib.hid (pair_more HM.out HPW.out hno)
              clear hno
              go_wp2_with fail
              go_roundw
              case rel => exact ⟨q + 1, by omega, by go_num, HPM.out, FX⟩
              case measure => simp [intOf]; omega
        · have hje : j = k := by omega
          subst hje
          rw [List.take_of_length_le (by rw [HN.out]; exact Nat.le_refl _)] at hpw
          have HR := Lib.hid (show apartN l = 0 by rw [HA.out, if_pos hpw])
          clear hpw
          go_wp2_with fail
          go_ret
          exact ⟨by rw [HR.out]; rfl, FQ⟩
end Go.Proofs.YtagoemebklihjaaDoor
