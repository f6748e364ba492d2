/- Contract: the reference's part. No condition but that lengths fit. -/
import Derived.Test.YthbkcjlpelihlaaGreatDoorGAJ
namespace Go.Proofs.YthbkcjlpelihlaaGreatDoor
open Go.RowKit

theorem cat_com (c : UInt8) : (⟨#[99, 111, 109]⟩ : ByteArray) ++ ba [c] = ⟨(com ++ [c]).toArray⟩ := by
  apply ByteArray.ext
  simp [ByteArray.data_append, ba, com]
theorem cat_lpt (c : UInt8) : (⟨#[108, 112, 116]⟩ : ByteArray) ++ ba [c] = ⟨(lpt ++ [c]).toArray⟩ := by
  apply ByteArray.ext
  simp [ByteArray.data_append, ba, lpt]

theorem wordsN_succ (d : Nat) : wordsN (d + 1) = wordsN d ++ [com ++ [UInt8.ofNat (49 + d)], lpt ++ [UInt8.ofNat (49 + d)]] := by
  unfold wordsN
  rw [List.range_succ, List.flatMap_append, ← List.append_assoc]
  simp

theorem headL_none (l : List UInt8) (h : ∀ x ∈ l, x ≠ 46) : headL l = l := by
  unfold headL
  induction l with
  | nil => rfl
  | cons b t ih => rw [List.takeWhile_cons, if_pos (by simpa using h b (by simp)), ih (fun x hx => h x (by simp [hx]))]
theorem headL_some (l : List UInt8) (i : Nat) (h : l[i]? = some 46) (hn : ∀ j, j < i → l[j]? ≠ some 46) : headL l = l.take i := by
  unfold headL
  induction l generalizing i with
  | nil => simp at h
  | cons b t ih =>
    cases i with
    | zero =>
      simp at h
      subst h
      simp
    | succ i =>
      have hb : b ≠ 46 := by have := hn 0 (by omega); simpa using this
      rw [List.takeWhile_cons, if_pos (by simpa using hb), ih i (by simpa using h) (fun j hj => by have := hn (j + 1) (by omega); simpa using this)]
      rfl

theorem own_lit (w : World) (e : TypeId) (l : List Value) (n : Nat) (hn : n = l.length) (hm : n ≤ 1000) : (w.alloc (.cells l.toArray e)).ownsRow w.heap.size e 1 (.slice (some ⟨w.heap.size, 0, none⟩) n n) n l := by
  subst hn
  exact ⟨by simp, .inr ⟨w.heap.size, l.length, l.toArray, rfl, Nat.le_refl _, heap_alloc_new w _, Nat.le_refl _, by unfold maxLen; omega, by simp, by simp⟩⟩

set_option maxRecDepth 100000 in
set_option maxHeartbeats 4000000 in
theorem rpart_any (w : World) (l : List UInt8) (hl : l.length ≤ 100000) :
    Calls Tryz.prog 60 #[.string ⟨l.toArray⟩] w fun e w' => e = .returned (.bool (partL foldL l)) ∧ Fr [] w w' := by
  by_cases h0 : l = []
  · subst h0
    have HP := Lib.hid (show partL foldL [] = false by decide)
    go_enter Tryz.func60, Tryz.ntmps60
    go_wp2_with fail
    go_ret
    exact ⟨by rw [HP.out]; rfl, Fr.refl _ _⟩
  have hlen : 1 ≤ l.length := by cases l with | nil => exact absurd rfl h0 | cons a t => simp
  have b1 : (1 : Int) ≤ (l.length : Int) := by omega
  by_cases h255 : 255 < l.length
  · have HP := Lib.hid (show partL foldL l = false by unfold partL; rw [show decide (l.length ≤ 255) = false from by simp; omega]; simp)
    have a1 : (255 : Int) < (l.length : Int) := by omega
    clear h255 h0
    go_enter Tryz.func60, Tryz.ntmps60
    go_wp2_with fail
    go_ret
    exact ⟨by rw [HP.out]; rfl, Fr.refl _ _⟩
  have a1 : (l.length : Int) ≤ 255 := by omega
  by_cases h1 : l = [46]
  · subst h1
    have HP := Lib.hid (show partL foldL [46] = false by decide)
    clear a1 h255 h0
    go_enter Tryz.func60, Tryz.ntmps60
    go_wp2_with fail
    go_ret
    exact ⟨by rw [HP.out]; rfl, Fr.refl _ _⟩
  have a2 : (l == [46]) = false := by rw [beq_eq_false_iff_ne]; exact h1
  by_cases h2 : l = [46, 46]
  · subst h2
    have HP := Lib.hid (show partL foldL [46, 46] = false by decide)
    clear a1 h255 h0 a2
    go_enter Tryz.func60, Tryz.ntmps60
    go_wp2_with fail
    go_ret
    exact ⟨by rw [HP.out]; rfl, Fr.refl _ _⟩
  have a3 : (l == [46, 46]) = false := by rw [beq_eq_false_iff_ne]; exact h2
  have b2 : (l.length : Int) - 1 < (l.length : Int) := by omega
  obtain ⟨z, hz⟩ : ∃ z, l.getLastD 0 = z := ⟨_, rfl⟩
  have hza := last_at l h0
  rw [hz] at hza
  have hg := get_ba hza
  have HPL := Lib.hid (show partL foldL l = ((z != 46) && (z != 32) && (!l.any oddB) && !devH (headL (foldL l))) by
    unfold partL
    rw [hz, show decide (1 ≤ l.length) = true from decide_eq_true hlen, show decide (l.length ≤ 255) = true from decide_eq_true (by omega), show (l != [46]) = true from by rw [bne_iff_ne]; exact h1, show (l != [46, 46]) = true from by rw [bne_iff_ne]; exact h2]
    rfl)
  clear h0 h1 h2 h255 hza hz
  by_cases z1 : z = 46
  · subst z1
    have HP := Lib.hid (show partL foldL l = false by rw [HPL.out]; rfl)
    go_enter Tryz.func60, Tryz.ntmps60
    go_wp2_with fail
    go_ret
    exact ⟨by rw [HP.out]; rfl, Fr.refl _ _⟩
  have c1 : ((z.toNat : Int) == 46) = false := by rw [beq_eq_false_iff_ne]; intro h; exact z1 (UInt8.toNat_inj.1 (show z.toNat = 46 by omega))
  by_cases z2 : z = 32
  · subst z2
    have HP := Lib.hid (show partL foldL l = false by rw [HPL.out]; rfl)
    clear z1
    go_enter Tryz.func60, Tryz.ntmps60
    go_wp2_with fail
    go_ret
    exact ⟨by rw [HP.out]; rfl, Fr.refl _ _⟩
  have c2 : ((z.toNat : Int) == 32) = false := by rw [beq_eq_false_iff_ne]; intro h; exact z2 (UInt8.toNat_inj.1 (show z.toNat = 32 by omega))
  have HPL2 := Lib.hid (show partL foldL l = ((!l.any oddB) && !devH (headL (foldL l))) by
    rw [HPL.out, show (z != 46) = true from by rw [bne_iff_ne]; exact z1, show (z != 32) = true from by rw [bne_iff_ne]; exact z2]
    rfl)
  clear z1 z2 HPL
  go_enter Tryz.func60, Tryz.ntmps60
  go_wp2_with fail
  clear hg c1 c2 a1 a2 a3 b1 b2
  obtain ⟨n, hn⟩ : ∃ n, l.length = n := ⟨_, rfl⟩
  have HN := Lib.hid hn
  have hnI : (l.length : Int) = (n : Int) := by rw [hn]
  rw [hn] at hl
  rw [hnI]
  generalize (decide ((n : Int) < 1) || decide ((255 : Int) < (n : Int))) = bb
  clear hn hlen
  go_loopw [3] (fun i wr => ∃ k : Nat, k ≤ n ∧ i = .int .i64 k ∧ (l.take k).any oddB = false ∧ wr = w) (fun i _ => n - (intOf i).toNat)
  case atStart => exact ⟨0, Nat.zero_le _, rfl, by simp, rfl⟩
  case round =>
    obtain ⟨k, hk, rfl, hany, rfl⟩ := hrel
    by_cases hlt : k < n
    · obtain ⟨x, hx⟩ := some_get l k (by rw [HN.out]; exact hlt)
      have hg := get_ba hx
      have hlt' : (k : Int) < (n : Int) := by omega
      have HT := Lib.hid (show (l.take (k + 1)).any oddB = oddB x by rw [List.take_add_one, hx, List.any_append, hany]; simp)
      have HX := Lib.hid hx
      clear hany hx
      cases ho : oddB x with
      | true =>
        have HP := Lib.hid (show partL foldL l = false by
          rw [HPL2.out, show l.any oddB = true from List.any_eq_true.2 ⟨x, List.mem_of_getElem? HX.out, ho⟩]
          rfl)
        have hcs : x.toNat < 32 ∨ (32 ≤ x.toNat ∧ (x = 127 ∨ x = 92 ∨ x = 58 ∨ x = 42 ∨ x = 63 ∨ x = 34 ∨ x = 60 ∨ x = 62 ∨ x = 124)) := by
          unfold oddB at ho
          simp only [Bool.or_eq_true, decide_eq_true_eq, beq_iff_eq, or_assoc] at ho
          by_cases h32 : x.toNat < 32
          · exact .inl h32
          · exact .inr ⟨by omega, ho.resolve_left h32⟩
        clear ho
        rcases hcs with h1 | ⟨h1, hcs⟩
        · have q1 : (x.toNat : Int) < 32 := by omega
          clear h1
          go_wp2_with fail
          go_ret
          exact ⟨by rw [HP.out]; rfl, Fr.refl _ _⟩
        · clear h1
          rcases hcs with rfl | rfl | rfl | rfl | rfl | rfl | rfl | rfl | rfl
          all_goals
            go_wp2_with fail
            go_ret
            exact ⟨by rw [HP.out]; rfl, Fr.refl _ _⟩
      | false =>
        have HO := Lib.hid ho
        have hcs : 32 ≤ x.toNat ∧ x ≠ 127 ∧ x ≠ 92 ∧ x ≠ 58 ∧ x ≠ 42 ∧ x ≠ 63 ∧ x ≠ 34 ∧ x ≠ 60 ∧ x ≠ 62 ∧ x ≠ 124 := by
          unfold oddB at ho
          simp only [Bool.or_eq_false_iff, decide_eq_false_iff_not, beq_eq_false_iff_ne, and_assoc] at ho
          exact ⟨by omega, ho.2⟩
        obtain ⟨g0, g1, g2, g3, g4, g5, g6, g7, g8, g9⟩ := hcs
        have key : ∀ c : UInt8, x ≠ c → ((x.toNat : Int) == (c.toNat : Int)) = false := fun c hc => by rw [beq_eq_false_iff_ne]; intro h; exact hc (UInt8.toNat_inj.1 (by omega))
        have q0 : (32 : Int) ≤ (x.toNat : Int) := by omega
        have q1 : ((x.toNat : Int) == 127) = false := key 127 g1
        have q2 : ((x.toNat : Int) == 92) = false := key 92 g2
        have q3 : ((x.toNat : Int) == 58) = false := key 58 g3
        have q4 : ((x.toNat : Int) == 42) = false := key 42 g4
        have q5 : ((x.toNat : Int) == 63) = false := key 63 g5
        have q6 : ((x.toNat : Int) == 34) = false := key 34 g6
        have q7 : ((x.toNat : Int) == 60) = false := key 60 g7
        have q8 : ((x.toNat : Int) == 62) = false := key 62 g8
        have q9 : ((x.toNat : Int) == 124) = false := key 124 g9
        clear ho g0 g1 g2 g3 g4 g5 g6 g7 g8 g9 key
        go_wp2_with fail
        go_roundw
        case rel => exact ⟨k + 1, by omega, by go_num, by rw [HT.out, HO.out], by trivial⟩
        case measure => simp [intOf]; omega
    · have hke : k = n := by omega
      subst hke
      rw [List.take_of_length_le (by rw [HN.out]; exact Nat.le_refl _)] at hany
      have HPL3 := Lib.hid (show partL foldL l = !devH (headL (foldL l)) by rw [HPL2.out, hany]; rfl)
      clear hany
      have HFL := Lib.hid (show (foldL l).length = k by simp [foldL, HN.out])
      go_wp2_with (go_at_call 21; refine (rfold_any _ l (by rw [HN.out]; exact hl)).mono ?_; rintro e w1 ⟨rfl, F1⟩)
      generalize hfo : foldL l = fl at *
      have HFO := Lib.hid hfo
      clear hfo hnI
      go_loopw [5, 6] (fun hd i wr => ∃ j : Nat, j ≤ k ∧ i = .int .i64 j ∧ hd = .string ⟨fl.toArray⟩ ∧ (∀ t, t < j → fl[t]? ≠ some 46) ∧ wr = w1) (fun _ i _ => k - (intOf i).toNat)
      case atStart => exact ⟨0, Nat.zero_le _, rfl, rfl, by omega, rfl⟩
      case round =>
        obtain ⟨j, hj, rfl, rfl, hno, hwr⟩ := hrel
        obtain rfl : w1 = wr := hwr.symm
        by_cases hjk : j < k
        · obtain ⟨y, hy⟩ := some_get fl j (by rw [HFL.out]; exact hjk)
          have hg := get_ba hy
          have hjI : (j : Int) < (k : Int) := by omega
          have hfI : (fl.length : Int) = (k : Int) := by rw [HFL.out]
          have HY := Lib.hid hy
          by_cases h46 : y = 46
          · subst h46
            have hhs := headL_some fl j hy hno
            have HX2 := Lib.hid (show (⟨fl.toArray⟩ : ByteArray).extract 0 j = ⟨(headL fl).toArray⟩ by rw [extract_ba, hhs]; simp)
            clear hno hy hhs
            go_wp2_with fail
            rw [HX2.out]
            clear hg HX2 HY
            generalize hH : headL fl = H at *
            have HDv := Lib.hid (show partL foldL l = !(wordsN 9).contains H by rw [HPL3.out, words_dev])
            clear hH
            obtain ⟨wA, hwA⟩ : ∃ wA, wA = w1.alloc (.cells (stv words4).toArray 9) := ⟨_, rfl⟩
            have FA : Fr [] w1 wA := hwA ▸ (Fr.refl _ _).alloc _
            have hown : wA.ownsRow w1.heap.size 9 1 (.slice (some ⟨w1.heap.size, 0, none⟩) 4 4) 4 (stv (wordsN 0)) := hwA ▸ own_lit w1 9 (stv words4) 4 (by simp [stv, words4]) (by omega)
            have hwA2 : w1.alloc (.cells #[.string ⟨#[99, 111, 110]⟩, .string ⟨#[112, 114, 110]⟩, .string ⟨#[97, 117, 120]⟩, .string ⟨#[110, 117, 108]⟩] 9) = wA := by rw [hwA]; rfl
            rw [hwA2]
            clear hwA hwA2
            go_loopw [7, 8] (fun v dv wq => ∃ d : Nat, d ≤ 9 ∧ dv = .int .i64 ((d + 1 : Nat) : Int) ∧ wq.ownsRow w1.heap.size 9 1 v (4 + 2 * d) (stv (wordsN d)) ∧ Fr [] w1 wq) (fun _ dv _ => 10 - (intOf dv).toNat)
            case atStart => exact ⟨0, Nat.zero_le _, rfl, hown, FA⟩
            case round =>
              obtain ⟨d, hd, rfl, own, FD⟩ := hrel
              obtain ⟨vao, vcap, rfl, -⟩ := own_out own
              by_cases hd9 : d < 9
              · have d1 : ((d + 1 : Nat) : Int) < 10 := by omega
                obtain ⟨c, hcc⟩ : ∃ c, UInt8.ofNat (49 + d) = c := ⟨_, rfl⟩
                have hcs : (((c.toNat : Nat) : Int)) = 48 + ((d : Int) + 1) := by rw [← hcc]; simp; omega
                have hcell : ∀ (W : World) (g : Nat), W.heap[g]? = some (.cells #[.int .u8 (48 + ((d : Int) + 1))] 5) → ∀ (j : Nat) y, [c][j]? = some y → W.cell? ⟨g, j, none⟩ = some (.int .u8 y.toNat) := fun W g hW j y hy => by
                  have hj : j = 0 := by have := (List.getElem?_eq_some_iff.1 hy).1; simp at this; omega
                  subst hj
                  simp at hy
                  subst hy
                  rw [Go.Joins.cell_of_block hW, hcs]
                  rfl
                have hc1 := conv_bs (wr.alloc (.cells #[.int .u8 (48 + ((d : Int) + 1))] 5)) wr.heap.size 1 [c] 1 rfl (hcell _ _ (heap_alloc_new _ _))
                have hb2 := heap_alloc_new (wr.alloc (.cells #[.int .u8 (48 + ((d : Int) + 1))] 5)) (.cells #[.int .u8 (48 + ((d : Int) + 1))] 5)
                rw [World.size_alloc] at hb2
                have hc2 := conv_bs ((wr.alloc (.cells #[.int .u8 (48 + ((d : Int) + 1))] 5)).alloc (.cells #[.int .u8 (48 + ((d : Int) + 1))] 5)) (wr.heap.size + 1) 1 [c] 1 rfl (hcell _ _ hb2)
                have hbs : (ba [c]).size = 1 := by rw [ba_size]; rfl
                have hsl : Sl (((wr.alloc (.cells #[.int .u8 (48 + ((d : Int) + 1))] 5)).alloc (.cells #[.int .u8 (48 + ((d : Int) + 1))] 5)).alloc (.cells #[.string (⟨#[99, 111, 109]⟩ ++ ba [c]), .string (⟨#[108, 112, 116]⟩ ++ ba [c])] 9)) (.slice (some ⟨wr.heap.size + 1 + 1, 0, none⟩) 2 2) [.string (⟨#[99, 111, 109]⟩ ++ ba [c]), .string (⟨#[108, 112, 116]⟩ ++ ba [c])] := by
                  have := sl_lit ((wr.alloc (.cells #[.int .u8 (48 + ((d : Int) + 1))] 5)).alloc (.cells #[.int .u8 (48 + ((d : Int) + 1))] 5)) 9 [.string (⟨#[99, 111, 109]⟩ ++ ba [c]), .string (⟨#[108, 112, 116]⟩ ++ ba [c])] 2 rfl (by omega)
                  simp only [World.size_alloc] at this
                  exact this
                have HSL := Lib.hid hsl
                have HWN := Lib.hid (show stv (wordsN (d + 1)) = stv (wordsN d) ++ [.string (⟨#[99, 111, 109]⟩ ++ ba [c]), .string (⟨#[108, 112, 116]⟩ ++ ba [c])] by rw [wordsN_succ, hcc]; simp [stv, cat_com, cat_lpt])
                clear hcs hcell hb2 hsl hcc
                go_wp2_with (at_builtin; refine wpList_append_sl sty_string rfl _ _ (by rfl) w1.heap.size _ _ _ (by rfl) (((own.alloc _).alloc _).alloc _) _ [.string (⟨#[99, 111, 109]⟩ ++ ba [c]), .string (⟨#[108, 112, 116]⟩ ++ ba [c])] (by rfl) HSL.out (by intro u hu; simp at hu; rcases hu with rfl | rfl <;> rfl) (by simp; omega) (by simp; omega) (by have := FD.size; simp; omega) ?_)
                intro v2 w4 own4 g4
                obtain ⟨vao2, vcap2, rfl, -⟩ := own_out own4
                have F4 : Fr [] w1 w4 := (((FD.alloc _).alloc _).alloc _).grown g4 (fun t ht => .inr (own.lt t ht).1)
                clear hc1 hc2 hbs
                go_wp2_with fail
                go_roundw
                case rel => exact ⟨d + 1, by omega, by go_num, by rw [HWN.out]; exact own4, F4⟩
                case measure => simp [intOf]; omega
              · have hde : d = 9 := by omega
                subst hde
                have hSw := Sl.of_own own
                obtain ⟨sa, sc, hse, -, -, so⟩ := hSw.out
                injection hse with e1 e2 e3
                subst e1 e3
                have HW := Lib.hid (show (stv (wordsN 9)).length = 22 by rw [stv_len]; decide)
                rw [HW.out] at so
                clear e2 hSw own
                generalize hws : wordsN 9 = ws at *
                have HWL := Lib.hid (show ws.length = 22 by have := HW.out; rwa [stv_len] at this)
                clear hws
                go_wp2_with fail
                go_loopw [9] (fun iv' wq => ∃ q : Nat, q ≤ 22 ∧ iv' = .int .i64 q ∧ (ws.take q).contains H = false ∧ wq = wr) (fun iv' _ => 22 - (intOf iv').toNat)
                case atStart => exact ⟨0, Nat.zero_le _, rfl, by simp, rfl⟩
                case round =>
                  obtain ⟨q, hq, rfl, hcn, hwq⟩ := hrel
                  subst hwq
                  by_cases hq22 : q < 22
                  · obtain ⟨p, hp⟩ := some_get ws q (by rw [HWL.out]; exact hq22)
                    obtain ⟨sb, sof, rfl, -, hsc⟩ := so q hq22
                    have y0 := (hsc q hq22).trans (stv_get hp)
                    have HT := Lib.hid (show (ws.take (q + 1)).contains H = (H == p) by rw [List.take_add_one, hp, List.contains_append, hcn]; simp; rw [Bool.eq_iff_iff, decide_eq_true_iff, beq_iff_eq])
                    have HP := Lib.hid hp
                    have q1 : (q : Int) < 22 := by omega
                    clear so hsc hp hcn
                    cases heq : (H == p) with
                    | true =>
                      have HF := Lib.hid (show partL foldL l = false by
                        rw [HDv.out, show ws.contains H = true from List.contains_iff_mem.2 (by rw [beq_iff_eq.1 heq]; exact List.mem_of_getElem? HP.out)]
                        rfl)
                      go_wp2_with fail
                      go_ret
                      exact ⟨by rw [HF.out]; rfl, F1.trans0 FD⟩
                    | false =>
                      have HEQ := Lib.hid heq
                      go_wp2_with fail
                      go_roundw
                      case rel => exact ⟨q + 1, by omega, by go_num, by rw [HT.out, HEQ.out], by trivial⟩
                      case measure => simp [intOf]; omega
                  · have hqe : q = 22 := by omega
                    subst hqe
                    rw [List.take_of_length_le (by rw [HWL.out]; exact Nat.le_refl _)] at hcn
                    have HF := Lib.hid (show partL foldL l = true by rw [HDv.out, hcn]; rfl)
                    clear so hcn
                    go_wp2_with fail
                    go_ret
                    exact ⟨by rw [HF.out]; rfl, F1.trans0 FD⟩
          · have t0 : ((y.toNat : Int) == 46) = false := by rw [beq_eq_false_iff_ne]; intro h; exact h46 (UInt8.toNat_inj.1 (show y.toNat = 46 by omega))
            have HN2 := Lib.hid (show ∀ t, t < j + 1 → fl[t]? ≠ some 46 from fun t ht => by
              by_cases htj : t = j
              · subst htj
                rw [hy]
                simpa using h46
              · exact hno t (by omega))
            clear hno hy h46
            go_wp2_with fail
            go_roundw
            case rel => exact ⟨j + 1, by omega, by go_num, rfl, HN2.out, by trivial⟩
            case measure => simp [intOf]; omega
        · have hje : j = k := by omega
          subst hje
          have hhs := headL_none fl (fun x hx e => by
            subst e
            obtain ⟨t, ht⟩ := List.getElem?_of_mem hx
            have htl : t < fl.length := (List.getElem?_eq_some_iff.1 ht).1
            rw [HFL.out] at htl
            exact hno t htl ht)
          have hfI : (fl.length : Int) = (j : Int) := by rw [HFL.out]
          clear hno
          go_wp2_with fail
          rw [show (⟨fl.toArray⟩ : ByteArray) = ⟨(headL fl).toArray⟩ by rw [hhs]]
          clear hhs
          generalize hH : headL fl = H at *
          have HDv := Lib.hid (show partL foldL l = !(wordsN 9).contains H by rw [HPL3.out, words_dev])
          clear hH
          obtain ⟨wA, hwA⟩ : ∃ wA, wA = w1.alloc (.cells (stv words4).toArray 9) := ⟨_, rfl⟩
          have FA : Fr [] w1 wA := hwA ▸ (Fr.refl _ _).alloc _
          have hown : wA.ownsRow w1.heap.size 9 1 (.slice (some ⟨w1.heap.size, 0, none⟩) 4 4) 4 (stv (wordsN 0)) := hwA ▸ own_lit w1 9 (stv words4) 4 (by simp [stv, words4]) (by omega)
          have hwA2 : w1.alloc (.cells #[.string ⟨#[99, 111, 110]⟩, .string ⟨#[112, 114, 110]⟩, .string ⟨#[97, 117, 120]⟩, .string ⟨#[110, 117, 108]⟩] 9) = wA := by rw [hwA]; rfl
          rw [hwA2]
          clear hwA hwA2
          go_loopw [7, 8] (fun v dv wq => ∃ d : Nat, d ≤ 9 ∧ dv = .int .i64 ((d + 1 : Nat) : Int) ∧ wq.ownsRow w1.heap.size 9 1 v (4 + 2 * d) (stv (wordsN d)) ∧ Fr [] w1 wq) (fun _ dv _ => 10 - (intOf dv).toNat)
          case atStart => exact ⟨0, Nat.zero_le _, rfl, hown, FA⟩
          case round =>
            obtain ⟨d, hd, rfl, own, FD⟩ := hrel
            obtain ⟨vao, vcap, rfl, -⟩ := own_out own
            by_cases hd9 : d < 9
            · have d1 : ((d + 1 : Nat) : Int) < 10 := by omega
              obtain ⟨c, hcc⟩ : ∃ c, UInt8.ofNat (49 + d) = c := ⟨_, rfl⟩
              have hcs : (((c.toNat : Nat) : Int)) = 48 + ((d : Int) + 1) := by rw [← hcc]; simp; omega
              have hcell : ∀ (W : World) (g : Nat), W.heap[g]? = some (.cells #[.int .u8 (48 + ((d : Int) + 1))] 5) → ∀ (j : Nat) y, [c][j]? = some y → W.cell? ⟨g, j, none⟩ = some (.int .u8 y.toNat) := fun W g hW j y hy => by
                have hj : j = 0 := by have := (List.getElem?_eq_some_iff.1 hy).1; simp at this; omega
                subst hj
                simp at hy
                subst hy
                rw [Go.Joins.cell_of_block hW, hcs]
                rfl
              have hc1 := conv_bs (wr.alloc (.cells #[.int .u8 (48 + ((d : Int) + 1))] 5)) wr.heap.size 1 [c] 1 rfl (hcell _ _ (heap_alloc_new _ _))
              have hb2 := heap_alloc_new (wr.alloc (.cells #[.int .u8 (48 + ((d : Int) + 1))] 5)) (.cells #[.int .u8 (48 + ((d : Int) + 1))] 5)
              rw [World.size_alloc] at hb2
              have hc2 := conv_bs ((wr.alloc (.cells #[.int .u8 (48 + ((d : Int) + 1))] 5)).alloc (.cells #[.int .u8 (48 + ((d : Int) + 1))] 5)) (wr.heap.size + 1) 1 [c] 1 rfl (hcell _ _ hb2)
              have hbs : (ba [c]).size = 1 := by rw [ba_size]; rfl
              have hsl : Sl (((wr.alloc (.cells #[.int .u8 (48 + ((d : Int) + 1))] 5)).alloc (.cells #[.int .u8 (48 + ((d : Int) + 1))] 5)).alloc (.cells #[.string (⟨#[99, 111, 109]⟩ ++ ba [c]), .string (⟨#[108, 112, 116]⟩ ++ ba [c])] 9)) (.slice (some ⟨wr.heap.size + 1 + 1, 0, none⟩) 2 2) [.string (⟨#[99, 111, 109]⟩ ++ ba [c]), .string (⟨#[108, 112, 116]⟩ ++ ba [c])] := by
                have := sl_lit ((wr.alloc (.cells #[.int .u8 (48 + ((d : Int) + 1))] 5)).alloc (.cells #[.int .u8 (48 + ((d : Int) + 1))] 5)) 9 [.string (⟨#[99, 111, 109]⟩ ++ ba [c]), .string (⟨#[108, 112, 116]⟩ ++ ba [c])] 2 rfl (by omega)
                simp only [World.size_alloc] at this
                exact this
              have HSL := Lib.hid hsl
              have HWN := Lib.hid (show stv (wordsN (d + 1)) = stv (wordsN d) ++ [.string (⟨#[99, 111, 109]⟩ ++ ba [c]), .string (⟨#[108, 112, 116]⟩ ++ ba [c])] by rw [wordsN_succ, hcc]; simp [stv, cat_com, cat_lpt])
              clear hcs hcell hb2 hsl hcc
              go_wp2_with (at_builtin; refine wpList_append_sl sty_string rfl _ _ (by rfl) w1.heap.size _ _ _ (by rfl) (((own.alloc _).alloc _).alloc _) _ [.string (⟨#[99, 111, 109]⟩ ++ ba [c]), .string (⟨#[108, 112, 116]⟩ ++ ba [c])] (by rfl) HSL.out (by intro u hu; simp at hu; rcases hu with rfl | rfl <;> rfl) (by simp; omega) (by simp; omega) (by have := FD.size; simp; omega) ?_)
              intro v2 w4 own4 g4
              obtain ⟨vao2, vcap2, rfl, -⟩ := own_out own4
              have F4 : Fr [] w1 w4 := (((FD.alloc _).alloc _).alloc _).grown g4 (fun t ht => .inr (own.lt t ht).1)
              clear hc1 hc2 hbs
              go_wp2_with fail
              go_roundw
              case rel => exact ⟨d + 1, by omega, by go_num, by rw [HWN.out]; exact own4, F4⟩
              case measure => simp [intOf]; omega
            · have hde : d = 9 := by omega
              subst hde
              have hSw := Sl.of_own own
              obtain ⟨sa, sc, hse, -, -, so⟩ := hSw.out
              injection hse with e1 e2 e3
              subst e1 e3
              have HW := Lib.hid (show (stv (wordsN 9)).length = 22 by rw [stv_len]; decide)
              rw [HW.out] at so
              clear e2 hSw own
              generalize hws : wordsN 9 = ws at *
              have HWL := Lib.hid (show ws.length = 22 by have := HW.out; rwa [stv_len] at this)
              clear hws
              go_wp2_with fail
              go_loopw [9] (fun iv' wq => ∃ q : Nat, q ≤ 22 ∧ iv' = .int .i64 q ∧ (ws.take q).contains H = false ∧ wq = wr) (fun iv' _ => 22 - (intOf iv').toNat)
              case atStart => exact ⟨0, Nat.zero_le _, rfl, by simp, rfl⟩
              case round =>
                obtain ⟨q, hq, rfl, hcn, hwq⟩ := hrel
                subst hwq
                by_cases hq22 : q < 22
                · obtain ⟨p, hp⟩ := some_get ws q (by rw [HWL.out]; exact hq22)
                  obtain ⟨sb, sof, rfl, -, hsc⟩ := so q hq22
                  have y0 := (hsc q hq22).trans (stv_get hp)
                  have HT := Lib.hid (show (ws.take (q + 1)).contains H = (H == p) by rw [List.take_add_one, hp, List.contains_append, hcn]; simp; rw [Bool.eq_iff_iff, decide_eq_true_iff, beq_iff_eq])
                  have HP := Lib.hid hp
                  have q1 : (q : Int) < 22 := by omega
                  clear so hsc hp hcn
                  cases heq : (H == p) with
                  | true =>
                    have HF := Lib.hid (show partL foldL l = false by
                      rw [HDv.out, show ws.contains H = true from List.contains_iff_mem.2 (by rw [beq_iff_eq.1 heq]; exact List.mem_of_getElem? HP.out)]
                      rfl)
                    go_wp2_with fail
                    go_ret
                    exact ⟨by rw [HF.out]; rfl, F1.trans0 FD⟩
                  | false =>
                    have HEQ := Lib.hid heq
                    go_wp2_with fail
                    go_roundw
                    case rel => exact ⟨q + 1, by omega, by go_num, by rw [HT.out, HEQ.out], by trivial⟩
                    case measure => simp [intOf]; omega
                · have hqe : q = 22 := by omega
                  subst hqe
                  rw [List.take_of_length_le (by rw [HWL.out]; exact Nat.le_refl _)] at hcn
                  have HF := Lib.hid (show partL foldL l = true by rw [HDv.out, hcn]; rfl)
                  clear so hcn
                  go_wp2_with fail
                  go_ret
                  exact ⟨by rw [HF.out]; rfl, F1.trans0 FD⟩
end Go.Proofs.YthbkcjlpelihlaaGreatDoor
