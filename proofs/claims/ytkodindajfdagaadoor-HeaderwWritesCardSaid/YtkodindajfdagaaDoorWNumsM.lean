/- Contract: the writer's numbers. No condition but that lengths fit. -/
import Derived.Test.YtkodindajfdagaaDoorWRowsM
namespace Go.Proofs.YtkodindajfdagaaDoor
open Go.RowKit

/-- Rows of two types lie in two blocks. -/
theorem own_apart {w : World} {b1 b2 e1 e2 s1 s2 n m : Nat} {u v : Value} {xs ys : List Value} (h1 : w.ownsRow b1 e1 s1 u n xs) (h2 : w.ownsRow b2 e2 s2 v m ys) (he : e1 ≠ e2) : ∀ k, u.ownBlock = some k → v.ownBlock ≠ some k := fun k hu hv => by
  rcases h1.2 with ⟨rfl, _⟩ | ⟨g, cap, cur, rfl, hb, hg, _⟩
  · simp [Value.ownBlock] at hu
  rcases h2.2 with ⟨rfl, _⟩ | ⟨g2, cap2, cur2, rfl, hb2, hg2, _⟩
  · simp [Value.ownBlock] at hv
  simp [Value.ownBlock] at hu hv
  subst hu hv
  rw [hg] at hg2
  injection hg2 with h
  injection h with _ h3 _
  exact he h3

theorem time_any (w : World) (x : Fil) : Calls Tryd.prog 28 #[.agg x.cells.toArray] w fun e w' => e = .returned (.tuple #[.int .u64 (x.time.toNat : Int), .bool x.hasTime]) ∧ Fr [] w w' := by
  obtain ⟨nm, st, dir, ha, attr, ht, tm⟩ := x
  show Calls _ _ #[.agg #[.string ⟨nm.toArray⟩, .bool st, .bool dir, .bool ha, .int .u32 attr.toNat, .bool ht, .int .u64 tm.toNat]] w _
  go_enter Tryd.func28, Tryd.ntmps28
  obtain ⟨wB, hwB⟩ : ∃ wB, wB = w.alloc (.cells #[.string ⟨nm.toArray⟩, .bool st, .bool dir, .bool ha, .int .u32 attr.toNat, .bool ht, .int .u64 tm.toNat] 39) := ⟨_, rfl⟩
  have FB0 : Fr [] w wB := hwB ▸ (Fr.refl _ _).alloc _
  obtain ⟨d0, d1, d2, d3, d4, d5, d6⟩ := wbox7 (hwB ▸ Fr.refl [] wB : Fr [] (w.alloc (.cells #[.string ⟨nm.toArray⟩, .bool st, .bool dir, .bool ha, .int .u32 attr.toNat, .bool ht, .int .u64 tm.toNat] 39)) wB) (by simp)
  go_wp2_with fail
  rw [← hwB]
  clear hwB
  go_region
  all_goals (try go_wp2)
  all_goals go_ret2
  all_goals exact ⟨by first | rfl | (rw [h1]), by first | exact FB0 | exact FB0.drew | exact FB0.drewN _⟩
theorem attr_any (w : World) (x : Fil) : Calls Tryd.prog 29 #[.agg x.cells.toArray] w fun e w' => e = .returned (.tuple #[.int .u64 (x.attr.toNat : Int), .bool x.hasAttr]) ∧ Fr [] w w' := by
  obtain ⟨nm, st, dir, ha, attr, ht, tm⟩ := x
  have h1 : IntKind.u64.wrap (attr.toNat : Int) = (attr.toNat : Int) := by have := attr.toNat_lt; simp [IntKind.wrap, IntKind.bits, IntKind.signed]; omega
  show Calls _ _ #[.agg #[.string ⟨nm.toArray⟩, .bool st, .bool dir, .bool ha, .int .u32 attr.toNat, .bool ht, .int .u64 tm.toNat]] w _
  go_enter Tryd.func29, Tryd.ntmps29
  obtain ⟨wB, hwB⟩ : ∃ wB, wB = w.alloc (.cells #[.string ⟨nm.toArray⟩, .bool st, .bool dir, .bool ha, .int .u32 attr.toNat, .bool ht, .int .u64 tm.toNat] 39) := ⟨_, rfl⟩
  have FB0 : Fr [] w wB := hwB ▸ (Fr.refl _ _).alloc _
  obtain ⟨d0, d1, d2, d3, d4, d5, d6⟩ := wbox7 (hwB ▸ Fr.refl [] wB : Fr [] (w.alloc (.cells #[.string ⟨nm.toArray⟩, .bool st, .bool dir, .bool ha, .int .u32 attr.toNat, .bool ht, .int .u64 tm.toNat] 39)) wB) (by simp)
  go_wp2_with fail
  rw [← hwB]
  clear hwB
  go_region
  all_goals (try go_wp2)
  all_goals go_ret2
  all_goals exact ⟨by first | rfl | (rw [h1]), by first | exact FB0 | exact FB0.drew | exact FB0.drewN _⟩

theorem hasV_take {of : Fil → Nat × Bool} {F : List Fil} {k : Nat} {x : Fil} (h : F[k]? = some x) : hasV of (F.take (k + 1)) = hasV of (F.take k) ++ [(of x).2] := by
  simp [hasV, List.take_add_one, h]
theorem valsV_take {of : Fil → Nat × Bool} {size : Nat} {F : List Fil} {k : Nat} {x : Fil} (h : F[k]? = some x) : valsV of size (F.take (k + 1)) = valsV of size (F.take k) ++ (if (of x).2 then leBytes size (of x).1 else []) := by
  simp [valsV, List.take_add_one, h]
theorem hasV_len (of : Fil → Nat × Bool) (F : List Fil) : (hasV of F).length = F.length := by simp [hasV]
theorem valsV_len (of : Fil → Nat × Bool) (size : Nat) : ∀ F : List Fil, (valsV of size F).length ≤ F.length * size
  | [] => by simp [valsV]
  | x :: t => by
    have := valsV_len of size t
    unfold valsV at *
    rw [List.flatMap_cons, List.length_append, List.length_cons, Nat.add_mul, Nat.one_mul]
    split
    · rw [leBytes_length]; omega
    · rw [List.length_nil]; omega
theorem toldN_len (row : List Bool) : (toldN row).length ≤ row.length + 8 := by
  unfold toldN
  split
  · simp
  · simp [packBits_len]; omega

set_option maxRecDepth 100000 in
set_option maxHeartbeats 4000000 in
theorem nums_1 (w : World) (lo p hi : Nat) (v : Value) (bs : List UInt8) (d : DW) (F : List Fil) (id : UInt8) (size : Nat) (of : Fil → Nat × Bool) (hsz : Cur.sized (size : Int) = true) (hlt : ∀ x, (of x).1 < 18446744073709551616)
    (hof : ∀ w x, Calls Tryd.prog 28 #[.agg (Fil.cells x).toArray] w fun e w' => e = .returned (.tuple #[.int .u64 ((of x).1 : Int), .bool (of x).2]) ∧ Fr [] w w')
    (h : WrAt w lo p v bs d) (hF : RowAt w hi 7 d.es F.length (fiV F)) (hn : F.length ≤ 1000000) (hb : bs.length ≤ 70000000) :
    Calls Tryd.prog 27 #[.pointer (some ⟨p, 0, none⟩), .int .u8 (id.toNat : Int), .int .i64 (size : Int), .func (.func 28) #[] #[]] w fun e w' => e = .returned (.tuple #[]) ∧ WrTo w lo p v (bs ++ numsW id size of F) d w' := by
  have HW := Lib.hid h
  obtain ⟨eao, ecap, he, hec, hem, -⟩ := hF.out
  have HR := Lib.hid hF
  rw [he] at HR
  obtain ⟨c0, c1, c2, c3, c4, c5, c6, c7, cz⟩ := cells8 h.blk
  rw [he] at c7
  clear h hF he
  have HB := Lib.hid hb
  have HN := Lib.hid hn
  have HOF := Lib.hid hof
  have HLT := Lib.hid hlt
  have HSZ := Lib.hid hsz
  have hs8 : size ≤ 8 := by unfold Cur.sized at hsz; simp at hsz; omega
  clear hof hlt hsz
  go_enter Tryd.func27, Tryd.ntmps27
  refine wp_seq_k fun K0 hK0 => ?_
  go_cut [8] (fun v2 wx => v2 = .slice none 0 0 ∧ wx = w)
  case first =>
    clear hK0
    go_wp2_with fail
    go_meet
    case rel => exact ⟨rfl, rfl⟩
  case rest =>
  obtain ⟨rfl, hw⟩ := hcut
  have hw' := hw.symm
  clear hw
  subst hw'
  (refine hK0 _ _ ?_; clear hK0; refine wp_seq_k fun K1 hK1 => ?_)
  go_cut [9] (fun v2 wx => v2 = .slice none 0 0 ∧ wx = w)
  case first =>
    clear hK1
    go_wp2_with fail
    go_meet
    case rel => exact ⟨rfl, rfl⟩
  case rest =>
  obtain ⟨rfl, hw⟩ := hcut
  have hw' := hw.symm
  clear hw
  subst hw'
  (refine hK1 _ _ ?_; clear hK1; refine wp_seq_k fun K2 hK2 => ?_)
  go_cut [8, 9] (fun v2 v3 wx => ∃ ve vf, v2 = ve ∧ v3 = vf ∧ wx.ownsRow w.heap.size 4 1 ve F.length (tv (hasV of F)) ∧ wx.ownsRow w.heap.size 5 1 vf (valsV of size F).length (bv (valsV of size F)) ∧ Fr [] w wx)
  case first =>
    clear hK2
    go_wp2_with fail
    go_loopw [8, 9, 20] (fun v2 v3 i wr => ∃ (k : Nat), k ≤ F.length ∧ i = .int .i64 k ∧ wr.ownsRow w.heap.size 4 1 v2 k (tv (hasV of (F.take k))) ∧ wr.ownsRow w.heap.size 5 1 v3 (valsV of size (F.take k)).length (bv (valsV of size (F.take k))) ∧ Fr [] w wr) (fun _ _ i _ => F.length - (intOf i).toNat)
    case atStart => exact ⟨0, Nat.zero_le _, rfl, World.ownsRow_nil _ _ _ _, World.ownsRow_nil _ _ _ _, Fr.refl _ _⟩
    case round =>
      obtain ⟨k, hk, rfl, oa, ob, F2⟩ := hrel
      by_cases hlt : k < F.length
      · obtain ⟨x, hx⟩ := some_get F k hlt
        obtain ⟨b1, o1, hao, hb1, e0, e1, e2, e3, e4, e5, e6⟩ := (HR.out.fr0 F2).fil hx hlt
        subst hao
        have HX1 := Lib.hid (hasV_take (of := of) hx)
        have HX2 := Lib.hid (valsV_take (of := of) (size := size) hx)
        have HVLen := Lib.hid (show (valsV of size (F.take k)).length ≤ 8000000 by
          have h1 := valsV_len of size (F.take k)
          rw [List.length_take, Nat.min_eq_left hk] at h1
          have : k * size ≤ 1000000 * 8 := Nat.mul_le_mul (by omega) hs8
          omega)
        have HOA := Lib.hid oa
        have HOB := Lib.hid ob
        obtain ⟨vao, vcap, rfl, -⟩ := own_out oa
        obtain ⟨fao, fcap, rfl, -⟩ := own_out ob
        have HF2 := Lib.hid F2
        have HL1 := Lib.hid (HLT.out x)
        obtain ⟨nm, st, dir, ha, attr, ht, tm⟩ := x
        dsimp only at e0 e1 e2 e3 e4 e5 e6
        have HOX := Lib.hid (fun wx => (show Calls Tryd.prog 28 #[.agg #[.string ⟨nm.toArray⟩, .bool st, .bool dir, .bool ha, .int .u32 attr.toNat, .bool ht, .int .u64 tm.toNat]] wx fun e w' => e = .returned (.tuple #[.int .u64 ((of ⟨nm, st, dir, ha, attr, ht, tm⟩).1 : Int), .bool (of ⟨nm, st, dir, ha, attr, ht, tm⟩).2]) ∧ Fr [] wx w' from HOF.out wx ⟨nm, st, dir, ha, attr, ht, tm⟩))
        obtain ⟨q1, hq1⟩ : ∃ q1, q1 = (of ⟨nm, st, dir, ha, attr, ht, tm⟩).1 := ⟨_, rfl⟩
        obtain ⟨q2, hq2⟩ : ∃ q2, q2 = (of ⟨nm, st, dir, ha, attr, ht, tm⟩).2 := ⟨_, rfl⟩
        rw [← hq1] at HL1
        simp only [← hq1, ← hq2] at HX2 HX1 HOX
        clear hq1 hq2
        have hnot : ∀ (x : Bool) (w : World), (Op.unary .not (.bool x)).run Tryd.prog w = .ok (.bool (!x)) w := fun _ _ => rfl
        clear hx oa ob F2
        obtain ⟨wB, hwB⟩ : ∃ wB, wB = wr.alloc (.cells #[.string ⟨nm.toArray⟩, .bool st, .bool dir, .bool ha, .int .u32 attr.toNat, .bool ht, .int .u64 tm.toNat] 39) := ⟨_, rfl⟩
        have FB0 : Fr [] wr wB := hwB ▸ (Fr.refl _ _).alloc _
        obtain ⟨d0, d1, d2, d3, d4, d5, d6⟩ := wbox7 (hwB ▸ Fr.refl [] wB : Fr [] (wr.alloc (.cells #[.string ⟨nm.toArray⟩, .bool st, .bool dir, .bool ha, .int .u32 attr.toNat, .bool ht, .int .u64 tm.toNat] 39)) wB) (by simp)
        have HF3 := Lib.hid (fun w3 (F : Fr [] wB w3) => (HF2.out.trans0 FB0).trans0 F)
        have HOA3 := Lib.hid (fun w3 (F : Fr [] wB w3) => own_frS (own_frS HOA.out FB0 (by simp)) F (by simp))
        have HOB3 := Lib.hid (fun w3 (F : Fr [] wB w3) => own_frS (own_frS HOB.out FB0 (by simp)) F (by simp))
        clear FB0
        cases q2 with
        | false =>
          have HP0 := Lib.hid (show valsV of size (F.take (k + 1)) = valsV of size (F.take k) by rw [HX2.out]; simp)
          go_wp2_with (first
            | (have hq := F3; at_builtin; refine wpList_append_sl sty_boolW rfl _ _ (by rfl) w.heap.size _ _ _ (by rfl) (own_frS (HOA3.out w3 F3) ((Fr.refl [] w3).alloc _) (by simp)) _ [.bool false] (by rfl) (sl_one _ _ _) (by intro u hu; simp at hu; subst hu; rfl) (by simp; have := HN.out; omega) (by simp; have := HN.out; omega) (by have := (HF3.out w3 F3).size; simp; omega) ?_; intro v4 w4 own4 g4; obtain ⟨vo4, vc4, rfl, -⟩ := own_out own4)
            | (go_at_call 28; rw [← hwB]; refine (HOX.out wB).mono ?_; rintro e w3 ⟨rfl, F3⟩))
          have HOA4 := Lib.hid (show w4.ownsRow w.heap.size 4 1 (.slice vo4 (k + 1) vc4) (k + 1) (tv (hasV of (F.take (k + 1)))) by rw [HX1.out, tv_append]; exact own4)
          have HOB4 := Lib.hid (own_grown (own_frS (HOB3.out w3 F3) ((Fr.refl [] w3).alloc (.cells #[.bool false] 4)) (by simp)) g4 (own_apart (own_frS (HOB3.out w3 F3) ((Fr.refl [] w3).alloc (.cells #[.bool false] 4)) (by simp)) (own_frS (HOA3.out w3 F3) ((Fr.refl [] w3).alloc (.cells #[.bool false] 4)) (by simp)) (by decide)))
          have HF4 := Lib.hid (show Fr [] w w4 from ((HF3.out w3 F3).alloc _).grown g4 (fun q hq => .inr (own_ltS HOA.out q hq).1))
          clear own4 g4
          go_wp2_with fail
          go_roundw
          case rel => exact ⟨k + 1, by omega, by go_num, HOA4.out, by rw [HP0.out]; exact HOB4.out, HF4.out⟩
          case measure => simp [intOf]; omega
        | true =>
          have HP0 := Lib.hid (show valsV of size (F.take (k + 1)) = put (valsV of size (F.take k)) (size : Int) q1 by rw [HX2.out, put_le _ _ _ HSZ.out]; simp)
          go_wp2_with (first
            | (have hq := own4; go_at_call 58; refine (put_any w4 _ (valsV of size (F.take k)) (size : Int) q1 (Sl.of_own HOB4.out) (by have := HVLen.out; omega) HL1.out).mono ?_; rintro e w5 ⟨r5, rfl, own5, F5⟩; obtain ⟨ro5, rc5, rfl, -⟩ := own_out own5)
            | (have hq := F3; at_builtin; refine wpList_append_sl sty_boolW rfl _ _ (by rfl) w.heap.size _ _ _ (by rfl) (own_frS (HOA3.out w3 F3) ((Fr.refl [] w3).alloc _) (by simp)) _ [.bool true] (by rfl) (sl_one _ _ _) (by intro u hu; simp at hu; subst hu; rfl) (by simp; have := HN.out; omega) (by simp; have := HN.out; omega) (by have := (HF3.out w3 F3).size; simp; omega) ?_; intro v4 w4 own4 g4; obtain ⟨vo4, vc4, rfl, -⟩ := own_out own4; have HOB4 := Lib.hid (own_grown (own_frS (HOB3.out w3 F3) ((Fr.refl [] w3).alloc (.cells #[.bool true] 4)) (by simp)) g4 (own_apart (own_frS (HOB3.out w3 F3) ((Fr.refl [] w3).alloc (.cells #[.bool true] 4)) (by simp)) (own_frS (HOA3.out w3 F3) ((Fr.refl [] w3).alloc (.cells #[.bool true] 4)) (by simp)) (by decide))); have HF4 := Lib.hid (show Fr [] w w4 from ((HF3.out w3 F3).alloc _).grown g4 (fun q hq => .inr (own_ltS HOA.out q hq).1)))
            | (go_at_call 28; rw [← hwB]; refine (HOX.out wB).mono ?_; rintro e w3 ⟨rfl, F3⟩))
          have HOA5 := Lib.hid (show w5.ownsRow w.heap.size 4 1 (.slice vo4 (k + 1) vc4) (k + 1) (tv (hasV of (F.take (k + 1)))) by rw [HX1.out, tv_append]; exact own_frS own4 F5 (by simp))
          have HOB5 := Lib.hid (own_mono own5 HF4.out.size)
          have HF5 := Lib.hid (HF4.out.trans0 F5)
          clear own4 g4 own5 F5
          go_roundw
          case rel => exact ⟨k + 1, by omega, by go_num, HOA5.out, by rw [HP0.out]; exact HOB5.out, HF5.out⟩
          case measure => simp [intOf]; omega
      · obtain rfl : k = F.length := by omega
        rw [List.take_of_length_le (Nat.le_refl _)] at oa ob
        obtain ⟨vao, vcap, rfl, -⟩ := own_out oa
        obtain ⟨fao, fcap, rfl, -⟩ := own_out ob
        go_wp2_with fail
        go_meet
        case rel => exact ⟨_, _, rfl, rfl, oa, ob, F2⟩
  case rest =>
  obtain ⟨ve, vf, rfl, rfl, oa, ob, F1⟩ := hcut
  obtain ⟨vao, vcap, rfl, -⟩ := own_out oa
  obtain ⟨fao, fcap, rfl, -⟩ := own_out ob
  obtain ⟨wS, hwS⟩ : ∃ wS, wS = wc := ⟨_, rfl⟩
  rw [← hwS] at oa ob F1 ⊢
  clear hwS
  have T1 := WrTo.fr0 F1 (WrTo.refl (HW.out.fr0 F1))
  have HC := Lib.hid (containst_any wS _ (hasV of F) (Sl.of_own oa))
  have HOA := Lib.hid oa
  have HOB := Lib.hid ob
  have HLen := Lib.hid (show (hasV of F).length = F.length ∧ (valsV of size F).length ≤ 8000000 from ⟨hasV_len of F, by
    have h1 := valsV_len of size F
    have : F.length * size ≤ 1000000 * 8 := Nat.mul_le_mul (by omega) hs8
    omega⟩)
  have HTL := Lib.hid (show (putTold [] (hasV of F)).length ≤ F.length + 8 ∧ putTold [] (hasV of F) = toldN (hasV of F) from ⟨by rw [putTold_told, List.nil_append, ← hasV_len of F]; exact toldN_len _, by rw [putTold_told, List.nil_append]⟩)
  clear oa ob F1 c0 c1 c2 c3 c4 c5 c6 c7 cz
  refine hK2 _ _ ?_
  clear hK2
  by_cases hp : true ∈ hasV of F
  · have HE := Lib.hid (show numsW id size of F = partW id ((toldN (hasV of F) ++ [0]) ++ valsV of size F) from if_pos hp)
    rw [decide_eq_true hp] at HC
    clear hp
    go_wp2_with (first
      | (have hq := own5; go_at_call 55; refine (wpart_any T1 F5 _ ((putTold [] (hasV of F) ++ [0]) ++ valsV of size F) id (by simp only [List.length_append, bv_append, List.length_singleton]; exact own5) (by have := HTL.out.1; have := HLen.out.2; have := HB.out; have := HN.out; simp; omega)).mono ?_; rintro e w6 ⟨rfl, T6⟩)
      | (have hq := own4; at_builtin; refine wpList_append_sl sty_u8 rfl _ _ (by rfl) wS.heap.size _ _ _ (by rfl) own4 _ (bv (valsV of size F)) (by rfl) (Sl.of_own (own_frS HOB.out F4 (by simp))) (bv_one _) (by have := HTL.out.1; have := HLen.out.2; have := HN.out; simp [bv_length]; omega) (by have := HTL.out.1; have := HLen.out.2; have := HN.out; simp [bv_length]; omega) F4.size ?_; intro v5 w5 own5 g5; rw [bv_length (valsV of size F)] at own5; have F5 : Fr [] wS w5 := F4.grown g5 (fun q hq => .inr (own_ltS own4 q hq).1); obtain ⟨vo5, vc5, rfl, -⟩ := own_out own5)
      | (have hq := own2; at_builtin; refine wpList_append_sl sty_u8 rfl _ _ (by rfl) wS.heap.size _ _ _ (by rfl) (own_frS own2 ((Fr.refl [] w2).alloc _) (by simp)) _ (bv [0]) (by rfl) (sl_one _ _ _) (bv_one _) (by have := HTL.out.1; have := HN.out; simp [bv_length]; omega) (by have := HTL.out.1; have := HN.out; simp [bv_length]; omega) (by have := F2.size; simp; omega) ?_; intro v4 w4 own4 g4; rw [show (bv [0]).length = 1 from rfl] at own4; have F4 : Fr [] wS w4 := (F2.alloc _).grown g4 (fun q hq => .inr (own_ltS own2 q hq).1); obtain ⟨vo4, vc4, rfl, -⟩ := own_out own4)
      | (go_at_call 59; refine (puttold_any wS _ _ [] (hasV of F) (Sl.nil wS) (Sl.of_own HOA.out) (by have := HLen.out.1; have := HN.out; have e0 : ([] : List UInt8).length = 0 := rfl; omega) (by have := HLen.out.1; have := HN.out; omega)).mono ?_; rintro e w2 ⟨r, rfl, own2, F2⟩; obtain ⟨ro, rc, rfl, -⟩ := own_out own2)
      | (go_at_call 57; refine HC.out.mono ?_; rintro e w1 ⟨rfl, rfl⟩))
    go_end0
    exact ⟨rfl, by rw [HE.out, ← HTL.out.2]; exact T6⟩
  · have HE := Lib.hid (show numsW id size of F = [] from if_neg hp)
    rw [decide_eq_false hp] at HC
    clear hp
    go_wp2_with (go_at_call 57; refine HC.out.mono ?_; rintro e w1 ⟨rfl, rfl⟩)
    go_end0
    exact ⟨rfl, by rw [HE.out, List.append_nil]; exact T1⟩

set_option maxRecDepth 100000 in
set_option maxHeartbeats 4000000 in
theorem nums_2 (w : World) (lo p hi : Nat) (v : Value) (bs : List UInt8) (d : DW) (F : List Fil) (id : UInt8) (size : Nat) (of : Fil → Nat × Bool) (hsz : Cur.sized (size : Int) = true) (hlt : ∀ x, (of x).1 < 18446744073709551616)
    (hof : ∀ w x, Calls Tryd.prog 29 #[.agg (Fil.cells x).toArray] w fun e w' => e = .returned (.tuple #[.int .u64 ((of x).1 : Int), .bool (of x).2]) ∧ Fr [] w w')
    (h : WrAt w lo p v bs d) (hF : RowAt w hi 7 d.es F.length (fiV F)) (hn : F.length ≤ 1000000) (hb : bs.length ≤ 70000000) :
    Calls Tryd.prog 27 #[.pointer (some ⟨p, 0, none⟩), .int .u8 (id.toNat : Int), .int .i64 (size : Int), .func (.func 29) #[] #[]] w fun e w' => e = .returned (.tuple #[]) ∧ WrTo w lo p v (bs ++ numsW id size of F) d w' := by
  have HW := Lib.hid h
  obtain ⟨eao, ecap, he, hec, hem, -⟩ := hF.out
  have HR := Lib.hid hF
  rw [he] at HR
  obtain ⟨c0, c1, c2, c3, c4, c5, c6, c7, cz⟩ := cells8 h.blk
  rw [he] at c7
  clear h hF he
  have HB := Lib.hid hb
  have HN := Lib.hid hn
  have HOF := Lib.hid hof
  have HLT := Lib.hid hlt
  have HSZ := Lib.hid hsz
  have hs8 : size ≤ 8 := by unfold Cur.sized at hsz; simp at hsz; omega
  clear hof hlt hsz
  go_enter Tryd.func27, Tryd.ntmps27
  refine wp_seq_k fun K0 hK0 => ?_
  go_cut [8] (fun v2 wx => v2 = .slice none 0 0 ∧ wx = w)
  case first =>
    clear hK0
    go_wp2_with fail
    go_meet
    case rel => exact ⟨rfl, rfl⟩
  case rest =>
  obtain ⟨rfl, hw⟩ := hcut
  have hw' := hw.symm
  clear hw
  subst hw'
  (refine hK0 _ _ ?_; clear hK0; refine wp_seq_k fun K1 hK1 => ?_)
  go_cut [9] (fun v2 wx => v2 = .slice none 0 0 ∧ wx = w)
  case first =>
    clear hK1
    go_wp2_with fail
    go_meet
    case rel => exact ⟨rfl, rfl⟩
  case rest =>
  obtain ⟨rfl, hw⟩ := hcut
  have hw' := hw.symm
  clear hw
  subst hw'
  (refine hK1 _ _ ?_; clear hK1; refine wp_seq_k fun K2 hK2 => ?_)
  go_cut [8, 9] (fun v2 v3 wx => ∃ ve vf, v2 = ve ∧ v3 = vf ∧ wx.ownsRow w.heap.size 4 1 ve F.length (tv (hasV of F)) ∧ wx.ownsRow w.heap.size 5 1 vf (valsV of size F).length (bv (valsV of size F)) ∧ Fr [] w wx)
  case first =>
    clear hK2
    go_wp2_with fail
    go_loopw [8, 9, 20] (fun v2 v3 i wr => ∃ (k : Nat), k ≤ F.length ∧ i = .int .i64 k ∧ wr.ownsRow w.heap.size 4 1 v2 k (tv (hasV of (F.take k))) ∧ wr.ownsRow w.heap.size 5 1 v3 (valsV of size (F.take k)).length (bv (valsV of size (F.take k))) ∧ Fr [] w wr) (fun _ _ i _ => F.length - (intOf i).toNat)
    case atStart => exact ⟨0, Nat.zero_le _, rfl, World.ownsRow_nil _ _ _ _, World.ownsRow_nil _ _ _ _, Fr.refl _ _⟩
    case round =>
      obtain ⟨k, hk, rfl, oa, ob, F2⟩ := hrel
      by_cases hlt : k < F.length
      · obtain ⟨x, hx⟩ := some_get F k hlt
        obtain ⟨b1, o1, hao, hb1, e0, e1, e2, e3, e4, e5, e6⟩ := (HR.out.fr0 F2).fil hx hlt
        subst hao
        have HX1 := Lib.hid (hasV_take (of := of) hx)
        have HX2 := Lib.hid (valsV_take (of := of) (size := size) hx)
        have HVLen := Lib.hid (show (valsV of size (F.take k)).length ≤ 8000000 by
          have h1 := valsV_len of size (F.take k)
          rw [List.length_take, Nat.min_eq_left hk] at h1
          have : k * size ≤ 1000000 * 8 := Nat.mul_le_mul (by omega) hs8
          omega)
        have HOA := Lib.hid oa
        have HOB := Lib.hid ob
        obtain ⟨vao, vcap, rfl, -⟩ := own_out oa
        obtain ⟨fao, fcap, rfl, -⟩ := own_out ob
        have HF2 := Lib.hid F2
        have HL1 := Lib.hid (HLT.out x)
        obtain ⟨nm, st, dir, ha, attr, ht, tm⟩ := x
        dsimp only at e0 e1 e2 e3 e4 e5 e6
        have HOX := Lib.hid (fun wx => (show Calls Tryd.prog 29 #[.agg #[.string ⟨nm.toArray⟩, .bool st, .bool dir, .bool ha, .int .u32 attr.toNat, .bool ht, .int .u64 tm.toNat]] wx fun e w' => e = .returned (.tuple #[.int .u64 ((of ⟨nm, st, dir, ha, attr, ht, tm⟩).1 : Int), .bool (of ⟨nm, st, dir, ha, attr, ht, tm⟩).2]) ∧ Fr [] wx w' from HOF.out wx ⟨nm, st, dir, ha, attr, ht, tm⟩))
        obtain ⟨q1, hq1⟩ : ∃ q1, q1 = (of ⟨nm, st, dir, ha, attr, ht, tm⟩).1 := ⟨_, rfl⟩
        obtain ⟨q2, hq2⟩ : ∃ q2, q2 = (of ⟨nm, st, dir, ha, attr, ht, tm⟩).2 := ⟨_, rfl⟩
        rw [← hq1] at HL1
        simp only [← hq1, ← hq2] at HX2 HX1 HOX
        clear hq1 hq2
        have hnot : ∀ (x : Bool) (w : World), (Op.unary .not (.bool x)).run Tryd.prog w = .ok (.bool (!x)) w := fun _ _ => rfl
        clear hx oa ob F2
        obtain ⟨wB, hwB⟩ : ∃ wB, wB = wr.alloc (.cells #[.string ⟨nm.toArray⟩, .bool st, .bool dir, .bool ha, .int .u32 attr.toNat, .bool ht, .int .u64 tm.toNat] 39) := ⟨_, rfl⟩
        have FB0 : Fr [] wr wB := hwB ▸ (Fr.refl _ _).alloc _
        obtain ⟨d0, d1, d2, d3, d4, d5, d6⟩ := wbox7 (hwB ▸ Fr.refl [] wB : Fr [] (wr.alloc (.cells #[.string ⟨nm.toArray⟩, .bool st, .bool dir, .bool ha, .int .u32 attr.toNat, .bool ht, .int .u64 tm.toNat] 39)) wB) (by simp)
        have HF3 := Lib.hid (fun w3 (F : Fr [] wB w3) => (HF2.out.trans0 FB0).trans0 F)
        have HOA3 := Lib.hid (fun w3 (F : Fr [] wB w3) => own_frS (own_frS HOA.out FB0 (by simp)) F (by simp))
        have HOB3 := Lib.hid (fun w3 (F : Fr [] wB w3) => own_frS (own_frS HOB.out FB0 (by simp)) F (by simp))
        clear FB0
        cases q2 with
        | false =>
          have HP0 := Lib.hid (show valsV of size (F.take (k + 1)) = valsV of size (F.take k) by rw [HX2.out]; simp)
          go_wp2_with (first
            | (have hq := F3; at_builtin; refine wpList_append_sl sty_boolW rfl _ _ (by rfl) w.heap.size _ _ _ (by rfl) (own_frS (HOA3.out w3 F3) ((Fr.refl [] w3).alloc _) (by simp)) _ [.bool false] (by rfl) (sl_one _ _ _) (by intro u hu; simp at hu; subst hu; rfl) (by simp; have := HN.out; omega) (by simp; have := HN.out; omega) (by have := (HF3.out w3 F3).size; simp; omega) ?_; intro v4 w4 own4 g4; obtain ⟨vo4, vc4, rfl, -⟩ := own_out own4)
            | (go_at_call 29; rw [← hwB]; refine (HOX.out wB).mono ?_; rintro e w3 ⟨rfl, F3⟩))
          have HOA4 := Lib.hid (show w4.ownsRow w.heap.size 4 1 (.slice vo4 (k + 1) vc4) (k + 1) (tv (hasV of (F.take (k + 1)))) by rw [HX1.out, tv_append]; exact own4)
          have HOB4 := Lib.hid (own_grown (own_frS (HOB3.out w3 F3) ((Fr.refl [] w3).alloc (.cells #[.bool false] 4)) (by simp)) g4 (own_apart (own_frS (HOB3.out w3 F3) ((Fr.refl [] w3).alloc (.cells #[.bool false] 4)) (by simp)) (own_frS (HOA3.out w3 F3) ((Fr.refl [] w3).alloc (.cells #[.bool false] 4)) (by simp)) (by decide)))
          have HF4 := Lib.hid (show Fr [] w w4 from ((HF3.out w3 F3).alloc _).grown g4 (fun q hq => .inr (own_ltS HOA.out q hq).1))
          clear own4 g4
          go_wp2_with fail
          go_roundw
          case rel => exact ⟨k + 1, by omega, by go_num, HOA4.out, by rw [HP0.out]; exact HOB4.out, HF4.out⟩
          case measure => simp [intOf]; omega
        | true =>
          have HP0 := Lib.hid (show valsV of size (F.take (k + 1)) = put (valsV of size (F.take k)) (size : Int) q1 by rw [HX2.out, put_le _ _ _ HSZ.out]; simp)
          go_wp2_with (first
            | (have hq := own4; go_at_call 58; refine (put_any w4 _ (valsV of size (F.take k)) (size : Int) q1 (Sl.of_own HOB4.out) (by have := HVLen.out; omega) HL1.out).mono ?_; rintro e w5 ⟨r5, rfl, own5, F5⟩; obtain ⟨ro5, rc5, rfl, -⟩ := own_out own5)
            | (have hq := F3; at_builtin; refine wpList_append_sl sty_boolW rfl _ _ (by rfl) w.heap.size _ _ _ (by rfl) (own_frS (HOA3.out w3 F3) ((Fr.refl [] w3).alloc _) (by simp)) _ [.bool true] (by rfl) (sl_one _ _ _) (by intro u hu; simp at hu; subst hu; rfl) (by simp; have := HN.out; omega) (by simp; have := HN.out; omega) (by have := (HF3.out w3 F3).size; simp; omega) ?_; intro v4 w4 own4 g4; obtain ⟨vo4, vc4, rfl, -⟩ := own_out own4; have HOB4 := Lib.hid (own_grown (own_frS (HOB3.out w3 F3) ((Fr.refl [] w3).alloc (.cells #[.bool true] 4)) (by simp)) g4 (own_apart (own_frS (HOB3.out w3 F3) ((Fr.refl [] w3).alloc (.cells #[.bool true] 4)) (by simp)) (own_frS (HOA3.out w3 F3) ((Fr.refl [] w3).alloc (.cells #[.bool true] 4)) (by simp)) (by decide))); have HF4 := Lib.hid (show Fr [] w w4 from ((HF3.out w3 F3).alloc _).grown g4 (fun q hq => .inr (own_ltS HOA.out q hq).1)))
            | (go_at_call 29; rw [← hwB]; refine (HOX.out wB).mono ?_; rintro e w3 ⟨rfl, F3⟩))
          have HOA5 := Lib.hid (show w5.ownsRow w.heap.size 4 1 (.slice vo4 (k + 1) vc4) (k + 1) (tv (hasV of (F.take (k + 1)))) by rw [HX1.out, tv_append]; exact own_frS own4 F5 (by simp))
          have HOB5 := Lib.hid (own_mono own5 HF4.out.size)
          have HF5 := Lib.hid (HF4.out.trans0 F5)
          clear own4 g4 own5 F5
          go_roundw
          case rel => exact ⟨k + 1, by omega, by go_num, HOA5.out, by rw [HP0.out]; exact HOB5.out, HF5.out⟩
          case measure => simp [intOf]; omega
      · obtain rfl : k = F.length := by omega
        rw [List.take_of_length_le (Nat.le_refl _)] at oa ob
        obtain ⟨vao, vcap, rfl, -⟩ := own_out oa
        obtain ⟨fao, fcap, rfl, -⟩ := own_out ob
        go_wp2_with fail
        go_meet
        case rel => exact ⟨_, _, rfl, rfl, oa, ob, F2⟩
  case rest =>
  obtain ⟨ve, vf, rfl, rfl, oa, ob, F1⟩ := hcut
  obtain ⟨vao, vcap, rfl, -⟩ := own_out oa
  obtain ⟨fao, fcap, rfl, -⟩ := own_out ob
  obtain ⟨wS, hwS⟩ : ∃ wS, wS = wc := ⟨_, rfl⟩
  rw [← hwS] at oa ob F1 ⊢
  clear hwS
  have T1 := WrTo.fr0 F1 (WrTo.refl (HW.out.fr0 F1))
  have HC := Lib.hid (containst_any wS _ (hasV of F) (Sl.of_own oa))
  have HOA := Lib.hid oa
  have HOB := Lib.hid ob
  have HLen := Lib.hid (show (hasV of F).length = F.length ∧ (valsV of size F).length ≤ 8000000 from ⟨hasV_len of F, by
    have h1 := valsV_len of size F
    have : F.length * size ≤ 1000000 * 8 := Nat.mul_le_mul (by omega) hs8
    omega⟩)
  have HTL := Lib.hid (show (putTold [] (hasV of F)).length ≤ F.length + 8 ∧ putTold [] (hasV of F) = toldN (hasV of F) from ⟨by rw [putTold_told, List.nil_append, ← hasV_len of F]; exact toldN_len _, by rw [putTold_told, List.nil_append]⟩)
  clear oa ob F1 c0 c1 c2 c3 c4 c5 c6 c7 cz
  refine hK2 _ _ ?_
  clear hK2
  by_cases hp : true ∈ hasV of F
  · have HE := Lib.hid (show numsW id size of F = partW id ((toldN (hasV of F) ++ [0]) ++ valsV of size F) from if_pos hp)
    rw [decide_eq_true hp] at HC
    clear hp
    go_wp2_with (first
      | (have hq := own5; go_at_call 55; refine (wpart_any T1 F5 _ ((putTold [] (hasV of F) ++ [0]) ++ valsV of size F) id (by simp only [List.length_append, bv_append, List.length_singleton]; exact own5) (by have := HTL.out.1; have := HLen.out.2; have := HB.out; have := HN.out; simp; omega)).mono ?_; rintro e w6 ⟨rfl, T6⟩)
      | (have hq := own4; at_builtin; refine wpList_append_sl sty_u8 rfl _ _ (by rfl) wS.heap.size _ _ _ (by rfl) own4 _ (bv (valsV of size F)) (by rfl) (Sl.of_own (own_frS HOB.out F4 (by simp))) (bv_one _) (by have := HTL.out.1; have := HLen.out.2; have := HN.out; simp [bv_length]; omega) (by have := HTL.out.1; have := HLen.out.2; have := HN.out; simp [bv_length]; omega) F4.size ?_; intro v5 w5 own5 g5; rw [bv_length (valsV of size F)] at own5; have F5 : Fr [] wS w5 := F4.grown g5 (fun q hq => .inr (own_ltS own4 q hq).1); obtain ⟨vo5, vc5, rfl, -⟩ := own_out own5)
      | (have hq := own2; at_builtin; refine wpList_append_sl sty_u8 rfl _ _ (by rfl) wS.heap.size _ _ _ (by rfl) (own_frS own2 ((Fr.refl [] w2).alloc _) (by simp)) _ (bv [0]) (by rfl) (sl_one _ _ _) (bv_one _) (by have := HTL.out.1; have := HN.out; simp [bv_length]; omega) (by have := HTL.out.1; have := HN.out; simp [bv_length]; omega) (by have := F2.size; simp; omega) ?_; intro v4 w4 own4 g4; rw [show (bv [0]).length = 1 from rfl] at own4; have F4 : Fr [] wS w4 := (F2.alloc _).grown g4 (fun q hq => .inr (own_ltS own2 q hq).1); obtain ⟨vo4, vc4, rfl, -⟩ := own_out own4)
      | (go_at_call 59; refine (puttold_any wS _ _ [] (hasV of F) (Sl.nil wS) (Sl.of_own HOA.out) (by have := HLen.out.1; have := HN.out; have e0 : ([] : List UInt8).length = 0 := rfl; omega) (by have := HLen.out.1; have := HN.out; omega)).mono ?_; rintro e w2 ⟨r, rfl, own2, F2⟩; obtain ⟨ro, rc, rfl, -⟩ := own_out own2)
      | (go_at_call 57; refine HC.out.mono ?_; rintro e w1 ⟨rfl, rfl⟩))
    go_end0
    exact ⟨rfl, by rw [HE.out, ← HTL.out.2]; exact T6⟩
  · have HE := Lib.hid (show numsW id size of F = [] from if_neg hp)
    rw [decide_eq_false hp] at HC
    clear hp
    go_wp2_with (go_at_call 57; refine HC.out.mono ?_; rintro e w1 ⟨rfl, rfl⟩)
    go_end0
    exact ⟨rfl, by rw [HE.out, List.append_nil]; exact T1⟩

theorem wtime_any {w wx : World} {lo p hi : Nat} {v : Value} {bs : List UInt8} {d : DW} (T : WrTo w lo p v bs d wx) (F : List Fil) (hF : RowAt wx hi 7 d.es F.length (fiV F)) (hn : F.length ≤ 1000000) (hb : bs.length ≤ 70000000) :
    Calls Tryd.prog 27 #[.pointer (some ⟨p, 0, none⟩), .int .u8 20, .int .i64 8, .func (.func 28) #[] #[]] wx fun e w' => e = .returned (.tuple #[]) ∧ WrTo w lo p v (bs ++ numsW 20 8 timeOf F) d w' :=
  T.chain fun v1 W1 => nums_1 wx lo p hi v1 bs d F 20 8 timeOf (by decide) (fun x => x.time.toNat_lt) (fun w x => time_any w x) W1 hF hn hb
theorem wattr_any {w wx : World} {lo p hi : Nat} {v : Value} {bs : List UInt8} {d : DW} (T : WrTo w lo p v bs d wx) (F : List Fil) (hF : RowAt wx hi 7 d.es F.length (fiV F)) (hn : F.length ≤ 1000000) (hb : bs.length ≤ 70000000) :
    Calls Tryd.prog 27 #[.pointer (some ⟨p, 0, none⟩), .int .u8 21, .int .i64 4, .func (.func 29) #[] #[]] wx fun e w' => e = .returned (.tuple #[]) ∧ WrTo w lo p v (bs ++ numsW 21 4 attrOf F) d w' :=
  T.chain fun v1 W1 => nums_2 wx lo p hi v1 bs d F 21 4 attrOf (by decide) (fun x => by have := x.attr.toNat_lt; show x.attr.toNat < _; omega) (fun w x => attr_any w x) W1 hF hn hb
end Go.Proofs.YtkodindajfdagaaDoor
