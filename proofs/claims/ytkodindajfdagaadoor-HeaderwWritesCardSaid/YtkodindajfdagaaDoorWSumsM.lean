/- Contract: the writer's sums. No condition but that lengths fit. -/
import Derived.Test.YtkodindajfdagaaDoorWNumsM
import Derived.Deep.RegionHeld3
namespace Go.Proofs.YtkodindajfdagaaDoor
open Go.RowKit

theorem flat_get {α : Type} (f : α → List Value) (m : Nat) (hf : ∀ x, (f x).length = m) : ∀ (l : List α) (i : Nat) (x : α), l[i]? = some x → ∀ k, k < m → (l.flatMap f)[i * m + k]? = (f x)[k]?
  | [], i, x, h, k, hk => by simp at h
  | y :: t, 0, x, h, k, hk => by
    simp at h
    subst h
    rw [List.flatMap_cons, Nat.zero_mul, Nat.zero_add, List.getElem?_append_left (by rw [hf]; exact hk)]
  | y :: t, i + 1, x, h, k, hk => by
    rw [List.flatMap_cons, show (i + 1) * m + k = m + (i * m + k) by rw [Nat.add_mul, Nat.one_mul]; omega, List.getElem?_append_right (by rw [hf]; omega), hf, Nat.add_sub_cancel_left]
    exact flat_get f m hf t i x (by simpa using h) k hk
theorem RowAt.ck {w : World} {hi : Nat} {ao : Option Addr} {n cap : Nat} {cs : List Ck} (h : RowAt w hi 2 (.slice ao n cap) n (ckV cs)) {k : Nat} {x : Ck} (hx : cs[k]? = some x) (hk : k < n) :
    ∃ b o, ao = some ⟨b, o, none⟩ ∧ b < w.heap.size ∧ w.cell? ⟨b, o + k * 2, none⟩ = some (.bool x.has) ∧ w.cell? ⟨b, o + k * 2 + 1, none⟩ = some (.int .u32 x.sum.toNat) := by
  obtain ⟨ao', cap', e, h1, h2, h3⟩ := h
  injection e with e1 e2 e3
  subst e1 e3
  obtain ⟨b, o, q1, -, q3, q4⟩ := h3 k hk
  have key : ∀ j, j < 2 → w.cell? ⟨b, o + k * 2 + j, none⟩ = ([.bool x.has, .int .u32 x.sum.toNat] : List Value)[j]? := fun j hj => (q4 j hj).trans (flat_get (fun c : Ck => [.bool c.has, .int .u32 c.sum.toNat]) 2 (fun _ => rfl) cs k x hx j hj)
  exact ⟨b, o, q1, q3, key 0 (by decide), key 1 (by decide)⟩
theorem wbox2 {w wr : World} {t : TypeId} {a0 a1 : Value} {S : List Nat} (F : Fr S (w.alloc (.cells #[a0, a1] t)) wr) (hS : w.heap.size ∉ S) :
    wr.cell? ⟨w.heap.size, 0, none⟩ = some a0 ∧ wr.cell? ⟨w.heap.size, 1, none⟩ = some a1 := by
  have key : ∀ (i : Nat), wr.cell? ⟨w.heap.size, i, none⟩ = #[a0, a1][i]? := fun i => by
    rw [F.cell (p := ⟨w.heap.size, i, none⟩) (by simp) hS, Go.Joins.cell_of_block (heap_alloc_new w _)]
  exact ⟨by rw [key]; rfl, by rw [key]; rfl⟩
def hasC (cs : List Ck) : List Bool := cs.map (·.has)
theorem hasC_len (cs : List Ck) : (hasC cs).length = cs.length := by simp [hasC]
theorem ckB_len (cs : List Ck) : (cs.flatMap ckB).length ≤ 4 * cs.length := by
  induction cs with
  | nil => simp
  | cons c t ih =>
    rw [List.flatMap_cons, List.length_append, List.length_cons]
    have : (ckB c).length ≤ 4 := by unfold ckB; split <;> simp [leBytes_length]
    omega
theorem ckB_take {cs : List Ck} {k : Nat} {x : Ck} (h : cs[k]? = some x) : (cs.take (k + 1)).flatMap ckB = (cs.take k).flatMap ckB ++ ckB x := by
  simp [List.take_add_one, h]
/-- A row of flags, k of them set. -/
def hasP (cs : List Ck) (k : Nat) : List Bool := hasC (cs.take k) ++ List.replicate (cs.length - k) false
theorem hasP_set {cs : List Ck} {k : Nat} {x : Ck} (h : cs[k]? = some x) : (tv (hasP cs k)).set k (.bool x.has) = tv (hasP cs (k + 1)) := by
  have hk : k < cs.length := (List.getElem?_eq_some_iff.1 h).1
  have hl : (hasC (cs.take k)).length = k := by rw [hasC_len, List.length_take]; omega
  unfold hasP
  rw [tv_append, List.set_append_right _ _ (by rw [tv_length, hl]; exact Nat.le_refl _), tv_length, hl, Nat.sub_self, show cs.length - k = (cs.length - (k + 1)) + 1 by omega, List.replicate_succ]
  rw [show hasC (cs.take (k + 1)) = hasC (cs.take k) ++ [x.has] by simp [hasC, List.take_add_one, h], tv_append, tv_append, List.append_assoc]
  rfl
theorem hasP_len (cs : List Ck) (k : Nat) (h : k ≤ cs.length) : (hasP cs k).length = cs.length := by
  unfold hasP
  rw [List.length_append, hasC_len, List.length_take, List.length_replicate]
  omega

set_option maxRecDepth 100000 in
set_option maxHeartbeats 4000000 in
theorem sums_one (w : World) (lo p hi : Nat) (v sv : Value) (bs : List UInt8) (d : DW) (cs : List Ck) (h : WrAt w lo p v bs d) (hR : ∀ w2, Fr (p :: v.ownBlock.toList) w w2 → RowAt w2 hi 2 sv cs.length (ckV cs)) (hn : cs.length ≤ 1000000) (hb : bs.length ≤ 60000000) :
    Calls Tryd.prog 47 #[.pointer (some ⟨p, 0, none⟩), sv] w fun e w' => e = .returned (.tuple #[]) ∧ WrTo w lo p v (bs ++ sumsW cs) d w' := by
  have HW := Lib.hid h
  obtain ⟨sao, scap, rfl, -, -, -⟩ := (hR w (Fr.refl _ _)).out
  have HR := Lib.hid hR
  have HB := Lib.hid hb
  have HN := Lib.hid hn
  clear h hR
  obtain ⟨i0, hi0, hz0, hs0, hb0⟩ := info_parts info_boolW
  have hb0' : i0.bytes * cs.length ≤ 281474976710656 := by rw [hb0]; omega
  go_enter Tryd.func47, Tryd.ntmps47
  go_wp2_with (at_make; refine wpList_make_full _ rfl _ _ _ rfl w.heap.size _ i0 _ _ Tryd.underlying76 hi0 hz0 hs0 _ _ _ _ cs.length (by rfl) (by rfl) rfl rfl hb0' (by unfold maxLen; omega) (Nat.le_refl _) ?_; intro w1 own1 g1)
  have F1 : Fr [] w w1 := (Fr.refl _ _).grown g1 (by simp)
  have e3 : List.replicate cs.length (Value.bool false) = tv (hasP cs 0) := by simp [tv, hasP, hasC]
  have e4 : (madeCells (Value.bool false).cells (cs.length * 1)).toList = List.replicate cs.length (Value.bool false) := by rw [Nat.mul_one]; simp [Value.cells, toList_madeCells_one]
  rw [e4, e3] at own1
  clear g1 e3 e4 hi0 hz0 hs0 hb0 hb0'
  go_loopw [14] (fun i wr => ∃ k : Nat, k ≤ cs.length ∧ i = .int .i64 k ∧ wr.ownsRow w.heap.size 4 1 (.slice (some ⟨w.heap.size, 0, none⟩) cs.length cs.length) cs.length (tv (hasP cs k)) ∧ Fr [] w wr) (fun i _ => cs.length - (intOf i).toNat)
  case atStart => exact ⟨0, Nat.zero_le _, rfl, own1, F1⟩
  case round =>
    obtain ⟨k, hk, rfl, own, F⟩ := hrel
    by_cases hlt : k < cs.length
    · obtain ⟨x, hx⟩ := some_get cs k hlt
      obtain ⟨b1, o1, hao, hb1, e0, e1⟩ := (HR.out wr (F.mono (by simp))).ck hx hlt
      subst hao
      have hcell := own.cellAt k (by omega)
      obtain ⟨y, hy⟩ := some_get (tv (hasP cs k)) k (by rw [tv_length, hasP_len _ _ hk]; exact hlt)
      rw [hy] at hcell
      have hfz := own.frozenAt k
      have hgs := (own_ltS own w.heap.size rfl).2
      obtain ⟨hs, sm⟩ := x
      have hst := (own.stored k (.bool hs)).1
      rw [hasP_set hx] at hst
      have HST := Lib.hid (own_frS hst ((Fr.refl [] _).alloc (.cells #[.bool hs, .int .u32 sm.toNat] 44)) (by simp))
      have HF := Lib.hid (show Fr [] w ((wr.setCell ⟨w.heap.size, k, none⟩ (.bool hs)).alloc (.cells #[.bool hs, .int .u32 sm.toNat] 44)) from (F.setCell (.inr (Nat.le_refl _)) _).alloc _)
      have FB : Fr [] wr (wr.alloc (.cells #[.bool hs, .int .u32 sm.toNat] 44)) := (Fr.refl _ _).alloc _
      have c1 := (FB.cell (p := ⟨w.heap.size, k, none⟩) hgs (by simp)).trans hcell
      have z1 : (wr.alloc (.cells #[.bool hs, .int .u32 sm.toNat] 44)).frozen? ⟨w.heap.size, k, none⟩ = false := (own_frS own FB (by simp)).frozenAt k
      clear hx hst own F hy hcell hfz
      go_wp2_with fail
      go_roundw
      case rel => exact ⟨k + 1, by omega, by go_num, HST.out, HF.out⟩
      case measure => simp [intOf]; omega
    · obtain rfl : k = cs.length := by omega
      have e5 : hasP cs cs.length = hasC cs := by unfold hasP; rw [List.take_of_length_le (Nat.le_refl _), Nat.sub_self]; simp
      rw [e5] at own
      obtain ⟨wS, hwS⟩ : ∃ wS, wS = wr := ⟨_, rfl⟩
      rw [← hwS] at own F ⊢
      clear hwS
      have HOwn := Lib.hid own
      have T0 := WrTo.refl (HW.out.fr0 F)
      have HF := Lib.hid F
      have HKeep := Lib.hid (fun (bs2 : List UInt8) (w2 : World) (T : WrTo wS lo p v bs2 d w2) => own_wr own T.frm fun q hq => (show q ≠ p ∧ v.ownBlock ≠ some q from by
        cases hq
        refine ⟨fun e => ?_, fun e => ?_⟩
        · have e' : w.heap.size = p := e
          have := HW.out.lt
          omega
        · have := (HW.out.gs w.heap.size e).2
          omega))
      have HRK := Lib.hid (fun (bs2 : List UInt8) (w2 : World) (T : WrTo wS lo p v bs2 d w2) => HR.out w2 ((F.mono (T := p :: v.ownBlock.toList) (by simp)).trans T.frm (fun i hi => .inl hi)))
      have HC := Lib.hid (containst_any wS _ (hasC cs) (Sl.of_own own))
      have hnot : ∀ (x : Bool) (w : World), (Op.unary .not (.bool x)).run Tryd.prog w = .ok (.bool (!x)) w := fun _ _ => rfl
      clear own e5 F own1 F1
      by_cases hp : true ∈ hasC cs
      rotate_left
      · have HE := Lib.hid (show sumsW cs = [] from if_neg hp)
        rw [decide_eq_false hp] at HC
        clear hp
        go_wp2_with (go_at_call 57; refine HC.out.mono ?_; rintro e w2 ⟨rfl, rfl⟩)
        first | go_end0 | (simp only [Exit.inBlock, Exit.then]; refine bodyPost_ret (results_none rfl _ _ _) rfl ?_) | refine bodyPost_ret (results_none rfl _ _ _) rfl ?_
        exact ⟨rfl, by rw [HE.out, List.append_nil]; exact WrTo.fr0 HF.out T0⟩
      have HE := Lib.hid (show bs ++ sumsW cs = putTold (bs ++ [10]) (hasC cs) ++ cs.flatMap ckB by rw [putTold_told, show sumsW cs = 10 :: (toldN (hasC cs) ++ cs.flatMap ckB) from if_pos hp]; simp)
      have HTL := Lib.hid (show (putTold (bs ++ [10]) (hasC cs)).length ≤ bs.length + 1 + (cs.length + 8) by
        have := toldN_len (hasC cs)
        rw [hasC_len] at this
        rw [putTold_told, List.length_append, List.length_append, List.length_singleton]
        omega)
      rw [decide_eq_true hp] at HC
      clear hp
      obtain ⟨b1, hb1⟩ : ∃ b1, b1 = bs ++ [10] := ⟨_, rfl⟩
      have HP := Lib.hid (fun (w2 : World) (T : WrTo wS lo p v (bs ++ [10]) d w2) => (show WrTo wS lo p v b1 d w2 from hb1 ▸ T))
      rw [← hb1] at HE HTL
      have HL1 := Lib.hid (show b1.length = bs.length + 1 by rw [hb1, List.length_append, List.length_singleton])
      clear hb1
      obtain ⟨b2, hb2⟩ : ∃ b2, b2 = putTold b1 (hasC cs) := ⟨_, rfl⟩
      rw [← hb2] at HE HTL
      have HPT := Lib.hid (fun (wx : World) (v1 v2 : Value) (h1 : Sl wx v1 (bv b1)) (h2 : Sl wx v2 (tv (hasC cs))) => (show Calls Tryd.prog 59 #[v1, v2] wx (NewBytes b2 wx) from hb2 ▸ puttold_any wx v1 v2 b1 (hasC cs) h1 h2 (by rw [hasC_len, HL1.out]; have := HN.out; have := HB.out; omega) (by rw [hasC_len]; have := HN.out; omega)))
      clear hb2
      go_wp2_with (first
        | (have hq := W2; go_at_call 59; refine (HPT.out w2 _ _ (Sl.of_own W2.own) (Sl.of_own (HKeep.out _ _ T1))).mono ?_; rintro e w3 ⟨r3, rfl, o3, F3⟩; obtain ⟨ro3, rc3, rfl, -⟩ := own_out o3; have HT3 := Lib.hid (WrTo.trans G2 hk2 (W2.store F3 o3)); obtain ⟨f0, f1⟩ : w3.cell? ⟨p, 0, none⟩ = some (.slice vo2 b1.length vc2) ∧ w3.frozen? ⟨p, 0, none⟩ = false := ⟨(cells8 ((F3.block p W2.lt (by simp)).trans W2.blk)).1, (cells8 ((F3.block p W2.lt (by simp)).trans W2.blk)).2.2.2.2.2.2.2.2 0⟩)
        | (have hq := HC1; go_at_call 11; refine (wput_any (T0.then0 ((Fr.refl _ _).alloc _)) _ [10] (sl_one _ _ _) (by have := HB.out; rw [List.length_singleton]; omega)).mono ?_; rintro e w2 ⟨rfl, T1'⟩; have T1 := HP.out _ T1'; clear T1'; obtain ⟨v2, W2, G2, hk2⟩ := T1.out; obtain ⟨vo2, vc2, rfl, -⟩ := own_out W2.own; have e0 := (cells8 W2.blk).1)
        | (go_at_call 57; refine HC.out.mono ?_; rintro e w1' ⟨rfl, rfl⟩; have HC1 := 0))
      have T3 := HT3.out
      obtain ⟨w4, hw4⟩ : ∃ w4, w4 = w3.setCell ⟨p, 0, none⟩ (.slice ro3 b2.length rc3) := ⟨_, rfl⟩
      rw [← hw4] at T3 ⊢
      clear hw4 HT3 f0 f1 o3 F3 hk2 G2 e0 hq W2 T1 HC1 T0
      go_loopw [42] (fun i wx => ∃ k : Nat, k ≤ cs.length ∧ i = .int .i64 k ∧ WrTo wS lo p v (b2 ++ (cs.take k).flatMap ckB) d wx) (fun i _ => cs.length - (intOf i).toNat)
      case atStart => exact ⟨0, Nat.zero_le _, rfl, by simpa using T3⟩
      case round =>
        obtain ⟨k, hk, rfl, T⟩ := hrel
        rename World => wA
        by_cases hlt : k < cs.length
        · obtain ⟨x, hx⟩ := some_get cs k hlt
          obtain ⟨q1, o1, hao, hq1, e0, e1⟩ := (HRK.out _ _ T).ck hx hlt
          subst hao
          have HX := Lib.hid (ckB_take hx)
          have hbl : (b2 ++ (cs.take k).flatMap ckB).length ≤ 70000000 := by
            have h1 := ckB_len (cs.take k)
            have h2 := HTL.out
            have h3 := HL1.out
            have h4 := HB.out
            have h5 := HN.out
            rw [List.length_take] at h1
            rw [List.length_append]
            omega
          obtain ⟨hs, sm⟩ := x
          obtain ⟨b3, hb3⟩ : ∃ b3, b3 = b2 ++ (cs.take k).flatMap ckB := ⟨_, rfl⟩
          rw [← hb3] at T hbl
          have HX3 := Lib.hid (show b2 ++ (cs.take (k + 1)).flatMap ckB = b3 ++ ckB ⟨hs, sm⟩ by rw [HX.out, hb3, List.append_assoc])
          clear hx hb3
          obtain ⟨wB, hwB⟩ : ∃ wB, wB = wA.alloc (.cells #[.bool hs, .int .u32 sm.toNat] 44) := ⟨_, rfl⟩
          have FB : Fr [] wA wB := hwB ▸ (Fr.refl _ _).alloc _
          obtain ⟨d0, d1⟩ := wbox2 (hwB ▸ Fr.refl [] wB : Fr [] (wA.alloc (.cells #[.bool hs, .int .u32 sm.toNat] 44)) wB) (by simp)
          have TB := T.then0 FB
          cases hs with
          | false =>
            have HE0 := Lib.hid (show b3 ++ ckB ⟨false, sm⟩ = b3 by simp [ckB])
            subst hwB
            go_wp2_with fail
            go_roundw
            case rel => exact ⟨k + 1, by omega, by go_num, by rw [HX3.out, HE0.out]; exact TB⟩
            case measure => simp [intOf]; omega
          | true =>
            have HE0 := Lib.hid (show b3 ++ ckB ⟨true, sm⟩ = put b3 (4 : Nat) sm.toNat by rw [put_le _ _ _ (by decide)]; simp [ckB])
            go_upto_region 13 with fail
            rw [← hwB]
            clear hwB
            have TD := TB.then0 ((Fr.refl [] wB).drew)
            obtain ⟨v5, W5, G5, hk5⟩ := TD.out
            obtain ⟨vo5, vc5, rfl, -⟩ := own_out W5.own
            have x0 := (cells8 W5.blk).1
            have y0 : wB.cell? ⟨p, 0, none⟩ = some (.slice vo5 b3.length vc5) := x0
            have x1 : wB.drew.cell? ⟨wA.heap.size, 1, none⟩ = some (.int .u32 sm.toNat) := d1
            have hw8 : IntKind.u64.wrap (sm.toNat : Int) = (sm.toNat : Int) := by have := sm.toNat_lt; simp [IntKind.wrap, IntKind.bits, IntKind.signed]; omega
            have HPU := Lib.hid (put_any wB.drew _ b3 (4 : Nat) sm.toNat (Sl.of_own W5.own) (by omega) (by have := sm.toNat_lt; omega))
            rw [← HE0.out] at HPU
            go_region_law (first
              | (go_simp; go_at_call 58; refine HPU.out.mono ?_; rintro e w6 ⟨r6, rfl, o6, F6⟩; obtain ⟨ro6, rc6, rfl, -⟩ := own_out o6; have HT6 := Lib.hid (WrTo.trans G5 hk5 (W5.store F6 o6)); obtain ⟨f0, f1⟩ : w6.cell? ⟨p, 0, none⟩ = some (.slice vo5 b3.length vc5) ∧ w6.frozen? ⟨p, 0, none⟩ = false := ⟨(cells8 ((F6.block p W5.lt (by simp)).trans W5.blk)).1, (cells8 ((F6.block p W5.lt (by simp)).trans W5.blk)).2.2.2.2.2.2.2.2 0⟩))
            all_goals
              have T7 := HT6.out
              rw [List.length_append] at T7
              go_wp2_with fail
              go_roundw
              case rel => exact ⟨k + 1, by omega, by go_num, by rw [HX3.out]; exact T7⟩
              case measure => simp [intOf]; omega
        · obtain rfl : k = cs.length := by omega
          rw [List.take_of_length_le (Nat.le_refl _), ← HE.out] at T
          go_wp2_with fail
          go_end0
          exact ⟨rfl, WrTo.fr0 HF.out T⟩

/-- A row of structs that stays while the writer goes on. -/
def RowSt (wx : World) (lo p : Nat) (d : DW) (hi m : Nat) (sv : Value) (n : Nat) (xs : List Value) : Prop :=
  ∀ v1 bs1, WrAt wx lo p v1 bs1 d → ∀ w2, Fr (p :: v1.ownBlock.toList) wx w2 → RowAt w2 hi m sv n xs
theorem RowSt.arg {wx : World} {lo p : Nat} {d : DW} {hi m : Nat} {sv : Value} {n : Nat} {xs : List Value} (h : RowAt wx hi m sv n xs) (hp : hi ≤ p) : RowSt wx lo p d hi m sv n xs :=
  fun _ _ W _ F => h.fr F (W.above hp)
theorem RowAt.of_own {w : World} {base e m n : Nat} {v : Value} {xs : List Value} (h : w.ownsRow base e m v n xs) (hi : Nat) (hhi : w.heap.size ≤ hi) : RowAt w hi m v n xs := by
  obtain ⟨ao, cap, rfl, hc1, hc2⟩ := own_outS h
  refine ⟨ao, cap, rfl, hc1, hc2, fun j hj => ?_⟩
  have hx := h.1
  rcases h.2 with ⟨e1, e2⟩ | ⟨g, cap', cur, e1, hb, hg, _⟩
  · omega
  · injection e1 with e3 e4 e5
    subst e3
    have hlt := (Array.getElem?_eq_some_iff.1 hg).1
    refine ⟨g, 0, rfl, by omega, hlt, fun k hk => ?_⟩
    rw [Nat.zero_add]
    refine h.cellAt (j * m + k) ?_
    have : (j + 1) * m ≤ n * m := Nat.mul_le_mul_right _ hj
    rw [Nat.add_mul, Nat.one_mul] at this
    omega
theorem RowSt.own {wx : World} {lo p : Nat} {d : DW} {base e m : Nat} {sv : Value} {n : Nat} {xs : List Value} (h : wx.ownsRow base e m sv n xs) (he : e ≠ 5) (hp : p < base) : RowSt wx lo p d wx.heap.size m sv n xs :=
  fun v1 bs1 W w2 F => by
    have o2 := own_wr h F (fun k hk => ⟨by have := (own_ltS h k hk).1; omega, fun e2 => own_apart h W.own he k hk e2⟩)
    obtain ⟨ao, cap, rfl, hc1, hc2, h3⟩ := (RowAt.of_own h wx.heap.size (Nat.le_refl _)).out
    obtain ⟨ao', cap', e', -, -, h4⟩ := (RowAt.of_own o2 w2.heap.size (Nat.le_refl _)).out
    injection e' with q1 q2 q3
    subst q1 q3
    refine ⟨_, _, rfl, hc1, hc2, fun j hj => ?_⟩
    obtain ⟨b, o, r1, r2, r3, -⟩ := h3 j hj
    obtain ⟨b', o', s1, s2, s3, s4⟩ := h4 j hj
    have e2 : b = b' ∧ o = o' := by rw [r1] at s1; injection s1 with s1; injection s1 with x1 x2 x3; exact ⟨x1, x2⟩
    obtain ⟨rfl, rfl⟩ := e2
    exact ⟨b, o, r1, r2, s3, s4⟩
theorem wsums_any {w wx : World} {lo p hi : Nat} {v : Value} {bs : List UInt8} {d : DW} (T : WrTo w lo p v bs d wx) (sv : Value) (cs : List Ck) (hR : RowSt wx lo p d hi 2 sv cs.length (ckV cs)) (hn : cs.length ≤ 1000000) (hb : bs.length ≤ 60000000) :
    Calls Tryd.prog 47 #[.pointer (some ⟨p, 0, none⟩), sv] wx fun e w' => e = .returned (.tuple #[]) ∧ WrTo w lo p v (bs ++ sumsW cs) d w' :=
  T.chain fun v1 W1 => sums_one wx lo p hi v1 sv bs d cs W1 (hR v1 bs W1) hn hb
end Go.Proofs.YtkodindajfdagaaDoor
