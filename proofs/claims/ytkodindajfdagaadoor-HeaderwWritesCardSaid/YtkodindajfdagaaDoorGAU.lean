/- Contracts: the reference's sums, part. No condition but that lengths fit. -/
import Derived.Test.YtkodindajfdagaaDoorGAT
import Derived.Test.YtkodindajfdagaaDoorWRowsM
import Derived.Lib.AppendStr
import Derived.Deep.AppendLies
namespace Go.Proofs.YtkodindajfdagaaDoor
open Go.RowKit

theorem hasC_take {cs : List Ck} {k : Nat} {x : Ck} (h : cs[k]? = some x) : hasC (cs.take (k + 1)) = hasC (cs.take k) ++ [x.has] := by
  simp [hasC, List.take_add_one, h]
theorem anyC_take {cs : List Ck} {k : Nat} {x : Ck} (h : cs[k]? = some x) : (cs.take (k + 1)).any (·.has) = ((cs.take k).any (·.has) || x.has) := by
  simp [List.take_add_one, h]
theorem anyC_mem (cs : List Ck) : cs.any (·.has) = decide (true ∈ cs.map (·.has)) := by
  induction cs with
  | nil => rfl
  | cons c t ih =>
    rw [List.any_cons, List.map_cons, ih]
    cases c.has <;> simp

set_option maxRecDepth 100000 in
set_option maxHeartbeats 4000000 in
theorem rsums_any (base hi : Nat) (w : World) (v sv : Value) (bs : List UInt8) (cs : List Ck) (own : w.ownsRow base 5 1 v bs.length (bv bs)) (hbase : base ≤ w.heap.size) (hR : ∀ w2, Fr v.ownBlock.toList w w2 → RowAt w2 hi 2 sv cs.length (ckV cs)) (hn : cs.length ≤ 1000000) (hb : bs.length ≤ 60000000) :
    Calls Tryd.prog 31 #[v, sv] w (PutB base w v (bs ++ sumsW cs)) := by
  obtain ⟨sao, scap, rfl, -, -, -⟩ := (hR w (Fr.refl _ _)).out
  obtain ⟨vo, vc, rfl, hvc1, hvc2, -⟩ := own_out own
  have HR := Lib.hid hR
  have HO := Lib.hid own
  have HN := Lib.hid hn
  have HB := Lib.hid hb
  clear hR own
  have hnot : ∀ (x : Bool) (w : World), (Op.unary .not (.bool x)).run Tryd.prog w = .ok (.bool (!x)) w := fun _ _ => rfl
  go_enter Tryd.func31, Tryd.ntmps31
  go_wp2_with fail
  go_loopw [5, 6, 7] (fun v5 v6 i wr => ∃ k : Nat, k ≤ cs.length ∧ i = .int .i64 k ∧ v6 = .bool ((cs.take k).any (·.has)) ∧ wr.ownsRow w.heap.size 4 1 v5 k (tv (hasC (cs.take k))) ∧ Fr [] w wr) (fun _ _ i _ => cs.length - (intOf i).toNat)
  case atStart => exact ⟨0, Nat.zero_le _, rfl, rfl, World.ownsRow_nil _ _ _ _, Fr.refl _ _⟩
  case round =>
    obtain ⟨k, hk, rfl, rfl, ownh, F⟩ := hrel
    obtain ⟨ho, hc, rfl, -⟩ := own_out ownh
    by_cases hlt : k < cs.length
    · obtain ⟨x, hx⟩ := some_get cs k hlt
      have hRow := HR.out wr (F.mono (by simp))
      have HC1 := Lib.hid (fun (w7 : World) (F7 : Fr [] w w7) => (show ∀ b1 o1, sao = some ⟨b1, o1, none⟩ → w7.cell? ⟨b1, o1 + k * 2, none⟩ = some (.bool x.has) from fun b1 o1 e => by
        obtain ⟨b2, o2, hao2, -, g0, -⟩ := (HR.out w7 (F7.mono (by simp))).ck hx hlt
        rw [e] at hao2
        injection hao2 with hao2
        injection hao2 with q1 q2
        subst q1 q2
        exact g0))
      obtain ⟨b1, o1, hao, hb1, e0, e1⟩ := hRow.ck hx hlt
      subst hao
      have HH := Lib.hid (hasC_take hx)
      have HA := Lib.hid (anyC_take hx)
      have hltI : (k : Int) < (cs.length : Int) := by omega
      have HF := Lib.hid F
      obtain ⟨xh, xs⟩ := x
      dsimp only at e0 HH HA HC1
      generalize (cs.take k).any (·.has) = sm at *
      generalize hhl : hasC (cs.take k) = hl at *
      have hlen : hl.length = k := by rw [← hhl, hasC_len, List.length_take]; omega
      have HLen := Lib.hid hlen
      clear hx hhl hlen
      cases sm
      all_goals
        go_wp2_with (at_builtin; refine wpList_append_sl sty_boolW rfl _ _ (by rfl) w.heap.size _ _ _ (by rfl) (ownh.alloc _) _ [.bool xh] (by rfl) (sl_one _ _ _) (by intro u hu; simp at hu; subst hu; rfl) (by have := HN.out; simp; omega) (by have := HN.out; simp; omega) (by have := HF.out.size; simp; omega) ?_; intro v7 w7 own7 g7; have F7 : Fr [] w w7 := (HF.out.alloc _).grown g7 (fun t ht => .inr (own_ltS ownh t ht).1); have c1 := HC1.out w7 F7 b1 o1 rfl; obtain ⟨vo7, vc7, rfl, -⟩ := own_out own7)
        go_wp2_with fail
        go_roundw
        case rel => exact ⟨k + 1, by omega, by go_num, by rw [HA.out]; first | rfl | simp, by rw [HH.out, tv_append]; exact own7, F7⟩
        case measure => simp [intOf]; omega
    obtain rfl : k = cs.length := by omega
    rw [List.take_of_length_le (Nat.le_refl _)] at ownh ⊢
    have HM := Lib.hid (anyC_mem cs)
    cases hs : cs.any (·.has) with
    | false =>
      have HE := Lib.hid (show bs ++ sumsW cs = bs by
        unfold sumsW
        rw [if_neg (by rw [HM.out, decide_eq_false_iff_not] at hs; exact hs), List.append_nil])
      clear hs
      go_wp2_with fail
      go_ret
      exact ⟨_, rfl, by rw [HE.out]; exact own_frS HO.out F (by simp), F.mono (by simp), fun k hk => .inl hk⟩
    | true =>
      have HE := Lib.hid (show bs ++ sumsW cs = ((bs ++ [10]) ++ toldN (hasC cs)) ++ cs.flatMap ckB by
        unfold sumsW hasC
        rw [if_pos (by rw [HM.out, decide_eq_true_eq] at hs; exact hs)]
        simp only [List.append_assoc, List.cons_append, List.nil_append])
      clear hs
      have HOh := Lib.hid ownh
      have HFw := Lib.hid F
      have HOb := Lib.hid (own_frS HO.out F (by simp))
      have HLh := Lib.hid (hasC_len cs)
      have HVB := Lib.hid (fun k (hk : (Value.slice vo bs.length vc).ownBlock = some k) => (own_ltS HO.out k hk).2)
      have hbsz := F.size
      have h10 : (bv [10]).length = 1 := rfl
      have H10 := Lib.hid h10
      clear h10
      obtain ⟨b8, hb8⟩ : ∃ b8, b8 = bs ++ [10] := ⟨_, rfl⟩
      have HB8 := Lib.hid hb8
      have HL8 := Lib.hid (show b8.length = bs.length + 1 by rw [hb8]; simp)
      clear hb8
      generalize hhc : hasC cs = hcs at *
      have HHC := Lib.hid hhc
      clear hhc
      clear ownh F
      obtain ⟨X, hX⟩ : ∃ X, X = putTold b8 hcs := ⟨_, rfl⟩
      have HXP := Lib.hid hX
      clear hX
      go_upto_region 11 with (first
        | (have hq := F8; go_at_call 36; go_loud (refine (refputtold_any w8 _ _ b8 hcs (Sl.of_own own8) (Sl.of_own oh8) (by have := HB.out; have := HN.out; have := HL8.out; have := HLh.out; omega) (by have := HN.out; have := HLh.out; omega)).mono ?_; rintro e w9 ⟨r9, rfl, own9, F9⟩; rw [← HXP.out] at own9; obtain ⟨ro9, rc9, rfl, -⟩ := own_out own9))
        | (at_builtin; go_loud (refine wpList_append_sl_at sty_u8 rfl _ _ (by rfl) base _ _ _ (by rfl) (HOb.out.alloc _) _ (bv [10]) (by rfl) (sl_one _ _ _) (bv_one _) (by have := HB.out; rw [H10.out]; omega) (by have := HB.out; rw [H10.out]; omega) (by rw [World.size_alloc]; omega) ?_; intro v8 w8 own8 g8 hat8; rw [← bv_append, ← HB8.out, H10.out, ← HL8.out] at own8; have F8 : Fr (Value.slice vo bs.length vc).ownBlock.toList w w8 := (HFw.out.mono (by simp)).trans ((Fr.refl _ _).alloc _ |>.grown g8 (fun t ht => .inl (by simpa using ht))) (fun i hi => .inl hi); have oh8 := own_frS HOh.out ((Fr.refl (Value.slice vo bs.length vc).ownBlock.toList wr).alloc _ |>.grown g8 (fun t ht => .inl (by simpa using ht))) (fun k hk hm => by have h1 := (own_ltS HOh.out k hk).1; have h2 := HVB.out k (by simpa using hm); omega); obtain ⟨vo8, vc8, rfl, -⟩ := own_out own8)))
      have F89 : Fr (Value.slice vo bs.length vc).ownBlock.toList w w9 := F8.trans0 F9
      have own9' := own_mono own9 (base' := w.heap.size) (by have := F8.size; omega)
      have hX : X = b8 ++ toldN hcs := by rw [HXP.out, putTold_told]
      have HXE := Lib.hid (show bs ++ sumsW cs = X ++ cs.flatMap ckB by rw [HE.out, hX, HB8.out])
      have HXL := Lib.hid (show X.length ≤ 62000000 by
        have h1 : (toldN hcs).length ≤ 1 + (hcs.length + 7) / 8 := by
          unfold toldN
          split
          · simp
          · rw [List.length_cons, packBits_len]; omega
        rw [hX, List.length_append]
        have := HB.out
        have := HN.out
        have := HL8.out
        have := HLh.out
        omega)
      clear hX own9 own8 oh8 F8 F9 hq g8 hat8 HOb HOh HVB hbsz HE H10 HB8 HL8
      go_wp2_with fail
      go_loopw [0, 8] (fun v0 i wr => ∃ k : Nat, k ≤ cs.length ∧ i = .int .i64 k ∧ wr.ownsRow w.heap.size 5 1 v0 (X ++ (cs.take k).flatMap ckB).length (bv (X ++ (cs.take k).flatMap ckB)) ∧ Fr (Value.slice vo bs.length vc).ownBlock.toList w wr) (fun _ i _ => cs.length - (intOf i).toNat)
      case atStart => exact ⟨0, Nat.zero_le _, rfl, by rw [List.take_zero, List.flatMap_nil, List.append_nil]; exact own9', F89⟩
      case round =>
        obtain ⟨k, hk, rfl, ownk, Fk⟩ := hrel
        obtain ⟨ko, kc, rfl, -⟩ := own_out ownk
        by_cases hlt : k < cs.length
        · obtain ⟨x, hx⟩ := some_get cs k hlt
          obtain ⟨b1, o1, hao, hb1, e0, e1⟩ := (HR.out wr Fk).ck hx hlt
          subst hao
          have HTk := Lib.hid (show X ++ (cs.take (k + 1)).flatMap ckB = (X ++ (cs.take k).flatMap ckB) ++ ckB x by rw [ckB_take hx, List.append_assoc])
          have HXk := Lib.hid (show (X ++ (cs.take k).flatMap ckB).length ≤ 70000000 by
            have h1 := ckB_len (cs.take k)
            rw [List.length_take] at h1
            rw [List.length_append]
            have := HXL.out
            have := HN.out
            omega)
          have hltI : (k : Int) < (cs.length : Int) := by omega
          have HFk := Lib.hid Fk
          obtain ⟨xh, xs⟩ := x
          dsimp only at e0 e1 HTk
          have hx4 := xs.toNat_lt
          generalize X ++ (cs.take k).flatMap ckB = Y at *
          clear hx Fk
          cases xh with
          | false =>
            have HE := Lib.hid (show X ++ (cs.take (k + 1)).flatMap ckB = Y by rw [HTk.out]; simp [ckB])
            go_wp2_with fail
            go_roundw
            case rel => exact ⟨k + 1, by omega, by go_num, by rw [HE.out]; exact ownk, HFk.out⟩
            case measure => simp [intOf]; omega
          | true =>
            have HE := Lib.hid (show X ++ (cs.take (k + 1)).flatMap ckB = put Y 4 xs.toNat by rw [HTk.out]; exact (put_le Y 4 xs.toNat rfl).symm)
            go_wp2_with (go_at_call 33; go_loud (refine (refput_any wr _ Y 4 xs.toNat (Sl.of_own ownk) (by have := HXk.out; omega) (by omega)).mono ?_; rintro e w3 ⟨r3, rfl, own3, F3⟩; obtain ⟨ro3, rc3, rfl, -⟩ := own_out own3))
            go_roundw
            case rel => exact ⟨k + 1, by omega, by go_num, by rw [HE.out]; exact own_mono own3 (by have := HFk.out.size; omega), HFk.out.trans0 F3⟩
            case measure => simp [intOf]; omega
        · obtain rfl : k = cs.length := by omega
          rw [List.take_of_length_le (Nat.le_refl _), ← HXE.out] at ownk ⊢
          generalize bs ++ sumsW cs = Y at *
          go_wp2_with fail
          go_ret
          exact ⟨_, rfl, own_mono ownk hbase, Fk, fun k hk => .inr (own_ltS ownk k hk).1⟩
end Go.Proofs.YtkodindajfdagaaDoor
/- Contract: the reference's part. No condition but that lengths fit. -/
namespace Go.Proofs.YtkodindajfdagaaDoor
open Go.RowKit

set_option maxRecDepth 100000 in
set_option maxHeartbeats 2000000 in
theorem rpart_any (base : Nat) (w : World) (v xv : Value) (bs x : List UInt8) (id : UInt8) (own : w.ownsRow base 5 1 v bs.length (bv bs)) (hbase : base ≤ w.heap.size) (hX : ∀ w2, Fr v.ownBlock.toList w w2 → Sl w2 xv (bv x)) (hb : bs.length ≤ 60000000) (hx : x.length ≤ 60000000) :
    Calls Tryd.prog 34 #[v, .int .u8 id.toNat, xv] w (PutB base w v (bs ++ partW id x)) := by
  obtain ⟨vo, vc, rfl, hvc1, hvc2, -⟩ := own_out own
  have hx0 := (hX w (Fr.refl _ _)).out
  rw [bv_length] at hx0
  obtain ⟨xao, xcap, rfl, -, -, -⟩ := hx0
  have HX := Lib.hid hX
  have HO := Lib.hid own
  have HB := Lib.hid hb
  have HXl := Lib.hid hx
  have HE := Lib.hid (show bs ++ partW id x = ((bs ++ [id]) ++ shortN x.length) ++ x by unfold partW; simp only [List.append_assoc, List.cons_append, List.nil_append])
  have H1 := Lib.hid (show (bv [id]).length = 1 from rfl)
  obtain ⟨b1, hb1⟩ : ∃ b1, b1 = bs ++ [id] := ⟨_, rfl⟩
  obtain ⟨b2, hb2⟩ : ∃ b2, b2 = b1 ++ shortN x.length := ⟨_, rfl⟩
  obtain ⟨b3, hb3⟩ : ∃ b3, b3 = b2 ++ x := ⟨_, rfl⟩
  rw [← hb1, ← hb2, ← hb3] at HE
  have HL1 := Lib.hid (show b1.length = bs.length + 1 by rw [hb1]; simp)
  have HL2 := Lib.hid (show b2.length ≤ bs.length + 10 by rw [hb2, List.length_append]; have := shortN_le x.length; have := HL1.out; omega)
  have HL3 := Lib.hid (show b3.length = b2.length + (bv x).length by rw [hb3, List.length_append, bv_length])
  have HB1 := Lib.hid hb1
  have HB2 := Lib.hid hb2
  have HB3 := Lib.hid hb3
  have hxI : (x.length : Int) ≤ 60000000 := by omega
  have hwr : IntKind.u64.wrap (x.length : Int) = (x.length : Int) := by simp [IntKind.wrap, IntKind.bits, IntKind.signed]; omega
  clear hX own hb1 hb2 hb3 hb
  go_enter Tryd.func34, Tryd.ntmps34
  go_wp2_with (first
    | (have hq := F9; at_builtin; go_loud (refine wpList_append_sl_at sty_u8 rfl _ _ (by rfl) base _ _ _ (by rfl) own9 _ (bv x) (by rfl) (HX.out w9 F89) (bv_one _) (by have := HB.out; have := HL2.out; have := HXl.out; rw [bv_length]; omega) (by have := HB.out; have := HL2.out; have := HXl.out; rw [bv_length]; omega) (by have := F89.size; omega) ?_; intro v10 w10 own10 g10 hat10; rw [← bv_append, ← HB3.out, ← HL3.out] at own10; obtain ⟨vo10, vc10, rfl, -⟩ := own_out own10))
    | (have hq := F8; go_at_call 30; go_loud (refine (rnum_any w8 _ b1 x.length (Sl.of_own own8) (by have := HB.out; have := HL1.out; omega) (by have := HXl.out; omega)).mono ?_; rintro e w9 ⟨r9, rfl, own9, F9⟩; rw [← HB2.out] at own9; obtain ⟨ro9, rc9, rfl, -⟩ := own_out own9; have F89 := F8.trans0 F9; have hk9 := fun k hk => (own_ltS own9 k hk).1; replace own9 := own_mono own9 (base' := base) (by have := F8.size; omega)))
    | (at_builtin; go_loud (refine wpList_append_sl_at sty_u8 rfl _ _ (by rfl) base _ _ _ (by rfl) (HO.out.alloc _) _ (bv [id]) (by rfl) (sl_one _ _ _) (bv_one _) (by have := HB.out; rw [H1.out]; omega) (by have := HB.out; rw [H1.out]; omega) (by rw [World.size_alloc]; omega) ?_; intro v8 w8 own8 g8 hat8; rw [← bv_append, ← HB1.out, H1.out, ← HL1.out] at own8; have F8 : Fr (Value.slice vo bs.length vc).ownBlock.toList w w8 := ((Fr.refl _ _).alloc _).grown g8 (fun t ht => .inl (by simpa using ht)); obtain ⟨vo8, vc8, rfl, -⟩ := own_out own8)))
  go_ret
  rw [HE.out]
  have F10 : Fr (Value.slice ro9 b2.length rc9).ownBlock.toList w9 w10 := (Fr.refl _ _).grown g10 (fun t ht => .inl (by simpa using ht))
  refine ⟨_, rfl, own10, F89.trans F10 (fun i hi => .inr ?_), fun k hk => .inr ?_⟩
  · have := hk9 i (by simpa using hi)
    have := F8.size
    omega
  · rcases hat10 with h | h
    · have := hk9 k (h ▸ hk)
      have := F8.size
      omega
    · have h2 := F89.size
      rw [show (Value.slice vo10 b3.length vc10).ownBlock = some k from hk] at h
      injection h with h
      omega
end Go.Proofs.YtkodindajfdagaaDoor
/- Bytes of the call's own that grow: laws of append, one form. No condition but that lengths fit. -/
namespace Go.Proofs.YtkodindajfdagaaDoor
open Go.RowKit

/-- Behind some steps the bytes are cs, in vx; but for v's block the old memory is as it was. -/
structure StB (base : Nat) (w : World) (v vx : Value) (cs : List UInt8) (wx : World) : Prop where
  own : wx.ownsRow base 5 1 vx cs.length (bv cs)
  fr : Fr v.ownBlock.toList w wx
  at_ : ∀ k, vx.ownBlock = some k → v.ownBlock = some k ∨ w.heap.size ≤ k
theorem StB.refl {base : Nat} {w : World} {v : Value} {cs : List UInt8} (own : w.ownsRow base 5 1 v cs.length (bv cs)) : StB base w v v cs w := ⟨own, Fr.refl _ _, fun _ h => .inl h⟩
theorem StB.none (w : World) : StB w.heap.size w (.slice none 0 0) (.slice none 0 0) [] w := .refl (World.ownsRow_nil _ _ _ _)
theorem StB.put {base : Nat} {w : World} {v vx : Value} {cs : List UInt8} {wx : World} (S : StB base w v vx cs wx) : PutB base w v cs (.returned vx) wx := ⟨vx, rfl, S.own, S.fr, S.at_⟩
theorem StB.fr0 {base : Nat} {w : World} {v vx : Value} {cs : List UInt8} {wx wy : World} (S : StB base w v vx cs wx) (F : Fr [] wx wy) : StB base w v vx cs wy := ⟨own_frS S.own F (by simp), S.fr.trans0 F, S.at_⟩
theorem StB.step {base : Nat} {w : World} {v vx vy : Value} {cs ds : List UInt8} {wx wy : World} (S : StB base w v vx cs wx) (F : Fr vx.ownBlock.toList wx wy) (own : wy.ownsRow base 5 1 vy ds.length (bv ds)) (hat : ∀ k, vy.ownBlock = some k → vx.ownBlock = some k ∨ wx.heap.size ≤ k) : StB base w v vy ds wy := by
  refine ⟨own, S.fr.trans F (fun i hi => ?_), fun k hk => ?_⟩
  · rcases S.at_ i (by simpa using hi) with h | h
    · exact .inl (by simp [h])
    · exact .inr h
  · rcases hat k hk with h | h
    · exact S.at_ k h
    · exact .inr (Nat.le_trans S.fr.size h)
/-- Behind what puts bytes. -/
theorem StB.then_ {base : Nat} {w : World} {v vx : Value} {cs ds : List UInt8} {wx wy : World} {e : Ending} (S : StB base w v vx cs wx) (h : PutB base wx vx ds e wy) : ∃ r, e = .returned r ∧ StB base w v r ds wy := by
  obtain ⟨r, he, own, F, hat⟩ := h
  exact ⟨r, he, S.step F own hat⟩
/-- Behind what answers new bytes. -/
theorem StB.new_ {base : Nat} {w : World} {v vx : Value} {cs ds : List UInt8} {wx wy : World} {e : Ending} (S : StB base w v vx cs wx) (hb : base ≤ w.heap.size) (h : NewBytes ds wx e wy) : ∃ r, e = .returned r ∧ StB base w v r ds wy :=
  S.then_ (NewBytes.put h (Fr.refl _ _) (Nat.le_trans hb S.fr.size))
theorem PutB.nil {base : Nat} {w w' : World} {c : Nat} {cs : List UInt8} {e : Ending} (h : PutB base w (.slice none 0 c) cs e w') : ∃ r, e = .returned r ∧ w'.ownsRow base 5 1 r cs.length (bv cs) ∧ Fr [] w w' := by
  obtain ⟨r, he, own, F, -⟩ := h
  exact ⟨r, he, own, F⟩

/-- 'append(b, y...)'. -/
theorem wpList_append_st {P : Program} (T : SlTy P 32 5 (.int .u8 0) 1) {ops : Array Oper} {rest : List Oper} {o : Oper} {a : Act} {Q : Exit → Act → World → Prop} (hgd : o.guard = none) (s x : Operand)
    (ho : o.op = .call { callee := .builtin .append, args := #[s, x], argTypes := #[32, 32] })
    {base : Nat} {w wx wy : World} {v vx : Value} {cs : List UInt8} (S : StB base w v vx cs wx) (F : Fr [] wx wy) (hs : a.eval s = vx) (y : Value) (ys : List UInt8) (hx : a.eval x = y) (hy : Sl wy y (bv ys)) (hb : base ≤ w.heap.size) (hl : cs.length + ys.length ≤ 1000000000)
    (h : ∀ v' w', StB base w v v' (cs ++ ys) w' → wpList P ops Q rest (a.put o.dst v') w') : wpList P ops Q (o :: rest) a wy := by
  have S2 := S.fr0 F
  refine wpList_append_sl_at T hgd s x ho base vx cs.length (bv cs) hs S2.own y (bv ys) hx hy (bv_one _) (by rw [bv_length]; omega) (by rw [bv_length]; omega) (Nat.le_trans hb S2.fr.size) (fun v' w' own g hat => h v' w' ?_)
  rw [← bv_append, bv_length, ← List.length_append] at own
  exact S2.step ((Fr.refl _ _).grown g (fun t ht => .inl (by simp [ht]))) own (fun k hk => by
    rcases hat with e | e
    · exact .inl (e ▸ hk)
    · rw [e] at hk; injection hk with hk; exact .inr (by omega))

theorem strCells_bv (l : List UInt8) : Lib.strCells ⟨l.toArray⟩ = bv l := by simp [Lib.strCells, bv]
/-- 'append(b, s...)' of a text; b is not empty. -/
theorem wpList_append_tx {P : Program} (T : SlTy P 32 5 (.int .u8 0) 1) (hu : P.underlying 9 = some .string) {ops : Array Oper} {rest : List Oper} {o : Oper} {a : Act} {Q : Exit → Act → World → Prop} (hgd : o.guard = none) (s x : Operand)
    (ho : o.op = .call { callee := .builtin .append, args := #[s, x], argTypes := #[32, 9] })
    {base : Nat} {w wx wy : World} {v vx : Value} {cs : List UInt8} (S : StB base w v vx cs wx) (F : Fr [] wx wy) (hs : a.eval s = vx) (hn : 0 < cs.length) (ys : List UInt8) (hx : a.eval x = .string ⟨ys.toArray⟩) (hb : base ≤ w.heap.size) (hl : cs.length + ys.length ≤ 1000000000)
    (h : ∀ v' w', StB base w v v' (cs ++ ys) w' → wpList P ops Q rest (a.put o.dst v') w') : wpList P ops Q (o :: rest) a wy := by
  have S2 := S.fr0 F
  obtain ⟨i, hi, hz, hsz, hby⟩ := T.info
  have hsize : (⟨ys.toArray⟩ : ByteArray).size = ys.length := by simp [ByteArray.size]
  refine wpList_plain hgd fun K hK => ?_
  obtain ⟨v', w', hr, own, g, -⟩ := Lib.run_append_own_string (P := P) wy base 32 9 o.type 5 i T.under hu hi hz hsz hby vx cs.length (bv cs) S2.own ⟨ys.toArray⟩ (by rw [hsize]; unfold maxLen; omega) (by rw [hsize]; omega) (Nat.le_trans hb S2.fr.size)
  have hat : v'.ownBlock = vx.ownBlock ∨ v'.ownBlock = some wy.heap.size := by
    rcases S2.own.2 with ⟨-, h0⟩ | ⟨gb, cap, cur, rfl, -, hg, hnc, hcm, hcs, htk⟩
    · omega
    · by_cases hroom : cs.length + (⟨ys.toArray⟩ : ByteArray).size ≤ cap
      · have hr2 := Lib.run_append_room_string (P := P) wy 32 9 o.type 5 i T.under hu hi hsz gb cs.length cap cur hg ⟨ys.toArray⟩ hroom (by rw [hcs]; omega)
        rw [hr] at hr2
        injection hr2 with e1 e2
        rw [e1]
        exact .inl rfl
      · have hr2 := Lib.run_append_grow_string (P := P) wy 32 9 o.type 5 i (.int .u8 0) T.under hu hi hz ⟨gb, 0, none⟩ cs.length cap (bv cs) (by rw [hsz, bv_length]; omega) (S2.own.cells (g := gb) rfl) ⟨ys.toArray⟩ (by omega) (by rw [hsize]; omega) (by rw [hby, hsize]; exact growslice_fits (by omega) (by omega))
        rw [hr] at hr2
        injection hr2 with e1 e2
        rw [e1]
        exact .inr rfl
  unfold Oper.wp execOp
  simp only [ho, resolve, invoke, builtin, Sem.run_bind, Sem.run_pure, Result.andThen_ok, List.map_toArray, List.map_cons, List.map_nil, hs, hx, hr]
  refine hK _ _ (h v' w' ?_)
  rw [strCells_bv, ← bv_append, hsize, ← List.length_append] at own
  exact S2.step ((Fr.refl _ _).grown g (fun t ht => .inl (by simp [ht]))) own (fun k hk => by
    rcases hat with e | e
    · exact .inl (e ▸ hk)
    · rw [e] at hk; injection hk with hk; exact .inr (by omega))
end Go.Proofs.YtkodindajfdagaaDoor
