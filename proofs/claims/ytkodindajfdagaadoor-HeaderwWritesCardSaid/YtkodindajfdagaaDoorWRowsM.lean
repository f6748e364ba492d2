/- Contract: the writer's rows. No condition but that lengths fit. -/
import Derived.Test.YtkodindajfdagaaDoorGAH
import Derived.Test.YtkodindajfdagaaDoorGAK
import Derived.Deep.DeepCutAuto
namespace Go.Proofs.YtkodindajfdagaaDoor
open Go.RowKit

theorem info_boolW : (Tryd.prog.info? 4).map (fun i => (i.zero, i.size, i.bytes)) = some (some (.bool false), 1, 1) := by kernel_rfl
theorem sty_boolW : SlTy Tryd.prog 76 4 (.bool false) 1 := ⟨Tryd.underlying76, by obtain ⟨i, h⟩ := info_parts info_boolW; exact ⟨i, h⟩, rfl⟩

theorem emptyB_take {F : List Fil} {k : Nat} {x : Fil} (h : F[k]? = some x) : emptyB (F.take (k + 1)) = emptyB (F.take k) ++ [!x.stream] := by
  simp [emptyB, List.take_add_one, h]
theorem plainB_take {F : List Fil} {k : Nat} {x : Fil} (h : F[k]? = some x) : plainB (F.take (k + 1)) = plainB (F.take k) ++ (if x.stream then [] else [!x.dir]) := by
  unfold plainB
  rw [List.take_add_one, h]
  cases hs : x.stream <;> simp [hs]
theorem emptyB_len (F : List Fil) : (emptyB F).length = F.length := by simp [emptyB]
theorem plainB_len (F : List Fil) : (plainB F).length ≤ F.length := by
  unfold plainB
  rw [List.length_map]
  exact List.length_filter_le _ _
theorem packBits_len (l : List Bool) : (packBits l).length = (l.length + 7) / 8 := by simp [packBits, packF_length]
theorem partW_len (id : UInt8) (x : List UInt8) : (partW id x).length ≤ x.length + 10 := by
  have := shortN_le x.length
  simp [partW]
  omega
theorem own_grown {w w' : World} {base e sz n : Nat} {v u : Value} {xs : List Value} (h : w.ownsRow base e sz u n xs) (g : w.grownBy w' v.ownBlock) (h1 : ∀ k, u.ownBlock = some k → v.ownBlock ≠ some k) : w'.ownsRow base e sz u n xs :=
  own_frS (S := v.ownBlock.toList) h ((Fr.refl _ _).grown g (fun k hk => .inl (by simp [hk]))) fun k hk hm => h1 k hk (by simpa using hm)

/-- Which files have no stream, which of those are no directories: two rows of the call's own. -/
structure TwoB (w : World) (lo : Nat) (a b : Value) (xs ys : List Bool) : Prop where
  oa : w.ownsRow lo 4 1 a xs.length (tv xs)
  ob : w.ownsRow lo 4 1 b ys.length (tv ys)
  ne : ∀ k, a.ownBlock = some k → b.ownBlock ≠ some k
theorem TwoB.fr0 {w w' : World} {lo : Nat} {a b : Value} {xs ys : List Bool} (h : TwoB w lo a b xs ys) (F : Fr [] w w') : TwoB w' lo a b xs ys := ⟨own_frS h.oa F (by simp), own_frS h.ob F (by simp), h.ne⟩
theorem TwoB.ga {w w' : World} {lo : Nat} {a b a' : Value} {xs ys xs' : List Bool} (h : TwoB w lo a b xs ys) (g : w.grownBy w' a.ownBlock) (o : w'.ownsRow lo 4 1 a' xs'.length (tv xs')) (hat : a'.ownBlock = a.ownBlock ∨ a'.ownBlock = some w.heap.size) : TwoB w' lo a' b xs' ys :=
  ⟨o, own_grown h.ob g (fun k hk e => h.ne k e hk), fun k hk e => by
    rcases hat with ha | ha
    · exact h.ne k (ha ▸ hk) e
    · have h1 := (own_ltS h.ob k e).2
      rw [ha] at hk
      cases hk
      omega⟩
theorem TwoB.gb {w w' : World} {lo : Nat} {a b b' : Value} {xs ys ys' : List Bool} (h : TwoB w lo a b xs ys) (g : w.grownBy w' b.ownBlock) (o : w'.ownsRow lo 4 1 b' ys'.length (tv ys')) (hat : b'.ownBlock = b.ownBlock ∨ b'.ownBlock = some w.heap.size) : TwoB w' lo a b' xs ys' :=
  ⟨own_grown h.oa g (fun k hk e => h.ne k hk e), o, fun k hk e => by
    rcases hat with ha | ha
    · exact h.ne k hk (ha ▸ e)
    · have h1 := (own_ltS h.oa k hk).2
      rw [ha] at e
      cases e
      omega⟩

theorem TwoB.wr {w wx : World} {lo2 lo p : Nat} {a b v : Value} {xs ys : List Bool} {bs : List UInt8} {d : DW} (h : TwoB w lo2 a b xs ys) (T : WrTo w lo p v bs d wx) (hp : p < lo2) (hv : ∀ k, v.ownBlock = some k → k < lo2) : TwoB wx lo2 a b xs ys := by
  have key : ∀ u n (zs : List Bool), w.ownsRow lo2 4 1 u n (tv zs) → wx.ownsRow lo2 4 1 u n (tv zs) := fun u n zs o => own_wr o T.frm fun k hk => by
    have h1 := (own_ltS o k hk).1
    refine ⟨by omega, fun e => ?_⟩
    have := hv k e
    omega
  exact ⟨key _ _ _ h.oa, key _ _ _ h.ob, h.ne⟩
theorem pb_new (w : World) (v : Value) (row : List Bool) (h : Sl w v (tv row)) (hr : row.length ≤ 1000000) : Calls Tryd.prog 56 #[.slice none 0 0, v] w (NewBytes (packBits row) w) :=
  putbits_any w _ v [] row (Sl.nil w) h (by have : ([] : List UInt8).length = 0 := rfl; omega) (by omega)

set_option maxRecDepth 100000 in
set_option maxHeartbeats 4000000 in
theorem rows1_any (w : World) (lo p hi : Nat) (v : Value) (bs : List UInt8) (d : DW) (F : List Fil) (h : WrAt w lo p v bs d) (hF : RowAt w hi 7 d.es F.length (fiV F)) (hn : F.length ≤ 1000000) (hb : bs.length ≤ 80000000) :
    Calls Tryd.prog 25 #[.pointer (some ⟨p, 0, none⟩)] w fun e w' => e = .returned (.tuple #[]) ∧ WrTo w lo p v (bs ++ rowsW F) d w' := by
  have HW := Lib.hid h
  obtain ⟨eao, ecap, he, hec, hem, -⟩ := hF.out
  have HR := Lib.hid hF
  rw [he] at HR
  obtain ⟨c0, c1, c2, c3, c4, c5, c6, c7, cz⟩ := cells8 h.blk
  rw [he] at c7
  clear h hF he
  have HB := Lib.hid hb
  have HN := Lib.hid hn
  go_enter Tryd.func25, Tryd.ntmps25
  refine wp_seq_k fun K0 hK0 => ?_
  go_cut [2, 3] (fun v2 v3 wx => v2 = .slice none 0 0 ∧ v3 = .slice none 0 0 ∧ wx = w)
  case first =>
    clear hK0
    go_wp2_with fail
    go_meet
    case rel => exact ⟨rfl, rfl, rfl⟩
  case rest =>
  obtain ⟨rfl, rfl, hw⟩ := hcut
  have hw' := hw.symm
  clear hw
  subst hw'
  (refine hK0 _ _ ?_; clear hK0; refine wp_seq_k fun K1 hK1 => ?_)
  go_cut [2, 3] (fun v2 v3 wx => ∃ ve vf, v2 = ve ∧ v3 = vf ∧ TwoB wx w.heap.size ve vf (emptyB F) (plainB F) ∧ Fr [] w wx)
  case first =>
    clear hK1
    go_wp2_with fail
    go_loopw [2, 3, 12] (fun v2 v3 i wr => ∃ (k : Nat), k ≤ F.length ∧ i = .int .i64 k ∧ TwoB wr w.heap.size v2 v3 (emptyB (F.take k)) (plainB (F.take k)) ∧ Fr [] w wr) (fun _ _ i _ => F.length - (intOf i).toNat)
    case atStart => exact ⟨0, Nat.zero_le _, rfl, ⟨World.ownsRow_nil _ _ _ _, World.ownsRow_nil _ _ _ _, fun k hk => by cases hk⟩, Fr.refl _ _⟩
    case round =>
      obtain ⟨k, hk, rfl, B2, F2⟩ := hrel
      by_cases hlt : k < F.length
      · obtain ⟨x, hx⟩ := some_get F k hlt
        obtain ⟨b1, o1, hao, hb1, e0, e1, e2, e3, e4, e5, e6⟩ := (HR.out.fr0 F2).fil hx hlt
        subst hao
        obtain ⟨nm, st, dir, ha, attr, ht, tm⟩ := x
        dsimp only at e0 e1 e2 e3 e4 e5 e6
        have HX1 := Lib.hid (emptyB_take hx)
        have HX2 := Lib.hid (plainB_take hx)
        have HB2 := Lib.hid B2
        have HLE := Lib.hid (show (emptyB (F.take k)).length = k by rw [emptyB_len, List.length_take]; omega)
        have HLP := Lib.hid (show (plainB (F.take k)).length ≤ k by have := plainB_len (F.take k); rw [List.length_take] at this; omega)
        obtain ⟨vao, vcap, rfl, -⟩ := own_out B2.oa
        obtain ⟨fao, fcap, rfl, -⟩ := own_out B2.ob
        have HVL := Lib.hid (fun q hq => (own_ltS B2.oa q hq))
        have HFL := Lib.hid (fun q hq => (own_ltS B2.ob q hq))
        have hnot : ∀ (x : Bool) (w : World), (Op.unary .not (.bool x)).run Tryd.prog w = .ok (.bool (!x)) w := fun _ _ => rfl
        clear hx B2
        obtain ⟨wB, hwB⟩ : ∃ wB, wB = wr.alloc (.cells #[.string ⟨nm.toArray⟩, .bool st, .bool dir, .bool ha, .int .u32 attr.toNat, .bool ht, .int .u64 tm.toNat] 39) := ⟨_, rfl⟩
        have FB0 : Fr [] wr wB := hwB ▸ (Fr.refl _ _).alloc _
        have HBX := Lib.hid (fun (S : List Nat) wx (F : Fr S wB wx) (hS : wr.heap.size ∉ S) => wbox7 (hwB ▸ F : Fr S (wr.alloc (.cells #[.string ⟨nm.toArray⟩, .bool st, .bool dir, .bool ha, .int .u32 attr.toNat, .bool ht, .int .u64 tm.toNat] 39)) wx) hS)
        obtain ⟨d0, d1, d2, d3, d4, d5, d6⟩ := HBX.out [] wB (Fr.refl _ _) (by simp)
        have HTB := Lib.hid (HB2.out.fr0 FB0)
        have sB : wB.heap.size = wr.heap.size + 1 := by rw [hwB]; simp
        have HSL := Lib.hid (fun (y : Bool) => (show Sl (wB.alloc (.cells #[.bool y] 4)) (.slice (some ⟨wr.heap.size + 1, 0, none⟩) 1 1) [.bool y] from sB ▸ sl_one wB 4 (.bool y)))
        have HF2 := Lib.hid F2
        have HBS := Lib.hid hwB
        subst hwB
        clear sB F2
        have HAP := Lib.hid (fun (v4 : Value) (w4 : World) (g4 : ((wr.alloc (.cells #[.string ⟨nm.toArray⟩, .bool st, .bool dir, .bool ha, .int .u32 attr.toNat, .bool ht, .int .u64 tm.toNat] 39)).alloc (.cells #[.bool (!st)] 4)).grownBy w4 (Value.slice vao (emptyB (F.take k)).length vcap).ownBlock) => (show Fr [] w w4 from ((HF2.out.trans0 FB0).alloc _).grown g4 (fun q hq => .inr (HVL.out q hq).1)))
        have HAB := Lib.hid (fun (v4 : Value) (w4 : World) (g4 : ((wr.alloc (.cells #[.string ⟨nm.toArray⟩, .bool st, .bool dir, .bool ha, .int .u32 attr.toNat, .bool ht, .int .u64 tm.toNat] 39)).alloc (.cells #[.bool (!st)] 4)).grownBy w4 (Value.slice vao (emptyB (F.take k)).length vcap).ownBlock) => HBX.out (Value.slice vao (emptyB (F.take k)).length vcap).ownBlock.toList w4 (((Fr.refl _ _).alloc _).grown g4 (fun q hq => .inl (by simp [hq]))) (fun hm => by have := (HVL.out _ (by simpa using hm)).2; omega))
        cases st with
        | false =>
          go_wp2_with (at_builtin; refine wpList_append_sl_at sty_boolW rfl _ _ (by rfl) w.heap.size _ _ _ (by rfl) (HTB.out.fr0 ((Fr.refl _ _).alloc _)).oa _ [.bool true] (by rfl) (HSL.out true) (by intro u hu; simp at hu; subst hu; rfl) (by simp; have := HLE.out; have := HN.out; omega) (by simp; have := HLE.out; have := HN.out; omega) (by have := HF2.out.size; simp; omega) ?_)
          intro v4 w4 own4 g4 at4
          obtain ⟨b0, b1, b2, b3, b4, b5, b6⟩ := HAB.out v4 w4 g4
          have HF4 := Lib.hid (HAP.out v4 w4 g4)
          have HT4 := Lib.hid ((HTB.out.fr0 ((Fr.refl _ _).alloc _)).ga (xs' := emptyB (F.take (k + 1))) g4 (by rw [HX1.out, tv_append, List.length_append]; exact own4) (by simpa using at4))
          obtain ⟨vao4, vcap4, rfl, -⟩ := own_out own4
          obtain ⟨fo4, ho4⟩ : ∃ x, x = HT4.out.ob := ⟨_, rfl⟩
          clear own4 g4 at4 ho4 fo4
          go_wp2_with (at_builtin; refine wpList_append_sl_at sty_boolW rfl _ _ (by rfl) w.heap.size _ _ _ (by rfl) (HT4.out.fr0 ((Fr.refl _ _).alloc _)).ob _ [.bool (!dir)] (by rfl) (sl_one _ _ _) (by intro u hu; simp at hu; subst hu; rfl) (by simp; have := HLP.out; have := HN.out; omega) (by simp; have := HLP.out; have := HN.out; omega) (by have := HF4.out.size; simp; omega) ?_)
          intro v5 w5 own5 g5 at5
          have HF5 := Lib.hid (show Fr [] w w5 from (HF4.out.alloc _).grown g5 (fun q hq => .inr (own_ltS HT4.out.ob q hq).1))
          have HT5 := Lib.hid ((HT4.out.fr0 ((Fr.refl _ _).alloc _)).gb (ys' := plainB (F.take (k + 1))) g5 (by rw [HX2.out, tv_append, List.length_append]; exact own5) (by simpa using at5))
          obtain ⟨vao5, vcap5, rfl, -⟩ := own_out own5
          clear own5 g5 at5
          go_wp2_with fail
          go_roundw
          case rel => exact ⟨k + 1, by omega, by go_num, by have := HT5.out; rw [HX1.out] at this ⊢; exact this, HF5.out⟩
          case measure => simp [intOf]; omega
        | true =>
          go_wp2_with (at_builtin; refine wpList_append_sl_at sty_boolW rfl _ _ (by rfl) w.heap.size _ _ _ (by rfl) (HTB.out.fr0 ((Fr.refl _ _).alloc _)).oa _ [.bool false] (by rfl) (HSL.out false) (by intro u hu; simp at hu; subst hu; rfl) (by simp; have := HLE.out; have := HN.out; omega) (by simp; have := HLE.out; have := HN.out; omega) (by have := HF2.out.size; simp; omega) ?_)
          intro v4 w4 own4 g4 at4
          obtain ⟨b0, b1, b2, b3, b4, b5, b6⟩ := HAB.out v4 w4 g4
          have HF4 := Lib.hid (HAP.out v4 w4 g4)
          have HT4 := Lib.hid ((HTB.out.fr0 ((Fr.refl _ _).alloc _)).ga (xs' := emptyB (F.take (k + 1))) g4 (by rw [HX1.out, tv_append, List.length_append]; exact own4) (by simpa using at4))
          obtain ⟨vao4, vcap4, rfl, -⟩ := own_out own4
          clear own4 g4 at4
          have HP0 := Lib.hid (show plainB (F.take (k + 1)) = plainB (F.take k) by rw [HX2.out]; simp)
          go_wp2_with fail
          go_roundw
          case rel => exact ⟨k + 1, by omega, by go_num, by have := HT4.out; rw [HP0.out]; exact this, HF4.out⟩
          case measure => simp [intOf]; omega
      · obtain rfl : k = F.length := by omega
        rw [List.take_of_length_le (Nat.le_refl _)] at B2
        go_wp2_with fail
        go_meet
        case rel => exact ⟨_, _, rfl, rfl, B2, F2⟩
  case rest =>
  obtain ⟨ve, vf, rfl, rfl, B1, F1⟩ := hcut
  obtain ⟨vao, vcap, rfl, -⟩ := own_out B1.oa
  obtain ⟨fao, fcap, rfl, -⟩ := own_out B1.ob
  obtain ⟨wS, hwS⟩ : ∃ wS, wS = wc := ⟨_, rfl⟩
  rw [← hwS] at B1 F1 ⊢
  clear hwS
  have T1 := WrTo.refl (HW.out.fr0 F1)
  have HB1 := Lib.hid B1
  have HKeep := Lib.hid (fun (bs2 : List UInt8) (w2 : World) (T : WrTo wS lo p v bs2 d w2) => B1.wr T HW.out.lt (fun k hk => (HW.out.gs k hk).2))
  have HF1 := Lib.hid F1
  have HLE := Lib.hid (emptyB_len F)
  have HLP := Lib.hid (plainB_len F)
  have hPE := packBits_len (emptyB F)
  have hPP := packBits_len (plainB F)
  rw [emptyB_len] at hPE
  have hw1 := partW_len 14 (packBits (emptyB F))
  have hplp := plainB_len F
  have HL1 := Lib.hid (show bs.length + (packBits (emptyB F)).length ≤ 90000000 ∧ bs.length + (partW 14 (packBits (emptyB F))).length + (packBits (plainB F)).length ≤ 90000000 ∧ bs.length + (packBits (plainB F)).length ≤ 90000000 by omega)
  clear B1 F1 c0 c1 c2 c3 c4 c5 c6 c7 cz hPE hPP hw1 hplp
  (refine hK1 _ _ ?_; clear hK1; refine wp_seq_k fun K2 hK2 => ?_)
  go_cut [] (fun wx => WrTo wS lo p v (bs ++ (if plainB F = [] then [] else partW 14 (packBits (emptyB F)))) d wx)
  case first =>
    clear hK2
    by_cases hp : plainB F = []
    · have HE := Lib.hid (show (if plainB F = [] then [] else partW 14 (packBits (emptyB F))) = [] from if_pos hp)
      have t0 : ¬ (0 : Int) < ((plainB F).length : Int) := by rw [hp]; simp
      clear hp
      go_wp2_with fail
      go_meet
      case rel => rw [HE.out, List.append_nil]; exact T1
    · have HE := Lib.hid (show (if plainB F = [] then [] else partW 14 (packBits (emptyB F))) = partW 14 (packBits (emptyB F)) from if_neg hp)
      have t0 : (0 : Int) < ((plainB F).length : Int) := by have := List.length_pos_iff.2 hp; omega
      clear hp
      go_wp2_with (first
        | (have hq := own2; go_at_call 55; refine (wpart_any T1 F2 _ (packBits (emptyB F)) 14 own2 HL1.out.1).mono ?_; rintro e w3 ⟨rfl, T3⟩)
        | (go_at_call 56; refine (pb_new wS _ (emptyB F) (Sl.of_own HB1.out.oa) (by have := HLE.out; have := HN.out; omega)).mono ?_; rintro e w2 ⟨r, rfl, own2, F2⟩; obtain ⟨ro, rc, rfl, -⟩ := own_out own2))
      go_meet
      case rel => rw [HE.out]; exact T3
  case rest =>
  obtain ⟨wT, hwT⟩ : ∃ wT, wT = wc := ⟨_, rfl⟩
  rw [← hwT] at hcut ⊢
  clear hwT
  have T2 := hcut
  clear hcut
  refine hK2 _ _ ?_
  clear hK2
  have HT2 := Lib.hid T2
  have HB2 := Lib.hid (HKeep.out _ _ T2)
  have hR : bs ++ rowsW F = (bs ++ (if plainB F = [] then [] else partW 14 (packBits (emptyB F)))) ++ (if true ∈ plainB F then partW 15 (packBits (plainB F)) else []) := by unfold rowsW; rw [List.append_assoc]
  have HL2 := Lib.hid (show (bs ++ (if plainB F = [] then [] else partW 14 (packBits (emptyB F)))).length + (packBits (plainB F)).length ≤ 90000000 by
    rw [List.length_append]
    split
    · have := HL1.out.2.2; simpa using this
    · exact HL1.out.2.1)
  have HC := Lib.hid (containst_any wT _ (plainB F) (Sl.of_own HB2.out.ob))
  rw [hR]
  generalize (bs ++ (if plainB F = [] then [] else partW 14 (packBits (emptyB F)))) = bs2 at *
  by_cases hp : true ∈ plainB F
  · rw [if_pos hp]
    rw [decide_eq_true hp] at HC
    clear hp
    go_wp2_with (first
      | (have hq := own2; go_at_call 55; refine (wpart_any HT2.out F2 _ (packBits (plainB F)) 15 own2 HL2.out).mono ?_; rintro e w3 ⟨rfl, T3⟩)
      | (go_at_call 56; refine (pb_new wT _ (plainB F) (Sl.of_own HB2.out.ob) (by have := HLP.out; have := HN.out; omega)).mono ?_; rintro e w2 ⟨r, rfl, own2, F2⟩; obtain ⟨ro, rc, rfl, -⟩ := own_out own2)
      | (go_at_call 57; refine HC.out.mono ?_; rintro e w1 ⟨rfl, rfl⟩))
    go_end0
    exact ⟨rfl, WrTo.fr0 HF1.out T3⟩
  · rw [if_neg hp, List.append_nil]
    rw [decide_eq_false hp] at HC
    clear hp
    go_wp2_with (go_at_call 57; refine HC.out.mono ?_; rintro e w1 ⟨rfl, rfl⟩)
    go_end0
    exact ⟨rfl, WrTo.fr0 HF1.out HT2.out⟩
end Go.Proofs.YtkodindajfdagaaDoor
