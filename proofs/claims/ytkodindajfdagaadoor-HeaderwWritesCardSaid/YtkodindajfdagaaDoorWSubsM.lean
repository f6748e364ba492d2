/- Contract: the writer's subs. No condition but that lengths fit. -/
import Derived.Test.YtkodindajfdagaaDoorGAN
namespace Go.Proofs.YtkodindajfdagaaDoor
open Go.RowKit

def cntB (S : List (List Sub)) : List UInt8 := S.flatMap fun l => shortN l.length
def cutOf (l : List Sub) : List UInt8 := (l.take (l.length - 1)).flatMap fun s => shortN s.size.toNat
def cutB (S : List (List Sub)) : List UInt8 := S.flatMap cutOf
def subsW (S : List (List Sub)) (L : List Fol) : List UInt8 :=
  if S.any oddS = false ∧ (unkW S L).any (·.has) = false then []
  else 8 :: ((if S.any oddS then 13 :: (cntB S ++ (9 :: cutB S)) else []) ++ (sumsW (unkW S L) ++ [0]))
theorem cntB_take {S : List (List Sub)} {k : Nat} {l : List Sub} (h : S[k]? = some l) : cntB (S.take (k + 1)) = cntB (S.take k) ++ shortN l.length := by
  unfold cntB
  rw [List.take_add_one, h, List.flatMap_append]
  congr 1
  simp only [Option.toList_some, List.flatMap_cons, List.flatMap_nil, List.append_nil]
theorem cntB_le {S : List (List Sub)} {k : Nat} {l : List Sub} (h : S[k]? = some l) : (cntB (S.take k)).length + (shortN l.length).length ≤ (cntB S).length := by
  have h1 := flat_le (fun l : List Sub => shortN l.length) h
  unfold cntB
  exact h1
theorem cutB_take {S : List (List Sub)} {k : Nat} {l : List Sub} (h : S[k]? = some l) : cutB (S.take (k + 1)) = cutB (S.take k) ++ cutOf l := by
  unfold cutB
  rw [List.take_add_one, h, List.flatMap_append]
  congr 1
  simp only [Option.toList_some, List.flatMap_cons, List.flatMap_nil, List.append_nil]
theorem cutB_le {S : List (List Sub)} {k : Nat} {l : List Sub} (h : S[k]? = some l) : (cutB (S.take k)).length + (cutOf l).length ≤ (cutB S).length := by
  have h1 := flat_le cutOf h
  unfold cutB
  exact h1

set_option maxRecDepth 100000 in
set_option maxHeartbeats 8000000 in
theorem subs_one (w0 w : World) (lo p : Nat) (v fv sv : Value) (bs : List UInt8) (d : DW) (S : List (List Sub)) (L : List Fol) (W : WrAt w lo p v bs d) (F0 : Fr [] w0 w) (hp : w0.heap.size ≤ p) (hd : d.fo = fv ∧ d.su = sv) (hS : WSubsR w0 sv S) (hF : FolR w0 fv L) (hl : S.length = L.length) (hn : S.length ≤ 100000) (hr : ∀ l ∈ S, l.length ≤ 100000)
    (hne : ∀ l ∈ S, l ≠ []) (hu : ∀ k, (unkW (S.take k) (L.take k)).length ≤ 1000000) (hb : bs.length + (subsW S L).length ≤ 40000000) :
    Calls Tryd.prog 23 #[.pointer (some ⟨p, 0, none⟩)] w fun e w' => e = .returned (.bool (S.any oddS || (unkW S L).any (·.has))) ∧ WrTo w lo p v (bs ++ subsW S L) d w' := by
  obtain ⟨sao, scap, rfl, -, -, so⟩ := hS.out
  obtain ⟨fao, fcap, rfl, -, -, -⟩ := hF.out
  obtain ⟨dpk, dpl, dps, dcs, dfo, dsu, des⟩ := d
  obtain ⟨h1, h2⟩ := hd
  dsimp only at h1 h2
  subst h1 h2
  have HW := Lib.hid W
  have T0 := WrTo.refl W
  obtain ⟨c1, c2, c3, c4, c5, c6, c7⟩ := T0.cell
  dsimp only at c1 c2 c3 c4 c5 c6 c7
  have HC1 := Lib.hid (cfs_any w _ S (hS.fr F0))
  have HUN := Lib.hid (wunknown_any w dpk dpl dps dcs des _ _ S L (hS.fr F0) (hF.fr F0) hl hn hr hu)
  have HSO := Lib.hid so
  have HF0 := Lib.hid F0
  have HN := Lib.hid hn
  have HRB := Lib.hid hr
  have HNE := Lib.hid hne
  have HUL := Lib.hid (show (unkW S L).length ≤ 1000000 from by have := hu S.length; rwa [List.take_of_length_le (Nat.le_refl _), List.take_of_length_le (by omega)] at this)
  obtain ⟨d, hd⟩ : ∃ d : DW, d = ⟨dpk, dpl, dps, dcs, .slice fao L.length fcap, .slice sao S.length scap, des⟩ := ⟨_, rfl⟩
  rw [← hd] at HW T0 W ⊢
  have HCell := Lib.hid (fun (w1 wx : World) (v1 : Value) (bs2 : List UInt8) (T : WrTo w1 lo p v1 bs2 d wx) => (show wx.cell? ⟨p, 6, none⟩ = some (.slice sao S.length scap) from by have := T.cell.2.2.2.2.2.1; rw [hd] at this; exact this))
  clear hd
  obtain ⟨UK, hUK⟩ : ∃ UK, UK = unkW S L := ⟨_, rfl⟩
  have HSW := Lib.hid (show subsW S L = if S.any oddS = false ∧ UK.any (·.has) = false then [] else 8 :: ((if S.any oddS then 13 :: (cntB S ++ (9 :: cutB S)) else []) ++ (sumsW UK ++ [0])) by rw [hUK]; rfl)
  have HUN2 := Lib.hid (show Calls Tryd.prog 51 #[.agg #[dpk, dpl, dps, dcs, .slice fao L.length fcap, .slice sao S.length scap, des]] w fun e w' => ∃ v, e = .returned v ∧ w'.ownsRow w.heap.size 44 2 v UK.length (ckV UK) ∧ Fr [] w w' by rw [hUK]; exact HUN.out)
  rw [← hUK] at HUL ⊢
  clear hUK so hl hS hF hr hne hu HUN F0
  generalize hmany : S.any oddS = many at *
  have HMany := Lib.hid hmany
  clear hmany
  go_enter Tryd.func23, Tryd.ntmps23
  go_upto_region 3 with (first
    | (go_at_call 49; refine HC1.out.mono ?_; rintro e w1 ⟨rfl, rfl⟩)
    | (go_at_call 51; refine HUN2.out.mono ?_; rintro e w2 ⟨vc, rfl, ownC, F2⟩; obtain ⟨vo, vcc, rfl, -⟩ := own_outS ownC))
  have HOC := Lib.hid ownC
  have W2 := W.fr0 F2
  have HFR := Lib.hid F2
  have HC2 := Lib.hid (cfc_any w2 w2.heap.size _ UK (RowAt.of_own ownC _ (Nat.le_refl _)))
  clear ownC c1 c2 c3 c4 c5 c6 c7 HC1
  cases many with
  | false =>
    cases hany : UK.any (·.has) with
    | false =>
      have HE := Lib.hid (show subsW S L = [] by rw [HSW.out, if_pos ⟨rfl, hany⟩])
      have HC3 := HC2.out
      rw [hany] at HC3
      have HAny := Lib.hid hany
      clear hany
      have hnot : ∀ (x : Bool) (w : World), (Op.unary .not (.bool x)).run Tryd.prog w = .ok (.bool (!x)) w := fun _ _ => rfl
      go_wp2_with (go_at_call 52; refine HC3.mono ?_; rintro e w3 ⟨rfl, F3⟩)
      go_ret
      exact ⟨by rw [HAny.out]; rfl, by rw [HE.out, List.append_nil]; exact WrTo.fr0 (HFR.out.trans0 F3) (WrTo.refl (HW.out.fr0 (HFR.out.trans0 F3)))⟩
    | true =>
      have HE := Lib.hid (show subsW S L = 8 :: (sumsW UK ++ [0]) by rw [HSW.out, if_neg (by simp [hany])]; simp)
      have HL := Lib.hid (show bs.length + (1 + (sumsW UK).length + 1) ≤ 40000000 by have := hb; rw [HE.out] at this; simp only [List.length_append, List.length_cons, List.length_nil] at this; omega)
      have HC3 := HC2.out
      rw [hany] at HC3
      have HAny := Lib.hid hany
      clear hany hb
      have hnot : ∀ (x : Bool) (w : World), (Op.unary .not (.bool x)).run Tryd.prog w = .ok (.bool (!x)) w := fun _ _ => rfl
      go_upto_region 5 with (go_at_call 52; refine HC3.mono ?_; rintro e w3 ⟨rfl, F3⟩)
      have WX := W2.fr0 F3
      have TX := WrTo.refl WX
      have hpw : p < w.heap.size := HW.out.lt
      have HOX := Lib.hid (own_frS HOC.out F3 (by simp))
      have HOW := Lib.hid (fun (cs : List UInt8) wx (T : WrTo _ lo p v cs d wx) => own_wr HOX.out T.frm (fun k hk => ⟨by have := (own_ltS HOX.out k hk).1; omega, fun e2 => own_apart HOX.out WX.own (by decide) k hk e2⟩))
      go_wp2_with (first
        | (have hq := T8; go_at_call 11; refine (wput_any (T8.then0 ((Fr.refl _ _).alloc _)) _ [0] (sl_one _ _ _) (by have := HL.out; simp only [List.length_append, List.length_cons, List.length_nil]; omega)).mono ?_; rintro e w9 ⟨rfl, T9⟩)
        | (have hq := T4; go_at_call 47; refine (wsums_any T4 _ UK (RowSt.own (HOW.out _ _ T4) (by decide) hpw) HUL.out (by have := HL.out; simp only [List.length_append, List.length_cons, List.length_nil]; omega)).mono ?_; rintro e w8 ⟨rfl, T8⟩)
        | (go_at_call 11; refine (wput_any (TX.then0 ((Fr.refl _ _).alloc _)) _ [8] (sl_one _ _ _) (by have := HL.out; simp only [List.length_cons, List.length_nil]; omega)).mono ?_; rintro e w4 ⟨rfl, T4⟩))
      go_ret
      exact ⟨by rw [HAny.out]; rfl, by rw [HE.out, show bs ++ 8 :: (sumsW UK ++ [0]) = ((bs ++ [8]) ++ sumsW UK) ++ [0] by simp]; exact WrTo.fr0 (HFR.out.trans0 F3) T9⟩
  | true =>
    have HE := Lib.hid (show subsW S L = 8 :: (13 :: (cntB S ++ (9 :: cutB S)) ++ (sumsW UK ++ [0])) by rw [HSW.out, if_neg (by simp)]; simp)
    have HL := Lib.hid (show bs.length + (2 + (cntB S).length + 1 + (cutB S).length + (sumsW UK).length + 1) ≤ 40000000 by have := hb; rw [HE.out] at this; simp only [List.length_append, List.length_cons, List.length_nil] at this; omega)
    have hnot : ∀ (x : Bool) (w : World), (Op.unary .not (.bool x)).run Tryd.prog w = .ok (.bool (!x)) w := fun _ _ => rfl
    clear hb
    have WX := W2
    have TX := WrTo.refl WX
    have hpw : p < w.heap.size := HW.out.lt
    have HOX := Lib.hid (own_frS HOC.out (Fr.refl [] w2) (by simp))
    have HOW := Lib.hid (fun (cs : List UInt8) wx (T : WrTo _ lo p v cs d wx) => own_wr HOX.out T.frm (fun k hk => ⟨by have := (own_ltS HOX.out k hk).1; omega, fun e2 => own_apart HOX.out WX.own (by decide) k hk e2⟩))
    have HBF := Lib.hid (fun (cs : List UInt8) wx (T : WrTo w2 lo p v cs d wx) => T.base WX (HF0.out.trans0 HFR.out) hp)
    go_upto_region 8 with (first
      | (have hq := T4; go_at_call 11; refine (wput_any (T4.then0 ((Fr.refl _ _).alloc _)) _ [13] (sl_one _ _ _) (by have := HL.out; simp only [List.length_append, List.length_cons, List.length_nil]; omega)).mono ?_; rintro e w5 ⟨rfl, T5⟩)
      | (go_at_call 11; refine (wput_any (TX.then0 ((Fr.refl _ _).alloc _)) _ [8] (sl_one _ _ _) (by have := HL.out; simp only [List.length_cons, List.length_nil]; omega)).mono ?_; rintro e w4 ⟨rfl, T4⟩))
    obtain ⟨b5, hb5⟩ : ∃ b5, b5 = (bs ++ [8]) ++ [13] := ⟨_, rfl⟩
    rw [← hb5] at T5
    have HL5 := Lib.hid (show b5.length = bs.length + 2 by rw [hb5]; simp only [List.length_append, List.length_cons, List.length_nil])
    have HXE := Lib.hid (show bs ++ subsW S L = ((((b5 ++ cntB S) ++ [9]) ++ cutB S) ++ sumsW UK) ++ [0] by rw [HE.out, hb5]; simp)
    clear hb5 T4
    have e6 := HCell.out _ _ _ _ T5
    go_wp2_with fail
    go_loopw [42] (fun i wr => ∃ k : Nat, k ≤ S.length ∧ i = .int .i64 k ∧ WrTo w2 lo p v (b5 ++ cntB (S.take k)) d wr) (fun i _ => S.length - (intOf i).toNat)
    case atStart => exact ⟨0, Nat.zero_le _, rfl, by simpa [cntB] using T5⟩
    case round =>
      obtain ⟨k, hk, rfl, T⟩ := hrel
      by_cases hlt : k < S.length
      · obtain ⟨l, hx⟩ := some_get S k hlt
        obtain ⟨q1, o1, lv, hao, hq1, e0, hrow⟩ := HSO.out k l hx
        subst hao
        obtain ⟨lo1, lc1, rfl, -, -, -⟩ := hrow.out
        have FW := HBF.out _ _ T
        have hq1' := Nat.lt_of_lt_of_le hq1 FW.size
        have f0 := (FW.cell (p := ⟨q1, o1 + k, none⟩) hq1 (by simp)).trans e0
        have hll := HRB.out l (List.mem_of_getElem? hx)
        have hwl : IntKind.u64.wrap (l.length : Int) = (l.length : Int) := by simp [IntKind.wrap, IntKind.bits, IntKind.signed]; omega
        have HTK := Lib.hid (cntB_take hx)
        have HTL := Lib.hid (cntB_le hx)
        clear hx e0 hrow
        go_wp2_with (go_at_call 24; refine (wnumber_any T l.length (by have := HL.out; have := HL5.out; have := HTL.out; rw [List.length_append]; omega) (by omega)).mono ?_; rintro e w6 ⟨rfl, T6⟩)
        go_roundw
        case rel => exact ⟨k + 1, by omega, by go_num, by rw [HTK.out, ← List.append_assoc]; exact T6⟩
        case measure => simp [intOf]; omega
      · obtain rfl : k = S.length := by omega
        rw [List.take_of_length_le (Nat.le_refl _)] at T
        obtain ⟨b6, hb6⟩ : ∃ b6, b6 = b5 ++ cntB S := ⟨_, rfl⟩
        rw [← hb6] at T HXE
        have HL6 := Lib.hid (show b6.length = b5.length + (cntB S).length by rw [hb6, List.length_append])
        clear hb6 T5 e6
        go_upto_region 14 with (go_at_call 11; refine (wput_any (T.then0 ((Fr.refl _ _).alloc _)) _ [9] (sl_one _ _ _) (by have := HL.out; have := HL5.out; have := HL6.out; simp only [List.length_cons, List.length_nil]; omega)).mono ?_; rintro e w7 ⟨rfl, T7⟩)
        obtain ⟨b7, hb7⟩ : ∃ b7, b7 = b6 ++ [9] := ⟨_, rfl⟩
        rw [← hb7] at T7 HXE
        have HL7 := Lib.hid (show b7.length = b6.length + 1 by rw [hb7, List.length_append, List.length_singleton])
        clear hb7 T
        have e6 := HCell.out _ _ _ _ T7
        go_wp2_with fail
        go_loopw [61] (fun i wx => ∃ j : Nat, j ≤ S.length ∧ i = .int .i64 j ∧ WrTo w2 lo p v (b7 ++ cutB (S.take j)) d wx) (fun i _ => S.length - (intOf i).toNat)
        case atStart => exact ⟨0, Nat.zero_le _, rfl, by simpa [cutB] using T7⟩
        case round =>
          obtain ⟨j, hj, rfl, T⟩ := hrel
          rename World => wJ
          by_cases hlt : j < S.length
          · obtain ⟨l, hx⟩ := some_get S j hlt
            obtain ⟨q1, o1, lv, hao, hq1, e0, hrow⟩ := HSO.out j l hx
            subst hao
            obtain ⟨lo1, lc1, rfl, hlc1, hlc2, -⟩ := hrow.out
            have FW := HBF.out _ _ T
            have hq1' := Nat.lt_of_lt_of_le hq1 FW.size
            have f0 := (FW.cell (p := ⟨q1, o1 + j, none⟩) hq1 (by simp)).trans e0
            have hll := HRB.out l (List.mem_of_getElem? hx)
            have hl0 := List.length_pos_iff.2 (HNE.out l (List.mem_of_getElem? hx))
            have HTK := Lib.hid (cutB_take hx)
            have HTL := Lib.hid (cutB_le hx)
            have HRow := Lib.hid (fun wx (Fx : Fr [] w0 wx) => hrow.fr0 Fx)
            obtain ⟨b8, hb8⟩ : ∃ b8, b8 = b7 ++ cutB (S.take j) := ⟨_, rfl⟩
            have HFIN := Lib.hid (show b7 ++ cutB (S.take (j + 1)) = b8 ++ cutOf l by rw [HTK.out, ← List.append_assoc, ← hb8])
            have HLC := Lib.hid (show b8.length + (cutOf l).length ≤ 40000000 by rw [hb8, List.length_append]; have := HTL.out; have := HL.out; have := HL5.out; have := HL6.out; have := HL7.out; omega)
            rw [← hb8] at T
            have HLL := Lib.hid (show (l.take (l.length - 1)).length = l.length - 1 by rw [List.length_take]; omega)
            have hlI : (l.length : Int) ≤ (lc1 : Int) := by omega
            have hl0I : (0 : Int) < (l.length : Int) := by omega
            clear hx e0 hrow hb8
            go_wp2_with fail
            go_loopw [71] (fun i wx => ∃ m : Nat, m ≤ l.length - 1 ∧ i = .int .i64 m ∧ WrTo w2 lo p v (b8 ++ ((l.take (l.length - 1)).take m).flatMap (fun s => shortN s.size.toNat)) d wx) (fun i _ => l.length - 1 - (intOf i).toNat)
            case atStart => exact ⟨0, Nat.zero_le _, rfl, by simpa using T⟩
            case round =>
              obtain ⟨m, hm, rfl, Tm⟩ := hrel
              rename World => wM
              by_cases hlt2 : m < l.length - 1
              · obtain ⟨y, hy⟩ := some_get (l.take (l.length - 1)) m (by rw [HLL.out]; exact hlt2)
                have hy2 : l[m]? = some y := by have h := hy; rw [List.getElem?_take, if_pos hlt2] at h; exact h
                obtain ⟨q3, o3, hao3, hq3, e0, e1, e2⟩ := (HRow.out wM (HBF.out _ _ Tm)).sb hy2 (by omega)
                subst hao3
                have HTM := Lib.hid (flat_le (fun s : Sub => shortN s.size.toNat) hy)
                have HTN := Lib.hid (show ((l.take (l.length - 1)).take (m + 1)).flatMap (fun s => shortN s.size.toNat) = ((l.take (l.length - 1)).take m).flatMap (fun s => shortN s.size.toNat) ++ shortN y.size.toNat by
                  rw [List.take_add_one, hy, List.flatMap_append]
                  congr 1
                  simp only [Option.toList_some, List.flatMap_cons, List.flatMap_nil, List.append_nil])
                have hyl := y.size.toNat_lt
                obtain ⟨ysz, ⟨yh, ys⟩⟩ := y
                dsimp only at e0 e1 e2 hyl HTN HTM
                have hbnd : (b8 ++ ((l.take (l.length - 1)).take m).flatMap (fun s => shortN s.size.toNat)).length ≤ 100000000 := by
                  have h1 := HTM.out
                  have h2 := HLC.out
                  unfold cutOf at h2
                  rw [List.length_append]
                  omega
                have FC : Fr [] wM (wM.alloc (.cells #[.int .u64 ysz.toNat, .bool yh, .int .u32 ys.toNat] 75)) := (Fr.refl _ _).alloc _
                have TC := Tm.then0 FC
                clear hy hy2
                go_wp2_with (go_at_call 24; refine (wnumber_any TC ysz.toNat hbnd hyl).mono ?_; rintro e w6 ⟨rfl, T6⟩)
                go_roundw
                case rel => exact ⟨m + 1, by omega, by go_num, by rw [HTN.out, ← List.append_assoc]; exact T6⟩
                case measure => simp [intOf]; omega
              · obtain rfl : m = l.length - 1 := by omega
                have Te : WrTo w2 lo p v (b8 ++ cutOf l) d wM := by
                  have h := Tm
                  rw [List.take_of_length_le (by rw [HLL.out]; exact Nat.le_refl _)] at h
                  exact h
                rw [← HFIN.out] at Te
                clear Tm
                go_wp2_with fail
                go_roundw
                case rel => exact ⟨j + 1, by omega, by go_num, Te⟩
                case measure => simp [intOf]; omega
          · obtain rfl : j = S.length := by omega
            rw [List.take_of_length_le (Nat.le_refl _)] at T
            obtain ⟨b8, hb8⟩ : ∃ b8, b8 = b7 ++ cutB S := ⟨_, rfl⟩
            rw [← hb8] at T HXE
            have HL8 := Lib.hid (show b8.length = b7.length + (cutB S).length by rw [hb8, List.length_append])
            clear hb8 T7 e6
            go_wp2_with (first
              | (have hq := T8; go_at_call 11; refine (wput_any (T8.then0 ((Fr.refl _ _).alloc _)) _ [0] (sl_one _ _ _) (by have := HL.out; have := HL5.out; have := HL6.out; have := HL7.out; have := HL8.out; simp only [List.length_append, List.length_cons, List.length_nil]; omega)).mono ?_; rintro e w9 ⟨rfl, T9⟩)
              | (go_at_call 47; refine (wsums_any T _ UK (RowSt.own (HOW.out _ _ T) (by decide) hpw) HUL.out (by have := HL.out; have := HL5.out; have := HL6.out; have := HL7.out; have := HL8.out; omega)).mono ?_; rintro e w8 ⟨rfl, T8⟩))
            go_ret
            exact ⟨rfl, by rw [HXE.out]; exact WrTo.fr0 HFR.out T9⟩
end Go.Proofs.YtkodindajfdagaaDoor
