/- Contract: the writer's folders. No condition but that lengths fit. -/
import Derived.Test.YtkodindajfdagaaDoorWFolderM
namespace Go.Proofs.YtkodindajfdagaaDoor
open Go.RowKit

/-- Folders that came in. -/
def FolR (w : World) (fv : Value) (L : List Fol) : Prop :=
  ∃ ao cap, fv = .slice ao L.length cap ∧ L.length ≤ cap ∧ cap ≤ 9223372036854775807 ∧
    ∀ j x, L[j]? = some x → ∃ b o c b' q s, ao = some ⟨b, o, none⟩ ∧ b < w.heap.size ∧ w.cell? ⟨b, o + j * 6, none⟩ = some c ∧ w.cell? ⟨b, o + j * 6 + 1, none⟩ = some b' ∧ w.cell? ⟨b, o + j * 6 + 2, none⟩ = some q ∧ w.cell? ⟨b, o + j * 6 + 3, none⟩ = some s ∧
      w.cell? ⟨b, o + j * 6 + 4, none⟩ = some (.bool x.ck.has) ∧ w.cell? ⟨b, o + j * 6 + 5, none⟩ = some (.int .u32 x.ck.sum.toNat) ∧ FoV w c b' q s x.f
theorem FolR.out {w : World} {fv : Value} {L : List Fol} (h : FolR w fv L) : ∃ ao cap, fv = .slice ao L.length cap ∧ L.length ≤ cap ∧ cap ≤ 9223372036854775807 ∧
    ∀ j x, L[j]? = some x → ∃ b o c b' q s, ao = some ⟨b, o, none⟩ ∧ b < w.heap.size ∧ w.cell? ⟨b, o + j * 6, none⟩ = some c ∧ w.cell? ⟨b, o + j * 6 + 1, none⟩ = some b' ∧ w.cell? ⟨b, o + j * 6 + 2, none⟩ = some q ∧ w.cell? ⟨b, o + j * 6 + 3, none⟩ = some s ∧
      w.cell? ⟨b, o + j * 6 + 4, none⟩ = some (.bool x.ck.has) ∧ w.cell? ⟨b, o + j * 6 + 5, none⟩ = some (.int .u32 x.ck.sum.toNat) ∧ FoV w c b' q s x.f := h
theorem FolR.fr {w w' : World} {fv : Value} {L : List Fol} (h : FolR w fv L) (F : Fr [] w w') : FolR w' fv L := by
  obtain ⟨ao, cap, e, h1, h2, h3⟩ := h
  refine ⟨ao, cap, e, h1, h2, fun j x hx => ?_⟩
  obtain ⟨b, o, c, b', q, s, r1, r2, r3, r4, r5, r6, r7, r8, r9⟩ := h3 j x hx
  have k : ∀ i, w'.cell? ⟨b, i, none⟩ = w.cell? ⟨b, i, none⟩ := fun i => F.cell (p := ⟨b, i, none⟩) r2 (by simp)
  exact ⟨b, o, c, b', q, s, r1, Nat.lt_of_lt_of_le r2 F.size, (k _).trans r3, (k _).trans r4, (k _).trans r5, (k _).trans r6, (k _).trans r7, (k _).trans r8, r9.fr F⟩

/-- A row of the call's own that grows leaves the writer alone. -/
theorem WrTo.grownO {w wx w' : World} {lo p : Nat} {v : Value} {bs : List UInt8} {d : DW} {base e m n : Nat} {u : Value} {xs : List Value} (T : WrTo w lo p v bs d wx) (own : wx.ownsRow base e m u n xs) (he : e ≠ 5) (hp : p < base) (hb : w.heap.size ≤ base) (g : wx.grownBy w' u.ownBlock) : WrTo w lo p v bs d w' := by
  obtain ⟨v1, W1, F1, hk⟩ := T
  have F : Fr u.ownBlock.toList wx w' := (Fr.refl _ _).grown g (fun k hk => .inl (by simp [hk]))
  refine ⟨v1, W1.fr F (fun hm => ?_) (fun k hk hm => ?_), F1.trans F (fun i hi => ?_), hk⟩
  · have := (own_ltS own p (by simpa using hm)).1
    omega
  · exact own_apart own W1.own he k (by simpa using hm) hk
  · have := (own_ltS own i (by simpa using hi)).1
    exact .inr (by omega)
theorem wfolder_any {w0 w wx : World} {lo p : Nat} {v : Value} {bs : List UInt8} {d : DW} (T : WrTo w lo p v bs d wx) (F0 : Fr [] w0 wx) (hp : w0.heap.size ≤ p) (cv bv' pv sv h k0 : Value) (f : Folder) (hf : FoV w0 cv bv' pv sv f)
    (hm : ∀ c ∈ f.coders, 1 ≤ c.method ∧ c.method ≤ 7) (hbd : ∀ b ∈ f.binds, 0 ≤ b.1 ∧ b.1 < 1000000 ∧ 0 ≤ b.2 ∧ b.2 < 1000000) (hpk : ∀ x ∈ f.packs, 0 ≤ x ∧ x < 1000000) (hn : f.coders.length ≤ 100000) (hbn : f.binds.length ≤ 100000) (hpn : f.packs.length ≤ 100000) (hb : bs.length + (folderW f).length ≤ 50000000) :
    Calls Tryd.prog 48 #[.pointer (some ⟨p, 0, none⟩), .agg #[cv, bv', pv, sv, h, k0]] wx fun e w' => e = .returned (.tuple #[]) ∧ WrTo w lo p v (bs ++ folderW f) d w' :=
  T.chain fun v1 W1 => folder_one w0 wx lo p v1 cv bv' pv sv h k0 bs d f W1 F0 hp hf hm hbd hpk hn hbn hpn hb

/-- A folder that may be written. -/
structure FolOk (f : Folder) : Prop where
  m : ∀ c ∈ f.coders, 1 ≤ c.method ∧ c.method ≤ 7
  b : ∀ b ∈ f.binds, 0 ≤ b.1 ∧ b.1 < 1000000 ∧ 0 ≤ b.2 ∧ b.2 < 1000000
  k : ∀ x ∈ f.packs, 0 ≤ x ∧ x < 1000000
  cl : f.coders.length ≤ 100000
  bl : f.binds.length ≤ 100000
  pl : f.packs.length ≤ 100000
  sl : f.sizes.length ≤ 100000
def foB (L : List Fol) : List UInt8 := L.flatMap fun x => folderW x.f
def szB (L : List Fol) : List UInt8 := L.flatMap fun x => numsB x.f.sizes
def cksL (L : List Fol) : List Ck := L.map (·.ck)
def foldersW (L : List Fol) : List UInt8 :=
  if L = [] then [] else [7, 11] ++ (shortN L.length ++ (0 :: (foB L ++ (12 :: (szB L ++ (sumsW (cksL L) ++ [0]))))))
theorem cksL_take {L : List Fol} {k : Nat} {x : Fol} (h : L[k]? = some x) : ckV (cksL (L.take (k + 1))) = ckV (cksL (L.take k)) ++ [.bool x.ck.has, .int .u32 x.ck.sum.toNat] := by
  simp [cksL, ckV, List.take_add_one, h]

theorem foB_take {L : List Fol} {k : Nat} {x : Fol} (h : L[k]? = some x) : foB (L.take (k + 1)) = foB (L.take k) ++ folderW x.f := by
  unfold foB
  rw [List.take_add_one, h, List.flatMap_append]
  congr 1
  simp only [Option.toList_some, List.flatMap_cons, List.flatMap_nil, List.append_nil]
theorem foB_le {L : List Fol} {k : Nat} {x : Fol} (h : L[k]? = some x) : (foB (L.take k)).length + (folderW x.f).length ≤ (foB L).length := by
  have h1 := flat_le (fun x : Fol => folderW x.f) h
  unfold foB
  exact h1

theorem szB_take {L : List Fol} {k : Nat} {x : Fol} (h : L[k]? = some x) : szB (L.take (k + 1)) = szB (L.take k) ++ numsB x.f.sizes := by
  unfold szB
  rw [List.take_add_one, h, List.flatMap_append]
  congr 1
  simp only [Option.toList_some, List.flatMap_cons, List.flatMap_nil, List.append_nil]
theorem szB_le {L : List Fol} {k : Nat} {x : Fol} (h : L[k]? = some x) : (szB (L.take k)).length + (numsB x.f.sizes).length ≤ (szB L).length := by
  have h1 := flat_le (fun x : Fol => numsB x.f.sizes) h
  unfold szB
  exact h1

set_option maxRecDepth 100000 in
set_option maxHeartbeats 8000000 in
theorem folders_one (w0 w : World) (lo p : Nat) (v fv : Value) (bs : List UInt8) (d : DW) (L : List Fol) (W : WrAt w lo p v bs d) (F0 : Fr [] w0 w) (hp : w0.heap.size ≤ p) (hd : d.fo = fv) (hf : FolR w0 fv L) (hok : ∀ x ∈ L, FolOk x.f) (hn : L.length ≤ 100000) (hb : bs.length + (foldersW L).length ≤ 40000000) :
    Calls Tryd.prog 22 #[.pointer (some ⟨p, 0, none⟩)] w fun e w' => e = .returned (.bool (!(decide (L = [])))) ∧ WrTo w lo p v (bs ++ foldersW L) d w' := by
  obtain ⟨fao, fcap, rfl, -, -, fo⟩ := hf.out
  have HCell := Lib.hid (fun (w1 wx : World) (v1 : Value) (bs2 : List UInt8) (T : WrTo w1 lo p v1 bs2 d wx) => (show wx.cell? ⟨p, 5, none⟩ = some (.slice fao L.length fcap) from hd ▸ T.cell.2.2.2.2.1))
  have T0 := WrTo.refl W
  have c5 := HCell.out _ _ _ _ T0
  have HFO := Lib.hid fo
  have HOK := Lib.hid hok
  have HN := Lib.hid hn
  have HW := Lib.hid W
  have HF0 := Lib.hid F0
  clear fo hok hf hd
  by_cases h0 : L = []
  · have HE := Lib.hid (show foldersW L = [] from if_pos h0)
    have HV := Lib.hid (show (!(decide (L = []))) = false by rw [decide_eq_true h0]; rfl)
    have t0 : ((L.length : Int) == 0) = true := by rw [h0]; rfl
    clear h0
    go_enter Tryd.func22, Tryd.ntmps22
    go_wp2_with fail
    go_ret
    exact ⟨by rw [HV.out]; rfl, by rw [HE.out, List.append_nil]; exact T0⟩
  have HE := Lib.hid (show foldersW L = [7, 11] ++ (shortN L.length ++ (0 :: (foB L ++ (12 :: (szB L ++ (sumsW (cksL L) ++ [0])))))) from if_neg h0)
  have HV := Lib.hid (show (!(decide (L = []))) = true by rw [decide_eq_false h0]; rfl)
  have t0 : ((L.length : Int) == 0) = false := by rw [beq_eq_false_iff_ne]; have := List.length_pos_iff.2 h0; omega
  have hwr : IntKind.u64.wrap (L.length : Int) = (L.length : Int) := by simp [IntKind.wrap, IntKind.bits, IntKind.signed]; omega
  have hFl : L.length < 18446744073709551616 := by omega
  have hlen := congrArg List.length HE.out
  simp only [List.length_append, List.length_cons, List.length_nil] at hlen
  have HL := Lib.hid (show bs.length + 2 + (shortN L.length).length + 1 + (foB L).length + 1 + (szB L).length + (sumsW (cksL L)).length + 1 ≤ 40000000 by omega)
  clear h0 hlen hb W F0
  go_enter Tryd.func22, Tryd.ntmps22
  go_upto_region 6 with (first
    | (have hq := T2; go_at_call 11; refine (wput_any (T2.then0 ((Fr.refl _ _).alloc _)) _ [0] (sl_one _ _ _) (by have := HL.out; simp only [List.length_append, List.length_cons, List.length_nil]; omega)).mono ?_; rintro e w3 ⟨rfl, T3⟩)
    | (have hq := T1; go_at_call 24; refine (wnumber_any T1 L.length (by have := HL.out; simp only [List.length_append, List.length_cons, List.length_nil]; omega) hFl).mono ?_; rintro e w2 ⟨rfl, T2⟩)
    | (go_at_call 11; refine (wput_any (T0.then0 ((Fr.refl _ _).alloc _)) _ [7, 11] (sl_lit _ _ (bv [7, 11]) 2 rfl (by decide)) (by have := HL.out; simp only [List.length_cons, List.length_nil]; omega)).mono ?_; rintro e w1 ⟨rfl, T1⟩; have e5 := HCell.out _ _ _ _ T1))
  rename_i K6 hK6
  obtain ⟨b3, hb3⟩ : ∃ b3, b3 = ((bs ++ [7, 11]) ++ shortN L.length) ++ [0] := ⟨_, rfl⟩
  rw [← hb3] at T3
  have HL3 := Lib.hid (show b3.length = bs.length + 2 + (shortN L.length).length + 1 by rw [hb3]; simp only [List.length_append, List.length_cons, List.length_nil])
  have HXE := Lib.hid (show bs ++ foldersW L = ((((b3 ++ foB L) ++ [12]) ++ szB L) ++ sumsW (cksL L)) ++ [0] by rw [HE.out, hb3]; simp)
  clear hb3 T1 T2 e5 c5
  go_cut [3] (fun v3 wx => v3 = .slice none 0 0 ∧ wx = w3)
  case first =>
    clear hK6
    go_wp2_with fail
    go_meet
    case rel => exact ⟨rfl, rfl⟩
  case rest =>
  obtain ⟨rfl, hw⟩ := hcut
  have hw' := hw.symm
  clear hw
  subst hw'
  (refine hK6 _ _ ?_; clear hK6; refine wp_seq_k fun K7 hK7 => ?_)
  have F03 := T3.base HW.out HF0.out hp
  obtain ⟨vs, W3, G3, hk3⟩ := T3.out
  have HT3 := Lib.hid (fun (cs : List UInt8) wx (T : WrTo w3 lo p vs cs d wx) => WrTo.trans G3 hk3 T)
  have HBase := Lib.hid (fun (cs : List UInt8) wx (T : WrTo w3 lo p vs cs d wx) => T.base W3 F03 hp)
  have hp3 := W3.lt
  have T30 := WrTo.refl W3
  have e5 := HCell.out _ _ _ _ T30
  clear G3 hk3 T3 T0
  go_cut [3] (fun v3 wx => ∃ vc, v3 = vc ∧ wx.ownsRow w3.heap.size 44 2 vc L.length (ckV (cksL L)) ∧ WrTo w3 lo p vs (b3 ++ foB L) d wx)
  case first =>
    -- <<
    clear hK7
    go_wp2_with fail
    go_loopw [3, 38] (fun v3 i wr => ∃ k : Nat, k ≤ L.length ∧ i = .int .i64 k ∧ wr.ownsRow w3.heap.size 44 2 v3 k (ckV (cksL (L.take k))) ∧ WrTo w3 lo p vs (b3 ++ foB (L.take k)) d wr) (fun _ i _ => L.length - (intOf i).toNat)
    case atStart => exact ⟨0, Nat.zero_le _, rfl, World.ownsRow_nil _ _ _ _, by simpa [foB] using T30⟩
    case round =>
      obtain ⟨k, hk, rfl, own, T⟩ := hrel
      obtain ⟨vo, vc, rfl, -⟩ := own_outS own
      by_cases hlt : k < L.length
      · obtain ⟨x, hx⟩ := some_get L k hlt
        obtain ⟨q1, o1, c, b', q, s, hao, hq1, e0, e1, e2, e3, e4, e6, hfv⟩ := HFO.out k x hx
        subst hao
        have FB := HBase.out _ _ T
        have hq1' := Nat.lt_of_lt_of_le hq1 FB.size
        have f0 := (FB.cell (p := ⟨q1, o1 + k * 6, none⟩) hq1 (by simp)).trans e0
        have f1 := (FB.cell (p := ⟨q1, o1 + k * 6 + 1, none⟩) hq1 (by simp)).trans e1
        have f2 := (FB.cell (p := ⟨q1, o1 + k * 6 + 2, none⟩) hq1 (by simp)).trans e2
        have f3 := (FB.cell (p := ⟨q1, o1 + k * 6 + 3, none⟩) hq1 (by simp)).trans e3
        have f4 := (FB.cell (p := ⟨q1, o1 + k * 6 + 4, none⟩) hq1 (by simp)).trans e4
        have f5 := (FB.cell (p := ⟨q1, o1 + k * 6 + 5, none⟩) hq1 (by simp)).trans e6
        have hOk := HOK.out x (List.mem_of_getElem? hx)
        have HTL := Lib.hid (foB_le hx)
        have HTK := Lib.hid (foB_take hx)
        have HCK := Lib.hid (cksL_take hx)
        obtain ⟨ff, ⟨hs, sm⟩⟩ := x
        dsimp only at f4 f5 hfv hOk HTL HTK HCK
        obtain ⟨ca1, cc1, rfl, -, -, -⟩ := hfv.co.out
        obtain ⟨ba1, bc1, rfl, -, -, -⟩ := hfv.bi.out
        have hpo := hfv.pa.out
        rw [iv_length] at hpo
        obtain ⟨pa1, pc1, rfl, -, -, -⟩ := hpo
        have hso := hfv.si.out
        rw [u64v_length] at hso
        obtain ⟨sa1, sc1, rfl, -, -, -⟩ := hso
        obtain ⟨v1, W1, G1, hk1⟩ := T.out
        obtain ⟨b4, hb4⟩ : ∃ b4, b4 = b3 ++ foB (L.take k) := ⟨_, rfl⟩
        have HLC := Lib.hid (show b4.length + (folderW ff).length ≤ 40000000 by rw [hb4, List.length_append]; have := HTL.out; have := HL.out; have := HL3.out; omega)
        have HFIN := Lib.hid (show b3 ++ foB (L.take (k + 1)) = b4 ++ folderW ff by rw [HTK.out, ← List.append_assoc, ← hb4])
        rw [← hb4] at W1
        clear hb4 hx e0 e1 e2 e3 e4 e6 T
        obtain ⟨wC, hwC⟩ : ∃ wC, wC = wr.alloc (.cells #[.slice ca1 ff.coders.length cc1, .slice ba1 ff.binds.length bc1, .slice pa1 ff.packs.length pc1, .slice sa1 ff.sizes.length sc1, .bool hs, .int .u32 sm.toNat] 46) := ⟨_, rfl⟩
        have FC : Fr [] wr wC := hwC ▸ (Fr.refl _ _).alloc _
        have WC := W1.fr0 FC
        have HBC := Lib.hid (fun (cs : List UInt8) wx (T : WrTo wC lo p v1 cs d wx) => wbox6 (hwC ▸ T.frm : Fr (p :: v1.ownBlock.toList) (wr.alloc (.cells #[.slice ca1 ff.coders.length cc1, .slice ba1 ff.binds.length bc1, .slice pa1 ff.packs.length pc1, .slice sa1 ff.sizes.length sc1, .bool hs, .int .u32 sm.toNat] 46)) wx) (fun hmm => by
          simp only [List.mem_cons, Option.mem_toList] at hmm
          rcases hmm with hmm | hmm
          · have := W1.lt; omega
          · have := (W1.gs _ hmm).2; omega))
        have TC := WrTo.refl WC
        obtain ⟨z0, z1, z2, z3, z4, z5⟩ := HBC.out _ _ TC
        have hge := (own_frS own FC (by simp))
        have HOW := Lib.hid (fun (cs : List UInt8) wx (T : WrTo wC lo p v1 cs d wx) => own_wr hge T.frm (fun k hk => ⟨by have := (own_ltS hge k hk).1; omega, fun e2 => own_apart hge WC.own (by decide) k hk e2⟩))
        have HBK := Lib.hid (fun (cs : List UInt8) wx (T : WrTo wC lo p v1 cs d wx) => WrTo.trans G1 hk1 (WrTo.fr0 FC T))
        have HFd := Lib.hid (wfolder_any TC (FB.trans0 FC) hp (.slice ca1 ff.coders.length cc1) (.slice ba1 ff.binds.length bc1) (.slice pa1 ff.packs.length pc1) (.slice sa1 ff.sizes.length sc1) (.bool hs) (.int .u32 sm.toNat) ff hfv hOk.m hOk.b hOk.k hOk.cl hOk.bl hOk.pl (by have := HLC.out; omega))
        clear G1 hk1 FC W1 own hfv
        go_wp2_with (first
          | (have hq := O5; at_builtin; refine wpList_append_struct sty_ck rfl _ _ (by rfl) w3.heap.size _ _ _ (by rfl) (own_frS O5 ((Fr.refl [] w5).alloc _) (by simp)) w5.heap.size [.bool hs, .int .u32 sm.toNat] (by rfl) (heap_alloc_new w5 _) rfl rfl (by have := HN.out; omega) (by decide) (by have := (HBK.out _ _ T5).frm.size; rw [World.size_alloc]; omega) ?_; intro v7 w7 own7 g7; obtain ⟨vo7, vc7, rfl, -⟩ := own_outS own7)
          | (go_at_call 48; rw [← hwC]; refine HFd.out.mono ?_; rintro e w5 ⟨rfl, T5⟩; obtain ⟨r0, r1, r2, r3, r4, r5⟩ := HBC.out _ _ T5; have O5 := HOW.out _ _ T5))
        have T7 := ((HBK.out _ _ T5).then0 ((Fr.refl [] w5).alloc (.cells #[.bool hs, .int .u32 sm.toNat] 44))).grownO (own_frS O5 ((Fr.refl [] w5).alloc _) (by simp)) (by decide) hp3 (Nat.le_refl _) g7
        go_roundw
        case rel => exact ⟨k + 1, by omega, by go_num, by rw [HCK.out]; exact own7, by rw [HFIN.out]; exact T7⟩
        case measure => simp [intOf]; omega
      · obtain rfl : k = L.length := by omega
        rw [List.take_of_length_le (Nat.le_refl _)] at T own
        go_wp2_with fail
        go_meet
        case rel => exact ⟨_, rfl, own, T⟩
    -- >>
  case rest =>
  obtain ⟨vc, rfl, ownC, T4⟩ := hcut
  obtain ⟨vco, vcc, rfl, -⟩ := own_outS ownC
  obtain ⟨w4, hw4⟩ : ∃ w4, w4 = wc := ⟨_, rfl⟩
  rw [← hw4] at ownC T4 ⊢
  clear hw4 e5
  obtain ⟨b4, hb4⟩ : ∃ b4, b4 = b3 ++ foB L := ⟨_, rfl⟩
  rw [← hb4] at T4 HXE
  have HL4 := Lib.hid (show b4.length = b3.length + (foB L).length by rw [hb4, List.length_append])
  clear hb4
  obtain ⟨v4, W4, G4, hk4⟩ := T4.out
  have HT4 := Lib.hid (fun (cs : List UInt8) wx (T : WrTo w4 lo p v4 cs d wx) => HT3.out _ _ (WrTo.trans G4 hk4 T))
  have HB4 := Lib.hid (fun (cs : List UInt8) wx (T : WrTo w4 lo p v4 cs d wx) => HBase.out _ _ (WrTo.trans G4 hk4 T))
  have HOW4 := Lib.hid (fun (cs : List UInt8) wx (T : WrTo w4 lo p v4 cs d wx) => own_wr ownC T.frm (fun k hk => ⟨by have := (own_ltS ownC k hk).1; omega, fun e2 => own_apart ownC W4.own (by decide) k hk e2⟩))
  have T40 := WrTo.refl W4
  clear G4 hk4 T4 T30
  (refine hK7 _ _ ?_; clear hK7; refine wp_seq_k fun K8 hK8 => ?_)
  go_cut [] (fun wx => WrTo w4 lo p v4 (b4 ++ [12]) d wx)
  case first =>
    clear hK8
    go_wp2_with (go_at_call 11; refine (wput_any (T40.then0 ((Fr.refl _ _).alloc _)) _ [12] (sl_one _ _ _) (by have := HL.out; have := HL3.out; have := HL4.out; simp only [List.length_cons, List.length_nil]; omega)).mono ?_; rintro e w5 ⟨rfl, T5⟩)
    go_meet
    case rel => exact T5
  case rest =>
  obtain ⟨b5, hb5⟩ : ∃ b5, b5 = b4 ++ [12] := ⟨_, rfl⟩
  rw [← hb5] at hcut HXE
  have HL5 := Lib.hid (show b5.length = b4.length + 1 by rw [hb5, List.length_append, List.length_singleton])
  obtain ⟨w5, hw5⟩ : ∃ w5, w5 = wc := ⟨_, rfl⟩
  rw [← hw5] at hcut ⊢
  have T5 := hcut
  clear hcut hw5 hb5 T40
  (refine hK8 _ _ ?_; clear hK8; refine wp_seq_k fun K9 hK9 => ?_)
  have e5 := HCell.out _ _ _ _ T5
  go_cut [] (fun wx => WrTo w4 lo p v4 (b5 ++ szB L) d wx)
  case first =>
    -- <<
    clear hK9
    go_wp2_with fail
    go_loopw [60] (fun i wr => ∃ k : Nat, k ≤ L.length ∧ i = .int .i64 k ∧ WrTo w4 lo p v4 (b5 ++ szB (L.take k)) d wr) (fun i _ => L.length - (intOf i).toNat)
    case atStart => exact ⟨0, Nat.zero_le _, rfl, by simpa [szB] using T5⟩
    case round =>
      obtain ⟨k, hk, rfl, T⟩ := hrel
      by_cases hlt : k < L.length
      · obtain ⟨x, hx⟩ := some_get L k hlt
        obtain ⟨q1, o1, c, b', q, s, hao, hq1, e0, e1, e2, e3, e4, e6, hfv⟩ := HFO.out k x hx
        subst hao
        have FB := HB4.out _ _ T
        have hq1' := Nat.lt_of_lt_of_le hq1 FB.size
        have f0 := (FB.cell (p := ⟨q1, o1 + k * 6, none⟩) hq1 (by simp)).trans e0
        have f1 := (FB.cell (p := ⟨q1, o1 + k * 6 + 1, none⟩) hq1 (by simp)).trans e1
        have f2 := (FB.cell (p := ⟨q1, o1 + k * 6 + 2, none⟩) hq1 (by simp)).trans e2
        have f3 := (FB.cell (p := ⟨q1, o1 + k * 6 + 3, none⟩) hq1 (by simp)).trans e3
        have f4 := (FB.cell (p := ⟨q1, o1 + k * 6 + 4, none⟩) hq1 (by simp)).trans e4
        have f5 := (FB.cell (p := ⟨q1, o1 + k * 6 + 5, none⟩) hq1 (by simp)).trans e6
        have hOk := HOK.out x (List.mem_of_getElem? hx)
        have HTL := Lib.hid (szB_le hx)
        have HTK := Lib.hid (szB_take hx)
        obtain ⟨ff, ⟨hs, sm⟩⟩ := x
        dsimp only at f4 f5 hfv hOk HTL HTK
        obtain ⟨ca1, cc1, rfl, -, -, -⟩ := hfv.co.out
        obtain ⟨ba1, bc1, rfl, -, -, -⟩ := hfv.bi.out
        have hpo := hfv.pa.out
        rw [iv_length] at hpo
        obtain ⟨pa1, pc1, rfl, -, -, -⟩ := hpo
        have hso := hfv.si.out
        rw [u64v_length] at hso
        obtain ⟨sa1, sc1, rfl, -, -, hsz⟩ := hso
        have HSZ := Lib.hid hsz
        have hsl := hOk.sl
        obtain ⟨v1, W1, G1, hk1⟩ := T.out
        obtain ⟨b6, hb6⟩ : ∃ b6, b6 = b5 ++ szB (L.take k) := ⟨_, rfl⟩
        have HLC := Lib.hid (show b6.length + (numsB ff.sizes).length ≤ 40000000 by rw [hb6, List.length_append]; have := HTL.out; have := HL.out; have := HL3.out; have := HL4.out; have := HL5.out; omega)
        have HFIN := Lib.hid (show b5 ++ szB (L.take (k + 1)) = b6 ++ numsB ff.sizes by rw [HTK.out, ← List.append_assoc, ← hb6])
        rw [← hb6] at W1
        clear hb6 hx e0 e1 e2 e3 e4 e6 T hfv hsz hOk
        obtain ⟨wC, hwC⟩ : ∃ wC, wC = wr.alloc (.cells #[.slice ca1 ff.coders.length cc1, .slice ba1 ff.binds.length bc1, .slice pa1 ff.packs.length pc1, .slice sa1 ff.sizes.length sc1, .bool hs, .int .u32 sm.toNat] 46) := ⟨_, rfl⟩
        have FC : Fr [] wr wC := hwC ▸ (Fr.refl _ _).alloc _
        have WC := W1.fr0 FC
        obtain ⟨z0, z1, z2, z3, z4, z5⟩ := wbox6 (hwC ▸ Fr.refl [] wC : Fr [] (wr.alloc (.cells #[.slice ca1 ff.coders.length cc1, .slice ba1 ff.binds.length bc1, .slice pa1 ff.packs.length pc1, .slice sa1 ff.sizes.length sc1, .bool hs, .int .u32 sm.toNat] 46)) wC) (by simp)
        have TC := WrTo.refl WC
        have HBK := Lib.hid (fun (cs : List UInt8) wx (T : WrTo wC lo p v1 cs d wx) => WrTo.trans G1 hk1 (WrTo.fr0 FC T))
        clear G1 hk1 FC W1
        go_wp2_with fail
        rw [← hwC]
        clear hwC z0 z1 z2 z3 z4 z5
        go_loopw [67] (fun i wx => ∃ j : Nat, j ≤ ff.sizes.length ∧ i = .int .i64 j ∧ WrTo wC lo p v1 (b6 ++ numsB (ff.sizes.take j)) d wx) (fun i _ => ff.sizes.length - (intOf i).toNat)
        case atStart => exact ⟨0, Nat.zero_le _, rfl, by simpa [numsB] using TC⟩
        case round =>
          obtain ⟨j, hj, rfl, Tj⟩ := hrel
          rename World => wA
          by_cases hlt2 : j < ff.sizes.length
          · obtain ⟨y, hy⟩ := some_get ff.sizes j hlt2
            obtain ⟨q2, o2, hao2, hq2, g0⟩ := HSZ.out j hlt2
            subst hao2
            have FJ := HB4.out _ _ (HBK.out _ _ Tj)
            have hq2' := Nat.lt_of_lt_of_le hq2 FJ.size
            have g1 := (FJ.cell (p := ⟨q2, o2 + j, none⟩) hq2 (by simp)).trans (g0 j hlt2)
            rw [u64v_get _ _ _ hy] at g1
            have HX := Lib.hid (numsB_take hy)
            have hle := numsB_le (l := ff.sizes) j
            have hyl := y.toNat_lt
            clear hy g0
            go_wp2_with (go_at_call 24; refine (wnumber_any Tj y.toNat (by have := HLC.out; rw [List.length_append]; omega) hyl).mono ?_; rintro e w7 ⟨rfl, T7⟩)
            go_roundw
            case rel => exact ⟨j + 1, by omega, by go_num, by rw [HX.out, ← List.append_assoc]; exact T7⟩
            case measure => simp [intOf]; omega
          · obtain rfl : j = ff.sizes.length := by omega
            rw [List.take_of_length_le (Nat.le_refl _), ← HFIN.out] at Tj
            have HTJ := Lib.hid (HBK.out _ _ Tj)
            clear Tj
            go_wp2_with fail
            go_roundw
            case rel => exact ⟨k + 1, by omega, by go_num, HTJ.out⟩
            case measure => simp [intOf]; omega
      · obtain rfl : k = L.length := by omega
        rw [List.take_of_length_le (Nat.le_refl _)] at T
        go_wp2_with fail
        go_meet
        case rel => exact T
    -- >>
  case rest =>
  obtain ⟨b7, hb7⟩ : ∃ b7, b7 = b5 ++ szB L := ⟨_, rfl⟩
  rw [← hb7] at hcut HXE
  have HL7 := Lib.hid (show b7.length = b5.length + (szB L).length by rw [hb7, List.length_append])
  obtain ⟨w7, hw7⟩ : ∃ w7, w7 = wc := ⟨_, rfl⟩
  rw [← hw7] at hcut ⊢
  have T7 := hcut
  clear hcut hw7 hb7 T5 e5
  have hcl : (cksL L).length = L.length := by simp [cksL]
  have o7 := HOW4.out _ _ T7
  have HSU := Lib.hid (wsums_any (hi := w7.heap.size) T7 (.slice vco L.length vcc) (cksL L) (by rw [hcl]; exact RowSt.own o7 (by decide) hp3) (by rw [hcl]; have := HN.out; omega) (by have := HL.out; have := HL3.out; have := HL4.out; have := HL5.out; have := HL7.out; omega))
  refine hK9 _ _ ?_
  clear hK9
  go_wp2_with (first
    | (have hq := T8; go_at_call 11; refine (wput_any (T8.then0 ((Fr.refl _ _).alloc _)) _ [0] (sl_one _ _ _) (by have := HL.out; have := HL3.out; have := HL4.out; have := HL5.out; have := HL7.out; rw [List.length_append, List.length_singleton]; omega)).mono ?_; rintro e w9 ⟨rfl, T9⟩)
    | (go_at_call 47; refine HSU.out.mono ?_; rintro e w8 ⟨rfl, T8⟩))
  go_ret
  exact ⟨by rw [HV.out]; rfl, by rw [HXE.out]; exact HT4.out _ _ T9⟩
end Go.Proofs.YtkodindajfdagaaDoor
