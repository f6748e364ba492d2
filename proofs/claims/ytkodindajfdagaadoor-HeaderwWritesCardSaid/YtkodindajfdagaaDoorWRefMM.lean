/- Contract: the reference's May. No condition but that lengths fit. -/
import Derived.Test.YtkodindajfdagaaDoorWRefGM
import Derived.Test.YtkodindajfdagaaDoorGAQ
import Derived.Test.YtkodindajfdagaaDoorWZeroM
import Derived.Test.YtkodindajfdagaaDoorGAR
import Derived.Test.YtkodindajfdagaaDoorWNamesM
import Derived.Deep.DeepCutAuto
namespace Go.Proofs.YtkodindajfdagaaDoor
open Go.RowKit

theorem mayAll_no {pk : Bool} {D : StD} {F : List Fil} (h : mayStr D = false) : mayAll pk D F = false := by unfold mayAll mayR; rw [h]; simp
theorem mayAll_pk {D : StD} {F : List Fil} (h : mayStr D = true) : mayAll true D F = (decide (D.L.length = 1) && decide (manyOf D.S = 1) && decide (F.length = 0)) := by unfold mayAll mayR; rw [h]; simp
theorem mayAll_fi {D : StD} {F : List Fil} (h : mayStr D = true) : mayAll false D F = (F.all mayFil && decide (manyOf D.S = streamN F)) := by unfold mayAll mayR; rw [h]; simp
theorem mayFil_eq (nm : List UInt8) (st dir ha : Bool) (attr : UInt32) (ht : Bool) (tm : UInt64) (rs : List Nat) (h : runesL nm = some rs) :
    mayFil ⟨nm, st, dir, ha, attr, ht, tm⟩ = (tests st dir ha (attr == 0) ht (tm == 0) && decide (0 ∉ unitsR rs)) := by
  have hz := zero_text _ nm rs (Nat.le_refl _) h
  have e : decide (0 ∉ unitsR rs) = !(decide ((0 : UInt8) ∈ nm)) := by
    rw [← decide_not]
    exact decide_eq_decide.2 (not_congr hz.symm)
  rw [e]
  unfold mayFil tests
  dsimp only
  rw [h]
  generalize decide ((0 : UInt8) ∈ nm) = z
  generalize (ha || attr == 0) = y1
  generalize (ht || tm == 0) = y2
  generalize (st && dir) = y3
  cases z <;> cases y1 <;> cases y2 <;> cases y3 <;> rfl

set_option maxRecDepth 100000 in
set_option maxHeartbeats 8000000 in
theorem rmay_any (w : World) (hi : Nat) (d : DW) (pk : Bool) (D : StD) (F : List Fil) (hp : d.pk = .bool pk) (hR : StR w d D) (hfit : StFit D) (hF : RowAt w hi 7 d.es F.length (fiV F)) (hn : F.length ≤ 1000000) (hS : D.S.length ≤ 10000)
    (hv : ∀ x ∈ F, x.name.length ≤ 100000) :
    Calls Tryd.prog 9 #[.agg #[d.pk, d.pl, d.ps, d.cs, d.fo, d.su, d.es]] w fun e w' => e = .returned (.bool (mayAll pk D F)) ∧ Fr [] w w' := by
  obtain ⟨dpk, pl, ps, cs, fo, su, es⟩ := d
  obtain ⟨r1, r2, r3, r4, r5⟩ := hR
  dsimp only at hp r1 r2 r3 r4 r5 hF ⊢
  subst r1 hp
  obtain ⟨pao, pcap, rfl, -, -, -⟩ := r2.out
  obtain ⟨cao, ccap, rfl, -, -, -⟩ := r3.out
  obtain ⟨fao, fcap, rfl, -, -, fel⟩ := r4.out
  obtain ⟨sao, scap, rfl, -, -, sel⟩ := r5.out
  obtain ⟨eao, ecap, rfl, -, -, -⟩ := hF.out
  have HP := Lib.hid r2
  have HC := Lib.hid r3
  have HFi := Lib.hid hF
  have HFe := Lib.hid fel
  have HSe := Lib.hid sel
  have HFit := Lib.hid hfit
  have HV := Lib.hid hv
  have hmany := manyOf_le2 hfit.su hS
  have hM : mayStr D = (decide (D.pl.toNat ≤ 1099511627776) && sizesUp 0 D.ps && decide (D.cs.length = D.ps.length) && decide (D.S.length = D.L.length) && D.cs.all ckOk && mayRows D.L D.S) := rfl
  have HM := Lib.hid hM
  have b1 := hfit.n1
  have b2 := hfit.n2
  have b3 := hfit.n3
  have b4 := hfit.n4
  clear r2 r3 r4 r5 fel sel hfit hM hF hv hS
  obtain ⟨NP, hNP⟩ : ∃ n, D.ps.length = n := ⟨_, rfl⟩
  obtain ⟨NC, hNC⟩ : ∃ n, D.cs.length = n := ⟨_, rfl⟩
  obtain ⟨NS, hNS⟩ : ∃ n, D.S.length = n := ⟨_, rfl⟩
  obtain ⟨NL, hNL⟩ : ∃ n, D.L.length = n := ⟨_, rfl⟩
  obtain ⟨NF, hNF⟩ : ∃ n, F.length = n := ⟨_, rfl⟩
  have HNP := Lib.hid hNP
  have HNC := Lib.hid hNC
  have HNS := Lib.hid hNS
  have HNL := Lib.hid hNL
  have HNF := Lib.hid hNF
  rw [hNP] at b1 HP HM ⊢
  rw [hNC] at b2 HC HM ⊢
  rw [hNS] at b3 HM ⊢
  rw [hNL] at b4 HM ⊢
  rw [hNF] at hn HFi ⊢
  clear hNP hNC hNS hNL hNF
  obtain ⟨wA, hwA⟩ : ∃ wA, wA = w.alloc (.cells #[.bool pk, .int .u64 D.pl.toNat, .slice pao NP pcap, .slice cao NC ccap, .slice fao NL fcap, .slice sao NS scap, .slice eao NF ecap] 29) := ⟨_, rfl⟩
  have FA : Fr [] w wA := hwA ▸ (Fr.refl _ _).alloc _
  have HBX := Lib.hid (fun wx (F2 : Fr [] wA wx) => wbox7 (hwA ▸ F2 : Fr [] (w.alloc (.cells #[.bool pk, .int .u64 D.pl.toNat, .slice pao NP pcap, .slice cao NC ccap, .slice fao NL fcap, .slice sao NS scap, .slice eao NF ecap] 29)) wx) (by simp))
  obtain ⟨k0, k1, k2, k3, k4, k5, k6⟩ := HBX.out wA (Fr.refl _ _)
  have hnot : ∀ (x : Bool) (w : World), (Op.unary .not (.bool x)).run Tryd.prog w = .ok (.bool (!x)) w := fun _ _ => rfl
  by_cases h1 : D.pl.toNat ≤ 1099511627776
  rotate_left
  · have HE := Lib.hid (mayAll_no (pk := pk) (F := F) (D := D) (by rw [HM.out, decide_eq_false h1]; rfl))
    have t1 : decide ((1099511627776 : Int) < (D.pl.toNat : Int)) = true := decide_eq_true (by omega)
    clear h1
    go_enter Tryd.func9, Tryd.ntmps9
    go_wp2_with fail
    go_ret
    exact ⟨by rw [HE.out]; rfl, (Fr.refl _ _).alloc _⟩
  have t1 : decide ((1099511627776 : Int) < (D.pl.toNat : Int)) = false := decide_eq_false (by omega)
  have HD1 := Lib.hid (decide_eq_true h1)
  clear h1
  by_cases h2 : NC = NP
  rotate_left
  · have HE := Lib.hid (mayAll_no (pk := pk) (F := F) (D := D) (by rw [HM.out, decide_eq_false h2]; simp))
    have t2 : ((NC : Int) == (NP : Int)) = false := by rw [beq_eq_false_iff_ne]; omega
    have t2' : ((NC : Int) != (NP : Int)) = true := by unfold bne; rw [t2]; rfl
    clear h2
    go_enter Tryd.func9, Tryd.ntmps9
    go_wp2_with fail
    go_ret
    exact ⟨by rw [HE.out]; rfl, (Fr.refl _ _).alloc _⟩
  have t2 : ((NC : Int) == (NP : Int)) = true := by rw [beq_iff_eq]; omega
  have t2' : ((NC : Int) != (NP : Int)) = false := by unfold bne; rw [t2]; rfl
  have HD2 := Lib.hid h2
  clear h2
  by_cases h3 : NS = NL
  rotate_left
  · have HE := Lib.hid (mayAll_no (pk := pk) (F := F) (D := D) (by rw [HM.out, decide_eq_false h3]; simp))
    have t3 : ((NS : Int) == (NL : Int)) = false := by rw [beq_eq_false_iff_ne]; omega
    have t3' : ((NS : Int) != (NL : Int)) = true := by unfold bne; rw [t3]; rfl
    clear h3
    go_enter Tryd.func9, Tryd.ntmps9
    go_wp2_with fail
    go_ret
    exact ⟨by rw [HE.out]; rfl, (Fr.refl _ _).alloc _⟩
  have t3 : ((NS : Int) == (NL : Int)) = true := by rw [beq_iff_eq]; omega
  have t3' : ((NS : Int) != (NL : Int)) = false := by unfold bne; rw [t3]; rfl
  have HD3 := Lib.hid h3
  clear h3
  go_enter Tryd.func9, Tryd.ntmps9
  go_wp2_with fail
  rw [← hwA]
  clear hwA t1 t2 t2' t3 t3' k0 k1 k2 k3 k4 k5 k6
  go_loopw [3, 4] (fun v3 i wr => ∃ k a : Nat, k ≤ NP ∧ a ≤ 1099511627776 ∧ i = .int .i64 k ∧ v3 = .int .u64 ((1099511627776 - a : Nat) : Int) ∧ Hid (sizesUp 0 D.ps = sizesUp a (D.ps.drop k)) ∧ Hid ((D.cs.take k).all ckOk = true) ∧ Fr [] wA wr) (fun _ i _ => NP - (intOf i).toNat)
  case atStart => exact ⟨0, 0, Nat.zero_le _, by omega, rfl, rfl, by show sizesUp 0 D.ps = sizesUp 0 (D.ps.drop 0); rfl, by show ([] : List Ck).all ckOk = true; rfl, Fr.refl _ _⟩
  case round =>
    obtain ⟨k, a, hk, ha, rfl, rfl, hs, hA, F1⟩ := hrel
    obtain ⟨n0, n1, n2, n3, n4, n5, n6⟩ := HBX.out _ F1
    have HFw := Lib.hid (FA.trans0 F1)
    by_cases hlt : k < NP
    · obtain ⟨x, hx⟩ := some_get D.ps k (by rw [HNP.out]; exact hlt)
      obtain ⟨c, hc⟩ := some_get D.cs k (by rw [HNC.out, HD2.out]; exact hlt)
      obtain ⟨b1, o1, hao, hb1, e0⟩ := (HP.out.fr0 HFw.out).word hx hlt
      subst hao
      obtain ⟨b2, o2, hao, hb2, g0, g1⟩ := (HC.out.fr0 HFw.out).ck hc (by have := HD2.out; omega)
      subst hao
      have hdr : D.ps.drop k = x :: D.ps.drop (k + 1) := by
        have := List.drop_eq_getElem_cons (show k < D.ps.length by rw [HNP.out]; exact hlt)
        rwa [(List.getElem?_eq_some_iff.1 hx).2] at this
      have HD := Lib.hid (show sizesUp 0 D.ps = if 1099511627776 < a + x.toNat then false else sizesUp (a + x.toNat) (D.ps.drop (k + 1)) by rw [hs.out, hdr]; rfl)
      have HX := Lib.hid (show ckOk c = true → (D.cs.take (k + 1)).all ckOk = true from fun h => by rw [List.take_add_one, hc, List.all_append, hA.out]; simp [h])
      have HBad := Lib.hid (show ckOk c = false → mayStr D = false from fun h => by
        have : D.cs.all ckOk = false := by rw [List.all_eq_false]; exact ⟨c, List.mem_of_getElem? hc, by simp [h]⟩
        rw [HM.out, this]
        simp)
      have HFa := Lib.hid (fun wx => rfair_any wx c)
      have hltI : (k : Int) < (NP : Int) := by omega
      have hltC : (k : Int) < (NC : Int) := by have := HD2.out; omega
      have hxl := x.toNat_lt
      have HF1 := Lib.hid F1
      clear hx hc hdr hs hA F1
      by_cases hgt : 1099511627776 < a + x.toNat
      · have HE := Lib.hid (mayAll_no (pk := pk) (F := F) (D := D) (by rw [HM.out, HD.out, if_pos hgt]; simp))
        have t0 : decide (((1099511627776 - a : Nat) : Int) < (x.toNat : Int)) = true := decide_eq_true (by omega)
        have t0' : decide (1099511627776 - a < x.toNat) = true := decide_eq_true (by omega)
        clear hgt
        generalize 1099511627776 - a = lf at *
        go_wp2_with fail
        go_ret
        exact ⟨by rw [HE.out]; rfl, HFw.out⟩
      have HSz := Lib.hid (show sizesUp 0 D.ps = sizesUp (a + x.toNat) (D.ps.drop (k + 1)) by rw [HD.out, if_neg hgt])
      have ha2 : a + x.toNat ≤ 1099511627776 := by omega
      obtain ⟨lf, hlf⟩ : ∃ lf, 1099511627776 - a = lf := ⟨_, rfl⟩
      have hlf2 : 1099511627776 - (a + x.toNat) = lf - x.toNat := by omega
      have HLF := Lib.hid hlf2
      rw [hlf]
      have t0 : decide ((lf : Int) < (x.toNat : Int)) = false := decide_eq_false (by omega)
      have t0' : decide (lf < x.toNat) = false := decide_eq_false (by omega)
      have hwr : IntKind.u64.wrap ((lf : Int) - (x.toNat : Int)) = ((lf - x.toNat : Nat) : Int) := by simp [IntKind.wrap, IntKind.bits, IntKind.signed]; omega
      have hle : x.toNat ≤ lf := by omega
      clear hgt hlf hlf2 HD
      cases hco : ckOk c with
      | false =>
        have HE := Lib.hid (mayAll_no (pk := pk) (F := F) (HBad.out hco))
        rw [hco] at HFa
        clear hco
        go_wp2_with (go_at_call 18; refine (HFa.out _).mono ?_; rintro e w3 ⟨rfl, F3⟩)
        go_ret
        exact ⟨by rw [HE.out]; rfl, HFw.out.trans0 F3⟩
      | true =>
        have HE := Lib.hid (HX.out hco)
        rw [hco] at HFa
        clear hco
        go_wp2_with (go_at_call 18; refine (HFa.out _).mono ?_; rintro e w3 ⟨rfl, F3⟩; obtain ⟨n0, n1, n2, n3, n4, n5, n6⟩ := HBX.out _ (HF1.out.trans0 F3); have e0 := (F3.cell (p := ⟨b1, o1 + k, none⟩) hb1 (by simp)).trans e0)
        go_roundw
        case rel => exact ⟨k + 1, a + x.toNat, by omega, ha2, by go_num, by rw [HLF.out], HSz.out, HE.out, HF1.out.trans0 F3⟩
        case measure => simp [intOf]; omega
    obtain rfl : k = NP := by omega
    have HCA := Lib.hid (show D.cs.all ckOk = true by
      have := hA.out
      rw [List.take_of_length_le (by rw [HNC.out, HD2.out]; exact Nat.le_refl _)] at this
      exact this)
    have HZ := Lib.hid (show sizesUp 0 D.ps = true by
      rw [hs.out, List.drop_of_length_le (by rw [HNP.out]; exact Nat.le_refl _)]
      rfl)
    have HME := Lib.hid (show mayStr D = mayRows D.L D.S by
      rw [HM.out, HD1.out, HZ.out, HCA.out, decide_eq_true HD2.out, decide_eq_true HD3.out]
      simp)
    clear hs hA
    rename World => wK
    go_wp2_with fail
    clear n0 n1 n2 n3 n4 n5 n6
    have HF1 := Lib.hid F1
    go_loopw [5, 6] (fun v5 i wr => ∃ m : Nat, m ≤ NL ∧ i = .int .i64 m ∧ v5 = .int .i64 (manyOf (D.S.take m) : Nat) ∧ Hid (((D.L.zip D.S).take m).all (fun p => mayFol p.1 && maySub p.1 p.2) = true) ∧ Fr [] wK wr) (fun _ i _ => NL - (intOf i).toNat)
    case atStart => exact ⟨0, Nat.zero_le _, rfl, rfl, by show ([] : List (Fol × List Sub)).all _ = true; rfl, Fr.refl _ _⟩
    case round =>
      obtain ⟨m, hm, rfl, rfl, hA, F2⟩ := hrel
      have hsum := manyOf_le (S := D.S.take m) (fun l hl => HFit.out.su l (List.mem_of_mem_take hl))
      rw [List.length_take] at hsum
      obtain ⟨n0, n1, n2, n3, n4, n5, n6⟩ := HBX.out _ (HF1.out.trans0 F2)
      have HFw2 := Lib.hid (FA.trans0 (HF1.out.trans0 F2))
      by_cases hlt : m < NL
      · obtain ⟨x, hx⟩ := some_get D.L m (by rw [HNL.out]; exact hlt)
        obtain ⟨l, hl⟩ := some_get D.S m (by rw [HNS.out, HD3.out]; exact hlt)
        obtain ⟨q1, o1, c, b', q, s, rfl, hq1, e0, e1, e2, e3, e4, e5, hfv⟩ := HFe.out m x hx
        obtain ⟨q2, o2, lv, rfl, hq2, u0, hrow⟩ := HSe.out m l hl
        obtain ⟨lao, lcap, rfl, -, -, -⟩ := hrow.out
        have hfit := HFit.out.fo x (List.mem_of_getElem? hx)
        have hlen := HFit.out.su l (List.mem_of_getElem? hl)
        have HX := Lib.hid (fun h3 h4 => mayRows_take hx hl hA.out h3 h4)
        have HBad := Lib.hid (show (mayFol x && maySub x l) = false → mayStr D = false from fun h => by rw [HME.out]; exact mayRows_bad hx hl h)
        have HT := Lib.hid (manyOf_take hl)
        obtain ⟨ca1, cc1, rfl, -, -, -⟩ := hfv.co.out
        obtain ⟨ba1, bc1, rfl, -, -, -⟩ := hfv.bi.out
        have hpo := hfv.pa.out
        rw [iv_length] at hpo
        obtain ⟨pa1, pc1, rfl, -, -, -⟩ := hpo
        have hso := hfv.si.out
        rw [u64v_length] at hso
        obtain ⟨sa1, sc1, rfl, -, -, -⟩ := hso
        have HFo := Lib.hid (fun wx (Fx : Fr [] w wx) => rfolder_any wx _ _ _ _ _ x l w.heap.size (hfv.fr Fx) hfit.1 hfit.2.1 hfit.2.2.1 (hrow.fr0 Fx) (by omega))
        have HC6 := Lib.hid (fun wx (Fx : Fr [] w wx) => (show wx.cell? ⟨q1, o1 + m * 6, none⟩ = some (.slice ca1 x.f.coders.length cc1) ∧ wx.cell? ⟨q1, o1 + m * 6 + 1, none⟩ = some (.slice ba1 x.f.binds.length bc1) ∧ wx.cell? ⟨q1, o1 + m * 6 + 2, none⟩ = some (.slice pa1 x.f.packs.length pc1) ∧ wx.cell? ⟨q1, o1 + m * 6 + 3, none⟩ = some (.slice sa1 x.f.sizes.length sc1) ∧ wx.cell? ⟨q1, o1 + m * 6 + 4, none⟩ = some (.bool x.ck.has) ∧ wx.cell? ⟨q1, o1 + m * 6 + 5, none⟩ = some (.int .u32 x.ck.sum.toNat) ∧ wx.cell? ⟨q2, o2 + m, none⟩ = some (.slice lao l.length lcap) from
          ⟨(Fx.cell (p := ⟨q1, _, none⟩) hq1 (by simp)).trans e0, (Fx.cell (p := ⟨q1, _, none⟩) hq1 (by simp)).trans e1, (Fx.cell (p := ⟨q1, _, none⟩) hq1 (by simp)).trans e2, (Fx.cell (p := ⟨q1, _, none⟩) hq1 (by simp)).trans e3, (Fx.cell (p := ⟨q1, _, none⟩) hq1 (by simp)).trans e4, (Fx.cell (p := ⟨q1, _, none⟩) hq1 (by simp)).trans e5, (Fx.cell (p := ⟨q2, _, none⟩) hq2 (by simp)).trans u0⟩))
        have HBK := Lib.hid (fun wx (Fx : Fr [] wr wx) => HBX.out wx (HF1.out.trans0 (F2.trans0 Fx)))
        have HF2 := Lib.hid F2
        clear hx hl hA hfv hrow e0 e1 e2 e3 e4 e5 u0 F2
        have hltI : (m : Int) < (NL : Int) := by omega
        have hltS : (m : Int) < (NS : Int) := by have := HD3.out; omega
        generalize hfs : foSub x l = fs at *
        obtain ⟨xf, ⟨xh, xm⟩⟩ := x
        dsimp only at HFo HC6
        have G0 := Fr.refl [] wr
        go_wp2_with fail
        go_region_held3 (fun wx => wx.cell? ⟨w.heap.size, 4, none⟩ = some (.slice (some ⟨q1, o1, none⟩) NL fcap) ∧ wx.cell? ⟨w.heap.size, 5, none⟩ = some (.slice (some ⟨q2, o2, none⟩) NS scap) ∧ wx.cell? ⟨q1, o1 + m * 6, none⟩ = some (.slice ca1 xf.coders.length cc1) ∧ wx.cell? ⟨q1, o1 + m * 6 + 1, none⟩ = some (.slice ba1 xf.binds.length bc1) ∧ wx.cell? ⟨q1, o1 + m * 6 + 2, none⟩ = some (.slice pa1 xf.packs.length pc1) ∧ wx.cell? ⟨q1, o1 + m * 6 + 3, none⟩ = some (.slice sa1 xf.sizes.length sc1) ∧ wx.cell? ⟨q1, o1 + m * 6 + 4, none⟩ = some (.bool xh) ∧ wx.cell? ⟨q1, o1 + m * 6 + 5, none⟩ = some (.int .u32 xm.toNat) ∧ wx.cell? ⟨q2, o2 + m, none⟩ = some (.slice lao l.length lcap))
          (first
            | (have hq := G1; obtain ⟨n0, n1, n2, n3, n4, n5, n6⟩ := HBK.out _ G1; exact ⟨n4, n5, HC6.out _ (HFw2.out.trans0 G1)⟩)
            | (obtain ⟨n0, n1, n2, n3, n4, n5, n6⟩ := HBK.out _ G0; exact ⟨n4, n5, HC6.out _ (HFw2.out.trans0 G0)⟩)
            | (obtain ⟨n0, n1, n2, n3, n4, n5, n6⟩ := HBK.out _ G0.drew; exact ⟨n4, n5, HC6.out _ (HFw2.out.trans0 G0.drew)⟩)
            | go_keep)
          (first | (go_at_call 19; refine (HFo.out _ (HFw2.out.trans0 G0.drew)).mono ?_; rintro e w1 ⟨rfl, F1⟩; have G1 := G0.drew.trans0 F1))
        cases fs with
        | false =>
          have HE := Lib.hid (mayAll_no (pk := pk) (F := F) (HBad.out hfs))
          go_wp2_with fail
          go_ret
          exact ⟨by rw [HE.out]; rfl, HFw2.out.trans0 G1⟩
        | true =>
          have hb : mayFol ⟨xf, ⟨xh, xm⟩⟩ = true ∧ maySub ⟨xf, ⟨xh, xm⟩⟩ l = true := by
            unfold foSub at hfs
            simpa using hfs
          have HE := Lib.hid (HX.out hb.1 hb.2)
          clear hb hfs HX HBad
          obtain ⟨n0, n1, n2, n3, n4, n5, n6⟩ := HBK.out _ G1
          obtain ⟨-, -, -, -, -, -, u0⟩ := HC6.out _ (HFw2.out.trans0 G1)
          go_wp2_with fail
          go_roundw
          case rel => exact ⟨m + 1, by omega, by go_num, by rw [HT.out]; first | rfl | (congr 1; omega) | (simp <;> omega), HE.out, HF2.out.trans0 G1⟩
          case measure => simp [intOf]; omega
      obtain rfl : m = NL := by omega
      have HMY := Lib.hid (show mayStr D = true by
        rw [HME.out]
        have := hA.out
        rw [List.take_of_length_le (by rw [List.length_zip, HNL.out, HNS.out, HD3.out]; omega)] at this
        exact this)
      have hse : manyOf (D.S.take m) = manyOf D.S := by rw [List.take_of_length_le (by rw [HNS.out, HD3.out]; exact Nat.le_refl _)]
      rw [hse]
      clear hse hA hsum
      obtain ⟨MM, hMM⟩ : ∃ n, manyOf D.S = n := ⟨_, rfl⟩
      have HMM := Lib.hid hMM
      rw [hMM] at hmany ⊢
      clear hMM
      cases pk with
      | true =>
        have HE := Lib.hid (show mayAll true D F = (decide (m = 1) && decide (MM = 1) && decide (NF = 0)) by rw [mayAll_pk HMY.out, HNL.out, HMM.out, HNF.out])
        have key : ∀ n m : Nat, ((n : Int) == (m : Int)) = decide (n = m) := fun n m => by
          by_cases h : n = m
          · subst h; simp
          · rw [decide_eq_false h, beq_eq_false_iff_ne]; omega
        have a1 := key m 1
        have a2 := key MM 1
        have a3 := key NF 0
        clear key
        have c1 : ((1 : Nat) : Int) = 1 := rfl
        have c0 : ((0 : Nat) : Int) = 0 := rfl
        rw [c1] at a1 a2
        rw [c0] at a3
        clear c1 c0
        generalize decide (m = 1) = z1 at *
        generalize decide (MM = 1) = z2 at *
        generalize decide (NF = 0) = z3 at *
        cases z1 <;> cases z2 <;> cases z3
        all_goals
          go_wp2_with fail
          go_ret
          exact ⟨by rw [HE.out]; rfl, HFw2.out⟩
      | false =>
        have HMA := Lib.hid (show mayAll false D F = (F.all mayFil && decide (MM = streamN F)) by rw [mayAll_fi HMY.out, HMM.out])
        clear n5 n2 n3
        have HZ0 := Lib.hid HFw2.out
        rename World => wK2
        go_wp2_with fail
        clear n0 n1 n6 n4
        have HF3 := Lib.hid (HF1.out.trans0 F2)
        go_loopw [5, 7] (fun v5 i wr => ∃ k : Nat, k ≤ NF ∧ i = .int .i64 k ∧ v5 = .int .i64 ((MM : Int) - (streamN (F.take k) : Int)) ∧ Hid ((F.take k).all mayFil = true) ∧ Fr [] wK2 wr) (fun _ i _ => NF - (intOf i).toNat)
        case atStart => exact ⟨0, Nat.zero_le _, rfl, by simp [streamN], by show ([] : List Fil).all mayFil = true; rfl, Fr.refl _ _⟩
        case round =>
          obtain ⟨k, hk, rfl, rfl, hA, F4⟩ := hrel
          obtain ⟨n0, n1, n2, n3, n4, n5, n6⟩ := HBX.out _ (HF3.out.trans0 F4)
          have HFw4 := Lib.hid (FA.trans0 (HF3.out.trans0 F4))
          have hsn := streamN_le F k
          rw [HNF.out] at hsn
          by_cases hlt : k < NF
          · obtain ⟨x, hx⟩ := some_get F k (by rw [HNF.out]; exact hlt)
            obtain ⟨b1, o1, hao, hb1, e0, e1, e2, e3, e4, e5, e6⟩ := (HFi.out.fr0 HFw4.out).fil hx hlt
            subst hao
            have HX := Lib.hid (streamN_take hx)
            have HAL := Lib.hid (show (F.take (k + 1)).all mayFil = mayFil x by rw [List.take_add_one, hx, List.all_append, hA.out]; simp)
            have HFA := Lib.hid (show mayFil x = false → mayAll false D F = false from fun h => by
              have : F.all mayFil = false := by rw [List.all_eq_false]; exact ⟨x, List.mem_of_getElem? hx, by simp [h]⟩
              rw [HMA.out, this]
              rfl)
            have hxl := HV.out x (List.mem_of_getElem? hx)
            have HF4 := Lib.hid F4
            have hltI : (k : Int) < (NF : Int) := by omega
            clear hx hA F4
            obtain ⟨nm, st, dir, ha, attr, ht, tm⟩ := x
            dsimp only at e0 e1 e2 e3 e4 e5 e6 HX hxl
            obtain ⟨wB, hwB⟩ : ∃ wB, wB = wr.alloc (.cells #[.string ⟨nm.toArray⟩, .bool st, .bool dir, .bool ha, .int .u32 attr.toNat, .bool ht, .int .u64 tm.toNat] 39) := ⟨_, rfl⟩
            have FB : Fr [] wr wB := hwB ▸ (Fr.refl _ _).alloc _
            have HBF := Lib.hid (fun wx (F2 : Fr [] wB wx) => wbox7 (hwB ▸ F2 : Fr [] (wr.alloc (.cells #[.string ⟨nm.toArray⟩, .bool st, .bool dir, .bool ha, .int .u32 attr.toNat, .bool ht, .int .u64 tm.toNat] 39)) wx) (by simp))
            obtain ⟨d0, d1, d2, d3, d4, d5, d6⟩ := HBF.out wB (Fr.refl _ _)
            have HU := Lib.hid (runits_any wB nm hxl)
            have HFB := Lib.hid (HFw4.out.trans0 FB)
            have HFS := Lib.hid (HF4.out.trans0 FB)
            have HBY := Lib.hid (fun wx (F2 : Fr [] wB wx) => HBX.out wx (HF3.out.trans0 (HFS.out.trans0 F2)))
            cases hr : runesL nm with
            | none =>
              have HRN := Lib.hid hr
              have HE := Lib.hid (HFA.out (by unfold mayFil; rw [hr]; rfl))
              clear hr HX HAL HFA
              go_wp2_with (go_at_call 20; rw [← hwB]; refine HU.out.mono ?_; intro e w1 hr; rcases hr with ⟨uv, rs, hrs, rfl, hsl, F5⟩ | ⟨hrn, rfl, F5⟩; (exfalso; rw [HRN.out] at hrs; cases hrs))
              go_ret
              exact ⟨by rw [HE.out]; rfl, HFB.out.trans0 F5⟩
            | some rs =>
              have HRN := Lib.hid hr
              have HEQ := Lib.hid (mayFil_eq nm st dir ha attr ht tm rs hr)
              have hul : (unitsR rs).length ≤ 1000000 := by
                have h1 := runes_scal _ nm rs (Nat.le_refl _) hr
                have h2 := unitsR_len rs
                omega
              have HUL := Lib.hid hul
              clear hr hul
              generalize hmf : mayFil ⟨nm, st, dir, ha, attr, ht, tm⟩ = mf at *
              clear hmf
              go_upto_region 23 with fail
              rename_i K0 hK0
              rw [← hwB]
              clear hwB
              go_cut [9, 10] (fun v9 v10 wx => ∃ uao ucap, v9 = .slice uao (unitsR rs).length ucap ∧ v10 = .int .i64 0 ∧ Sl wx (.slice uao (unitsR rs).length ucap) (hv (unitsR rs)) ∧ Fr [] wB wx)
              case first =>
                clear hK0
                go_wp2_with (go_at_call 20; refine HU.out.mono ?_; intro e w1 hr; rcases hr with ⟨uv, rs2, hrs, rfl, hsl, F5⟩ | ⟨hrn, rfl, F5⟩; rotate_left; (exfalso; rw [HRN.out] at hrn; cases hrn); obtain rfl : rs2 = rs := by rw [HRN.out] at hrs; exact (Option.some.inj hrs).symm)
                obtain ⟨uo, uc, rfl, -⟩ := own_out hsl
                go_meet
                case rel => exact ⟨uo, uc, rfl, rfl, Sl.of_own hsl, F5⟩
              case rest =>
              obtain ⟨uao, ucap, rfl, rfl, hus, F5⟩ := hcut
              rename World => wU
              (refine hK0 _ _ ?_; clear hK0; refine wp_seq_k fun K1 hK1 => ?_)
              obtain ⟨d0, d1, d2, d3, d4, d5, d6⟩ := HBF.out wU F5
              have HF5 := Lib.hid F5
              have HUS := Lib.hid hus
              clear hus F5
              go_cut [] (fun wx => tests st dir ha (attr == 0) ht (tm == 0) = true ∧ wx = wU)
              case first =>
                clear hK1
                have ea : ((attr.toNat : Int) == 0) = (attr == 0) := by
                  by_cases h : attr = 0
                  · subst h; rfl
                  · have h1 : attr.toNat ≠ 0 := fun e => h (UInt32.toNat_inj.1 e)
                    have h2 : (attr == 0) = false := by simp [h]
                    rw [h2, beq_eq_false_iff_ne]
                    omega
                have et : ((tm.toNat : Int) == 0) = (tm == 0) := by
                  by_cases h : tm = 0
                  · subst h; rfl
                  · have h1 : tm.toNat ≠ 0 := fun e => h (UInt64.toNat_inj.1 e)
                    have h2 : (tm == 0) = false := by simp [h]
                    rw [h2, beq_eq_false_iff_ne]
                    omega
                have ea' : ((attr.toNat : Int) != 0) = !(attr == 0) := by unfold bne; rw [ea]
                have et' : ((tm.toNat : Int) != 0) = !(tm == 0) := by unfold bne; rw [et]
                clear ea et
                generalize (attr == 0) = za at *
                generalize (tm == 0) = zt at *
                rcases (show (st = true ∧ dir = true) ∨ (st = true ∧ dir = false) ∨ st = false by cases st <;> cases dir <;> simp) with ⟨rfl, rfl⟩ | ⟨rfl, rfl⟩ | rfl <;>
                rcases (show ha = true ∨ (ha = false ∧ za = true) ∨ (ha = false ∧ za = false) by cases ha <;> cases za <;> simp) with rfl | ⟨rfl, rfl⟩ | ⟨rfl, rfl⟩ <;>
                rcases (show ht = true ∨ (ht = false ∧ zt = true) ∨ (ht = false ∧ zt = false) by cases ht <;> cases zt <;> simp) with rfl | ⟨rfl, rfl⟩ | ⟨rfl, rfl⟩
                all_goals
                  go_wp2_with fail
                  first
                    | (go_meet; case rel => exact ⟨by first | rfl | simp [tests], rfl⟩)
                    | (go_ret; exact ⟨by rw [HFA.out (by rw [HEQ.out]; first | rfl | simp [tests])]; rfl, HFB.out.trans0 HF5.out⟩)
              case rest =>
              obtain ⟨htst, hw⟩ := hcut
              have HMF := Lib.hid (show mf = decide (0 ∉ unitsR rs) by rw [HEQ.out, htst]; rfl)
              have hw' := hw.symm
              clear hw htst HEQ
              subst hw'
              have hul := HUL.out
              obtain ⟨NU, hNU⟩ : ∃ n, (unitsR rs).length = n := ⟨_, rfl⟩
              have HNU := Lib.hid hNU
              rw [hNU] at hul HUS ⊢
              clear hNU
              (refine hK1 _ _ ?_; clear hK1)
              go_wp2_with fail
              have HUO := Lib.hid (show ∀ j, j < (hv (unitsR rs)).length → ∃ b o, uao = some ⟨b, o, none⟩ ∧ b < wU.heap.size ∧ ∀ i, i < (hv (unitsR rs)).length → wU.cell? ⟨b, o + i, none⟩ = (hv (unitsR rs))[i]? by
                obtain ⟨ao', cap', he, -, -, h3⟩ := HUS.out.out
                injection he with e1 e2 e3
                subst e1
                exact h3)
              go_loopw [11] (fun i wr => ∃ j : Nat, j ≤ NU ∧ i = .int .i64 j ∧ Hid (0 ∉ (unitsR rs).take j) ∧ wr = wU) (fun i _ => NU - (intOf i).toNat)
              case atStart => exact ⟨0, Nat.zero_le _, rfl, by show 0 ∉ []; simp, rfl⟩
              case round =>
                obtain ⟨j, hj, rfl, hz, hw⟩ := hrel
                subst hw
                by_cases hlj : j < NU
                · obtain ⟨y, hy⟩ := some_get (unitsR rs) j (by rw [HNU.out]; exact hlj)
                  have hlen2 : (hv (unitsR rs)).length = NU := by unfold hv; rw [List.length_map, HNU.out]
                  obtain ⟨b2, o2, hao2, hb2, hcl⟩ := HUO.out j (by rw [hlen2]; exact hlj)
                  have c2 := (hcl j (by rw [hlen2]; exact hlj)).trans (show (hv (unitsR rs))[j]? = some (.int .u16 (y : Int)) by unfold hv; simp [hy])
                  subst hao2
                  have HTK := Lib.hid (show (unitsR rs).take (j + 1) = (unitsR rs).take j ++ [y] by rw [List.take_add_one, hy]; rfl)
                  have HMem := Lib.hid (List.mem_of_getElem? hy)
                  have hltJ : (j : Int) < (NU : Int) := by omega
                  clear hcl hlen2 hy
                  by_cases hy0 : y = 0
                  · have HE := Lib.hid (HFA.out (by rw [HMF.out, decide_eq_false]; rw [Classical.not_not]; exact hy0 ▸ HMem.out))
                    have t0 : ((y : Int) == 0) = true := by rw [beq_iff_eq]; omega
                    clear hy0
                    go_wp2_with fail
                    go_ret
                    exact ⟨by rw [HE.out]; rfl, HFB.out.trans0 HF5.out⟩
                  · have t0 : ((y : Int) == 0) = false := by rw [beq_eq_false_iff_ne]; omega
                    have HN := Lib.hid hy0
                    clear hy0
                    go_wp2_with fail
                    go_roundw
                    case rel => exact ⟨j + 1, by omega, by go_num, by show 0 ∉ (unitsR rs).take (j + 1); rw [HTK.out, List.mem_append, not_or, List.mem_singleton]; exact ⟨hz.out, fun h => HN.out h.symm⟩, by trivial⟩
                    case measure => simp [intOf]; omega
                · obtain rfl : j = NU := by omega
                  have hz2 := hz.out
                  rw [List.take_of_length_le (by rw [HNU.out]; exact Nat.le_refl _)] at hz2
                  have HT := Lib.hid (show (F.take (k + 1)).all mayFil = true by rw [HAL.out, HMF.out, decide_eq_true hz2])
                  clear hz hz2 HMF HAL HFA
                  cases st with
                  | true =>
                    go_wp2_with fail
                    go_roundw
                    case rel => exact ⟨k + 1, by omega, by go_num, by rw [HX.out]; simp; omega, HT.out, HFS.out.trans0 HF5.out⟩
                    case measure => simp [intOf]; omega
                  | false =>
                    go_wp2_with fail
                    go_roundw
                    case rel => exact ⟨k + 1, by omega, by go_num, by rw [HX.out]; simp, HT.out, HFS.out.trans0 HF5.out⟩
                    case measure => simp [intOf]; omega
          · obtain rfl : k = NF := by omega
            have HE := Lib.hid (show mayAll false D F = (((MM : Int) - (streamN F : Int)) == 0) by
              have := hA.out
              rw [List.take_of_length_le (by rw [HNF.out]; exact Nat.le_refl _)] at this
              rw [HMA.out, this]
              by_cases e : MM = streamN F
              · rw [decide_eq_true e, e]; simp
              · rw [decide_eq_false e]
                symm
                rw [Bool.true_and, beq_eq_false_iff_ne]
                omega)
            rw [show F.take k = F from List.take_of_length_le (by rw [HNF.out]; exact Nat.le_refl _)]
            clear hA
            go_wp2_with fail
            go_ret
            exact ⟨by rw [HE.out]; rfl, HFw4.out⟩
end Go.Proofs.YtkodindajfdagaaDoor
