/- Contract: headerw.mayStreams. No condition but that lengths fit. -/
import Derived.Test.YtkodindajfdagaaDoorWMayGM
import Derived.Test.YtkodindajfdagaaDoorGAP
import Derived.Deep.RegionHeld3
namespace Go.Proofs.YtkodindajfdagaaDoor
open Go.RowKit

/-- Lengths that fit. -/
structure StFit (D : StD) : Prop where
  n1 : D.ps.length ≤ 100000
  n2 : D.cs.length ≤ 100000
  n3 : D.S.length ≤ 100000
  n4 : D.L.length ≤ 100000
  fo : ∀ x ∈ D.L, x.f.coders.length ≤ 100000 ∧ x.f.binds.length ≤ 100000 ∧ x.f.packs.length ≤ 100000 ∧ x.f.sizes.length ≤ 100000
  su : ∀ l ∈ D.S, l.length ≤ 100000

theorem arr_get {α : Type} (l : List α) (i : Nat) (x : α) (h : l[i]? = some x) : l.toArray[i]? = some x := by simpa using h
theorem manyOf_take {S : List (List Sub)} {k : Nat} {l : List Sub} (h : S[k]? = some l) : manyOf (S.take (k + 1)) = manyOf (S.take k) + l.length := by
  unfold manyOf
  rw [List.take_add_one, h]
  simp
theorem manyOf_le {S : List (List Sub)} (h : ∀ l ∈ S, l.length ≤ 100000) : manyOf S ≤ S.length * 100000 := by
  induction S with
  | nil => simp [manyOf]
  | cons x t ih =>
    have h1 := h x (by simp)
    have h2 := ih (fun l hl => h l (by simp [hl]))
    unfold manyOf at h2 ⊢
    rw [List.map_cons, List.sum_cons, List.length_cons, Nat.succ_mul]
    omega
theorem mayRows_take {L : List Fol} {S : List (List Sub)} {k : Nat} {x : Fol} {l : List Sub} (h1 : L[k]? = some x) (h2 : S[k]? = some l) (h : ((L.zip S).take k).all (fun p => mayFol p.1 && maySub p.1 p.2) = true) (h3 : mayFol x = true) (h4 : maySub x l = true) : ((L.zip S).take (k + 1)).all (fun p => mayFol p.1 && maySub p.1 p.2) = true := by
  have e : (L.zip S)[k]? = some (x, l) := by rw [List.getElem?_zip_eq_some]; exact ⟨h1, h2⟩
  rw [List.take_add_one, e, List.all_append, h]
  simp [h3, h4]
theorem mayRows_bad {L : List Fol} {S : List (List Sub)} {k : Nat} {x : Fol} {l : List Sub} (h1 : L[k]? = some x) (h2 : S[k]? = some l) (h : (mayFol x && maySub x l) = false) : mayRows L S = false := by
  by_cases e : mayRows L S = true
  · have := zip_all e h1 h2
    dsimp only at this
    rw [h] at this
    cases this
  · simpa using e
def mayOut (D : StD) : Value := .tuple #[.int .i64 (if mayStr D then (manyOf D.S : Int) else 0), .bool (mayStr D)]
theorem mayOut_no {D : StD} (h : mayStr D = false) : mayOut D = .tuple #[.int .i64 0, .bool false] := by unfold mayOut; rw [h]; rfl
theorem mayOut_yes {D : StD} (h : mayStr D = true) : mayOut D = .tuple #[.int .i64 (manyOf D.S : Int), .bool true] := by unfold mayOut; rw [h]; rfl

set_option maxRecDepth 100000 in
set_option maxHeartbeats 8000000 in
theorem maystreams_any (w : World) (d : DW) (D : StD) (hR : StR w d D) (hfit : StFit D) :
    Calls Tryd.prog 16 #[.agg #[d.pk, d.pl, d.ps, d.cs, d.fo, d.su, d.es]] w fun e w' => e = .returned (mayOut D) ∧ Fr [] w w' := by
  obtain ⟨pk, pl, ps, cs, fo, su, es⟩ := d
  obtain ⟨r1, r2, r3, r4, r5⟩ := hR
  dsimp only at r1 r2 r3 r4 r5 ⊢
  subst r1
  obtain ⟨pao, pcap, rfl, -, -, -⟩ := r2.out
  obtain ⟨cao, ccap, rfl, -, -, -⟩ := r3.out
  obtain ⟨fao, fcap, rfl, -, -, fel⟩ := r4.out
  obtain ⟨sao, scap, rfl, -, -, sel⟩ := r5.out
  have HP := Lib.hid r2
  have HC := Lib.hid r3
  have HFe := Lib.hid fel
  have HSe := Lib.hid sel
  have HFit := Lib.hid hfit
  have HSz := Lib.hid (fun wx (F : Fr [] w wx) => sizes_any wx w.heap.size _ D.ps (r2.fr0 F) (by have := hfit.n1; omega))
  have hM : mayStr D = (decide (D.pl.toNat ≤ 1099511627776) && sizesUp 0 D.ps && decide (D.cs.length = D.ps.length) && decide (D.S.length = D.L.length) && D.cs.all ckOk && mayRows D.L D.S) := rfl
  have HM := Lib.hid hM
  have b1 := hfit.n1
  have b2 := hfit.n2
  have b3 := hfit.n3
  have b4 := hfit.n4
  clear r2 r3 r4 r5 fel sel hfit hM
  obtain ⟨NP, hNP⟩ : ∃ n, D.ps.length = n := ⟨_, rfl⟩
  obtain ⟨NC, hNC⟩ : ∃ n, D.cs.length = n := ⟨_, rfl⟩
  obtain ⟨NS, hNS⟩ : ∃ n, D.S.length = n := ⟨_, rfl⟩
  obtain ⟨NL, hNL⟩ : ∃ n, D.L.length = n := ⟨_, rfl⟩
  have HNP := Lib.hid hNP
  have HNC := Lib.hid hNC
  have HNS := Lib.hid hNS
  have HNL := Lib.hid hNL
  rw [hNP] at b1 HSz HP HM ⊢
  rw [hNC] at b2 HC HM ⊢
  rw [hNS] at b3 HM ⊢
  rw [hNL] at b4 HM ⊢
  clear hNP hNC hNS hNL
  generalize hz : sizesUp 0 D.ps = sz at *
  have HZ := Lib.hid hz
  clear hz
  obtain ⟨wA, hwA⟩ : ∃ wA, wA = w.alloc (.cells #[pk, .int .u64 D.pl.toNat, .slice pao NP pcap, .slice cao NC ccap, .slice fao NL fcap, .slice sao NS scap, es] 29) := ⟨_, rfl⟩
  have FA : Fr [] w wA := hwA ▸ (Fr.refl _ _).alloc _
  have HBX := Lib.hid (fun wx (F2 : Fr [] wA wx) => wbox7 (hwA ▸ F2 : Fr [] (w.alloc (.cells #[pk, .int .u64 D.pl.toNat, .slice pao NP pcap, .slice cao NC ccap, .slice fao NL fcap, .slice sao NS scap, es] 29)) wx) (by simp))
  obtain ⟨k0, k1, k2, k3, k4, k5, k6⟩ := HBX.out wA (Fr.refl _ _)
  have hnot : ∀ (x : Bool) (w : World), (Op.unary .not (.bool x)).run Tryd.prog w = .ok (.bool (!x)) w := fun _ _ => rfl
  by_cases h1 : D.pl.toNat ≤ 1099511627776
  rotate_left
  · have HE := Lib.hid (mayOut_no (D := D) (by rw [HM.out, decide_eq_false h1]; rfl))
    have t1 : decide ((1099511627776 : Int) < (D.pl.toNat : Int)) = true := decide_eq_true (by omega)
    clear h1
    go_enter Tryd.func16, Tryd.ntmps16
    go_wp2_with fail
    go_ret2
    exact ⟨by rw [HE.out]; rfl, by first | exact FA | exact (Fr.refl _ _).alloc _⟩
  have t1 : decide ((1099511627776 : Int) < (D.pl.toNat : Int)) = false := decide_eq_false (by omega)
  have HD1 := Lib.hid (decide_eq_true h1)
  clear h1
  cases sz with
  | false =>
    have HE := Lib.hid (mayOut_no (D := D) (by rw [HM.out]; simp))
    go_enter Tryd.func16, Tryd.ntmps16
    go_wp2_with (go_at_call 37; rw [← hwA]; refine (HSz.out _ FA).mono ?_; rintro e w1 ⟨rfl, rfl⟩)
    rw [← hwA]
    go_ret2
    exact ⟨by rw [HE.out]; rfl, by first | exact FA | exact (Fr.refl _ _).alloc _⟩
  | true =>
  by_cases h2 : NC = NP
  rotate_left
  · have HE := Lib.hid (mayOut_no (D := D) (by rw [HM.out, decide_eq_false h2]; simp))
    have t2 : ((NC : Int) == (NP : Int)) = false := by rw [beq_eq_false_iff_ne]; omega
    have t2' : ((NC : Int) != (NP : Int)) = true := by unfold bne; rw [t2]; rfl
    clear h2
    go_enter Tryd.func16, Tryd.ntmps16
    go_wp2_with (go_at_call 37; rw [← hwA]; refine (HSz.out _ FA).mono ?_; rintro e w1 ⟨rfl, rfl⟩)
    go_ret2
    exact ⟨by rw [HE.out]; rfl, by first | exact FA | exact (Fr.refl _ _).alloc _⟩
  have t2 : ((NC : Int) == (NP : Int)) = true := by rw [beq_iff_eq]; omega
  have t2' : ((NC : Int) != (NP : Int)) = false := by unfold bne; rw [t2]; rfl
  have HD2 := Lib.hid (decide_eq_true h2)
  clear h2
  by_cases h3 : NS = NL
  rotate_left
  · have HE := Lib.hid (mayOut_no (D := D) (by rw [HM.out, decide_eq_false h3]; simp))
    have t3 : ((NS : Int) == (NL : Int)) = false := by rw [beq_eq_false_iff_ne]; omega
    have t3' : ((NS : Int) != (NL : Int)) = true := by unfold bne; rw [t3]; rfl
    clear h3
    go_enter Tryd.func16, Tryd.ntmps16
    go_wp2_with (go_at_call 37; rw [← hwA]; refine (HSz.out _ FA).mono ?_; rintro e w1 ⟨rfl, rfl⟩)
    go_ret2
    exact ⟨by rw [HE.out]; rfl, by first | exact FA | exact (Fr.refl _ _).alloc _⟩
  have t3 : ((NS : Int) == (NL : Int)) = true := by rw [beq_iff_eq]; omega
  have t3' : ((NS : Int) != (NL : Int)) = false := by unfold bne; rw [t3]; rfl
  have HD3 := Lib.hid h3
  clear h3
  go_enter Tryd.func16, Tryd.ntmps16
  go_wp2_with (go_at_call 37; rw [← hwA]; refine (HSz.out _ FA).mono ?_; rintro e w1 ⟨rfl, rfl⟩)
  rw [← hwA]
  clear hwA
  have HFit2 := HFit.out
  go_loopw [39] (fun i wr => ∃ k : Nat, k ≤ NC ∧ i = .int .i64 k ∧ Hid ((D.cs.take k).all ckOk = true) ∧ Fr [] wA wr) (fun i _ => NC - (intOf i).toNat)
  case atStart => exact ⟨0, Nat.zero_le _, rfl, by show ([] : List Ck).all ckOk = true; rfl, Fr.refl _ _⟩
  case round =>
    obtain ⟨k, hk, rfl, hA, F⟩ := hrel
    by_cases hlt : k < NC
    · obtain ⟨c, hc⟩ := some_get D.cs k (by rw [HNC.out]; exact hlt)
      obtain ⟨b1, o1, hao, hb1, e0, e1⟩ := (HC.out.fr0 (FA.trans0 F)).ck hc hlt
      subst hao
      have HX := Lib.hid (show ckOk c = true → (D.cs.take (k + 1)).all ckOk = true from fun h => by rw [List.take_add_one, hc, List.all_append, hA.out]; simp [h])
      have HBad := Lib.hid (show ckOk c = false → mayStr D = false from fun h => by
        have : D.cs.all ckOk = false := by rw [List.all_eq_false]; exact ⟨c, List.mem_of_getElem? hc, by simp [h]⟩
        rw [HM.out, this]
        simp)
      have HFa := Lib.hid (fun wx => (show Calls Tryd.prog 38 #[.agg #[.bool c.has, .int .u32 c.sum.toNat]] wx fun e w' => e = .returned (.bool (ckOk c)) ∧ Fr [] wx w' from fair_any wx c))
      have hltI : (k : Int) < (NC : Int) := by omega
      have HF := Lib.hid F
      clear hc hA F
      cases hco : ckOk c with
      | false =>
        have HE := Lib.hid (mayOut_no (HBad.out hco))
        rw [hco] at HFa
        clear hco
        go_wp2_with (go_at_call 38; refine (HFa.out _).mono ?_; rintro e w3 ⟨rfl, F3⟩)
        go_ret2
        exact ⟨by rw [HE.out]; rfl, FA.trans0 (HF.out.trans0 (((Fr.refl _ _).alloc _).trans0 F3))⟩
      | true =>
        have HE := Lib.hid (HX.out hco)
        rw [hco] at HFa
        clear hco
        go_wp2_with (go_at_call 38; refine (HFa.out _).mono ?_; rintro e w3 ⟨rfl, F3⟩)
        go_roundw
        case rel => exact ⟨k + 1, by omega, by go_num, HE.out, HF.out.trans0 (((Fr.refl _ _).alloc _).trans0 F3)⟩
        case measure => simp [intOf]; omega
    obtain rfl : k = NC := by omega
    have HCA := Lib.hid (show D.cs.all ckOk = true by
      have := hA.out
      rw [List.take_of_length_le (by rw [HNC.out]; exact Nat.le_refl _)] at this
      exact this)
    obtain ⟨n0, n1, n2, n3, n4, n5, n6⟩ := HBX.out _ F
    have HF1 := Lib.hid (FA.trans0 F)
    have HB1 := Lib.hid (fun wx (F2 : Fr [] wr wx) => HBX.out wx (F.trans0 F2))
    have HME := Lib.hid (show mayStr D = mayRows D.L D.S by
      rw [HM.out, HD1.out, HD2.out, HCA.out, decide_eq_true HD3.out]
      simp)
    clear hA
    rename World => wK
    go_wp2_with fail
    go_loopw [4, 50] (fun v4 i wr => ∃ m : Nat, m ≤ NL ∧ i = .int .i64 m ∧ v4 = .int .i64 (manyOf (D.S.take m) : Nat) ∧ Hid (((D.L.zip D.S).take m).all (fun p => mayFol p.1 && maySub p.1 p.2) = true) ∧ Fr [] wK wr) (fun _ i _ => NL - (intOf i).toNat)
    case atStart => exact ⟨0, Nat.zero_le _, rfl, rfl, by show ([] : List (Fol × List Sub)).all _ = true; rfl, Fr.refl _ _⟩
    case round =>
      obtain ⟨m, hm, rfl, rfl, hA, F2⟩ := hrel
      have hsum := manyOf_le (S := D.S.take m) (fun l hl => HFit.out.su l (List.mem_of_mem_take hl))
      rw [List.length_take] at hsum
      by_cases hlt : m < NL
      · obtain ⟨x, hx⟩ := some_get D.L m (by rw [HNL.out]; exact hlt)
        obtain ⟨l, hl⟩ := some_get D.S m (by rw [HNS.out, HD3.out]; exact hlt)
        obtain ⟨q1, o1, c, b', q, s, rfl, hq1, e0, e1, e2, e3, e4, e5, hfv⟩ := HFe.out m x hx
        obtain ⟨q2, o2, lv, rfl, hq2, u0, hrow⟩ := HSe.out m l hl
        obtain ⟨lao, lcap, rfl, -, -, -⟩ := hrow.out
        have hfit := HFit.out.fo x (List.mem_of_getElem? hx)
        have hlen := HFit.out.su l (List.mem_of_getElem? hl)
        have HX := Lib.hid (fun h3 h4 => mayRows_take hx hl hA.out h3 h4)
        have HBad := Lib.hid (show (mayFol x && maySub x l) = false → mayStr D = false from fun h => by rw [HME.out]; exact mayRows_bad hx hl h)
        have HT := Lib.hid (manyOf_take hl)
        have HFw := Lib.hid (HF1.out.trans0 F2)
        have g0 := (HFw.out.cell (p := ⟨q1, o1 + m * 6, none⟩) hq1 (by simp)).trans e0
        have g1 := (HFw.out.cell (p := ⟨q1, o1 + m * 6 + 1, none⟩) hq1 (by simp)).trans e1
        have g2 := (HFw.out.cell (p := ⟨q1, o1 + m * 6 + 2, none⟩) hq1 (by simp)).trans e2
        have g3 := (HFw.out.cell (p := ⟨q1, o1 + m * 6 + 3, none⟩) hq1 (by simp)).trans e3
        have g4 := (HFw.out.cell (p := ⟨q1, o1 + m * 6 + 4, none⟩) hq1 (by simp)).trans e4
        have g5 := (HFw.out.cell (p := ⟨q1, o1 + m * 6 + 5, none⟩) hq1 (by simp)).trans e5
        obtain ⟨ca1, cc1, rfl, -, -, -⟩ := hfv.co.out
        obtain ⟨ba1, bc1, rfl, -, -, -⟩ := hfv.bi.out
        have hpo := hfv.pa.out
        rw [iv_length] at hpo
        obtain ⟨pa1, pc1, rfl, -, -, -⟩ := hpo
        have hso := hfv.si.out
        rw [u64v_length] at hso
        obtain ⟨sa1, sc1, rfl, -, -, -⟩ := hso
        have HMF := Lib.hid (fun wx (Fx : Fr [] w wx) => mayfolder_any wx _ _ _ _ x (hfv.fr Fx) hfit.1 hfit.2.1 hfit.2.2.1)
        have HMS := Lib.hid (fun (hmf : mayFol x = true) wx (Fx : Fr [] w wx) => maysubs_any wx _ _ _ _ _ x l w.heap.size (hfv.fr Fx) hmf (hrow.fr0 Fx) (by omega))
        clear hx hl hA hfv hrow e0 e1 e2 e3 e4 e5
        obtain ⟨xf, ⟨xh, xm⟩⟩ := x
        dsimp only at g4 g5 HMF HMS HX HBad
        obtain ⟨wC, hwC⟩ : ∃ wC, wC = wr.alloc (.cells #[.slice ca1 xf.coders.length cc1, .slice ba1 xf.binds.length bc1, .slice pa1 xf.packs.length pc1, .slice sa1 xf.sizes.length sc1, .bool xh, .int .u32 xm.toNat] 46) := ⟨_, rfl⟩
        have FC : Fr [] wr wC := hwC ▸ (Fr.refl _ _).alloc _
        have HBC := Lib.hid (fun wx (F3 : Fr [] wC wx) => box6 (hwC ▸ F3 : Fr [] (wr.alloc (.cells #[.slice ca1 xf.coders.length cc1, .slice ba1 xf.binds.length bc1, .slice pa1 xf.packs.length pc1, .slice sa1 xf.sizes.length sc1, .bool xh, .int .u32 xm.toNat] 46)) wx))
        have HFC := Lib.hid (HFw.out.trans0 FC)
        have HB2 := Lib.hid (fun wx (F3 : Fr [] wC wx) => HB1.out wx (F2.trans0 (FC.trans0 F3)))
        have HSc := Lib.hid (fun wx (F3 : Fr [] wC wx) => ((HFC.out.trans0 F3).cell (p := ⟨q2, o2 + m, none⟩) hq2 (by simp)).trans u0)
        have hltI : (m : Int) < (NL : Int) := by omega
        have hltS : (m : Int) < (NS : Int) := by have := HD3.out; omega
        have HF2 := Lib.hid (F2.trans0 FC)
        have G0 := Fr.refl [] wC
        cases hmf : mayFol ⟨xf, ⟨xh, xm⟩⟩ with
        | false =>
          have HE := Lib.hid (mayOut_no (HBad.out (by rw [hmf]; rfl)))
          rw [hmf] at HMF
          clear hmf HMS HX HBad F2 u0
          go_wp2_with fail
          rw [← hwC]
          clear hwC
          obtain ⟨j0, j1, j2, j3, j4, j5⟩ := HBC.out _ G0.drew
          refine wp_region_held_drew (S := fun _ => True) (by kernel_rfl) trivial (fun _ => ?_)
          refine wpAnyH_ready (rs := [0]) (by kernel_rfl) (by simp) ?_
          refine AllReadyH.cons (arr_get _ 0 _ rfl) (fun K hK => ?_) AllReadyH.nil
          go_simp
          refine hK.out _ _ trivial (fun _ => ?_)
          clear hK K
          try simp only [Act.put, List.setIfInBounds_toArray, List.set_cons_zero, List.set_cons_succ]
          refine wpAnyH_ready (rs := [1]) (by kernel_rfl) (by simp) ?_
          refine AllReadyH.cons (arr_get _ 1 _ rfl) (fun K hK => ?_) AllReadyH.nil
          go_simp
          (go_at_call 39; refine (HMF.out _ HFC.out.drew).mono ?_; rintro e w1 ⟨rfl, F1⟩; have G1 := G0.drew.trans0 F1)
          refine hK.out _ _ trivial (fun _ => ?_)
          clear hK K
          try simp only [Act.put, List.setIfInBounds_toArray, List.set_cons_zero, List.set_cons_succ]
          refine wpAnyH_take (i := 2) (v := ?_) (arr_get _ 2 _ rfl) (by kernel_rfl) (by kernel_rfl) (by kernel_rfl) (fun _ _ _ h => h) (Or.inl ⟨by rfl, ?_⟩) trivial ?_
          rotate_left
          · intro w _
            go_simp
            all_goals with_reducible rfl
          try simp only [Act.put, List.setIfInBounds_toArray, List.set_cons_zero, List.set_cons_succ]
          refine wpAnyH_take (i := 3) (v := ?_) (arr_get _ 3 _ rfl) (by kernel_rfl) (by kernel_rfl) (by kernel_rfl) (fun _ _ _ h => h) (Or.inl ⟨by rfl, ?_⟩) trivial ?_
          rotate_left
          · intro w _
            go_simp
            all_goals with_reducible rfl
          try simp only [Act.put, List.setIfInBounds_toArray, List.set_cons_zero, List.set_cons_succ]
          refine wpAnyH_take (i := 4) (v := undef) (arr_get _ 4 _ rfl) (by kernel_rfl) (by kernel_rfl) (by kernel_rfl) (fun _ _ _ h => h) (Or.inr ⟨by rfl, rfl⟩) trivial ?_
          try simp only [Act.put, List.setIfInBounds_toArray, List.set_cons_zero, List.set_cons_succ]
          refine wpAnyH_take (i := 5) (v := undef) (arr_get _ 5 _ rfl) (by kernel_rfl) (by kernel_rfl) (by kernel_rfl) (fun _ _ _ h => h) (Or.inr ⟨by rfl, rfl⟩) trivial ?_
          try simp only [Act.put, List.setIfInBounds_toArray, List.set_cons_zero, List.set_cons_succ]
          refine wpAnyH_take (i := 6) (v := undef) (arr_get _ 6 _ rfl) (by kernel_rfl) (by kernel_rfl) (by kernel_rfl) (fun _ _ _ h => h) (Or.inr ⟨by rfl, rfl⟩) trivial ?_
          try simp only [Act.put, List.setIfInBounds_toArray, List.set_cons_zero, List.set_cons_succ]
          refine wpAnyH_take (i := 7) (v := undef) (arr_get _ 7 _ rfl) (by kernel_rfl) (by kernel_rfl) (by kernel_rfl) (fun _ _ _ h => h) (Or.inr ⟨by rfl, rfl⟩) trivial ?_
          try simp only [Act.put, List.setIfInBounds_toArray, List.set_cons_zero, List.set_cons_succ]
          refine wpAnyH_take (i := 8) (v := undef) (arr_get _ 8 _ rfl) (by kernel_rfl) (by kernel_rfl) (by kernel_rfl) (fun _ _ _ h => h) (Or.inr ⟨by rfl, rfl⟩) trivial ?_
          try simp only [Act.put, List.setIfInBounds_toArray, List.set_cons_zero, List.set_cons_succ]
          refine wpAnyH_take (i := 9) (v := undef) (arr_get _ 9 _ rfl) (by kernel_rfl) (by kernel_rfl) (by kernel_rfl) (fun _ _ _ h => h) (Or.inr ⟨by rfl, rfl⟩) trivial ?_
          try simp only [Act.put, List.setIfInBounds_toArray, List.set_cons_zero, List.set_cons_succ]
          refine wpAnyH_ready (rs := [10]) (by kernel_rfl) (by simp) ?_
          refine AllReadyH.cons (arr_get _ 10 _ rfl) (fun K hK => ?_) AllReadyH.nil
          go_simp
          refine hK.out _ _ trivial (fun _ => ?_)
          clear hK K
          try simp only [Act.put, List.setIfInBounds_toArray, List.set_cons_zero, List.set_cons_succ]
          refine wpAnyH_take (i := 11) (v := undef) (arr_get _ 11 _ rfl) (by kernel_rfl) (by kernel_rfl) (by kernel_rfl) (fun _ _ _ h => h) (Or.inr ⟨by rfl, rfl⟩) trivial ?_
          try simp only [Act.put, List.setIfInBounds_toArray, List.set_cons_zero, List.set_cons_succ]
          refine wpAnyH_take (i := 12) (v := ?_) (arr_get _ 12 _ rfl) (by kernel_rfl) (by kernel_rfl) (by kernel_rfl) (fun _ _ _ h => h) (Or.inl ⟨by rfl, ?_⟩) trivial ?_
          rotate_left
          · intro w _
            go_simp
            all_goals with_reducible rfl
          try simp only [Act.put, List.setIfInBounds_toArray, List.set_cons_zero, List.set_cons_succ]
          refine wpAnyH_done (by kernel_rfl) ?_ _
          all_goals
            go_wp2_with fail
            go_ret2
            exact ⟨by rw [HE.out]; rfl, HFC.out.trans0 G1⟩
        | true =>
          have HMS2 := Lib.hid (HMS.out hmf)
          clear HMS
          cases hms : maySub ⟨xf, ⟨xh, xm⟩⟩ l with
          | false =>
            have HE := Lib.hid (mayOut_no (HBad.out (by rw [hmf, hms]; rfl)))
            rw [hmf] at HMF
            rw [hms] at HMS2
            clear hmf hms HX HBad F2 u0
            go_wp2_with fail
            rw [← hwC]
            clear hwC
            go_region_held3 (fun wx => wx.cell? ⟨wr.heap.size, 0, none⟩ = some (.slice ca1 xf.coders.length cc1) ∧ wx.cell? ⟨wr.heap.size, 1, none⟩ = some (.slice ba1 xf.binds.length bc1) ∧ wx.cell? ⟨wr.heap.size, 2, none⟩ = some (.slice pa1 xf.packs.length pc1) ∧ wx.cell? ⟨wr.heap.size, 3, none⟩ = some (.slice sa1 xf.sizes.length sc1) ∧ wx.cell? ⟨wr.heap.size, 4, none⟩ = some (.bool xh) ∧ wx.cell? ⟨wr.heap.size, 5, none⟩ = some (.int .u32 xm.toNat) ∧ wx.cell? ⟨w.heap.size, 5, none⟩ = some (.slice (some ⟨q2, o2, none⟩) NS scap) ∧ wx.cell? ⟨q2, o2 + m, none⟩ = some (.slice lao l.length lcap))
          (first
            | (have hq := G2; obtain ⟨j0, j1, j2, j3, j4, j5⟩ := HBC.out _ G2; obtain ⟨n0, n1, n2, n3, n4, n5, n6⟩ := HB2.out _ G2; exact ⟨j0, j1, j2, j3, j4, j5, n5, HSc.out _ G2⟩)
            | (have hq := G1; obtain ⟨j0, j1, j2, j3, j4, j5⟩ := HBC.out _ G1; obtain ⟨n0, n1, n2, n3, n4, n5, n6⟩ := HB2.out _ G1; exact ⟨j0, j1, j2, j3, j4, j5, n5, HSc.out _ G1⟩)
            | (obtain ⟨j0, j1, j2, j3, j4, j5⟩ := HBC.out _ G0; obtain ⟨n0, n1, n2, n3, n4, n5, n6⟩ := HB2.out _ G0; exact ⟨j0, j1, j2, j3, j4, j5, n5, HSc.out _ G0⟩)
            | (obtain ⟨j0, j1, j2, j3, j4, j5⟩ := HBC.out _ G0.drew; obtain ⟨n0, n1, n2, n3, n4, n5, n6⟩ := HB2.out _ G0.drew; exact ⟨j0, j1, j2, j3, j4, j5, n5, HSc.out _ G0.drew⟩)
            | go_keep)
              (first
                | (have hq := G1; go_at_call 40; refine (HMS2.out _ (HFC.out.trans0 G1)).mono ?_; rintro e w2 ⟨rfl, F2⟩; have G2 := G1.trans0 F2)
                | (go_at_call 39; refine (HMF.out _ HFC.out.drew).mono ?_; rintro e w1 ⟨rfl, F1⟩; have G1 := G0.drew.trans0 F1))
            all_goals
              go_wp2_with fail
              go_ret2
              exact ⟨by rw [HE.out]; rfl, HFC.out.trans0 G2⟩
          | true =>
            have HE := Lib.hid (HX.out hmf hms)
            rw [hmf] at HMF
            rw [hms] at HMS2
            clear hmf hms HX HBad F2 u0
            go_wp2_with fail
            rw [← hwC]
            clear hwC
            go_region_held3 (fun wx => wx.cell? ⟨wr.heap.size, 0, none⟩ = some (.slice ca1 xf.coders.length cc1) ∧ wx.cell? ⟨wr.heap.size, 1, none⟩ = some (.slice ba1 xf.binds.length bc1) ∧ wx.cell? ⟨wr.heap.size, 2, none⟩ = some (.slice pa1 xf.packs.length pc1) ∧ wx.cell? ⟨wr.heap.size, 3, none⟩ = some (.slice sa1 xf.sizes.length sc1) ∧ wx.cell? ⟨wr.heap.size, 4, none⟩ = some (.bool xh) ∧ wx.cell? ⟨wr.heap.size, 5, none⟩ = some (.int .u32 xm.toNat) ∧ wx.cell? ⟨w.heap.size, 5, none⟩ = some (.slice (some ⟨q2, o2, none⟩) NS scap) ∧ wx.cell? ⟨q2, o2 + m, none⟩ = some (.slice lao l.length lcap))
          (first
            | (have hq := G2; obtain ⟨j0, j1, j2, j3, j4, j5⟩ := HBC.out _ G2; obtain ⟨n0, n1, n2, n3, n4, n5, n6⟩ := HB2.out _ G2; exact ⟨j0, j1, j2, j3, j4, j5, n5, HSc.out _ G2⟩)
            | (have hq := G1; obtain ⟨j0, j1, j2, j3, j4, j5⟩ := HBC.out _ G1; obtain ⟨n0, n1, n2, n3, n4, n5, n6⟩ := HB2.out _ G1; exact ⟨j0, j1, j2, j3, j4, j5, n5, HSc.out _ G1⟩)
            | (obtain ⟨j0, j1, j2, j3, j4, j5⟩ := HBC.out _ G0; obtain ⟨n0, n1, n2, n3, n4, n5, n6⟩ := HB2.out _ G0; exact ⟨j0, j1, j2, j3, j4, j5, n5, HSc.out _ G0⟩)
            | (obtain ⟨j0, j1, j2, j3, j4, j5⟩ := HBC.out _ G0.drew; obtain ⟨n0, n1, n2, n3, n4, n5, n6⟩ := HB2.out _ G0.drew; exact ⟨j0, j1, j2, j3, j4, j5, n5, HSc.out _ G0.drew⟩)
            | go_keep)
              (first
                | (have hq := G1; go_at_call 40; refine (HMS2.out _ (HFC.out.trans0 G1)).mono ?_; rintro e w2 ⟨rfl, F2⟩; have G2 := G1.trans0 F2)
                | (go_at_call 39; refine (HMF.out _ HFC.out.drew).mono ?_; rintro e w1 ⟨rfl, F1⟩; have G1 := G0.drew.trans0 F1))
            all_goals
              obtain ⟨n0, n1, n2, n3, n4, n5, n6⟩ := HB2.out _ G2
              have u1 := HSc.out _ G2
              have hT := HT.out
              go_wp2_with fail
              go_roundw
              case rel => exact ⟨m + 1, by omega, by go_num, by rw [HT.out]; first | rfl | (congr 1; omega) | (simp <;> omega), HE.out, HF2.out.trans0 G2⟩
              case measure => simp [intOf]; omega
      · obtain rfl : m = NL := by omega
        have HE := Lib.hid (mayOut_yes (D := D) (by
          rw [HME.out]
          have := hA.out
          rw [List.take_of_length_le (by rw [List.length_zip, HNL.out, HNS.out, HD3.out]; omega)] at this
          exact this))
        rw [List.take_of_length_le (by rw [HNS.out, HD3.out]; exact Nat.le_refl _)]
        go_wp2_with fail
        go_ret2
        exact ⟨by rw [HE.out]; rfl, HF1.out.trans0 F2⟩
end Go.Proofs.YtkodindajfdagaaDoor
