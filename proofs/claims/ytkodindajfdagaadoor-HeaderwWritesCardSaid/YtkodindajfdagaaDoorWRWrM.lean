/- Contract: the reference's Write. No condition but that lengths fit. -/
import Derived.Test.YtkodindajfdagaaDoorWFlDM
import Derived.Test.YtkodindajfdagaaDoorGAQ
import Derived.Test.YtkodindajfdagaaDoorWRefMM
namespace Go.Proofs.YtkodindajfdagaaDoor
open Go.RowKit
set_option linter.unusedVariables false

theorem strR_len (D : StD) : strmW D = strR D ++ [0] := by unfold strmW strR; simp only [List.append_assoc]
theorem strR_none (D : StD) : strR D = [] ↔ D.some = false := by
  unfold strR StD.some StD.p1 StD.p2 StD.p3
  have h1 : packsW D.pl D.ps D.cs = [] ↔ (D.ps = [] ∧ D.pl = 0) := by
    unfold packsW
    by_cases h : D.ps = [] ∧ D.pl = 0
    · rw [if_pos h]; simp [h]
    · rw [if_neg h]; simp [h]
  have h2 : foldersW D.L = [] ↔ D.L = [] := by
    unfold foldersW
    by_cases h : D.L = []
    · rw [if_pos h]; simp [h]
    · rw [if_neg h]; simp [h]
  have h3 : subsW D.S D.L = [] ↔ (D.S.any oddS = false ∧ (unkW D.S D.L).any (·.has) = false) := by
    unfold subsW
    by_cases h : D.S.any oddS = false ∧ (unkW D.S D.L).any (·.has) = false
    · rw [if_pos h]; simp only [true_iff]; exact h
    · rw [if_neg h]; simp only [reduceCtorEq, false_iff]; exact h
  rw [List.append_eq_nil_iff, List.append_eq_nil_iff, h1, h2, h3]
  simp only [Bool.or_eq_false_iff, Bool.not_eq_false', Bool.and_eq_true, decide_eq_true_eq, beq_iff_eq]
  constructor
  · rintro ⟨a, b, c⟩; exact ⟨c, b, a⟩
  · rintro ⟨c, b, a⟩; exact ⟨a, b, c⟩
/-- A row that was there, and a literal of one byte. -/
theorem rows2 {base : Nat} {w : World} {v : Value} {b : List UInt8} (hb : base ≤ w.heap.size) (own : w.ownsRow base 5 1 v b.length (bv b)) (x : UInt8) :
    OwnL base (w.alloc (.cells #[.int .u8 x.toNat] 5)) [bR v b, bR (.slice (some ⟨w.heap.size, 0, none⟩) 1 1) [x]] := by
  have o1 := own_frS own ((Fr.refl [] w).alloc (.cells #[.int .u8 x.toNat] 5)) (by simp)
  have o2 : (w.alloc (.cells #[.int .u8 x.toNat] 5)).ownsRow base 5 1 (.slice (some ⟨w.heap.size, 0, none⟩) 1 1) 1 (bv [x]) := wown_mono (own_litM w 5 1 1 (bv [x]) rfl (by decide)) hb
  have l1 := fun k hk => (own_ltS own k hk).2
  refine ⟨fun i r hr => ?_, fun i j a c hij ha hc k hk hck => ?_⟩
  · match i, hr with
    | 0, hr => obtain rfl := Option.some.inj hr; exact o1
    | 1, hr => obtain rfl := Option.some.inj hr; exact o2
    | n + 2, hr => cases hr
  · match i, j, ha, hc with
    | 0, 0, _, _ => exact hij rfl
    | 1, 1, _, _ => exact hij rfl
    | 0, 1, ha, hc =>
      obtain rfl := Option.some.inj ha
      obtain rfl := Option.some.inj hc
      have := l1 k hk
      simp [bR, Value.ownBlock] at hck
      omega
    | 1, 0, ha, hc =>
      obtain rfl := Option.some.inj ha
      obtain rfl := Option.some.inj hc
      have := l1 k hck
      simp [bR, Value.ownBlock] at hk
      omega
    | n + 2, _, ha, _ => cases ha
    | _, n + 2, _, hc => cases hc
theorem OwnL.outB {base : Nat} {w : World} {L : List RowD} {i : Nat} {v : Value} {b : List UInt8} (H : OwnL base w L) (hi : L[i]? = some (bR v b)) : ∃ ao cap, v = .slice ao b.length cap := by
  obtain ⟨ao, cap, e, -⟩ := own_out (show w.ownsRow base 5 1 v b.length (bv b) from H.own i _ hi)
  exact ⟨ao, cap, e⟩
theorem OwnL.slB {base : Nat} {w : World} {L : List RowD} {i : Nat} {v : Value} {b : List UInt8} (H : OwnL base w L) (hi : L[i]? = some (bR v b)) : Sl w v (bv b) := Sl.of_own (H.own i _ hi)
theorem lit2 (w : World) (x y : UInt8) : Sl ((w.alloc (.cells #[.int .u8 x.toNat] 5)).alloc (.cells #[.int .u8 y.toNat] 5)) (.slice (some ⟨w.heap.size + 1, 0, none⟩) 1 1) (bv [y]) := by
  have h := sl_one (w.alloc (.cells #[.int .u8 x.toNat] 5)) 5 (.int .u8 y.toNat)
  rw [World.size_alloc] at h
  exact h
theorem Writ.mk {pk : Bool} {D : StD} {F : List Fil} {w w' : World} {v : Value} {B : List UInt8} (hm : mayAll pk D F = true) (hB : writeW pk D F = B) (hs : Sl w' v (bv B)) (hF : Fr [] w w') : Writ pk D F w (.returned (.tuple #[v, .int .i64 0])) w' := by
  have e : writR pk D F = (B, 0) := by unfold writR; rw [hm, hB]; rfl
  exact ⟨v, by rw [e], by rw [e]; exact hs, hF⟩

theorem name_facts {l : List UInt8} (h : (runesL l).isSome = true) : (nameU l).length ≤ 2 * l.length ∧ ∀ y ∈ nameU l, y < 65536 := by
  obtain ⟨rs, hr⟩ := Option.isSome_iff_exists.1 h
  obtain ⟨h1, h2⟩ := runes_scal l.length l rs (Nat.le_refl _) hr
  have e : nameU l = unitsR rs := by unfold nameU; rw [hr]; rfl
  rw [e]
  exact ⟨by have := unitsR_len rs; omega, unitsR_lt h1⟩
theorem mayFil_runes {f : Fil} (h : mayFil f = true) : (runesL f.name).isSome = true := by
  unfold mayFil at h
  simp only [Bool.and_eq_true] at h
  exact h.1.1.1.1

set_option maxRecDepth 100000 in
set_option maxHeartbeats 4000000 in
theorem rwrite_any (w : World) (hi : Nat) (d : DW) (pk : Bool) (D : StD) (F : List Fil) (hp : d.pk = .bool pk) (hR : StR w d D) (hfit : StFit D) (hF : RowAt w hi 7 d.es F.length (fiV F)) (hn : F.length ≤ 1000) (hS : D.S.length ≤ 10000) (hm : manyOf D.S ≤ 1000000)
    (hv : ∀ x ∈ F, x.name.length ≤ 2000) (hpr : ∀ x ∈ D.L, ∀ c ∈ x.f.coders, c.props.length ≤ 10000000) (hl : (strmW D).length + (filesW F).length ≤ 40000000) :
    Calls Tryd.prog 7 #[.agg #[d.pk, d.pl, d.ps, d.cs, d.fo, d.su, d.es]] w (Writ pk D F w) := by
  have HMY := Lib.hid (fun wx (G : Fr [] w wx) => rmay_any wx hi d pk D F hp ⟨hR.pl, (hR.ps.fr0 G).up G.size, (hR.cs.fr0 G).up G.size, hR.fo.fr G, hR.su.fr G⟩ hfit (hF.fr0 G) (by omega) hS (fun x hx => by have := hv x hx; omega))
  have hsl := strR_len D
  have hsl2 := congrArg List.length hsl
  rw [List.length_append, List.length_singleton] at hsl2
  have HST := Lib.hid (fun wx (h : mayStr D = true) (G : Fr [] w wx) => rstreams_any wx d D ⟨hR.pl, (hR.ps.fr0 G).up G.size, (hR.cs.fr0 G).up G.size, hR.fo.fr G, hR.su.fr G⟩ (stOk_of h hfit hm) (by omega) hpr)
  have HFL := Lib.hid (fun wx (h : F.all mayFil = true) (hne : F ≠ []) (G : Fr [] w wx) => rfiles_any wx hi d.es F (hF.fr0 G) hne hn (fun x hx => by
    have h1 := hv x hx
    have h2 := mayFil_runes (List.all_eq_true.1 h x hx)
    have h3 := name_facts h2
    exact ⟨by omega, h2, by omega, h3.2⟩) (by omega))
  obtain ⟨eao, ecap, heq, -, -, -⟩ := hF.out
  obtain ⟨dpk, pl, ps, cs', fo, su, es⟩ := d
  dsimp only at hp heq HMY HST HFL ⊢
  subst hp heq
  obtain ⟨wA, hwA⟩ : ∃ wA, wA = w.alloc (.cells #[.bool pk, pl, ps, cs', fo, su, .slice eao F.length ecap] 29) := ⟨_, rfl⟩
  have FA : Fr [] w wA := hwA ▸ (Fr.refl _ _).alloc _
  have HBX := Lib.hid (fun wx (F2 : Fr [] wA wx) => wbox7 (hwA ▸ F2 : Fr [] (w.alloc (.cells #[.bool pk, pl, ps, cs', fo, su, .slice eao F.length ecap] 29)) wx) (by simp))
  obtain ⟨k0, k1, k2, k3, k4, k5, k6⟩ := HBX.out wA (Fr.refl _ _)
  have HL := Lib.hid (show (strR D).length + 1 + (filesW F).length ≤ 40000000 by omega)
  clear hR hF hfit hS hm hv hpr hl hsl2
  have hnot : ∀ (x : Bool) (w : World), (Op.unary .not (.bool x)).run Tryd.prog w = .ok (.bool (!x)) w := fun _ _ => rfl
  have hs23 : ∀ (w : World), Sl (w.alloc (.cells #[.int .u8 0] 5)) (.slice (some ⟨w.heap.size, 0, none⟩) 1 1) (bv [0]) := fun w => sl_one _ _ _
  have HS0 := Lib.hid hs23
  clear hs23
  obtain ⟨NF, hNF⟩ : ∃ n, F.length = n := ⟨_, rfl⟩
  have HNF := Lib.hid hNF
  rw [hNF] at HMY HST HFL HBX k6 hwA hn ⊢
  clear hNF
  cases hma : mayAll pk D F with
  | false =>
    have HE := Lib.hid (show writR pk D F = ([], 301) by unfold writR; rw [hma]; rfl)
    rw [hma] at HMY
    clear hma hsl
    go_enter Tryd.func7, Tryd.ntmps7
    go_upto_region 1 with fail
    rw [← hwA]
    clear hwA
    go_wp2_with (go_at_call 9; refine (HMY.out _ FA).mono ?_; rintro e w1 ⟨rfl, F1⟩)
    go_ret2
    exact ⟨.slice none 0 0, by rw [HE.out]; rfl, by rw [HE.out]; exact Sl.nil _, FA.trans0 F1⟩
  | true =>
    rw [hma] at HMY
    have HMA := Lib.hid hma
    have hms : mayStr D = true := by
      cases h : mayStr D with
      | true => rfl
      | false => rw [mayAll_no h] at hma; cases hma
    have HSN := Lib.hid (strR_none D)
    have HSL := Lib.hid hsl
    cases pk with
    | true =>
      have hF0 : F = [] := by
        rw [mayAll_pk hms] at hma
        simp only [Bool.and_eq_true, decide_eq_true_eq] at hma
        exact List.eq_nil_of_length_eq_zero hma.2
      have HB := Lib.hid (show writeW true D F = ([23] ++ strR D) ++ [0] by unfold writeW; rw [if_pos rfl, HSL.out]; simp)
      clear hma hsl hF0
      generalize strR D = S at *
      go_enter Tryd.func7, Tryd.ntmps7
      go_upto_region 1 with fail
      rw [← hwA]
      clear hwA
      go_wp2_with (first
        | (have hq := H2; at_builtin; refine wpList_append_rb sty_u8 rfl _ _ (by rfl) (H2.fr ((Fr.refl _ _).alloc _)) 1 rfl (by rfl) _ [0] (by rfl) (sl_one _ _ _) (Nat.le_trans GG2.size ((Fr.refl [] _).alloc _).size) (by have := HL.out; simp <;> omega) ?_; intro v3 w3 H3 F3; have G3 := (H2.fr ((Fr.refl _ _).alloc _)).above (i := 1) rfl (GG2.alloc _) F3; obtain ⟨z30, z31, z32, z33, z34, z35, z36⟩ := HBX.out _ G3)
        | (have hq := H1; at_builtin; refine wpList_append_rb sty_u8 rfl _ _ (by rfl) H1 1 rfl (by rfl) _ S (by rfl) (Sl.of_own (H1.own 0 _ rfl)) G1.size (by have := HL.out; simp <;> omega) ?_; intro v9 w9 H2 F9; have GG2 := H1.above (i := 1) rfl G1 F9)
        | (have hq := F1; go_at_call 14; refine (HST.out _ hms (FA.trans0 F1)).mono ?_; rintro e w2 ⟨r2, rfl, own2, F2⟩; obtain ⟨ro2, rc2, rfl, -⟩ := own_out own2; have G2 := F1.trans0 F2; have H1 := rows2 (base := wA.heap.size) G2.size (own_mono own2 F1.size) 23; obtain ⟨u0, u1, u2, u3, u4, u5, u6⟩ := HBX.out _ G2; have G1 := G2.alloc (.cells #[.int .u8 23] 5); obtain ⟨t0, t1, t2, t3, t4, t5, t6⟩ := HBX.out _ G1)
        | (go_at_call 9; refine (HMY.out _ FA).mono ?_; rintro e w1 ⟨rfl, F1⟩; obtain ⟨p0, p1, p2, p3, p4, p5, p6⟩ := HBX.out w1 F1))
      go_ret2
      have HW := Writ.mk HMA.out HB.out (H3.slB (i := 1) rfl) (FA.trans0 G3)
      exact HW
    | false =>
      have hall : F.all mayFil = true := by
        rw [mayAll_fi hms] at hma
        simp only [Bool.and_eq_true] at hma
        exact hma.1
      clear hma hsl
      cases hsm : D.some with
      | true =>
        have hS1 : 0 < (strR D).length := List.length_pos_iff.2 (fun h => by rw [HSN.out.1 h] at hsm; cases hsm)
        by_cases h0 : NF = 0
        · have HB := Lib.hid (show writeW false D F = (((([1] ++ [4]) ++ strR D) ++ [0]) ++ [0]) by
            have hF0 : F = [] := List.eq_nil_of_length_eq_zero (by rw [HNF.out]; exact h0)
            unfold writeW
            rw [if_neg (by simp), if_pos hsm, HSL.out, hF0, show filesW [] = [] from rfl]
            simp)
          have hS1I : (0 : Int) < ((strR D).length : Int) := by omega
          subst h0
          clear hsm
          generalize strR D = S at *
          go_enter Tryd.func7, Tryd.ntmps7
          go_upto_region 1 with fail
          rw [← hwA]
          clear hwA
          go_wp2_with (first
            | (have hq := H5; at_builtin; refine wpList_append_rb sty_u8 rfl _ _ (by rfl) (H5.fr ((Fr.refl _ _).alloc _)) 1 rfl (by rfl) _ [0] (by rfl) (sl_one _ _ _) (Nat.le_trans G5.size ((Fr.refl [] _).alloc _).size) (by have := HL.out; simp <;> omega) ?_; intro v6 w6 H6 F6; have G6 := (H5.fr ((Fr.refl _ _).alloc _)).above (i := 1) rfl (G5.alloc _) F6; obtain ⟨z60, z61, z62, z63, z64, z65, z66⟩ := HBX.out _ G6)
            | (have hq := H4; at_builtin; refine wpList_append_rb sty_u8 rfl _ _ (by rfl) (H4.fr ((Fr.refl _ _).alloc _)) 1 rfl (by rfl) _ [0] (by rfl) (sl_one _ _ _) (Nat.le_trans G4.size ((Fr.refl [] _).alloc _).size) (by have := HL.out; simp <;> omega) ?_; intro v5 w5 H5 F5; have G5 := (H4.fr ((Fr.refl _ _).alloc _)).above (i := 1) rfl (G4.alloc _) F5; obtain ⟨z50, z51, z52, z53, z54, z55, z56⟩ := HBX.out _ G5)
            | (have hq := H3; at_builtin; refine wpList_append_rb sty_u8 rfl _ _ (by rfl) H3 1 rfl (by rfl) _ S (by rfl) (Sl.of_own (H3.own 0 _ rfl)) G3.size (by have := HL.out; simp <;> omega) ?_; intro v4 w4 H4 F4; have G4 := H3.above (i := 1) rfl G3 F4)
            | (have hq := H1; at_builtin; refine wpList_append_rb sty_u8 rfl _ _ (by rfl) (H1.fr ((Fr.refl _ _).alloc _)) 1 rfl (by rfl) _ [4] (by rfl) (lit2 w2 1 4) (Nat.le_trans G1.size ((Fr.refl [] _).alloc _).size) (by have := HL.out; simp <;> omega) ?_; intro v3 w3 H3 F3; have G3 := (H1.fr ((Fr.refl _ _).alloc _)).above (i := 1) rfl (G1.alloc _) F3; obtain ⟨z30, z31, z32, z33, z34, z35, z36⟩ := HBX.out _ G3)
            | (have hq := F1; go_at_call 14; refine (HST.out _ hms (FA.trans0 F1)).mono ?_; rintro e w2 ⟨r2, rfl, own2, F2⟩; obtain ⟨ro2, rc2, rfl, -⟩ := own_out own2; have G2 := F1.trans0 F2; have H1 := rows2 (base := wA.heap.size) G2.size (own_mono own2 F1.size) 1; obtain ⟨u0, u1, u2, u3, u4, u5, u6⟩ := HBX.out _ G2; have G1 := G2.alloc (.cells #[.int .u8 1] 5); obtain ⟨t0, t1, t2, t3, t4, t5, t6⟩ := HBX.out _ G1)
            | (go_at_call 9; refine (HMY.out _ FA).mono ?_; rintro e w1 ⟨rfl, F1⟩; obtain ⟨p0, p1, p2, p3, p4, p5, p6⟩ := HBX.out w1 F1))
          go_ret2
          have HW := Writ.mk HMA.out HB.out (H6.slB (i := 1) rfl) (FA.trans0 G6)
          exact HW
        · have hne : F ≠ [] := fun h => h0 (by rw [← HNF.out, h]; rfl)
          have HB := Lib.hid (show writeW false D F = ((((([1] ++ [4]) ++ strR D) ++ [0]) ++ filesW F) ++ [0]) by
            unfold writeW
            rw [if_neg (by simp), if_pos hsm, HSL.out]
            simp)
          have hS1I : (0 : Int) < ((strR D).length : Int) := by omega
          have h0I : (0 : Int) < (NF : Int) := by omega
          clear hsm h0
          generalize strR D = S at *
          generalize filesW F = FW at *
          go_enter Tryd.func7, Tryd.ntmps7
          go_upto_region 1 with fail
          rw [← hwA]
          clear hwA
          go_wp2_with (first
            | (have hq := H7; at_builtin; refine wpList_append_rb sty_u8 rfl _ _ (by rfl) (H7.fr ((Fr.refl _ _).alloc _)) 1 rfl (by rfl) _ [0] (by rfl) (sl_one _ _ _) (Nat.le_trans G7.size ((Fr.refl [] _).alloc _).size) (by have := HL.out; simp <;> omega) ?_; intro v8 w8 H8 F8; have G8 := (H7.fr ((Fr.refl _ _).alloc _)).above (i := 1) rfl (G7.alloc _) F8; obtain ⟨z80, z81, z82, z83, z84, z85, z86⟩ := HBX.out _ G8)
            | (have hq := H6; at_builtin; refine wpList_append_rb sty_u8 rfl _ _ (by rfl) H6 1 rfl (by rfl) _ FW (by rfl) (Sl.of_own (H6.own 2 _ rfl)) G6.size (by have := HL.out; simp <;> omega) ?_; intro v7 w7 H7 F7; have G7 := H6.above (i := 1) rfl G6 F7)
            | (have hq := H5; go_at_call 15; refine (HFL.out _ hall hne (FA.trans0 G5)).mono ?_; rintro e w6 hNB; obtain ⟨r6, rfl, H6, F6⟩ := H5.snoc G5.size hNB; have G6 := G5.trans0 F6)
            | (have hq := H4; at_builtin; refine wpList_append_rb sty_u8 rfl _ _ (by rfl) (H4.fr ((Fr.refl _ _).alloc _)) 1 rfl (by rfl) _ [0] (by rfl) (sl_one _ _ _) (Nat.le_trans G4.size ((Fr.refl [] _).alloc _).size) (by have := HL.out; simp <;> omega) ?_; intro v5 w5 H5 F5; have G5 := (H4.fr ((Fr.refl _ _).alloc _)).above (i := 1) rfl (G4.alloc _) F5; obtain ⟨z50, z51, z52, z53, z54, z55, z56⟩ := HBX.out _ G5)
            | (have hq := H3; at_builtin; refine wpList_append_rb sty_u8 rfl _ _ (by rfl) H3 1 rfl (by rfl) _ S (by rfl) (Sl.of_own (H3.own 0 _ rfl)) G3.size (by have := HL.out; simp <;> omega) ?_; intro v4 w4 H4 F4; have G4 := H3.above (i := 1) rfl G3 F4)
            | (have hq := H1; at_builtin; refine wpList_append_rb sty_u8 rfl _ _ (by rfl) (H1.fr ((Fr.refl _ _).alloc _)) 1 rfl (by rfl) _ [4] (by rfl) (lit2 w2 1 4) (Nat.le_trans G1.size ((Fr.refl [] _).alloc _).size) (by have := HL.out; simp <;> omega) ?_; intro v3 w3 H3 F3; have G3 := (H1.fr ((Fr.refl _ _).alloc _)).above (i := 1) rfl (G1.alloc _) F3; obtain ⟨z30, z31, z32, z33, z34, z35, z36⟩ := HBX.out _ G3)
            | (have hq := F1; go_at_call 14; refine (HST.out _ hms (FA.trans0 F1)).mono ?_; rintro e w2 ⟨r2, rfl, own2, F2⟩; obtain ⟨ro2, rc2, rfl, -⟩ := own_out own2; have G2 := F1.trans0 F2; have H1 := rows2 (base := wA.heap.size) G2.size (own_mono own2 F1.size) 1; obtain ⟨u0, u1, u2, u3, u4, u5, u6⟩ := HBX.out _ G2; have G1 := G2.alloc (.cells #[.int .u8 1] 5); obtain ⟨t0, t1, t2, t3, t4, t5, t6⟩ := HBX.out _ G1)
            | (go_at_call 9; refine (HMY.out _ FA).mono ?_; rintro e w1 ⟨rfl, F1⟩; obtain ⟨p0, p1, p2, p3, p4, p5, p6⟩ := HBX.out w1 F1))
          go_ret2
          have HW := Writ.mk HMA.out HB.out (H8.slB (i := 1) rfl) (FA.trans0 G8)
          exact HW
      | false =>
        have hS0 : strR D = [] := HSN.out.2 hsm
        by_cases h0 : NF = 0
        · have HB := Lib.hid (show writeW false D F = ([1] ++ [0]) by
            have hF0 : F = [] := List.eq_nil_of_length_eq_zero (by rw [HNF.out]; exact h0)
            unfold writeW
            rw [if_neg (by simp), hsm, hF0, show filesW [] = [] from rfl]
            simp)
          subst h0
          rw [hS0] at HST HL
          clear hsm hS0
          go_enter Tryd.func7, Tryd.ntmps7
          go_upto_region 1 with fail
          rw [← hwA]
          clear hwA
          go_wp2_with (first
            | (have hq := H1; at_builtin; refine wpList_append_rb sty_u8 rfl _ _ (by rfl) (H1.fr ((Fr.refl _ _).alloc _)) 1 rfl (by rfl) _ [0] (by rfl) (lit2 w2 1 0) (Nat.le_trans G1.size ((Fr.refl [] _).alloc _).size) (by have := HL.out; simp <;> omega) ?_; intro v3 w3 H3 F3; have G3 := (H1.fr ((Fr.refl _ _).alloc _)).above (i := 1) rfl (G1.alloc _) F3; obtain ⟨z30, z31, z32, z33, z34, z35, z36⟩ := HBX.out _ G3)
            | (have hq := F1; go_at_call 14; refine (HST.out _ hms (FA.trans0 F1)).mono ?_; rintro e w2 ⟨r2, rfl, own2, F2⟩; obtain ⟨ro2, rc2, rfl, -⟩ := own_out own2; have G2 := F1.trans0 F2; have H1 := rows2 (base := wA.heap.size) G2.size (own_mono own2 F1.size) 1; obtain ⟨u0, u1, u2, u3, u4, u5, u6⟩ := HBX.out _ G2; have G1 := G2.alloc (.cells #[.int .u8 1] 5); obtain ⟨t0, t1, t2, t3, t4, t5, t6⟩ := HBX.out _ G1)
            | (go_at_call 9; refine (HMY.out _ FA).mono ?_; rintro e w1 ⟨rfl, F1⟩; obtain ⟨p0, p1, p2, p3, p4, p5, p6⟩ := HBX.out w1 F1))
          go_ret2
          have HW := Writ.mk HMA.out HB.out (H3.slB (i := 1) rfl) (FA.trans0 G3)
          exact HW
        · have hne : F ≠ [] := fun h => h0 (by rw [← HNF.out, h]; rfl)
          have HB := Lib.hid (show writeW false D F = (([1] ++ filesW F) ++ [0]) by
            unfold writeW
            rw [if_neg (by simp), hsm]
            simp)
          have h0I : (0 : Int) < (NF : Int) := by omega
          rw [hS0] at HST HL
          clear hsm h0 hS0
          generalize filesW F = FW at *
          go_enter Tryd.func7, Tryd.ntmps7
          go_upto_region 1 with fail
          rw [← hwA]
          clear hwA
          go_wp2_with (first
            | (have hq := H4; at_builtin; refine wpList_append_rb sty_u8 rfl _ _ (by rfl) (H4.fr ((Fr.refl _ _).alloc _)) 1 rfl (by rfl) _ [0] (by rfl) (sl_one _ _ _) (Nat.le_trans G4.size ((Fr.refl [] _).alloc _).size) (by have := HL.out; simp <;> omega) ?_; intro v5 w5 H5 F5; have G5 := (H4.fr ((Fr.refl _ _).alloc _)).above (i := 1) rfl (G4.alloc _) F5; obtain ⟨z50, z51, z52, z53, z54, z55, z56⟩ := HBX.out _ G5)
            | (have hq := H3; at_builtin; refine wpList_append_rb sty_u8 rfl _ _ (by rfl) H3 1 rfl (by rfl) _ FW (by rfl) (Sl.of_own (H3.own 2 _ rfl)) G3.size (by have := HL.out; simp <;> omega) ?_; intro v4 w4 H4 F4; have G4 := H3.above (i := 1) rfl G3 F4)
            | (have hq := H1; go_at_call 15; refine (HFL.out _ hall hne (FA.trans0 G1)).mono ?_; rintro e w3 hNB; obtain ⟨r3, rfl, H3, F3⟩ := H1.snoc G1.size hNB; have G3 := G1.trans0 F3)
            | (have hq := F1; go_at_call 14; refine (HST.out _ hms (FA.trans0 F1)).mono ?_; rintro e w2 ⟨r2, rfl, own2, F2⟩; obtain ⟨ro2, rc2, rfl, -⟩ := own_out own2; have G2 := F1.trans0 F2; have H1 := rows2 (base := wA.heap.size) G2.size (own_mono own2 F1.size) 1; obtain ⟨u0, u1, u2, u3, u4, u5, u6⟩ := HBX.out _ G2; have G1 := G2.alloc (.cells #[.int .u8 1] 5); obtain ⟨t0, t1, t2, t3, t4, t5, t6⟩ := HBX.out _ G1)
            | (go_at_call 9; refine (HMY.out _ FA).mono ?_; rintro e w1 ⟨rfl, F1⟩; obtain ⟨p0, p1, p2, p3, p4, p5, p6⟩ := HBX.out w1 F1))
          go_ret2
          have HW := Writ.mk HMA.out HB.out (H5.slB (i := 1) rfl) (FA.trans0 G5)
          exact HW
end Go.Proofs.YtkodindajfdagaaDoor
