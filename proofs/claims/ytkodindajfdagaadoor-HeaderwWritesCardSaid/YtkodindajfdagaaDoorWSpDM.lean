/- The reference's streams: subs. No condition but that lengths fit. -/
import Derived.Test.YtkodindajfdagaaDoorWSpCM
namespace Go.Proofs.YtkodindajfdagaaDoor
open Go.RowKit
set_option linter.unusedVariables false

def SU (wA : World) (g : Nat) (c : List UInt8) (m s : Bool) (U : List Ck) (i : Nat) (a : Act) (w' : World) : Prop :=
  ∃ A v u, a = ⟨A, []⟩ ∧ A.size = 335 ∧ Slots A [(1, .pointer (some ⟨g, 0, none⟩)), (3, v), (13, .bool m), (14, .bool s), (15, u), (16, .int .i64 (i : Int))] ∧ StB wA.heap.size wA (.slice none 0 0) v c w' ∧ w'.ownsRow wA.heap.size 44 2 u U.length (ckV U)
def SUj (wA : World) (g : Nat) (c : List UInt8) (m s : Bool) (U : List Ck) (i j : Nat) (a : Act) (w' : World) : Prop :=
  ∃ A v u, a = ⟨A, []⟩ ∧ A.size = 335 ∧ Slots A [(1, .pointer (some ⟨g, 0, none⟩)), (3, v), (13, .bool m), (14, .bool s), (15, u), (16, .int .i64 (i : Int)), (17, .int .i64 (j : Int))] ∧ StB wA.heap.size wA (.slice none 0 0) v c w' ∧ w'.ownsRow wA.heap.size 44 2 u U.length (ckV U)
def SUe (wA : World) (g : Nat) (c : List UInt8) (m s : Bool) (U : List Ck) (a : Act) (w' : World) : Prop :=
  ∃ A v u, a = ⟨A, []⟩ ∧ A.size = 335 ∧ Slots A [(1, .pointer (some ⟨g, 0, none⟩)), (3, v), (13, .bool m), (14, .bool s), (15, u)] ∧ StB wA.heap.size wA (.slice none 0 0) v c w' ∧ w'.ownsRow wA.heap.size 44 2 u U.length (ckV U)
def SUk (wA : World) (g i : Nat) (c : List UInt8) (m : Bool) (U : List Ck) (k : Nat) (a : Act) (w' : World) : Prop :=
  ∃ A v u, a = ⟨A, []⟩ ∧ A.size = 335 ∧ Slots A [(1, .pointer (some ⟨g, 0, none⟩)), (3, v), (13, .bool m), (15, u), (i, .int .i64 (k : Int))] ∧ StB wA.heap.size wA (.slice none 0 0) v c w' ∧ w'.ownsRow wA.heap.size 44 2 u U.length (ckV U)
def SUkk (wA : World) (g : Nat) (c : List UInt8) (m : Bool) (U : List Ck) (k j : Nat) (a : Act) (w' : World) : Prop :=
  ∃ A v u, a = ⟨A, []⟩ ∧ A.size = 335 ∧ Slots A [(1, .pointer (some ⟨g, 0, none⟩)), (3, v), (13, .bool m), (15, u), (19, .int .i64 (k : Int)), (20, .int .i64 (j : Int))] ∧ StB wA.heap.size wA (.slice none 0 0) v c w' ∧ w'.ownsRow wA.heap.size 44 2 u U.length (ckV U)
def SUm (wA : World) (g : Nat) (c : List UInt8) (m : Bool) (U : List Ck) (a : Act) (w' : World) : Prop :=
  ∃ A v u, a = ⟨A, []⟩ ∧ A.size = 335 ∧ Slots A [(1, .pointer (some ⟨g, 0, none⟩)), (3, v), (13, .bool m), (15, u)] ∧ StB wA.heap.size wA (.slice none 0 0) v c w' ∧ w'.ownsRow wA.heap.size 44 2 u U.length (ckV U)

/-- The checks of a row's first subs that aren't the folder's. -/
def innW (l : List Sub) (x : Fol) (j : Nat) : List Ck := if l.length = 1 ∧ x.ck.has = true then [] else (l.take j).map (·.ck)
theorem innW_all (l : List Sub) (x : Fol) : innW l x l.length = unkOf l x := by
  unfold innW unkOf
  rw [List.take_of_length_le (Nat.le_refl _)]
theorem innW_zero (l : List Sub) (x : Fol) : innW l x 0 = [] := by unfold innW; split <;> rfl

set_option maxRecDepth 100000 in
set_option maxHeartbeats 2000000 in
/-- A row's subs: their checks join the checks. -/
theorem su_inner {wA : World} {g : Nat} {S : List (List Sub)} {L : List Fol} {sao fao : Option Addr} {scap NS fcap NL : Nat} (hNS : S.length = NS) (hNL : L.length = NL) (hlen : NS = NL) (hSu : WSubsR wA (.slice sao NS scap) S) (hF : FolR wA (.slice fao NL fcap) L) (hn : NS ≤ 100000) (hnl : ∀ l ∈ S, l.length ≤ 100000) (HBX : ∀ wx, Fr [] wA wx → wx.cell? ⟨g, 4, none⟩ = some (.slice fao NL fcap) ∧ wx.cell? ⟨g, 5, none⟩ = some (.slice sao NS scap)) {c0 : List UInt8} {m s : Bool} {U : List Ck} {k : Nat} (hk : k < NS) {l : List Sub} {x : Fol} (hl1 : S[k]? = some l) (hx : L[k]? = some x) (hU : U.length + (unkOf l x).length ≤ 1000000) (a : Act) (w : World) (hS : SU wA g c0 m s U k a w) :
    (sc [true, true, true, true, true, true, true, false, true, false, false, true, false, false, true]).wp Tryd.prog (Only (SU wA g c0 m (s || (unkOf l x).any (·.has)) (U ++ unkOf l x) k)) a w := by
  obtain ⟨sao2, scap2, hse, -, -, hso⟩ := hSu.out
  obtain ⟨q1, o1, lv, hao, hq1, z0, hrow⟩ := hso k l hl1
  obtain ⟨lo1, lc1, rfl, -, -, -⟩ := hrow.out
  obtain ⟨fao2, fcap2, hfe, -, -, hfo⟩ := hF.out
  obtain ⟨q2, o2, cv, bv', pv, sv, hao2, hq2, -, -, -, -, z4, -, -⟩ := hfo k x hx
  have he1 : sao = sao2 := by injection hse
  have he2 : fao = fao2 := by injection hfe
  have hll := hnl l (List.mem_of_getElem? hl1)
  rw [he1, he2, hao, hao2] at HBX
  obtain ⟨N, hN⟩ : ∃ n, l.length = n := ⟨_, rfl⟩
  have HN := Lib.hid hN
  rw [hN] at z0 hrow hll
  have HXH := Lib.hid (fun (wx : World) (F : Fr [] wA wx) => show (wx.cell? ⟨g, 4, none⟩ = some (.slice (some ⟨q2, o2, none⟩) NL fcap) ∧ wx.cell? ⟨g, 5, none⟩ = some (.slice (some ⟨q1, o1, none⟩) NS scap) ∧ wx.cell? ⟨q1, o1 + k, none⟩ = some (.slice lo1 N lc1) ∧ wx.cell? ⟨q2, o2 + k * 6 + 4, none⟩ = some (.bool x.ck.has) ∧ q1 < wx.heap.size ∧ q2 < wx.heap.size) from
    ⟨(HBX wx F).1, (HBX wx F).2, (F.cell (p := ⟨q1, o1 + k, none⟩) hq1 (by simp)).trans z0, (F.cell (p := ⟨q2, o2 + k * 6 + 4, none⟩) hq2 (by simp)).trans z4, Nat.lt_of_lt_of_le hq1 F.size, Nat.lt_of_lt_of_le hq2 F.size⟩)
  have HRow := Lib.hid (fun wx (Fx : Fr [] wA wx) => hrow.fr0 Fx)
  have hkI : (k : Int) < (NS : Int) := by omega
  have hkI2 : (k : Int) < (NL : Int) := by omega
  clear hse hso hao hq1 z0 hrow hfe hfo hao2 hq2 z4 he1 he2 HBX hSu hF
  conv => arg 2; whnf
  refine only_seq (R := SUj wA g c0 m s U k 0) ?_ ?_
  · obtain ⟨A, v, u, rfl, hz, ⟨h1, h3, h13, h14, h15, h16, -⟩, S0, own0⟩ := hS
    have HS := Lib.hid S0
    have HO := Lib.hid own0
    clear S0 own0 hl1 hx hU hN hnl
    refine only_hide fun R HR => ?_
    go_wp2_with fail
    exact only_mk (HR.out _ _ ⟨_, v, u, rfl, by simp [hz], ⟨fun _ => by simp [slot_set, h1], fun _ => by simp [slot_set, h3], fun _ => by simp [slot_set, h13], fun _ => by simp [slot_set, h14], fun _ => by simp [slot_set, h15], fun _ => by simp [slot_set, h16], fun _ => by simp, trivial⟩, HS.out, HO.out⟩)
  clear hS a w
  intro a w hI
  rw [← innW_all, hN]
  refine for_count (N := N) (fun j => SUj wA g c0 m (s || (innW l x j).any (·.has)) (U ++ innW l x j) k j) (fun j => SUj wA g c0 m (s || (innW l x (j + 1)).any (·.has)) (U ++ innW l x (j + 1)) k j) (by rw [innW_zero]; simpa using hI) ?_ ?_ ?_ ?_
  · clear hI a w
    rintro j _ wr hj ⟨A, v, u, rfl, hz, ⟨h1, h3, h13, h14, h15, h16, h17, -⟩, S0, own0⟩
    obtain ⟨q4, q5, q6, q7, hb1, hb2⟩ := HXH.out wr S0.fr
    have HS := Lib.hid S0
    have HO := Lib.hid own0
    clear S0 own0 hl1 hx hU hN hnl
    generalize innW l x j = V at *
    generalize (s || V.any (·.has)) = s2 at *
    generalize U ++ V = U2 at *
    refine only_hide fun R HR => ?_
    go_wp2_with fail
    exact only_mk (HR.out _ _ ⟨by simp [Act.eval, hz], _, v, u, rfl, by simp [hz], ⟨fun _ => by simp [slot_set, h1], fun _ => by simp [slot_set, h3], fun _ => by simp [slot_set, h13], fun _ => by simp [slot_set, h14], fun _ => by simp [slot_set, h15], fun _ => by simp [slot_set, h16], fun _ => by simp [slot_set, h17], trivial⟩, HS.out, HO.out⟩)
  · clear hI a w
    rintro j _ wr hj ⟨A, v, u, rfl, hz, ⟨h1, h3, h13, h14, h15, h16, h17, -⟩, S0, own0⟩
    obtain ⟨q4, q5, q6, q7, hb1, hb2⟩ := HXH.out wr S0.fr
    have hjI : (j : Int) < (N : Int) := by omega
    refine only_block ?_
    by_cases hskip : N = 1 ∧ x.ck.has = true
    · have e1 : ∀ j, innW l x j = [] := fun j => if_pos (by rw [hN]; exact hskip)
      rw [e1] at own0 h14
      rw [e1]
      have hxh := hskip.2
      have hN1 := hskip.1
      refine only_seq (R := fun a' w' => a'.eval (.tmp 244) = .bool false ∧ SUj wA g c0 m (s || ([] : List Ck).any (·.has)) (U ++ []) k j a' w') ?_ (fun a w h => wp_cond_false h.1 (wp_skip (only_mk h.2)))
      have HS := Lib.hid S0
      have HO := Lib.hid own0
      rw [hxh] at q7
      subst hN1
      clear S0 own0 hl1 hx hU hN hnl e1 hskip hxh HN
      generalize (s || ([] : List Ck).any (·.has)) = s2 at *
      generalize U ++ [] = U2 at *
      refine only_hide fun R HR => ?_
      go_wp2_with fail
      exact only_mk (HR.out _ _ ⟨by simp [Act.eval, hz], _, v, u, rfl, by simp [hz], ⟨fun _ => by simp [slot_set, h1], fun _ => by simp [slot_set, h3], fun _ => by simp [slot_set, h13], fun _ => by simp [slot_set, h14], fun _ => by simp [slot_set, h15], fun _ => by simp [slot_set, h16], fun _ => by simp [slot_set, h17], trivial⟩, HS.out, HO.out⟩)
    · have e1 : ∀ j, innW l x j = (l.take j).map (·.ck) := fun j => if_neg (by rw [hN]; exact hskip)
      rw [e1] at own0 h14
      rw [e1]
      obtain ⟨y, hy⟩ := some_get l j (by omega)
      have HCK := Lib.hid (show (l.take (j + 1)).map (·.ck) = (l.take j).map (·.ck) ++ [y.ck] by rw [List.take_add_one, hy, List.map_append]; rfl)
      have hUl : U.length + j ≤ 1000000 := by
        have h2 : (unkOf l x).length = l.length := by rw [show unkOf l x = l.map (·.ck) from if_neg (by rw [hN]; exact hskip), List.length_map]
        omega
      have HVL := Lib.hid (show ((l.take j).map (fun y : Sub => y.ck)).length = j by rw [List.length_map, List.length_take]; omega)
      obtain ⟨q3, o3, hao3, hq3, e0, e1', e2⟩ := (HRow.out wr S0.fr).sb hy hj
      subst hao3
      obtain ⟨ysz, ⟨yh, ys⟩⟩ := y
      dsimp only at e0 e1' e2 HCK
      rw [HCK.out]
      generalize (l.take j).map (fun y : Sub => y.ck) = V at *
      refine only_seq (R := fun a' w' => a'.eval (.tmp 244) = .bool true ∧ w' = wr ∧ ∃ A, a' = ⟨A, []⟩ ∧ A.size = 335 ∧ Slots A [(1, .pointer (some ⟨g, 0, none⟩)), (3, v), (13, .bool m), (14, .bool (s || V.any (·.has))), (15, u), (16, .int .i64 (k : Int)), (17, .int .i64 (j : Int))]) ?_ ?_
      · have HS := Lib.hid S0
        have HO := Lib.hid own0
        clear S0 own0 hl1 hx hU hnl e1 HCK hy HVL e0 e1' e2 hN HN
        generalize (s || V.any (·.has)) = s2 at *
        by_cases hN1 : N = 1
        · have hxh : x.ck.has = false := by
            cases hq : x.ck.has with
            | false => rfl
            | true => exact absurd ⟨hN1, hq⟩ hskip
          rw [hxh] at q7
          subst hN1
          clear hskip hxh
          refine only_hide fun R HR => ?_
          go_wp2_with fail
          exact only_mk (HR.out _ _ ⟨by simp [Act.eval, hz], rfl, _, rfl, by simp [hz], fun _ => by simp [slot_set, h1], fun _ => by simp [slot_set, h3], fun _ => by simp [slot_set, h13], fun _ => by simp [slot_set, h14], fun _ => by simp [slot_set, h15], fun _ => by simp [slot_set, h16], fun _ => by simp [slot_set, h17], trivial⟩)
        · have t1 : ((N : Int) == 1) = false := by rw [beq_eq_false_iff_ne]; omega
          have t2 : ((N : Int) != 1) = true := by rw [bne_iff_ne]; omega
          clear hskip hN1
          refine only_hide fun R HR => ?_
          go_wp2_with fail
          exact only_mk (HR.out _ _ ⟨by simp [Act.eval, hz], rfl, _, rfl, by simp [hz], fun _ => by simp [slot_set, h1], fun _ => by simp [slot_set, h3], fun _ => by simp [slot_set, h13], fun _ => by simp [slot_set, h14], fun _ => by simp [slot_set, h15], fun _ => by simp [slot_set, h16], fun _ => by simp [slot_set, h17], trivial⟩)
      · clear h1 h3 h13 h14 h15 h16 h17 hz A
        rintro _ w' ⟨he, hw', A, rfl, hz, h1, h3, h13, h14, h15, h16, h17, -⟩
        subst w'
        refine wp_cond_true he ?_
        clear he
        have hUV : (U ++ V).length = U.length + j := by rw [List.length_append, HVL.out]
        have HUV := Lib.hid hUV
        rw [hUV] at own0
        refine only_seq (R := SUj wA g c0 m (s || V.any (·.has)) (U ++ (V ++ [⟨yh, ys⟩])) k j) ?_ ?_
        · have HO := Lib.hid (own_frS own0 ((Fr.refl [] wr).alloc (.cells #[.bool yh, .int .u32 ys.toNat] 44)) (by simp))
          have HNB := Lib.hid (heap_alloc_new wr (.cells #[.bool yh, .int .u32 ys.toNat] 44))
          have HSZ := Lib.hid (show wA.heap.size ≤ (wr.alloc (.cells #[.bool yh, .int .u32 ys.toNat] 44)).heap.size from by have := S0.fr.size; rw [World.size_alloc]; omega)
          have HS := Lib.hid S0
          clear S0 own0 hl1 hx hU hnl e1 HCK hy hskip hN HN hUV
          generalize (s || V.any (·.has)) = s2 at *
          refine only_hide fun R HR => ?_
          go_wp2_with (at_builtin; refine wpList_append_struct sty_ck rfl (.tmp 245) (.tmp 255) (by rfl) wA.heap.size _ _ _ (by go_simp) HO.out wr.heap.size [.bool yh, .int .u32 ys.toNat] (by go_simp) HNB.out rfl rfl (by omega) (by decide) HSZ.out ?_; intro v7 w7 own7 g7')
          refine only_mk (HR.out _ _ ⟨_, v, v7, rfl, by simp [hz], ⟨fun _ => by simp [slot_set, h1], fun _ => by simp [slot_set, h3], fun _ => by simp [slot_set, h13], fun _ => by simp [slot_set, h14], fun _ => by simp, fun _ => by simp [slot_set, h16], fun _ => by simp [slot_set, h17], trivial⟩, ?_, ?_⟩)
          · exact StB.grownO (HS.out.fr0 ((Fr.refl [] wr).alloc _)) HO.out (Nat.le_refl _) (by decide) g7'
          · rw [← List.append_assoc, List.length_append, HUV.out, ckV_app]
            exact own7
        · clear h1 h3 h13 h14 h15 h16 h17 hz A S0 own0 v u q4 q5 q6 q7 hb1 hb2 e0 e1' e2 hq3
          rintro _ w7 ⟨A, v, u, rfl, hz, ⟨h1, h3, h13, h14, h15, h16, h17, -⟩, S0, own0⟩
          obtain ⟨q4, q5, q6, q7, hb1, hb2⟩ := HXH.out w7 S0.fr
          obtain ⟨q3', o3', hao3, hq3, e0, e1', e2⟩ := (HRow.out w7 S0.fr).sb hy hj
          have eao : q3 = q3' ∧ o3 = o3' := by
            injection hao3 with hao3
            injection hao3 with x1 x2 x3
            exact ⟨x1, x2⟩
          obtain ⟨rfl, rfl⟩ := eao
          dsimp only at e0 e1' e2
          have HS := Lib.hid S0
          have HO := Lib.hid own0
          clear S0 own0 hl1 hx hU hnl e1 HCK hy hskip hN HN hUV HVL hao3
          have HAN := Lib.hid (show (s || (V ++ [(⟨yh, ys⟩ : Ck)]).any (·.has)) = ((s || V.any (·.has)) || yh) by simp [Bool.or_assoc])
          rw [HAN.out]
          generalize (s || V.any (·.has)) = s2 at *
          generalize U ++ (V ++ [(⟨yh, ys⟩ : Ck)]) = U3 at *
          cases s2 with
          | true =>
            refine only_hide fun R HR => ?_
            go_wp2_with fail
            exact only_mk (HR.out _ _ ⟨_, v, u, rfl, by simp [hz], ⟨fun _ => by simp [slot_set, h1], fun _ => by simp [slot_set, h3], fun _ => by simp [slot_set, h13], fun _ => by simp, fun _ => by simp [slot_set, h15], fun _ => by simp [slot_set, h16], fun _ => by simp [slot_set, h17], trivial⟩, HS.out, HO.out⟩)
          | false =>
            refine only_hide fun R HR => ?_
            go_wp2_with fail
            exact only_mk (HR.out _ _ ⟨_, v, u, rfl, by simp [hz], ⟨fun _ => by simp [slot_set, h1], fun _ => by simp [slot_set, h3], fun _ => by simp [slot_set, h13], fun _ => by simp, fun _ => by simp [slot_set, h15], fun _ => by simp [slot_set, h16], fun _ => by simp [slot_set, h17], trivial⟩, HS.out, HO.out⟩)
  · clear hI a w
    rintro j _ wr hj ⟨A, v, u, rfl, hz, ⟨h1, h3, h13, h14, h15, h16, h17, -⟩, S0, own0⟩
    have HS := Lib.hid S0
    have HO := Lib.hid own0
    clear S0 own0 hl1 hx hU hN hnl
    generalize innW l x (j + 1) = V at *
    generalize (s || V.any (·.has)) = s2 at *
    generalize U ++ V = U2 at *
    refine only_hide fun R HR => ?_
    go_wp2_with fail
    exact only_mk (HR.out _ _ ⟨_, v, u, rfl, by simp [hz], ⟨fun _ => by simp [slot_set, h1], fun _ => by simp [slot_set, h3], fun _ => by simp [slot_set, h13], fun _ => by simp [slot_set, h14], fun _ => by simp [slot_set, h15], fun _ => by simp [slot_set, h16], fun _ => by simp, trivial⟩, HS.out, HO.out⟩)
  · rintro _ wr ⟨A, v, u, rfl, hz, ⟨h1, h3, h13, h14, h15, h16, h17, -⟩, S0, own0⟩
    exact ⟨A, v, u, rfl, hz, ⟨h1, h3, h13, h14, h15, h16, trivial⟩, S0, own0⟩

set_option maxRecDepth 100000 in
set_option maxHeartbeats 2000000 in
theorem su_round {wA : World} {g : Nat} {S : List (List Sub)} {L : List Fol} {sao fao : Option Addr} {scap NS fcap NL : Nat} (hNS : S.length = NS) (hNL : L.length = NL) (hlen : NS = NL) (hSu : WSubsR wA (.slice sao NS scap) S) (hF : FolR wA (.slice fao NL fcap) L) (hn : NS ≤ 100000) (hnl : ∀ l ∈ S, l.length ≤ 100000) (HBX : ∀ wx, Fr [] wA wx → wx.cell? ⟨g, 4, none⟩ = some (.slice fao NL fcap) ∧ wx.cell? ⟨g, 5, none⟩ = some (.slice sao NS scap)) {c0 : List UInt8} (hU : ∀ k, (unkW (S.take k) (L.take k)).length ≤ 1000000) (k : Nat) (hk : k < NS) (a : Act) (w : World) (hS : SU wA g c0 ((S.take k).any oddS) ((unkW (S.take k) (L.take k)).any (·.has)) (unkW (S.take k) (L.take k)) k a w) :
    (sc [true, true, true, true, true, true, true, false, true, false, false, true, false]).wp Tryd.prog (Only (SU wA g c0 ((S.take (k + 1)).any oddS) ((unkW (S.take (k + 1)) (L.take (k + 1))).any (·.has)) (unkW (S.take (k + 1)) (L.take (k + 1))) k)) a w := by
  obtain ⟨l, hl1⟩ := some_get S k (by omega)
  obtain ⟨x, hx⟩ := some_get L k (by omega)
  have HTU := Lib.hid (unkW_take hl1 hx)
  have HTM := Lib.hid (any_take oddS hl1)
  have hul := hU (k + 1)
  rw [HTU.out, List.length_append] at hul
  rw [HTU.out, List.any_append, HTM.out]
  conv => arg 2; whnf
  refine only_block ?_
  refine only_seq (R := SU wA g c0 ((S.take k).any oddS || oddS l) ((unkW (S.take k) (L.take k)).any (·.has)) (unkW (S.take k) (L.take k)) k) ?_ (fun a w h => su_inner hNS hNL hlen hSu hF hn hnl HBX hk hl1 hx hul a w h)
  obtain ⟨A, v, u, rfl, hz, ⟨h1, h3, h13, h14, h15, h16, -⟩, S0, own0⟩ := hS
  obtain ⟨sao2, scap2, hse, -, -, hso⟩ := hSu.out
  obtain ⟨q1, o1, lv, hao, hq1, z0, hrow⟩ := hso k l hl1
  obtain ⟨lo1, lc1, rfl, -, -, -⟩ := hrow.out
  obtain ⟨fao2, fcap2, hfe, -, -, hfo⟩ := hF.out
  obtain ⟨q2, o2, cv, bv', pv, sv, hao2, hq2, -, -, -, -, z4, -, -⟩ := hfo k x hx
  have he1 : sao = sao2 := by injection hse
  have he2 : fao = fao2 := by injection hfe
  have hll := hnl l (List.mem_of_getElem? hl1)
  rw [he1, he2, hao, hao2] at HBX
  obtain ⟨N, hN⟩ : ∃ n, l.length = n := ⟨_, rfl⟩
  have HN := Lib.hid hN
  rw [hN] at z0 hrow hll
  have HXH := Lib.hid (fun (wx : World) (F : Fr [] wA wx) => show (wx.cell? ⟨g, 4, none⟩ = some (.slice (some ⟨q2, o2, none⟩) NL fcap) ∧ wx.cell? ⟨g, 5, none⟩ = some (.slice (some ⟨q1, o1, none⟩) NS scap) ∧ wx.cell? ⟨q1, o1 + k, none⟩ = some (.slice lo1 N lc1) ∧ wx.cell? ⟨q2, o2 + k * 6 + 4, none⟩ = some (.bool x.ck.has) ∧ q1 < wx.heap.size ∧ q2 < wx.heap.size) from
    ⟨(HBX wx F).1, (HBX wx F).2, (F.cell (p := ⟨q1, o1 + k, none⟩) hq1 (by simp)).trans z0, (F.cell (p := ⟨q2, o2 + k * 6 + 4, none⟩) hq2 (by simp)).trans z4, Nat.lt_of_lt_of_le hq1 F.size, Nat.lt_of_lt_of_le hq2 F.size⟩)
  have HRow := Lib.hid (fun wx (Fx : Fr [] wA wx) => hrow.fr0 Fx)
  have hkI : (k : Int) < (NS : Int) := by omega
  have hkI2 : (k : Int) < (NL : Int) := by omega
  clear hse hso hao hq1 z0 hrow hfe hfo hao2 hq2 z4 he1 he2 HBX hSu hF
  obtain ⟨q4, q5, q6, q7, hb1, hb2⟩ := HXH.out w S0.fr
  have HS := Lib.hid S0
  have HO := Lib.hid own0
  clear S0 own0 hl1 hx hU hnl hul
  generalize (S.take k).any oddS = m at *
  generalize (unkW (S.take k) (L.take k)).any (·.has) = s at *
  generalize unkW (S.take k) (L.take k) = U at *
  have HOD := Lib.hid (show oddS l = !(N == 1) by unfold oddS; rw [hN])
  rw [HOD.out]
  clear hN
  cases m with
  | true =>
    refine only_hide fun R HR => ?_
    go_wp2_with fail
    exact only_mk (HR.out _ _ ⟨_, v, u, rfl, by simp [hz], ⟨fun _ => by simp [slot_set, h1], fun _ => by simp [slot_set, h3], fun _ => by simp, fun _ => by simp [slot_set, h14], fun _ => by simp [slot_set, h15], fun _ => by simp [slot_set, h16], trivial⟩, HS.out, HO.out⟩)
  | false =>
    by_cases h1N : N = 1
    · subst h1N
      refine only_hide fun R HR => ?_
      go_wp2_with fail
      exact only_mk (HR.out _ _ ⟨_, v, u, rfl, by simp [hz], ⟨fun _ => by simp [slot_set, h1], fun _ => by simp [slot_set, h3], fun _ => by simp, fun _ => by simp [slot_set, h14], fun _ => by simp [slot_set, h15], fun _ => by simp [slot_set, h16], trivial⟩, HS.out, HO.out⟩)
    · have t1 : ((N : Int) == 1) = false := by rw [beq_eq_false_iff_ne]; omega
      have t2 : ((N : Int) != 1) = true := by rw [bne_iff_ne]; omega
      have t3 : (N == 1) = false := by rw [beq_eq_false_iff_ne]; exact h1N
      refine only_hide fun R HR => ?_
      go_wp2_with fail
      exact only_mk (HR.out _ _ ⟨_, v, u, rfl, by simp [hz], ⟨fun _ => by simp [slot_set, h1], fun _ => by simp [slot_set, h3], fun _ => by simp [t3], fun _ => by simp [slot_set, h14], fun _ => by simp [slot_set, h15], fun _ => by simp [slot_set, h16], trivial⟩, HS.out, HO.out⟩)

set_option maxRecDepth 100000 in
set_option maxHeartbeats 2000000 in
theorem su_loop {wA : World} {g : Nat} {S : List (List Sub)} {L : List Fol} {sao fao : Option Addr} {scap NS fcap NL : Nat} (hNS : S.length = NS) (hNL : L.length = NL) (hlen : NS = NL) (hSu : WSubsR wA (.slice sao NS scap) S) (hF : FolR wA (.slice fao NL fcap) L) (hn : NS ≤ 100000) (hnl : ∀ l ∈ S, l.length ≤ 100000) (HBX : ∀ wx, Fr [] wA wx → wx.cell? ⟨g, 4, none⟩ = some (.slice fao NL fcap) ∧ wx.cell? ⟨g, 5, none⟩ = some (.slice sao NS scap)) {c0 : List UInt8} (hU : ∀ k, (unkW (S.take k) (L.take k)).length ≤ 1000000) (a : Act) (w : World) (hS : SUe wA g c0 false false [] a w) :
    (sc [true, true, true, true, true, true, true, false]).wp Tryd.prog (Only (SUe wA g c0 (S.any oddS) ((unkW S L).any (·.has)) (unkW S L))) a w := by
  have HXH := Lib.hid HBX
  conv => arg 2; whnf
  refine only_seq (R := SU wA g c0 false false [] 0) ?_ ?_
  · obtain ⟨A, v, u, rfl, hz, ⟨h1, h3, h13, h14, h15, -⟩, S0, own0⟩ := hS
    have HS := Lib.hid S0
    have HO := Lib.hid own0
    clear S0 own0 hSu hF hnl hU HBX hNS hNL hlen
    refine only_hide fun R HR => ?_
    go_wp2_with fail
    exact only_mk (HR.out _ _ ⟨_, v, u, rfl, by simp [hz], ⟨fun _ => by simp [slot_set, h1], fun _ => by simp [slot_set, h3], fun _ => by simp [slot_set, h13], fun _ => by simp [slot_set, h14], fun _ => by simp [slot_set, h15], fun _ => by simp, trivial⟩, HS.out, HO.out⟩)
  clear hS a w
  intro a w hI
  refine for_count (N := NS) (fun k => SU wA g c0 ((S.take k).any oddS) ((unkW (S.take k) (L.take k)).any (·.has)) (unkW (S.take k) (L.take k)) k) (fun k => SU wA g c0 ((S.take (k + 1)).any oddS) ((unkW (S.take (k + 1)) (L.take (k + 1))).any (·.has)) (unkW (S.take (k + 1)) (L.take (k + 1))) k) (by rw [List.take_zero, List.take_zero]; exact hI) ?_ (fun k a w hk h => su_round hNS hNL hlen hSu hF hn hnl HBX hU k hk a w h) ?_ ?_
  · clear hI a w
    rintro k _ wr hk ⟨A, v, u, rfl, hz, ⟨h1, h3, h13, h14, h15, h16, -⟩, S0, own0⟩
    obtain ⟨-, q5⟩ := HXH.out wr S0.fr
    have HS := Lib.hid S0
    have HO := Lib.hid own0
    clear S0 own0 hSu hF hnl hU HBX hNS hNL hlen
    generalize (S.take k).any oddS = m at *
    generalize (unkW (S.take k) (L.take k)).any (·.has) = s at *
    generalize unkW (S.take k) (L.take k) = U at *
    refine only_hide fun R HR => ?_
    go_wp2_with fail
    exact only_mk (HR.out _ _ ⟨by simp [Act.eval, hz], _, v, u, rfl, by simp [hz], ⟨fun _ => by simp [slot_set, h1], fun _ => by simp [slot_set, h3], fun _ => by simp [slot_set, h13], fun _ => by simp [slot_set, h14], fun _ => by simp [slot_set, h15], fun _ => by simp [slot_set, h16], trivial⟩, HS.out, HO.out⟩)
  · clear hI a w
    rintro k _ wr hk ⟨A, v, u, rfl, hz, ⟨h1, h3, h13, h14, h15, h16, -⟩, S0, own0⟩
    have HS := Lib.hid S0
    have HO := Lib.hid own0
    clear S0 own0 hSu hF hnl hU HBX hNS hNL hlen
    generalize (S.take (k + 1)).any oddS = m at *
    generalize (unkW (S.take (k + 1)) (L.take (k + 1))).any (·.has) = s at *
    generalize unkW (S.take (k + 1)) (L.take (k + 1)) = U at *
    refine only_hide fun R HR => ?_
    go_wp2_with fail
    exact only_mk (HR.out _ _ ⟨_, v, u, rfl, by simp [hz], ⟨fun _ => by simp [slot_set, h1], fun _ => by simp [slot_set, h3], fun _ => by simp [slot_set, h13], fun _ => by simp [slot_set, h14], fun _ => by simp [slot_set, h15], fun _ => by simp, trivial⟩, HS.out, HO.out⟩)
  · rintro _ wr ⟨A, v, u, rfl, hz, ⟨h1, h3, h13, h14, h15, h16, -⟩, S0, own0⟩
    rw [List.take_of_length_le (by omega)] at h13
    rw [List.take_of_length_le (by omega), List.take_of_length_le (by omega)] at h14 own0
    exact ⟨A, v, u, rfl, hz, ⟨h1, h3, h13, h14, h15, trivial⟩, S0, own0⟩

set_option maxRecDepth 100000 in
set_option maxHeartbeats 2000000 in
/-- How many subs each folder has. -/
theorem su_counts {wA : World} {g : Nat} {S : List (List Sub)} {L : List Fol} {sao fao : Option Addr} {scap NS fcap NL : Nat} (hNS : S.length = NS) (hNL : L.length = NL) (hlen : NS = NL) (hSu : WSubsR wA (.slice sao NS scap) S) (hF : FolR wA (.slice fao NL fcap) L) (hn : NS ≤ 100000) (hnl : ∀ l ∈ S, l.length ≤ 100000) (HBX : ∀ wx, Fr [] wA wx → wx.cell? ⟨g, 4, none⟩ = some (.slice fao NL fcap) ∧ wx.cell? ⟨g, 5, none⟩ = some (.slice sao NS scap)) {c0 : List UInt8} {m : Bool} {U : List Ck} (hl : c0.length + (cntB S).length ≤ 40000000) (a : Act) (w : World) (hS : SUm wA g c0 m U a w) :
    (sc [true, true, true, true, true, true, true, true, false, true, false, true, false, true, false, true, false]).wp Tryd.prog (Only (SUm wA g (c0 ++ cntB S) m U)) a w := by
  have HXB := Lib.hid HBX
  have HBa := Lib.hid (Nat.le_refl wA.heap.size)
  conv => arg 2; whnf
  refine only_seq (R := SUk wA g 18 c0 m U 0) ?_ ?_
  · obtain ⟨A, v, u, rfl, hz, ⟨h1, h3, h13, h15, -⟩, S0, own0⟩ := hS
    have HS := Lib.hid S0
    have HO := Lib.hid own0
    clear S0 own0 hSu hF hnl HBX hNS hNL hl hlen
    refine only_hide fun R HR => ?_
    go_wp2_with fail
    exact only_mk (HR.out _ _ ⟨_, v, u, rfl, by simp [hz], ⟨fun _ => by simp [slot_set, h1], fun _ => by simp [slot_set, h3], fun _ => by simp [slot_set, h13], fun _ => by simp [slot_set, h15], fun _ => by simp, trivial⟩, HS.out, HO.out⟩)
  clear hS a w
  intro a w hI
  refine for_count (N := NS) (fun k => SUk wA g 18 (c0 ++ cntB (S.take k)) m U k) (fun k => SUk wA g 18 (c0 ++ cntB (S.take (k + 1))) m U k) (by rw [List.take_zero, show cntB [] = [] from rfl, List.append_nil]; exact hI) ?_ ?_ ?_ ?_
  · clear hI a w
    rintro k _ wr hk ⟨A, v, u, rfl, hz, ⟨h1, h3, h13, h15, h18, -⟩, S0, own0⟩
    obtain ⟨-, q5⟩ := HXB.out wr S0.fr
    have HS := Lib.hid S0
    have HO := Lib.hid own0
    clear S0 own0 hSu hF hnl HBX hNS hNL hl hlen
    refine only_hide fun R HR => ?_
    go_wp2_with fail
    exact only_mk (HR.out _ _ ⟨by simp [Act.eval, hz], _, v, u, rfl, by simp [hz], ⟨fun _ => by simp [slot_set, h1], fun _ => by simp [slot_set, h3], fun _ => by simp [slot_set, h13], fun _ => by simp [slot_set, h15], fun _ => by simp [slot_set, h18], trivial⟩, HS.out, HO.out⟩)
  · clear hI a w
    rintro k _ wr hk ⟨A, v, u, rfl, hz, ⟨h1, h3, h13, h15, h18, -⟩, S0, own0⟩
    obtain ⟨l, hl1⟩ := some_get S k (by omega)
    obtain ⟨x, hx⟩ := some_get L k (by omega)
    obtain ⟨sao2, scap2, hse, -, -, hso⟩ := hSu.out
    obtain ⟨q1, o1, lv, hao, hq1, z0, hrow⟩ := hso k l hl1
    obtain ⟨lo1, lc1, rfl, -, -, -⟩ := hrow.out
    obtain ⟨fao2, fcap2, hfe, -, -, hfo⟩ := hF.out
    obtain ⟨q2, o2, cv, bv', pv, sv, hao2, hq2, -, -, -, -, z4, -, -⟩ := hfo k x hx
    have he1 : sao = sao2 := by injection hse
    have he2 : fao = fao2 := by injection hfe
    have hll := hnl l (List.mem_of_getElem? hl1)
    rw [he1, he2, hao, hao2] at HBX
    obtain ⟨N, hN⟩ : ∃ n, l.length = n := ⟨_, rfl⟩
    have HN := Lib.hid hN
    rw [hN] at z0 hrow hll
    have HXH := Lib.hid (fun (wx : World) (F : Fr [] wA wx) => show (wx.cell? ⟨g, 4, none⟩ = some (.slice (some ⟨q2, o2, none⟩) NL fcap) ∧ wx.cell? ⟨g, 5, none⟩ = some (.slice (some ⟨q1, o1, none⟩) NS scap) ∧ wx.cell? ⟨q1, o1 + k, none⟩ = some (.slice lo1 N lc1) ∧ wx.cell? ⟨q2, o2 + k * 6 + 4, none⟩ = some (.bool x.ck.has) ∧ q1 < wx.heap.size ∧ q2 < wx.heap.size) from
      ⟨(HBX wx F).1, (HBX wx F).2, (F.cell (p := ⟨q1, o1 + k, none⟩) hq1 (by simp)).trans z0, (F.cell (p := ⟨q2, o2 + k * 6 + 4, none⟩) hq2 (by simp)).trans z4, Nat.lt_of_lt_of_le hq1 F.size, Nat.lt_of_lt_of_le hq2 F.size⟩)
    have HRow := Lib.hid (fun wx (Fx : Fr [] wA wx) => hrow.fr0 Fx)
    have hkI : (k : Int) < (NS : Int) := by omega
    have hkI2 : (k : Int) < (NL : Int) := by omega
    clear hse hso hao hq1 z0 hrow hfe hfo hao2 hq2 z4 he1 he2 HBX hSu hF
    obtain ⟨q4, q5, q6, q7, hb1, hb2⟩ := HXH.out wr S0.fr
    have HTK := Lib.hid (show c0 ++ cntB (S.take (k + 1)) = (c0 ++ cntB (S.take k)) ++ shortN N by rw [cntB_take hl1, hN, List.append_assoc])
    have hle := cntB_le hl1
    have HYL := Lib.hid (show (c0 ++ cntB (S.take k)).length ≤ 40000000 by rw [List.length_append]; omega)
    obtain ⟨vo, vc, rfl, -⟩ := own_out S0.own
    generalize c0 ++ cntB (S.take k) = Y at *
    generalize c0 ++ cntB (S.take (k + 1)) = Y' at *
    have hwr : IntKind.u64.wrap (N : Int) = (N : Int) := by simp [IntKind.wrap, IntKind.bits, IntKind.signed]; omega
    have hn64 : N < 18446744073709551616 := by omega
    have HS := Lib.hid S0
    have HO := Lib.hid own0
    clear S0 own0 hl1 hx hnl hl hle hN
    refine only_hide fun R HR => ?_
    go_wp2_with (go_at_call 30; refine (num_sb1 HS.out (Fr.refl _ _) HBa.out N (by have := HYL.out; omega) hn64).mono ?_; rintro e w7 ⟨r7, rfl, S7, F7⟩; rw [← HTK.out] at S7; obtain ⟨ro7, rc7, rfl, -⟩ := own_out S7.own)
    exact only_mk (HR.out _ _ ⟨_, _, u, rfl, by simp [hz], ⟨fun _ => by simp [slot_set, h1], fun _ => by simp, fun _ => by simp [slot_set, h13], fun _ => by simp [slot_set, h15], fun _ => by simp [slot_set, h18], trivial⟩, S7, own_frS HO.out F7 (by simp)⟩)
  · clear hI a w
    rintro k _ wr hk ⟨A, v, u, rfl, hz, ⟨h1, h3, h13, h15, h18, -⟩, S0, own0⟩
    have HS := Lib.hid S0
    have HO := Lib.hid own0
    clear S0 own0 hSu hF hnl HBX hNS hNL hl hlen
    refine only_hide fun R HR => ?_
    go_wp2_with fail
    exact only_mk (HR.out _ _ ⟨_, v, u, rfl, by simp [hz], ⟨fun _ => by simp [slot_set, h1], fun _ => by simp [slot_set, h3], fun _ => by simp [slot_set, h13], fun _ => by simp [slot_set, h15], fun _ => by simp, trivial⟩, HS.out, HO.out⟩)
  · rintro _ wr ⟨A, v, u, rfl, hz, ⟨h1, h3, h13, h15, h18, -⟩, S0, own0⟩
    rw [List.take_of_length_le (by omega)] at S0
    exact ⟨A, v, u, rfl, hz, ⟨h1, h3, h13, h15, trivial⟩, S0, own0⟩

set_option maxRecDepth 100000 in
set_option maxHeartbeats 2000000 in
/-- The sizes of all subs of a folder but the last. -/
theorem su_cut {wA : World} {g : Nat} {S : List (List Sub)} {L : List Fol} {sao fao : Option Addr} {scap NS fcap NL : Nat} (hNS : S.length = NS) (hNL : L.length = NL) (hlen : NS = NL) (hSu : WSubsR wA (.slice sao NS scap) S) (hF : FolR wA (.slice fao NL fcap) L) (hn : NS ≤ 100000) (hnl : ∀ l ∈ S, l.length ≤ 100000) (HBX : ∀ wx, Fr [] wA wx → wx.cell? ⟨g, 4, none⟩ = some (.slice fao NL fcap) ∧ wx.cell? ⟨g, 5, none⟩ = some (.slice sao NS scap)) {c0 : List UInt8} {m : Bool} {U : List Ck} {k : Nat} (hk : k < NS) {l : List Sub} {x : Fol} (hl1 : S[k]? = some l) (hx : L[k]? = some x) (hne : l ≠ []) (hl : c0.length + (cutOf l).length ≤ 40000000) (a : Act) (w : World) (hS : SUk wA g 19 c0 m U k a w) :
    (sc [true, true, true, true, true, true, true, true, false, true, false, true, false, true, false, true, true, true, true, false, false, true, false]).wp Tryd.prog (Only (SUk wA g 19 (c0 ++ cutOf l) m U k)) a w := by
  have HBa := Lib.hid (Nat.le_refl wA.heap.size)
  obtain ⟨sao2, scap2, hse, -, -, hso⟩ := hSu.out
  obtain ⟨q1, o1, lv, hao, hq1, z0, hrow⟩ := hso k l hl1
  obtain ⟨lo1, lc1, rfl, -, -, -⟩ := hrow.out
  obtain ⟨fao2, fcap2, hfe, -, -, hfo⟩ := hF.out
  obtain ⟨q2, o2, cv, bv', pv, sv, hao2, hq2, -, -, -, -, z4, -, -⟩ := hfo k x hx
  have he1 : sao = sao2 := by injection hse
  have he2 : fao = fao2 := by injection hfe
  have hll := hnl l (List.mem_of_getElem? hl1)
  rw [he1, he2, hao, hao2] at HBX
  obtain ⟨N, hN⟩ : ∃ n, l.length = n := ⟨_, rfl⟩
  have HN := Lib.hid hN
  rw [hN] at z0 hrow hll
  have HXH := Lib.hid (fun (wx : World) (F : Fr [] wA wx) => show (wx.cell? ⟨g, 4, none⟩ = some (.slice (some ⟨q2, o2, none⟩) NL fcap) ∧ wx.cell? ⟨g, 5, none⟩ = some (.slice (some ⟨q1, o1, none⟩) NS scap) ∧ wx.cell? ⟨q1, o1 + k, none⟩ = some (.slice lo1 N lc1) ∧ wx.cell? ⟨q2, o2 + k * 6 + 4, none⟩ = some (.bool x.ck.has) ∧ q1 < wx.heap.size ∧ q2 < wx.heap.size) from
    ⟨(HBX wx F).1, (HBX wx F).2, (F.cell (p := ⟨q1, o1 + k, none⟩) hq1 (by simp)).trans z0, (F.cell (p := ⟨q2, o2 + k * 6 + 4, none⟩) hq2 (by simp)).trans z4, Nat.lt_of_lt_of_le hq1 F.size, Nat.lt_of_lt_of_le hq2 F.size⟩)
  have HRow := Lib.hid (fun wx (Fx : Fr [] wA wx) => hrow.fr0 Fx)
  have hkI : (k : Int) < (NS : Int) := by omega
  have hkI2 : (k : Int) < (NL : Int) := by omega
  clear hse hso hao hq1 z0 hrow hfe hfo hao2 hq2 z4 he1 he2 HBX hSu hF
  obtain ⟨M, rfl⟩ : ∃ M, N = M + 1 := ⟨N - 1, by have := List.length_pos_iff.2 hne; omega⟩
  have hM : l.length - 1 = M := by omega
  unfold cutOf at hl ⊢
  rw [hM] at hl ⊢
  conv => arg 2; whnf
  refine only_block ?_
  refine only_seq (R := SUkk wA g c0 m U k 0) ?_ ?_
  · obtain ⟨A, v, u, rfl, hz, ⟨h1, h3, h13, h15, h19, -⟩, S0, own0⟩ := hS
    have HS := Lib.hid S0
    have HO := Lib.hid own0
    clear S0 own0 hl1 hx hl hN hnl hne hM
    refine only_hide fun R HR => ?_
    go_wp2_with fail
    exact only_mk (HR.out _ _ ⟨_, v, u, rfl, by simp [hz], ⟨fun _ => by simp [slot_set, h1], fun _ => by simp [slot_set, h3], fun _ => by simp [slot_set, h13], fun _ => by simp [slot_set, h15], fun _ => by simp [slot_set, h19], fun _ => by simp, trivial⟩, HS.out, HO.out⟩)
  clear hS a w
  intro a w hI
  refine for_count (N := M) (fun j => SUkk wA g (c0 ++ (l.take j).flatMap (fun s => shortN s.size.toNat)) m U k j) (fun j => SUkk wA g (c0 ++ (l.take (j + 1)).flatMap (fun s => shortN s.size.toNat)) m U k j) (by rw [List.take_zero, List.flatMap_nil, List.append_nil]; exact hI) ?_ ?_ ?_ ?_
  · clear hI a w
    rintro j _ wr hj ⟨A, v, u, rfl, hz, ⟨h1, h3, h13, h15, h19, h20, -⟩, S0, own0⟩
    obtain ⟨q4, q5, q6, q7, hb1, hb2⟩ := HXH.out wr S0.fr
    have HS := Lib.hid S0
    have HO := Lib.hid own0
    clear S0 own0 hl1 hx hl hN hnl hne hM
    refine only_hide fun R HR => ?_
    go_wp2_with fail
    exact only_mk (HR.out _ _ ⟨by simp [Act.eval, hz], _, v, u, rfl, by simp [hz], ⟨fun _ => by simp [slot_set, h1], fun _ => by simp [slot_set, h3], fun _ => by simp [slot_set, h13], fun _ => by simp [slot_set, h15], fun _ => by simp [slot_set, h19], fun _ => by simp [slot_set, h20], trivial⟩, HS.out, HO.out⟩)
  · clear hI a w
    rintro j _ wr hj ⟨A, v, u, rfl, hz, ⟨h1, h3, h13, h15, h19, h20, -⟩, S0, own0⟩
    obtain ⟨q4, q5, q6, q7, hb1, hb2⟩ := HXH.out wr S0.fr
    obtain ⟨y, hy⟩ := some_get l j (by omega)
    obtain ⟨q3, o3, hao3, hq3, e0, -, -⟩ := (HRow.out wr S0.fr).sb hy (by omega)
    subst hao3
    have HTK := Lib.hid (show c0 ++ (l.take (j + 1)).flatMap (fun s => shortN s.size.toNat) = (c0 ++ (l.take j).flatMap (fun s => shortN s.size.toNat)) ++ shortN y.size.toNat by rw [flat_take (fun s : Sub => shortN s.size.toNat) hy, List.append_assoc])
    have hle : ((l.take j).flatMap (fun s : Sub => shortN s.size.toNat)).length ≤ ((l.take M).flatMap (fun s : Sub => shortN s.size.toNat)).length := by
      have e : l.take M = l.take j ++ (l.take M).drop j := by rw [show l.take j = (l.take M).take j by rw [List.take_take, Nat.min_eq_left (by omega)], List.take_append_drop]
      rw [e, List.flatMap_append, List.length_append]
      omega
    have HYL := Lib.hid (show (c0 ++ (l.take j).flatMap (fun s => shortN s.size.toNat)).length ≤ 40000000 by rw [List.length_append]; omega)
    have hy64 := y.size.toNat_lt
    have hjI : (j : Int) < ((M + 1 : Nat) : Int) := by omega
    obtain ⟨vo, vc, rfl, -⟩ := own_out S0.own
    generalize c0 ++ (l.take j).flatMap (fun s => shortN s.size.toNat) = Y at *
    generalize c0 ++ (l.take (j + 1)).flatMap (fun s => shortN s.size.toNat) = Y' at *
    have HS := Lib.hid S0
    have HO := Lib.hid own0
    clear S0 own0 hl1 hx hl hN hnl hne hM hy hle
    refine only_hide fun R HR => ?_
    go_wp2_with (go_at_call 30; refine (num_sb1 HS.out (Fr.refl _ _) HBa.out y.size.toNat (by have := HYL.out; omega) hy64).mono ?_; rintro e w7 ⟨r7, rfl, S7, F7⟩; rw [← HTK.out] at S7; obtain ⟨ro7, rc7, rfl, -⟩ := own_out S7.own)
    exact only_mk (HR.out _ _ ⟨_, _, u, rfl, by simp [hz], ⟨fun _ => by simp [slot_set, h1], fun _ => by simp, fun _ => by simp [slot_set, h13], fun _ => by simp [slot_set, h15], fun _ => by simp [slot_set, h19], fun _ => by simp [slot_set, h20], trivial⟩, S7, own_frS HO.out F7 (by simp)⟩)
  · clear hI a w
    rintro j _ wr hj ⟨A, v, u, rfl, hz, ⟨h1, h3, h13, h15, h19, h20, -⟩, S0, own0⟩
    have HS := Lib.hid S0
    have HO := Lib.hid own0
    clear S0 own0 hl1 hx hl hN hnl hne hM
    refine only_hide fun R HR => ?_
    go_wp2_with fail
    exact only_mk (HR.out _ _ ⟨_, v, u, rfl, by simp [hz], ⟨fun _ => by simp [slot_set, h1], fun _ => by simp [slot_set, h3], fun _ => by simp [slot_set, h13], fun _ => by simp [slot_set, h15], fun _ => by simp [slot_set, h19], fun _ => by simp, trivial⟩, HS.out, HO.out⟩)
  · rintro _ wr ⟨A, v, u, rfl, hz, ⟨h1, h3, h13, h15, h19, h20, -⟩, S0, own0⟩
    exact ⟨A, v, u, rfl, hz, ⟨h1, h3, h13, h15, h19, trivial⟩, S0, own0⟩

set_option maxRecDepth 100000 in
set_option maxHeartbeats 2000000 in
/-- 8. -/
theorem su_eight {wA : World} {g : Nat} {c0 : List UInt8} {m : Bool} {U : List Ck} (hl : c0.length ≤ 40000000) (a : Act) (w : World) (hS : SUm wA g c0 m U a w) :
    (sc [true, true, true, true, true, true, true, true, false, true, false, false]).wp Tryd.prog (Only (SUm wA g (c0 ++ [8]) m U)) a w := by
  have HBa := Lib.hid (Nat.le_refl wA.heap.size)
  obtain ⟨A, v, u, rfl, hz, ⟨h1, h3, h13, h15, -⟩, S0, own0⟩ := hS
  obtain ⟨vo, vc, rfl, -⟩ := own_out S0.own
  have HL := Lib.hid hl
  have HKP := Lib.hid (fun w2 (F : Fr (Value.slice vo c0.length vc).ownBlock.toList w w2) => S0.keep own0 (by decide) F)
  have HS := Lib.hid S0
  clear S0 own0 hl
  conv => arg 2; whnf
  refine only_hide fun R HR => ?_
  go_wp2_with (at_builtin; refine wpList_append_s1 sty_u8 rfl (.tmp 274) (.tmp 275) (by rfl) HS.out ((Fr.refl _ _).alloc _) (by go_simp) _ [8] (by go_simp) (sl_one _ _ _) HBa.out (by have := HL.out; simp only [List.length_cons, List.length_nil]; omega) ?_; intro v4 w4 S4 F4)
  exact only_mk (HR.out _ _ ⟨_, _, u, rfl, by simp [hz], ⟨fun _ => by simp [slot_set, h1], fun _ => by simp, fun _ => by simp [slot_set, h13], fun _ => by simp [slot_set, h15], trivial⟩, S4, HKP.out _ ((((Fr.refl _ _).alloc _)).trans F4 (fun i hi => .inl hi))⟩)

set_option maxRecDepth 100000 in
set_option maxHeartbeats 2000000 in
/-- 13. -/
theorem su_thirteen {wA : World} {g : Nat} {c0 : List UInt8} {m : Bool} {U : List Ck} (hl : c0.length ≤ 40000000) (a : Act) (w : World) (hS : SUm wA g c0 m U a w) :
    (sc [true, true, true, true, true, true, true, true, false, true, false, true, false, true, false, false]).wp Tryd.prog (Only (SUm wA g (c0 ++ [13]) m U)) a w := by
  have HBa := Lib.hid (Nat.le_refl wA.heap.size)
  obtain ⟨A, v, u, rfl, hz, ⟨h1, h3, h13, h15, -⟩, S0, own0⟩ := hS
  obtain ⟨vo, vc, rfl, -⟩ := own_out S0.own
  have HL := Lib.hid hl
  have HKP := Lib.hid (fun w2 (F : Fr (Value.slice vo c0.length vc).ownBlock.toList w w2) => S0.keep own0 (by decide) F)
  have HS := Lib.hid S0
  clear S0 own0 hl
  conv => arg 2; whnf
  refine only_hide fun R HR => ?_
  go_wp2_with (at_builtin; refine wpList_append_s1 sty_u8 rfl (.tmp 278) (.tmp 279) (by rfl) HS.out ((Fr.refl _ _).alloc _) (by go_simp) _ [13] (by go_simp) (sl_one _ _ _) HBa.out (by have := HL.out; simp only [List.length_cons, List.length_nil]; omega) ?_; intro v4 w4 S4 F4)
  exact only_mk (HR.out _ _ ⟨_, _, u, rfl, by simp [hz], ⟨fun _ => by simp [slot_set, h1], fun _ => by simp, fun _ => by simp [slot_set, h13], fun _ => by simp [slot_set, h15], trivial⟩, S4, HKP.out _ ((((Fr.refl _ _).alloc _)).trans F4 (fun i hi => .inl hi))⟩)

set_option maxRecDepth 100000 in
set_option maxHeartbeats 2000000 in
/-- 9. -/
theorem su_nine {wA : World} {g : Nat} {c0 : List UInt8} {m : Bool} {U : List Ck} (hl : c0.length ≤ 40000000) (a : Act) (w : World) (hS : SUm wA g c0 m U a w) :
    (sc [true, true, true, true, true, true, true, true, false, true, false, true, false, true, false, true, true, false]).wp Tryd.prog (Only (SUm wA g (c0 ++ [9]) m U)) a w := by
  have HBa := Lib.hid (Nat.le_refl wA.heap.size)
  obtain ⟨A, v, u, rfl, hz, ⟨h1, h3, h13, h15, -⟩, S0, own0⟩ := hS
  obtain ⟨vo, vc, rfl, -⟩ := own_out S0.own
  have HL := Lib.hid hl
  have HKP := Lib.hid (fun w2 (F : Fr (Value.slice vo c0.length vc).ownBlock.toList w w2) => S0.keep own0 (by decide) F)
  have HS := Lib.hid S0
  clear S0 own0 hl
  conv => arg 2; whnf
  refine only_hide fun R HR => ?_
  go_wp2_with (at_builtin; refine wpList_append_s1 sty_u8 rfl (.tmp 297) (.tmp 298) (by rfl) HS.out ((Fr.refl _ _).alloc _) (by go_simp) _ [9] (by go_simp) (sl_one _ _ _) HBa.out (by have := HL.out; simp only [List.length_cons, List.length_nil]; omega) ?_; intro v4 w4 S4 F4)
  exact only_mk (HR.out _ _ ⟨_, _, u, rfl, by simp [hz], ⟨fun _ => by simp [slot_set, h1], fun _ => by simp, fun _ => by simp [slot_set, h13], fun _ => by simp [slot_set, h15], trivial⟩, S4, HKP.out _ ((((Fr.refl _ _).alloc _)).trans F4 (fun i hi => .inl hi))⟩)

set_option maxRecDepth 100000 in
set_option maxHeartbeats 2000000 in
theorem su_cuts {wA : World} {g : Nat} {S : List (List Sub)} {L : List Fol} {sao fao : Option Addr} {scap NS fcap NL : Nat} (hNS : S.length = NS) (hNL : L.length = NL) (hlen : NS = NL) (hSu : WSubsR wA (.slice sao NS scap) S) (hF : FolR wA (.slice fao NL fcap) L) (hn : NS ≤ 100000) (hnl : ∀ l ∈ S, l.length ≤ 100000) (HBX : ∀ wx, Fr [] wA wx → wx.cell? ⟨g, 4, none⟩ = some (.slice fao NL fcap) ∧ wx.cell? ⟨g, 5, none⟩ = some (.slice sao NS scap)) {c0 : List UInt8} {m : Bool} {U : List Ck} (hne : ∀ l ∈ S, l ≠ []) (hl : c0.length + (cutB S).length ≤ 40000000) (a : Act) (w : World) (hS : SUm wA g c0 m U a w) :
    (sc [true, true, true, true, true, true, true, true, false, true, false, true, false, true, false, true, true, true]).wp Tryd.prog (Only (SUm wA g (c0 ++ cutB S) m U)) a w := by
  have HXB := Lib.hid HBX
  conv => arg 2; whnf
  refine only_seq (R := SUk wA g 19 c0 m U 0) ?_ ?_
  · obtain ⟨A, v, u, rfl, hz, ⟨h1, h3, h13, h15, -⟩, S0, own0⟩ := hS
    have HS := Lib.hid S0
    have HO := Lib.hid own0
    clear S0 own0 hSu hF hnl HBX hNS hNL hl hlen hne
    refine only_hide fun R HR => ?_
    go_wp2_with fail
    exact only_mk (HR.out _ _ ⟨_, v, u, rfl, by simp [hz], ⟨fun _ => by simp [slot_set, h1], fun _ => by simp [slot_set, h3], fun _ => by simp [slot_set, h13], fun _ => by simp [slot_set, h15], fun _ => by simp, trivial⟩, HS.out, HO.out⟩)
  clear hS a w
  intro a w hI
  refine for_count (N := NS) (fun k => SUk wA g 19 (c0 ++ cutB (S.take k)) m U k) (fun k => SUk wA g 19 (c0 ++ cutB (S.take (k + 1))) m U k) (by rw [List.take_zero, show cutB [] = [] from rfl, List.append_nil]; exact hI) ?_ ?_ ?_ ?_
  · clear hI a w
    rintro k _ wr hk ⟨A, v, u, rfl, hz, ⟨h1, h3, h13, h15, h19, -⟩, S0, own0⟩
    obtain ⟨-, q5⟩ := HXB.out wr S0.fr
    have HS := Lib.hid S0
    have HO := Lib.hid own0
    clear S0 own0 hSu hF hnl HBX hNS hNL hl hlen hne
    refine only_hide fun R HR => ?_
    go_wp2_with fail
    exact only_mk (HR.out _ _ ⟨by simp [Act.eval, hz], _, v, u, rfl, by simp [hz], ⟨fun _ => by simp [slot_set, h1], fun _ => by simp [slot_set, h3], fun _ => by simp [slot_set, h13], fun _ => by simp [slot_set, h15], fun _ => by simp [slot_set, h19], trivial⟩, HS.out, HO.out⟩)
  · intro k a wr hk h
    obtain ⟨l, hl1⟩ := some_get S k (by omega)
    obtain ⟨x, hx⟩ := some_get L k (by omega)
    have hle := cutB_le hl1
    rw [cutB_take hl1, ← List.append_assoc]
    exact su_cut hNS hNL hlen hSu hF hn hnl HBX hk hl1 hx (hne l (List.mem_of_getElem? hl1)) (by rw [List.length_append]; omega) a wr h
  · clear hI a w
    rintro k _ wr hk ⟨A, v, u, rfl, hz, ⟨h1, h3, h13, h15, h19, -⟩, S0, own0⟩
    have HS := Lib.hid S0
    have HO := Lib.hid own0
    clear S0 own0 hSu hF hnl HBX hNS hNL hl hlen hne
    refine only_hide fun R HR => ?_
    go_wp2_with fail
    exact only_mk (HR.out _ _ ⟨_, v, u, rfl, by simp [hz], ⟨fun _ => by simp [slot_set, h1], fun _ => by simp [slot_set, h3], fun _ => by simp [slot_set, h13], fun _ => by simp [slot_set, h15], fun _ => by simp, trivial⟩, HS.out, HO.out⟩)
  · rintro _ wr ⟨A, v, u, rfl, hz, ⟨h1, h3, h13, h15, h19, -⟩, S0, own0⟩
    rw [List.take_of_length_le (by omega)] at S0
    exact ⟨A, v, u, rfl, hz, ⟨h1, h3, h13, h15, trivial⟩, S0, own0⟩

set_option maxRecDepth 100000 in
set_option maxHeartbeats 2000000 in
/-- The checks, and 0. -/
theorem su_tail {wA : World} {g : Nat} {c0 : List UInt8} {m : Bool} {cks : List Ck} (hn : cks.length ≤ 1000000) (hl : c0.length + (sumsW cks).length ≤ 40000000) (a : Act) (w : World) (hS : SUm wA g c0 m cks a w) :
    (sc [true, true, true, true, true, true, true, true, false, true, false, true, true]).wp Tryd.prog (Only (SB wA g ((c0 ++ sumsW cks) ++ [0]))) a w := by
  have HBa := Lib.hid (Nat.le_refl wA.heap.size)
  obtain ⟨A, v, u, rfl, hz, ⟨h1, h3, h13, h15, -⟩, S0, own0⟩ := hS
  obtain ⟨vo, vc, rfl, -⟩ := own_out S0.own
  have HRW := Lib.hid (S0.row own0 (by decide))
  obtain ⟨Y, hY⟩ : ∃ Y, Y = c0 ++ sumsW cks := ⟨_, rfl⟩
  have HY := Lib.hid hY
  have HYL := Lib.hid (show Y.length ≤ 40000000 by rw [hY, List.length_append]; exact hl)
  have HL := Lib.hid hl
  have HN := Lib.hid hn
  have HS := Lib.hid S0
  rw [← hY]
  clear S0 own0 hl hY hn
  conv => arg 2; whnf
  refine only_hide fun R HR => ?_
  go_wp2_with (first
      | (have hq := S8; at_builtin; refine wpList_append_st sty_u8 rfl (.tmp 331) (.tmp 332) (by rfl) S8 ((Fr.refl _ _).alloc _) (by go_simp) _ [0] (by go_simp) (sl_one _ _ _) HBa.out (by have := HYL.out; simp only [List.length_cons, List.length_nil]; omega) ?_; intro v9 w9 S9; obtain ⟨ro9, rc9, rfl, -⟩ := own_out S9.own)
      | (go_at_call 31; refine (sums_sb (hi := w.heap.size) HS.out (Fr.refl _ _) HBa.out _ cks HRW.out HN.out (by have := HL.out; omega)).mono ?_; rintro e w8 ⟨r8, rfl, S8⟩; rw [← HY.out] at S8; obtain ⟨ro8, rc8, rfl, -⟩ := own_out S8.own))
  exact only_mk (HR.out _ _ ⟨_, _, rfl, by simp [hz], fun _ => by simp [slot_set, h1], fun _ => by simp, S9⟩)

set_option maxRecDepth 100000 in
set_option maxHeartbeats 2000000 in
/-- What is said of subs, behind the loop. -/
theorem su_say {wA : World} {g : Nat} {S : List (List Sub)} {L : List Fol} {sao fao : Option Addr} {scap NS fcap NL : Nat} (hNS : S.length = NS) (hNL : L.length = NL) (hlen : NS = NL) (hSu : WSubsR wA (.slice sao NS scap) S) (hF : FolR wA (.slice fao NL fcap) L) (hn : NS ≤ 100000) (hnl : ∀ l ∈ S, l.length ≤ 100000) (HBX : ∀ wx, Fr [] wA wx → wx.cell? ⟨g, 4, none⟩ = some (.slice fao NL fcap) ∧ wx.cell? ⟨g, 5, none⟩ = some (.slice sao NS scap)) {c0 : List UInt8} (hne : ∀ l ∈ S, l ≠ []) (hul : (unkW S L).length ≤ 1000000) (hl : c0.length + (subsW S L).length ≤ 40000000) (a : Act) (w : World) (hS : SUe wA g c0 (S.any oddS) ((unkW S L).any (·.has)) (unkW S L) a w) :
    (sc [true, true, true, true, true, true, true, true, false]).wp Tryd.prog (Only (SB wA g (c0 ++ subsW S L))) a w := by
  have HE := Lib.hid (show subsW S L = if S.any oddS = false ∧ (unkW S L).any (·.has) = false then [] else 8 :: ((if S.any oddS then 13 :: (cntB S ++ (9 :: cutB S)) else []) ++ (sumsW (unkW S L) ++ [0])) from rfl)
  conv => arg 2; whnf
  refine only_seq (R := fun a' w' => a'.eval (.tmp 273) = .bool (S.any oddS || (unkW S L).any (·.has)) ∧ SUm wA g c0 (S.any oddS) (unkW S L) a' w') ?_ ?_
  · obtain ⟨A, v, u, rfl, hz, ⟨h1, h3, h13, h14, h15, -⟩, S0, own0⟩ := hS
    have HS := Lib.hid S0
    have HO := Lib.hid own0
    clear S0 own0 hSu hF hnl HBX hNS hNL hl hlen hne hul HE
    generalize S.any oddS = m at *
    generalize (unkW S L).any (·.has) = s at *
    generalize unkW S L = U at *
    cases m with
    | true =>
      refine only_hide fun R HR => ?_
      go_wp2_with fail
      exact only_mk (HR.out _ _ ⟨by simp [Act.eval, hz], _, v, u, rfl, by simp [hz], ⟨fun _ => by simp [slot_set, h1], fun _ => by simp [slot_set, h3], fun _ => by simp [slot_set, h13], fun _ => by simp [slot_set, h15], trivial⟩, HS.out, HO.out⟩)
    | false =>
      cases s with
      | true =>
        refine only_hide fun R HR => ?_
        go_wp2_with fail
        exact only_mk (HR.out _ _ ⟨by simp [Act.eval, hz], _, v, u, rfl, by simp [hz], ⟨fun _ => by simp [slot_set, h1], fun _ => by simp [slot_set, h3], fun _ => by simp [slot_set, h13], fun _ => by simp [slot_set, h15], trivial⟩, HS.out, HO.out⟩)
      | false =>
        refine only_hide fun R HR => ?_
        go_wp2_with fail
        exact only_mk (HR.out _ _ ⟨by simp [Act.eval, hz], _, v, u, rfl, by simp [hz], ⟨fun _ => by simp [slot_set, h1], fun _ => by simp [slot_set, h3], fun _ => by simp [slot_set, h13], fun _ => by simp [slot_set, h15], trivial⟩, HS.out, HO.out⟩)
  clear hS a w
  rintro a w ⟨he, h⟩
  cases hms : (S.any oddS || (unkW S L).any (·.has)) with
  | false =>
    rw [hms] at he
    rw [Bool.or_eq_false_iff] at hms
    refine wp_cond_false he (wp_skip (only_mk ?_))
    rw [HE.out, if_pos hms, List.append_nil]
    obtain ⟨A, v, u, rfl, hz, ⟨h1, h3, h13, h15, -⟩, S0, own0⟩ := h
    exact ⟨A, v, rfl, hz, h1, h3, S0⟩
  | true =>
    rw [hms] at he
    have hms2 : ¬ (S.any oddS = false ∧ (unkW S L).any (·.has) = false) := fun h => by rw [h.1, h.2] at hms; cases hms
    have HE2 := HE.out.trans (if_neg hms2)
    have hle := congrArg List.length HE2
    rw [List.length_cons, List.length_append, List.length_append, List.length_singleton] at hle
    refine wp_cond_true he ?_
    refine only_seq (su_eight (by omega) a w h) (fun a w h => ?_)
    refine only_seq (R := SUm wA g ((c0 ++ [8]) ++ (if S.any oddS then 13 :: (cntB S ++ (9 :: cutB S)) else [])) (S.any oddS) (unkW S L)) ?_ (fun a w h => ?_)
    · refine only_seq (R := fun a' w' => a'.eval (.tmp 277) = .bool (S.any oddS) ∧ SUm wA g (c0 ++ [8]) (S.any oddS) (unkW S L) a' w') ?_ ?_
      · obtain ⟨A, v, u, rfl, hz, ⟨h1, h3, h13, h15, -⟩, S0, own0⟩ := h
        have HS := Lib.hid S0
        have HO := Lib.hid own0
        clear S0 own0 hSu hF hnl HBX hNS hNL hl hlen hne hul HE HE2 hle hms2 he hms
        generalize S.any oddS = m at *
        generalize unkW S L = U at *
        refine only_hide fun R HR => ?_
        go_wp2_with fail
        exact only_mk (HR.out _ _ ⟨by simp [Act.eval, hz], _, v, u, rfl, by simp [hz], ⟨fun _ => by simp [slot_set, h1], fun _ => by simp [slot_set, h3], fun _ => by simp [slot_set, h13], fun _ => by simp [slot_set, h15], trivial⟩, HS.out, HO.out⟩)
      clear h a w he
      rintro a w ⟨he, h⟩
      cases hm : S.any oddS with
      | false =>
        rw [hm] at he h
        refine wp_cond_false he (wp_skip (only_mk ?_))
        simpa using h
      | true =>
        rw [hm] at he h hle
        rw [if_pos rfl] at hle ⊢
        simp only [List.length_cons, List.length_append] at hle
        refine wp_cond_true he ?_
        rw [show (c0 ++ [8]) ++ (13 :: (cntB S ++ (9 :: cutB S))) = (((c0 ++ [8]) ++ [13]) ++ cntB S) ++ [9] ++ cutB S by simp]
        refine only_seq (su_thirteen (by simp only [List.length_append, List.length_cons, List.length_nil]; omega) a w h) (fun a w h => ?_)
        refine only_seq (su_counts hNS hNL hlen hSu hF hn hnl HBX (by simp only [List.length_append, List.length_cons, List.length_nil]; omega) a w h) (fun a w h => ?_)
        refine only_seq (su_nine (by simp only [List.length_append, List.length_cons, List.length_nil]; omega) a w h) (fun a w h => ?_)
        exact su_cuts hNS hNL hlen hSu hF hn hnl HBX hne (by simp only [List.length_append, List.length_cons, List.length_nil]; omega) a w h
    · refine only_mono (su_tail hul (by simp only [List.length_append, List.length_cons, List.length_nil]; omega) a w h) (fun a w h => ?_)
      rw [HE2]
      simpa using h
end Go.Proofs.YtkodindajfdagaaDoor
