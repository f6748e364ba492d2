/- Contract: headerw.May of any description. No condition but that lengths fit. -/
import Derived.Test.YtkodindajfdagaaDoorWMayTM
import Derived.Test.YtkodindajfdagaaDoorGAL
namespace Go.Proofs.YtkodindajfdagaaDoor
open Go.RowKit

theorem manyOf_le2 {S : List (List Sub)} (h : ∀ l ∈ S, l.length ≤ 100000) (hn : S.length ≤ 10000) : manyOf S ≤ 1000000000 := by
  have := manyOf_le h
  omega
/-- What May tells of a description. -/
def mayAll (pk : Bool) (D : StD) (F : List Fil) : Bool := mayR (mayStr D) pk D.L.length (if mayStr D then manyOf D.S else 0) F

set_option maxRecDepth 100000 in
set_option maxHeartbeats 4000000 in
theorem wmay_any (w : World) (hi : Nat) (d : DW) (pk : Bool) (D : StD) (F : List Fil) (hp : d.pk = .bool pk) (hR : StR w d D) (hfit : StFit D) (hF : RowAt w hi 7 d.es F.length (fiV F)) (hG : Gl w) (hn : F.length ≤ 1000000) (hS : D.S.length ≤ 10000)
    (hv : ∀ x ∈ F, x.name.length ≤ 100000) :
    Calls Tryd.prog 8 #[.agg #[d.pk, d.pl, d.ps, d.cs, d.fo, d.su, d.es]] w fun e w' => e = .returned (.bool (mayAll pk D F)) ∧ Fr [] w w' := by
  have HMS := Lib.hid (fun wx (Fx : Fr [] w wx) => maystreams_any wx d D (⟨hR.pl, hR.ps.fr0 Fx |>.up Fx.size, hR.cs.fr0 Fx |>.up Fx.size, hR.fo.fr Fx, hR.su.fr Fx⟩) hfit)
  obtain ⟨dpk, pl, ps, cs, fo, su, es⟩ := d
  dsimp only at hp hF HMS ⊢
  subst hp
  have h4 := hR.fo
  dsimp only at h4
  obtain ⟨fao, fcap, rfl, -, -, -⟩ := h4.out
  have hmany := manyOf_le2 hfit.su hS
  cases hm : mayStr D with
  | true =>
    cases pk with
    | false =>
      have he : mayAll false D F = mayR true false D.L.length (manyOf D.S) F := by unfold mayAll; rw [hm]; rfl
      rw [he]
      rw [mayOut_yes hm] at HMS
      exact may_files w hi pl ps cs su es fao D.L.length fcap (manyOf D.S) F hF hG hn hmany hv (fun wx Fx => HMS.out wx Fx)
    | true =>
      have HE := Lib.hid (show mayAll true D F = (decide (D.L.length = 1) && decide (manyOf D.S = 1) && decide (F.length = 0)) by unfold mayAll mayR; rw [hm]; simp)
      rw [mayOut_yes hm] at HMS
      obtain ⟨eao, ecap, rfl, -, -, -⟩ := hF.out
      clear hF hG hv hR h4 hm hfit
      obtain ⟨NL, hNL⟩ : ∃ n, D.L.length = n := ⟨_, rfl⟩
      obtain ⟨NF, hNF⟩ : ∃ n, F.length = n := ⟨_, rfl⟩
      obtain ⟨MM, hMM⟩ : ∃ n, manyOf D.S = n := ⟨_, rfl⟩
      rw [hNL, hNF, hMM] at HE
      rw [hNL] at HMS ⊢
      rw [hMM] at HMS
      rw [hNF] at HMS hn ⊢
      clear hNL hNF hMM
      obtain ⟨wA, hwA⟩ : ∃ wA, wA = w.alloc (.cells #[.bool true, pl, ps, cs, .slice fao NL fcap, su, .slice eao NF ecap] 29) := ⟨_, rfl⟩
      have FA : Fr [] w wA := hwA ▸ (Fr.refl _ _).alloc _
      have HBX := Lib.hid (fun wx (F2 : Fr [] wA wx) => wbox7 (hwA ▸ F2 : Fr [] (w.alloc (.cells #[.bool true, pl, ps, cs, .slice fao NL fcap, su, .slice eao NF ecap] 29)) wx) (by simp))
      obtain ⟨k0, k1, k2, k3, k4, k5, k6⟩ := HBX.out wA (Fr.refl _ _)
      have hnot : ∀ (x : Bool) (w : World), (Op.unary .not (.bool x)).run Tryd.prog w = .ok (.bool (!x)) w := fun _ _ => rfl
      have key : ∀ n m : Nat, ((n : Int) == (m : Int)) = decide (n = m) := fun n m => by
        by_cases h : n = m
        · subst h; simp
        · rw [decide_eq_false h, beq_eq_false_iff_ne]; omega
      have a1 := key NL 1
      have a2 := key MM 1
      have a3 := key NF 0
      clear key
      have c1 : ((1 : Nat) : Int) = 1 := rfl
      have c0 : ((0 : Nat) : Int) = 0 := rfl
      rw [c1] at a1 a2
      rw [c0] at a3
      clear c1 c0
      generalize decide (NL = 1) = z1 at *
      generalize decide (MM = 1) = z2 at *
      generalize decide (NF = 0) = z3 at *
      cases z1 <;> cases z2 <;> cases z3
      all_goals
        go_enter Tryd.func8, Tryd.ntmps8
        go_wp2_with (go_at_call 16; rw [← hwA]; refine (HMS.out wA FA).mono ?_; rintro e w1 ⟨rfl, F1⟩; obtain ⟨l0, l1, l2, l3, l4, l5, l6⟩ := HBX.out w1 F1)
        go_ret
        exact ⟨by rw [HE.out]; rfl, FA.trans0 F1⟩
  | false =>
    have HE := Lib.hid (show mayAll pk D F = false by unfold mayAll mayR; rw [hm]; simp)
    rw [mayOut_no hm] at HMS
    obtain ⟨eao, ecap, rfl, -, -, -⟩ := hF.out
    clear hF hG hv hR h4 hm hfit
    obtain ⟨NL, hNL⟩ : ∃ n, D.L.length = n := ⟨_, rfl⟩
    rw [hNL] at HMS ⊢
    clear hNL
    obtain ⟨wA, hwA⟩ : ∃ wA, wA = w.alloc (.cells #[.bool pk, pl, ps, cs, .slice fao NL fcap, su, .slice eao F.length ecap] 29) := ⟨_, rfl⟩
    have FA : Fr [] w wA := hwA ▸ (Fr.refl _ _).alloc _
    have HBX := Lib.hid (fun wx (F2 : Fr [] wA wx) => wbox7 (hwA ▸ F2 : Fr [] (w.alloc (.cells #[.bool pk, pl, ps, cs, .slice fao NL fcap, su, .slice eao F.length ecap] 29)) wx) (by simp))
    obtain ⟨k0, k1, k2, k3, k4, k5, k6⟩ := HBX.out wA (Fr.refl _ _)
    have hnot : ∀ (x : Bool) (w : World), (Op.unary .not (.bool x)).run Tryd.prog w = .ok (.bool (!x)) w := fun _ _ => rfl
    go_enter Tryd.func8, Tryd.ntmps8
    go_wp2_with (go_at_call 16; rw [← hwA]; refine (HMS.out wA FA).mono ?_; rintro e w1 ⟨rfl, F1⟩; obtain ⟨l0, l1, l2, l3, l4, l5, l6⟩ := HBX.out w1 F1)
    go_ret
    exact ⟨by rw [HE.out]; rfl, FA.trans0 F1⟩
end Go.Proofs.YtkodindajfdagaaDoor
/- Contract: headerw.Write of any description. No condition but that lengths fit. -/
namespace Go.Proofs.YtkodindajfdagaaDoor
open Go.RowKit

def writeW (pk : Bool) (D : StD) (F : List Fil) : List UInt8 :=
  if pk then 23 :: strmW D else if D.some then [1, 4] ++ (strmW D ++ (filesW F ++ [0])) else 1 :: (filesW F ++ [0])
/-- What Write answers. -/
def writR (pk : Bool) (D : StD) (F : List Fil) : List UInt8 × Int := if mayAll pk D F then (writeW pk D F, 0) else ([], 301)
def Writ (pk : Bool) (D : StD) (F : List Fil) (w : World) (e : Ending) (w' : World) : Prop :=
  ∃ v, e = .returned (.tuple #[v, .int .i64 (writR pk D F).2]) ∧ Sl w' v (bv (writR pk D F).1) ∧ Fr [] w w'

theorem unk_le {S : List (List Sub)} {L : List Fol} : (unkW S L).length ≤ manyOf S := by
  induction S generalizing L with
  | nil => simp [unkW]
  | cons l t ih =>
    cases L with
    | nil => simp [unkW]
    | cons x u =>
      have := @ih u
      unfold unkW manyOf at this ⊢
      rw [List.zip_cons_cons, List.flatMap_cons, List.length_append, List.map_cons, List.sum_cons]
      have h1 : (unkOf l x).length ≤ l.length := by unfold unkOf; split <;> simp
      dsimp only
      omega
theorem manyOf_take_le (S : List (List Sub)) (k : Nat) : manyOf (S.take k) ≤ manyOf S := by
  unfold manyOf
  rw [List.map_take]
  have h : (S.map List.length).sum = ((S.map List.length).take k).sum + ((S.map List.length).drop k).sum := by rw [← List.sum_append, List.take_append_drop]
  omega
theorem mayFol_ok {x : Fol} (h : mayFol x = true) : FolOk x.f := by
  have hout : (∃ i, mainIdx x.f = some i ∧ i < x.f.sizes.length) := mayFol_main h
  unfold mayFol foHead paHead at h
  simp only [Bool.and_eq_true, decide_eq_true_eq] at h
  obtain ⟨⟨⟨⟨⟨⟨⟨⟨a1, a2⟩, a3⟩, a4⟩, -⟩, hco⟩, hbi⟩, ⟨hpl, hpa⟩⟩, -⟩ := h
  have hall := allOf_le x.f
  refine ⟨fun c hc => ?_, fun b hb => ?_, fun z hz => ?_, by omega, by omega, by omega, by omega⟩
  · obtain ⟨j, hj⟩ := List.mem_iff_getElem?.1 hc
    have hjl : j < x.f.coders.length := (List.getElem?_eq_some_iff.1 hj).1
    obtain ⟨z, hz⟩ := some_get x.f.sizes j (by omega)
    have := zip_all hco hj hz
    unfold coOk at this
    simp only [Bool.and_eq_true, Bool.not_eq_true', decide_eq_false_iff_not] at this
    have h0 := this.1.1
    rw [ins_zero] at h0
    omega
  · have := List.all_eq_true.1 hbi b hb
    unfold biOk at this
    simp only [Bool.and_eq_true, decide_eq_true_eq] at this
    omega
  · have := List.all_eq_true.1 hpa z hz
    unfold paOk at this
    simp only [Bool.and_eq_true, decide_eq_true_eq] at this
    omega
theorem stOk_of {D : StD} (h : mayStr D = true) (hfit : StFit D) (hm : manyOf D.S ≤ 1000000) : StOk D := by
  unfold mayStr at h
  simp only [Bool.and_eq_true, decide_eq_true_eq] at h
  obtain ⟨⟨⟨⟨⟨-, -⟩, -⟩, hlen⟩, -⟩, hr⟩ := h
  refine ⟨fun x hx => ?_, fun l hl => ?_, hlen, hfit.n1, hfit.n2, hfit.n3, hfit.su, fun k => Nat.le_trans unk_le (Nat.le_trans (manyOf_take_le _ _) hm)⟩
  · obtain ⟨j, hj⟩ := List.mem_iff_getElem?.1 hx
    have hjl := (List.getElem?_eq_some_iff.1 hj).1
    obtain ⟨l, hl⟩ := some_get D.S j (by omega)
    have := zip_all hr hj hl
    simp only [Bool.and_eq_true] at this
    exact mayFol_ok this.1
  · obtain ⟨j, hj⟩ := List.mem_iff_getElem?.1 hl
    have hjl := (List.getElem?_eq_some_iff.1 hj).1
    obtain ⟨x, hx⟩ := some_get D.L j (by omega)
    have := zip_all hr hx hj
    simp only [Bool.and_eq_true] at this
    have h2 := this.2
    unfold maySub at h2
    simp only [Bool.and_eq_true, Bool.not_eq_true', decide_eq_false_iff_not] at h2
    exact h2.1.1

theorem StR.fr {w w' : World} {d : DW} {D : StD} (h : StR w d D) (F : Fr [] w w') : StR w' d D := ⟨h.pl, (h.ps.fr0 F).up F.size, (h.cs.fr0 F).up F.size, h.fo.fr F, h.su.fr F⟩

set_option maxRecDepth 100000 in
set_option maxHeartbeats 4000000 in
theorem write_any (w : World) (d : DW) (pk : Bool) (D : StD) (F : List Fil) (hpk : d.pk = .bool pk) (hR : StR w d D) (hfit : StFit D) (hF : RowAt w w.heap.size 7 d.es F.length (fiV F)) (hG : Gl w) (hn : F.length ≤ 1000000) (hS : D.S.length ≤ 10000) (hM : manyOf D.S ≤ 1000000)
    (hv : ∀ x ∈ F, x.name.length ≤ 100000) (hb : (strmW D).length + (filesW F).length ≤ 30000000) :
    Calls Tryd.prog 6 #[.agg #[d.pk, d.pl, d.ps, d.cs, d.fo, d.su, d.es]] w (Writ pk D F w) := by
  have HMY := Lib.hid (fun wx (Fx : Fr [] w wx) => wmay_any wx w.heap.size d pk D F hpk (hR.fr Fx) hfit (hF.fr0 Fx) (hG.fr Fx) hn hS hv)
  have HR := Lib.hid hR
  have HFi := Lib.hid hF
  have HG := Lib.hid hG
  have HB := Lib.hid hb
  have HN := Lib.hid hn
  have HOk := Lib.hid (fun (h : mayStr D = true) => stOk_of h hfit hM)
  obtain ⟨dpk, pl, ps, cs', fo, su, es⟩ := d
  dsimp only at hpk hF HMY ⊢
  subst hpk
  obtain ⟨wA, hwA⟩ : ∃ wA, wA = w.alloc (.cells #[.bool pk, pl, ps, cs', fo, su, es] 29) := ⟨_, rfl⟩
  have FA : Fr [] w wA := hwA ▸ (Fr.refl _ _).alloc _
  have HBX := Lib.hid (fun wx (F2 : Fr [] wA wx) => wbox7 (hwA ▸ F2 : Fr [] (w.alloc (.cells #[.bool pk, pl, ps, cs', fo, su, es] 29)) wx) (by simp))
  obtain ⟨k0, k1, k2, k3, k4, k5, k6⟩ := HBX.out wA (Fr.refl _ _)
  clear hR hF hG hb hfit
  have hnot : ∀ (x : Bool) (w : World), (Op.unary .not (.bool x)).run Tryd.prog w = .ok (.bool (!x)) w := fun _ _ => rfl
  cases hma : mayAll pk D F with
  | false =>
    have HE := Lib.hid (show writR pk D F = ([], 301) by unfold writR; rw [hma]; rfl)
    rw [hma] at HMY
    go_enter Tryd.func6, Tryd.ntmps6
    go_wp2_with (go_at_call 8; rw [← hwA]; refine (HMY.out wA FA).mono ?_; rintro e w1 ⟨rfl, F1⟩)
    go_ret2
    exact ⟨_, by rw [HE.out]; rfl, by rw [HE.out]; exact Sl.nil _, FA.trans0 F1⟩
  | true =>
  have hms : mayStr D = true := by
    unfold mayAll mayR at hma
    cases h : mayStr D with
    | true => rfl
    | false => rw [h] at hma; simp at hma
  have HV := Lib.hid (show pk = false → ∀ x ∈ F, (runesL x.name).isSome = true ∧ x.name.length ≤ 100000 from fun hp x hx => by
    unfold mayAll mayR at hma
    rw [hms, hp] at hma
    simp only [Bool.not_true, Bool.or_self, Bool.false_eq_true, if_false, Bool.and_eq_true] at hma
    have h1 := List.all_eq_true.1 hma.1 x hx
    refine ⟨?_, hv x hx⟩
    unfold mayFil at h1
    simp only [Bool.and_eq_true] at h1
    exact h1.1.1.1.1)
  have HOK := Lib.hid (HOk.out hms)
  have HE := Lib.hid (show writR pk D F = (writeW pk D F, 0) by unfold writR; rw [hma]; rfl)
  rw [hma] at HMY
  clear hma hms hv HOk
  go_enter Tryd.func6, Tryd.ntmps6
  go_upto_region 3 with (go_at_call 8; rw [← hwA]; refine (HMY.out wA FA).mono ?_; rintro e w1 ⟨rfl, F1⟩; obtain ⟨l0, l1, l2, l3, l4, l5, l6⟩ := HBX.out w1 F1)
  have hSZ : w.heap.size < w1.heap.size := by have := F1.size; rw [hwA] at this; simp at this; omega
  clear k0 k1 k2 k3 k4 k5 k6 hwA
  have F1w := FA.trans0 F1
  obtain ⟨wP, hwP⟩ : ∃ wP, wP = w1.alloc (.cells #[.slice none 0 0, .bool pk, pl, ps, cs', fo, su, es] 52) := ⟨_, rfl⟩
  have FP : Fr [] w1 wP := hwP ▸ (Fr.refl _ _).alloc _
  have WP : WrAt wP (w1.heap.size + 1) w1.heap.size (.slice none 0 0) [] ⟨.bool pk, pl, ps, cs', fo, su, es⟩ := ⟨hwP ▸ heap_alloc_new w1 _, World.ownsRow_nil _ _ _ _, by omega, by rw [hwP]; simp⟩
  obtain ⟨m0, m1, m2, m3, m4, m5, m6⟩ := HBX.out wP (F1.trans0 FP)
  have sP : wP.heap.size = w1.heap.size + 1 := by rw [hwP]; simp
  have FwP := F1w.trans0 FP
  have HFwP := Lib.hid FwP
  have HSt := Lib.hid (fun (bs : List UInt8) (wx : World) (T : WrTo wP (w1.heap.size + 1) w1.heap.size (.slice none 0 0) bs ⟨.bool pk, pl, ps, cs', fo, su, es⟩ wx) (hl : bs.length + (strmW D).length ≤ 40000000) =>
    (show Calls Tryd.prog 12 #[.pointer (some ⟨w1.heap.size, 0, none⟩)] wx fun e w' => e = .returned (.bool D.some) ∧ WrTo wP (w1.heap.size + 1) w1.heap.size (.slice none 0 0) (bs ++ strmW D) ⟨.bool pk, pl, ps, cs', fo, su, es⟩ w' from
      T.chain fun v1 W1 => streams_one w wx (w1.heap.size + 1) w1.heap.size v1 bs ⟨.bool pk, pl, ps, cs', fo, su, es⟩ D W1 (T.base WP HFwP.out (by omega)) (by omega) HR.out HOK.out hl))
  clear HMY HOK
  have hSl : (strmW D).length ≤ 30000000 := by have := HB.out; omega
  have HSl := Lib.hid hSl
  clear hSl hM
  cases pk with
  | true =>
    have HE2 := Lib.hid (show writR true D F = (23 :: strmW D, 0) from HE.out)
    have HSL := Lib.hid (show Sl (wP.alloc (.cells #[.int .u8 23] 5)) (.slice (some ⟨w1.heap.size + 1, 0, none⟩) 1 1) (bv [23]) from sP ▸ sl_one wP 5 (.int .u8 23))
    have HSL2 := Lib.hid (show Sl (wP.alloc (.cells #[.int .u8 23] 5)) (.slice (some ⟨wP.heap.size, 0, none⟩) 1 1) (bv [23]) from sl_one wP 5 (.int .u8 23))
    go_upto_region 5 with fail
    rw [← hwP]
    clear hwP l0 l1 l2 l3 l4 l5 l6
    go_upto_region 7 with (first
      | (have hq := T1; go_at_call 12; refine (HSt.out _ _ T1 (by have := HSl.out; simp only [List.length_append, List.length_cons, List.length_nil]; omega)).mono ?_; rintro e w3 ⟨rfl, T2⟩)
      | (go_at_call 11; refine (wput_any ((WrTo.refl WP).then0 ((Fr.refl _ _).alloc _)) _ [23] (by first | exact HSL.out | exact HSL2.out) (by decide)).mono ?_; rintro e w2 ⟨rfl, T1⟩))
    obtain ⟨v3, W3, F3, -⟩ := T2.out
    obtain ⟨vo3, vc3, rfl, -⟩ := own_out W3.own
    have c0 := (cells8 W3.blk).1
    clear T1 T2 hq
    go_wp2_with fail
    go_ret2
    refine ⟨_, by rw [HE2.out]; rfl, ?_, HFwP.out.trans F3 (fun i hi => ?_)⟩
    · have := Sl.of_own W3.own
      rw [HE2.out]
      exact this
    · simp only [List.mem_cons, Option.mem_toList] at hi
      rcases hi with rfl | hi
      · exact .inr (by omega)
      · cases hi
  | false =>
    have HSL := Lib.hid (show Sl (wP.alloc (.cells #[.int .u8 1, .int .u8 4] 5)) (.slice (some ⟨w1.heap.size + 1, 0, none⟩) 2 2) (bv [1, 4]) from sP ▸ sl_lit wP 5 (bv [1, 4]) 2 rfl (by decide))
    have HSL2 := Lib.hid (show Sl (wP.alloc (.cells #[.int .u8 1, .int .u8 4] 5)) (.slice (some ⟨wP.heap.size, 0, none⟩) 2 2) (bv [1, 4]) from sl_lit wP 5 (bv [1, 4]) 2 rfl (by decide))
    have h3 : 2 ≤ w1.heap.size := by have := HG.out.sz; omega
    have h4 : w.heap.size ≤ w1.heap.size := by omega
    have HVV := Lib.hid (HV.out rfl)
    have HFl := Lib.hid (fun (cs : List UInt8) (wx : World) (T : WrTo wP (w1.heap.size + 1) w1.heap.size (.slice none 0 0) cs ⟨.bool false, pl, ps, cs', fo, su, es⟩ wx) (hl : cs.length + (filesW F).length ≤ 60000000) =>
      (show Calls Tryd.prog 13 #[.pointer (some ⟨w1.heap.size, 0, none⟩)] wx fun e w' => e = .returned (.tuple #[]) ∧ WrTo wP (w1.heap.size + 1) w1.heap.size (.slice none 0 0) (cs ++ filesW F) ⟨.bool false, pl, ps, cs', fo, su, es⟩ w' from
        wfiles_any T F ((HFi.out.fr0 HFwP.out).wr WP (by omega) T) h4 h3 (((HG.out.fr HFwP.out)).frS T.frm (WP.above (by have := HG.out.sz; omega))) HN.out hl HVV.out))
    go_upto_region 8 with fail
    rw [← hwP]
    clear hwP l0 l1 l2 l3 l4 l5 l6
    generalize hsm : D.some = sm at *
    have HSM := Lib.hid hsm
    clear hsm
    cases sm with
    | false =>
      have HE2 := Lib.hid (show writR false D F = (1 :: (filesW F ++ [0]), 0) by rw [HE.out]; unfold writeW; rw [HSM.out]; rfl)
      go_upto_region 10 with (first
        | (have hq := T1; go_at_call 12; refine (HSt.out _ _ T1 (by have := HSl.out; simp only [List.length_append, List.length_cons, List.length_nil]; omega)).mono ?_; rintro e w3 ⟨rfl, T2⟩)
        | (go_at_call 11; refine (wput_any ((WrTo.refl WP).then0 ((Fr.refl _ _).alloc _)) _ [1, 4] (by first | exact HSL.out | exact HSL2.out) (by decide)).mono ?_; rintro e w2 ⟨rfl, T1⟩))
      obtain ⟨v3, W3, F3, hk3⟩ := T2.out
      obtain ⟨bl, hbl⟩ : ∃ bl, bl = [] ++ [1, 4] ++ strmW D := ⟨_, rfl⟩
      have HTK := Lib.hid (show bl.take 1 = [1] by rw [hbl]; rfl)
      rw [← hbl] at W3
      have hll : 2 ≤ bl.length := by rw [hbl]; simp
      obtain ⟨g, cap, rfl, hc3, own1⟩ := own_cut W3.own 1 (by omega) (by omega)
      rw [← bv_take, HTK.out] at own1
      obtain ⟨c0, -, -, -, -, -, -, -, cz⟩ := cells8 W3.blk
      generalize bl.length = n3 at *
      have hcI : (n3 : Int) ≤ (cap : Int) := by omega
      have hcI1 : (1 : Int) ≤ (cap : Int) := by omega
      have hgs := W3.gs g rfl
      have hgp := W3.hp
      have F4 : Fr [w1.heap.size] w3 (w3.setCell ⟨w1.heap.size, 0, none⟩ (.slice (some ⟨g, 0, none⟩) 1 cap)) := (Fr.refl _ _).setCell (by simp) _
      have T3 : WrTo wP (w1.heap.size + 1) w1.heap.size (.slice none 0 0) [1] ⟨.bool false, pl, ps, cs', fo, su, es⟩ (w3.setCell ⟨w1.heap.size, 0, none⟩ (.slice (some ⟨g, 0, none⟩) 1 cap)) :=
        ⟨_, ⟨Go.Joins.block_setCell W3.blk _, own_frS own1 F4 (fun k hk hm => by cases hk; simp at hm; omega), W3.hp, Nat.le_trans W3.hl F4.size⟩, F3.trans F4 (by simp), fun k hk => hk3 k hk⟩
      clear hbl
      go_upto_region 11 with fail
      obtain ⟨w4, hw4⟩ : ∃ w4, w4 = w3.setCell ⟨w1.heap.size, 0, none⟩ (.slice (some ⟨g, 0, none⟩) 1 cap) := ⟨_, rfl⟩
      rw [← hw4] at T3 ⊢
      clear hw4 F4 own1 c0 cz W3 F3 hk3 T2 T1 hq
      go_upto_region 13 with (first
        | (have hq := T4; go_at_call 11; refine (wput_any (T4.then0 ((Fr.refl _ _).alloc _)) _ [0] (sl_one _ _ _) (by have := HB.out; simp only [List.length_append, List.length_cons, List.length_nil]; omega)).mono ?_; rintro e w6 ⟨rfl, T5⟩)
        | (go_at_call 13; refine (HFl.out _ _ T3 (by have := HB.out; simp only [List.length_cons, List.length_nil]; omega)).mono ?_; rintro e w5 ⟨rfl, T4⟩))
      obtain ⟨v3, W3, F3, -⟩ := T5.out
      obtain ⟨vo3, vc3, rfl, -⟩ := own_out W3.own
      have c0 := (cells8 W3.blk).1
      clear T3 T4 T5
      go_wp2_with fail
      go_ret2
      refine ⟨_, by rw [HE2.out]; rfl, ?_, HFwP.out.trans F3 (fun i hi => ?_)⟩
      · have := Sl.of_own W3.own
        rw [HE2.out]
        rw [show (([1] ++ filesW F) ++ [0] : List UInt8) = 1 :: (filesW F ++ [0]) by simp only [List.cons_append, List.nil_append]] at this
        rw [show (1 :: (filesW F ++ [0]) : List UInt8).length = (filesW F).length + 1 + 1 by simp] at this
        exact this
      · simp only [List.mem_cons, Option.mem_toList] at hi
        rcases hi with rfl | hi
        · exact .inr (by omega)
        · cases hi
    | true =>
      have HE2 := Lib.hid (show writR false D F = ([1, 4] ++ (strmW D ++ (filesW F ++ [0])), 0) by rw [HE.out]; unfold writeW; rw [HSM.out]; rfl)
      go_upto_region 13 with (first
        | (have hq := T3; go_at_call 11; refine (wput_any (T3.then0 ((Fr.refl _ _).alloc _)) _ [0] (sl_one _ _ _) (by have := HB.out; simp only [List.length_append, List.length_cons, List.length_nil]; omega)).mono ?_; rintro e w6 ⟨rfl, T4⟩)
        | (have hq := T2; go_at_call 13; refine (HFl.out _ _ T2 (by have := HB.out; simp only [List.length_append, List.length_cons, List.length_nil]; omega)).mono ?_; rintro e w5 ⟨rfl, T3⟩)
        | (have hq := T1; go_at_call 12; refine (HSt.out _ _ T1 (by have := HSl.out; simp only [List.length_append, List.length_cons, List.length_nil]; omega)).mono ?_; rintro e w3 ⟨rfl, T2⟩)
        | (go_at_call 11; refine (wput_any ((WrTo.refl WP).then0 ((Fr.refl _ _).alloc _)) _ [1, 4] (by first | exact HSL.out | exact HSL2.out) (by decide)).mono ?_; rintro e w2 ⟨rfl, T1⟩))
      obtain ⟨v3, W3, F3, -⟩ := T4.out
      obtain ⟨vo3, vc3, rfl, -⟩ := own_out W3.own
      have c0 := (cells8 W3.blk).1
      clear T1 T2 T3 T4
      go_wp2_with fail
      go_ret2
      refine ⟨_, by rw [HE2.out]; rfl, ?_, HFwP.out.trans F3 (fun i hi => ?_)⟩
      · have := Sl.of_own W3.own
        rw [HE2.out]
        rw [show (((([] ++ [1, 4]) ++ strmW D) ++ filesW F) ++ [0] : List UInt8) = [1, 4] ++ (strmW D ++ (filesW F ++ [0])) by simp only [List.append_assoc, List.nil_append]] at this
        rw [show ([1, 4] ++ (strmW D ++ (filesW F ++ [0])) : List UInt8).length = (strmW D).length + ((filesW F).length + 1) + 1 + 1 by simp] at this
        exact this
      · simp only [List.mem_cons, Option.mem_toList] at hi
        rcases hi with rfl | hi
        · exact .inr (by omega)
        · cases hi
end Go.Proofs.YtkodindajfdagaaDoor
