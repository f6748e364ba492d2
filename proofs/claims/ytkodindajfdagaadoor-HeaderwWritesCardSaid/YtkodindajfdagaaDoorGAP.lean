/- Equality of checks. No condition. -/
import Derived.Test.YtkodindajfdagaaDoorGAO
import Derived.Laws.StructEq
import Derived.BigQuiet
namespace Go.Proofs.YtkodindajfdagaaDoor
open Go.RowKit
theorem fields_ck : Tryd.prog.underlying 44 = some (.struct (Tryd.prog.fieldsOf 44)) := by kernel_rfl
theorem stood_ck : Tryd.prog.stoodInHeld 44 = false := by kernel_rfl
theorem run_eql_ck (a b : Bool) (x y : Int) (w : World) : (binOp .eql 44 (.agg #[.bool a, .int .u32 x]) (.agg #[.bool b, .int .u32 y])).run Tryd.prog w = .ok (.bool ((a == b) && (x == y))) w := by
  rw [run_eql_struct, run_equalIn_struct w 9999 _ _ _ fields_ck stood_ck]
  have hf : (Tryd.prog.fieldsOf 44).toList.map (fun f => (f.name, f.type, f.offset)) = [("Has", 4, 0), ("Sum", 37, 1)] := by kernel_rfl
  have hb : Tryd.prog.underlying 4 = some .bool := Tryd.underlying4
  have hu : Tryd.prog.underlying 37 = some (.int .u32) := Tryd.underlying37
  generalize (Tryd.prog.fieldsOf 44).toList = L at hf ⊢
  rcases L with _ | ⟨f1, _ | ⟨f2, _ | ⟨f3, t⟩⟩⟩
  · simp at hf
  · simp at hf
  · simp only [List.map_cons, List.map_nil, List.cons.injEq, Prod.mk.injEq, and_true] at hf
    obtain ⟨⟨n1, t1, o1⟩, ⟨n2, t2, o2⟩⟩ := hf
    simp only [Op.eqFields, n1, t1, o1, n2, t2, o2]
    cases hab : (a == b) <;> cases hxy : (x == y) <;> go_simp
  · simp at hf
end Go.Proofs.YtkodindajfdagaaDoor
/- Contract: headerw.maySubs, of a folder that may be. No condition but that lengths fit. -/
namespace Go.Proofs.YtkodindajfdagaaDoor
open Go.RowKit

theorem subsGo_nil {n : Nat} {l : List Sub} {k : Nat} (h : l.length ≤ k) : subsGo n (l.drop k) = some n := by
  rw [List.drop_eq_nil_of_le h]
  rfl
/-- Of a folder that may be, the main coder is one of its coders. -/
theorem mayFol_main {x : Fol} (h : mayFol x = true) : ∃ i, mainIdx x.f = some i ∧ i < x.f.sizes.length := by
  have h1 : foHead x = true := by
    unfold mayFol at h
    simp only [Bool.and_eq_true] at h
    exact h.1.1.1.1
  unfold foHead at h1
  simp only [Bool.and_eq_true, decide_eq_true_eq] at h1
  obtain ⟨⟨⟨⟨a1, a2⟩, a3⟩, a4⟩, -⟩ := h1
  cases e : mainIdx x.f with
  | none =>
    unfold mainIdx at e
    rw [List.find?_eq_none] at e
    have := few_of x.f.coders.length (x.f.binds.map (·.2)) (fun j hj => by
      have := e j (List.mem_range.2 hj)
      simpa using this)
    rw [List.length_map] at this
    omega
  | some i =>
    refine ⟨i, rfl, ?_⟩
    unfold mainIdx at e
    rw [List.find?_range_eq_some] at e
    have := e.2.1
    simp at this
    omega
theorem mayFol_outs {x : Fol} (h : mayFol x = true) : ∀ b ∈ x.f.binds, (Lit.int .i64 b.2).wf = true := by
  intro b hb
  have h1 : x.f.binds.all (biOk (allOf x.f) x.f.coders.length) = true ∧ x.f.coders.length ≤ 8 := by
    unfold mayFol foHead at h
    simp only [Bool.and_eq_true, decide_eq_true_eq] at h
    exact ⟨h.1.1.2, h.1.1.1.1.1.1.1.2⟩
  have h2 := List.all_eq_true.1 h1.1 b hb
  unfold biOk at h2
  simp only [Bool.and_eq_true, decide_eq_true_eq] at h2
  exact WalkArith.wf_i64 (by omega)

set_option maxRecDepth 100000 in
set_option maxHeartbeats 4000000 in
theorem maysubs_any (w : World) (cv bv' pv sv lv : Value) (x : Fol) (l : List Sub) (hi : Nat) (hf : FoV w cv bv' pv sv x.f) (hm : mayFol x = true) (hl : RowAt w hi 3 lv l.length (sbV l)) (hn : l.length ≤ 1000000) :
    Calls Tryd.prog 40 #[.agg #[cv, bv', pv, sv, .bool x.ck.has, .int .u32 x.ck.sum.toNat], lv] w fun e w' => e = .returned (.bool (maySub x l)) ∧ Fr [] w w' := by
  obtain ⟨i, hi1, hi2⟩ := mayFol_main hm
  have hcl : x.f.coders.length ≤ 100000 ∧ x.f.binds.length ≤ 100000 ∧ x.f.sizes.length ≤ 100000000 := by
    unfold mayFol foHead at hm
    simp only [Bool.and_eq_true, decide_eq_true_eq] at hm
    have := hm.1.1.1.1
    omega
  have HW := Lib.hid (fun wx (F : Fr [] w wx) => whole_any wx _ x.f (Fo.fr ⟨_, _, _, _, .bool x.ck.has, .int .u32 x.ck.sum.toNat, rfl, hf⟩ F) hcl.1 hcl.2.1 hcl.2.2 (mayFol_outs hm) i hi1 hi2)
  obtain ⟨ao, cap, rfl, -, -, -⟩ := hl.out
  have HL := Lib.hid hl
  have HN := Lib.hid hn
  clear hl hf hm hi1 hi2 hcl
  obtain ⟨W0, hW0⟩ : ∃ W0, (wholeOf x.f).toNat = W0 := ⟨_, rfl⟩
  have HMS := Lib.hid (show maySub x l = (!(decide (l = [])) && decide (subsGo W0 l = some 0) && subsEnd x l) by unfold maySub; rw [hW0])
  have hWl : W0 < 18446744073709551616 := hW0 ▸ (wholeOf x.f).toNat_lt
  rw [hW0] at HW
  clear hW0
  obtain ⟨wA, hwA⟩ : ∃ wA, wA = w.alloc (.cells #[cv, bv', pv, sv, .bool x.ck.has, .int .u32 x.ck.sum.toNat] 46) := ⟨_, rfl⟩
  have FA : Fr [] w wA := hwA ▸ (Fr.refl _ _).alloc _
  have HBX := Lib.hid (fun wx (F2 : Fr [] wA wx) => box6 (hwA ▸ F2 : Fr [] (w.alloc (.cells #[cv, bv', pv, sv, .bool x.ck.has, .int .u32 x.ck.sum.toNat] 46)) wx))
  obtain ⟨k0, k1, k2, k3, k4, k5⟩ := HBX.out wA (Fr.refl _ _)
  have hnot : ∀ (x : Bool) (w : World), (Op.unary .not (.bool x)).run Tryd.prog w = .ok (.bool (!x)) w := fun _ _ => rfl
  go_enter Tryd.func40, Tryd.ntmps40
  go_wp2_with (go_at_call 67; rw [← hwA]; refine (HW.out _ FA).mono ?_; rintro e w1 ⟨rfl, F1⟩)
  clear hwA k0 k1 k2 k3 k4 k5
  have HF1 := Lib.hid (FA.trans0 F1)
  go_loopw [5, 12] (fun v5 v12 wr => ∃ k z : Nat, k ≤ l.length ∧ z < 18446744073709551616 ∧ v12 = .int .i64 k ∧ v5 = .int .u64 (z : Int) ∧ Hid (subsGo W0 l = subsGo z (l.drop k)) ∧ Fr [] w1 wr) (fun _ i _ => l.length - (intOf i).toNat)
  case atStart => exact ⟨0, W0, Nat.zero_le _, hWl, rfl, rfl, by show subsGo W0 l = subsGo W0 (l.drop 0); rfl, Fr.refl _ _⟩
  case round =>
    obtain ⟨k, z, hk, hz, rfl, rfl, hs, F⟩ := hrel
    have hnI : (l.length : Int) ≤ 1000000 := by have := HN.out; omega
    by_cases hlt : k < l.length
    · obtain ⟨s, hsx⟩ := some_get l k hlt
      obtain ⟨b1, o1, hao, hb1, e0, e1, e2⟩ := (HL.out.fr0 (HF1.out.trans0 F)).sb hsx hlt
      subst hao
      have hdr : l.drop k = s :: l.drop (k + 1) := by
        have := List.drop_eq_getElem_cons hlt
        rwa [(List.getElem?_eq_some_iff.1 hsx).2] at this
      have HD := Lib.hid (show subsGo W0 l = if z < s.size.toNat ∨ ckOk s.ck = false then none else subsGo (z - s.size.toNat) (l.drop (k + 1)) by rw [hs.out, hdr]; rfl)
      have HFa := Lib.hid (fun wx => fair_any wx s.ck)
      have HF := Lib.hid F
      have hltI : (k : Int) < (l.length : Int) := by omega
      have hzl := s.size.toNat_lt
      clear hsx hdr hs F
      obtain ⟨sz, ck⟩ := s
      dsimp only at e0 e1 e2 HD HFa hzl
      have HFa2 := Lib.hid (fun wx => (show Calls Tryd.prog 38 #[.agg #[.bool ck.has, .int .u32 ck.sum.toNat]] wx fun e w' => e = .returned (.bool (ckOk ck)) ∧ Fr [] wx w' from HFa.out wx))
      clear HFa
      obtain ⟨wB, hwB⟩ : ∃ wB, wB = wr.alloc (.cells #[.int .u64 sz.toNat, .bool ck.has, .int .u32 ck.sum.toNat] 75) := ⟨_, rfl⟩
      have FB : Fr [] wr wB := hwB ▸ (Fr.refl _ _).alloc _
      have HBB := Lib.hid (fun wx (F2 : Fr [] wB wx) => wbox3 (hwB ▸ F2 : Fr [] (wr.alloc (.cells #[.int .u64 sz.toNat, .bool ck.has, .int .u32 ck.sum.toNat] 75)) wx) (by simp))
      obtain ⟨d0, d1, d2⟩ := HBB.out wB (Fr.refl _ _)
      by_cases hgt : z < sz.toNat
      · have HE := Lib.hid (show maySub x l = false by rw [HMS.out, HD.out, if_pos (.inl hgt)]; simp)
        have t0 : (z : Int) < (sz.toNat : Int) := by omega
        clear hgt
        go_wp2_with fail
        go_ret
        exact ⟨by rw [HE.out]; rfl, (HF1.out.trans0 HF.out).trans0 ((Fr.refl _ _).alloc _)⟩
      have t0 : (sz.toNat : Int) ≤ (z : Int) := by omega
      cases hc : ckOk ck with
      | false =>
        have HE := Lib.hid (show maySub x l = false by rw [HMS.out, HD.out, if_pos (.inr hc)]; simp)
        rw [hc] at HFa2
        clear hc
        go_wp2_with (go_at_call 38; rw [← hwB]; refine (HFa2.out _).mono ?_; rintro e w3 ⟨rfl, F3⟩)
        go_ret
        exact ⟨by rw [HE.out]; rfl, (HF1.out.trans0 HF.out).trans0 (FB.trans0 F3)⟩
      | true =>
        have HE := Lib.hid (show subsGo W0 l = subsGo (z - sz.toNat) (l.drop (k + 1)) by rw [HD.out, if_neg]; rintro (h | h); exact hgt h; rw [hc] at h; cases h)
        rw [hc] at HFa2
        have hw1 : IntKind.u64.wrap ((z : Int) - (sz.toNat : Int)) = ((z - sz.toNat : Nat) : Int) := by simp [IntKind.wrap, IntKind.bits, IntKind.signed]; omega
        have hz2 : z - sz.toNat < 18446744073709551616 := by omega
        clear hc hgt HD
        go_wp2_with (go_at_call 38; rw [← hwB]; refine (HFa2.out _).mono ?_; rintro e w3 ⟨rfl, F3⟩; obtain ⟨g0, g1, g2⟩ := HBB.out _ F3)
        go_roundw
        case rel => exact ⟨k + 1, z - sz.toNat, by omega, hz2, by go_num, by first | rfl | (congr 1; omega) | (simp <;> omega), HE.out, HF.out.trans0 (FB.trans0 F3)⟩
        case measure => simp [intOf]; omega
    obtain rfl : k = l.length := by omega
    have HE := Lib.hid (show maySub x l = (!(decide (l = [])) && decide (z = 0) && subsEnd x l) by
      rw [HMS.out, hs.out, subsGo_nil (Nat.le_refl _)]
      simp)
    obtain ⟨n0, n1, n2, n3, n4, n5⟩ := HBX.out _ (F1.trans0 F)
    have HFw := Lib.hid (HF1.out.trans0 F)
    clear hs HMS
    by_cases e0 : l.length = 0
    · have HE2 := Lib.hid (show maySub x l = false by rw [HE.out, decide_eq_true (List.eq_nil_of_length_eq_zero e0)]; rfl)
      have t0 : decide ((0 : Int) < (l.length : Int)) = false := decide_eq_false (by omega)
      have t0' : decide (0 < l.length) = false := decide_eq_false (by omega)
      clear e0
      go_wp2_with fail
      go_quiet (fail)
      go_wp2
      go_ret
      exact ⟨by rw [HE2.out]; rfl, HFw.out.drewN _⟩
    have hne : l ≠ [] := fun e => e0 (by rw [e]; rfl)
    have hpos : 0 < l.length := by omega
    have t0 : decide ((0 : Int) < (l.length : Int)) = true := decide_eq_true (by omega)
    have t0' : decide (0 < l.length) = true := decide_eq_true (by omega)
    have HE1 := Lib.hid (show maySub x l = (decide (z = 0) && subsEnd x l) by rw [HE.out, decide_eq_false hne]; rfl)
    clear e0 hne HE
    by_cases e1 : z = 0
    rotate_left
    · have HE2 := Lib.hid (show maySub x l = false by rw [HE1.out, decide_eq_false e1]; rfl)
      have t1 : ((z : Int) == 0) = false := by rw [beq_eq_false_iff_ne]; omega
      clear e1
      go_wp2_with fail
      go_quiet (fail)
      go_wp2
      go_ret
      exact ⟨by rw [HE2.out]; rfl, HFw.out.drewN _⟩
    have t1 : ((z : Int) == 0) = true := by rw [beq_iff_eq]; omega
    have HE2 := Lib.hid (show maySub x l = subsEnd x l by rw [HE1.out, decide_eq_true e1]; rfl)
    clear e1 HE1
    by_cases e2 : 1 < l.length
    · have HE3 := Lib.hid (show maySub x l = true by rw [HE2.out]; unfold subsEnd; rw [decide_eq_true e2]; rfl)
      have t2 : decide ((1 : Int) < (l.length : Int)) = true := decide_eq_true (by omega)
      have t2' : decide (1 < l.length) = true := decide_eq_true (by omega)
      clear e2
      go_wp2_with fail
      go_quiet (fail)
      go_wp2
      go_ret
      exact ⟨by rw [HE3.out]; rfl, HFw.out.drewN _⟩
    have t2 : decide ((1 : Int) < (l.length : Int)) = false := decide_eq_false (by omega)
    have t2' : decide (1 < l.length) = false := decide_eq_false (by omega)
    have HE3 := Lib.hid (show maySub x l = (!x.ck.has || decide (l[0]?.map (·.ck) = some x.ck)) by rw [HE2.out]; unfold subsEnd; rw [decide_eq_false e2]; rfl)
    clear e2 HE2
    obtain ⟨s, hs0⟩ := some_get l 0 hpos
    obtain ⟨b1, o1, hao, hb1, e0, e1, e2⟩ := (HL.out.fr0 HFw.out).sb hs0 hpos
    subst hao
    rw [hs0] at HE3
    obtain ⟨sz, ⟨sh, sm⟩⟩ := s
    obtain ⟨xf, ⟨xh, xm⟩⟩ := x
    dsimp only at e0 e1 e2 HE3 n4 n5
    have HE4 := Lib.hid (show maySub ⟨xf, ⟨xh, xm⟩⟩ l = (!xh || ((sh == xh) && ((sm.toNat : Int) == (xm.toNat : Int)))) by
      rw [HE3.out]
      congr 1
      have hmm : (sm.toNat = xm.toNat) ↔ (sm = xm) := UInt32.toNat_inj
      by_cases a : sh = xh
      · by_cases b : sm = xm
        · subst a b; simp
        · have b' : sm.toNat ≠ xm.toNat := fun h => b (hmm.1 h)
          have b2 : ((sm.toNat : Int) == (xm.toNat : Int)) = false := by rw [beq_eq_false_iff_ne]; omega
          rw [b2]
          simp [b]
      · simp [a])
    clear HE3 hs0
    cases xh with
    | false =>
      have HE5 := Lib.hid (show maySub ⟨xf, ⟨false, xm⟩⟩ l = true by rw [HE4.out]; rfl)
      go_wp2_with fail
      go_quiet (fail)
      go_wp2
      go_ret
      exact ⟨by rw [HE5.out]; rfl, HFw.out.drewN _⟩
    | true =>
      have HE5 := Lib.hid (show maySub ⟨xf, ⟨true, xm⟩⟩ l = ((sh == true) && ((sm.toNat : Int) == (xm.toNat : Int))) by rw [HE4.out]; rfl)
      have hq := run_eql_ck
      go_wp2_with fail
      go_quiet (fail)
      go_wp2
      go_ret
      exact ⟨by rw [HE5.out]; first | rfl | (simp; done), HFw.out.drewN _⟩
end Go.Proofs.YtkodindajfdagaaDoor
