/- Contract: the folder of copies that law 23 makes. No condition but that there are one to eight. -/
import Derived.Test.YtfnblemlcjdnhaaGreatGChainS
import Derived.Test.YtfnblemlcjdnhaaGreatPFin
namespace Go.Proofs.YtfnblemlcjdnhaaGreat
open Go.RowKit

theorem coderOf_zero : coderOf 0 = ⟨1, []⟩ := by rfl
/-- The folder of n copies. -/
def copF (n : Nat) (sz : UInt64) : Folder := chainF ((List.replicate n (0 : UInt8)).map coderOf) sz false
theorem six {w : World} {g : Nat} {a b c d e f : Value} {t : TypeId} (h : w.heap[g]? = some (.cells #[a, b, c, d, e, f] t)) :
    w.cell? ⟨g, 0, none⟩ = some a ∧ w.cell? ⟨g, 1, none⟩ = some b ∧ w.cell? ⟨g, 2, none⟩ = some c ∧ w.cell? ⟨g, 3, none⟩ = some d ∧ w.cell? ⟨g, 4, none⟩ = some e ∧ w.cell? ⟨g, 5, none⟩ = some f :=
  ⟨by simp [Go.Joins.cell_of_block h], by simp [Go.Joins.cell_of_block h], by simp [Go.Joins.cell_of_block h], by simp [Go.Joins.cell_of_block h], by simp [Go.Joins.cell_of_block h], by simp [Go.Joins.cell_of_block h]⟩
theorem setCell_block2 {w : World} {g : Nat} {a b c d e f : Value} {t : TypeId} (h : w.heap[g]? = some (.cells #[a, b, c, d, e, f] t)) (u : Value) : (w.setCell ⟨g, 2, none⟩ u).heap[g]? = some (.cells #[a, b, u, d, e, f] t) := by
  have hlt : g < w.heap.size := (Array.getElem?_eq_some_iff.1 h).1
  have h' : w.heap[g] = .cells #[a, b, c, d, e, f] t (0, 0) := by simpa [Array.getElem?_eq_getElem hlt] using h
  show (w.heap.modify g _)[g]? = _
  rw [Array.getElem?_eq_getElem (by simpa using hlt), Array.getElem_modify_self, h']
  rfl
/-- A folder's coders don't lie in block k. -/
def CoOff (k : Nat) (v : Value) : Prop := ∀ a, v = .agg a → ∀ b o m c, a[0]? = some (.slice (some ⟨b, o, none⟩) m c) → b ≠ k
theorem fo_chain2 {w0 w w3 : World} {gf br k pb : Nat} {c' : Array Value} {cs : List UInt8} {L : List (Coder × Value)} {cv bv' sv : Value} {sz : UInt64} {S : List Nat}
    (h : St w0 gf w cv k (coV L) bv' (k - 1) (biV (chainB k false)) sv k (u64v (List.replicate k sz)) L) (hk : cs.length = k) (hL : L.map (·.1) = cs.map coderOf) (hnil : ∀ c ∈ L, c.2 = .slice none 0 0 ∧ c.1.props = []) (hR : w.heap[br]? = some (.cells c' 37)) (F : Fr S w w3) (hS : ∀ i ∈ S, i = gf ∨ i = br ∨ i < w0.heap.size)
    (hP : w3.heap[pb]? = some (.cells #[.int .i64 ((k : Int) - 1)] 3)) :
    Fo w3 (.agg #[cv, bv', .slice (some ⟨pb, 0, none⟩) 1 1, sv, .bool false, .int .u32 0]) (chainF (cs.map coderOf) sz false) := by
  subst hk
  have hLl : L.length = cs.length := by rw [← List.length_map (f := (·.1)), hL, List.length_map]
  have hn : ∀ {e s : Nat} {v : Value} {n : Nat} {xs : List Value}, w.ownsRow w0.heap.size e s v n xs → e ≠ 37 → ∀ k, v.ownBlock = some k → k ∉ S := fun ho hne k hk hm => by
    rcases hS k hm with rfl | rfl | hlt
    · exact own_apart ho h.blk hne hk
    · exact own_apart ho hR hne hk
    · have := (own_ltS ho k hk).1; omega
  refine ⟨_, _, _, _, _, _, rfl, ?_, ?_, ?_, ?_⟩
  · have := co_of_own L hLl (own_frS h.oc F (hn h.oc (by decide))) (fun c hc => by rw [(hnil c hc).1, (hnil c hc).2]; exact Sl.nil _)
    rw [hL] at this
    exact this
  · have := bi_of_own (chainB cs.length false) (by simp [chainB]) (own_frS h.ob F (hn h.ob (by decide)))
    simpa [chainF] using this
  · have := sl_block (l := iv [(cs.length : Int) - 1]) hP 1 rfl (by simp)
    simpa [chainF] using this
  · have := Sl.of_own (own_frS h.os F (hn h.os (by decide)))
    simpa [chainF] using this
set_option maxRecDepth 100000 in
set_option maxHeartbeats 20000000 in
theorem copies_any (w : World) (n : Nat) (sz : UInt64) (hn : 1 ≤ n) (hn8 : n ≤ 8) :
    Calls Tryz.prog 7 #[.int .i64 n, .int .u64 sz.toNat] w fun e w' => ∃ v, e = .returned v ∧ (∀ S w'', Fr S w' w'' → (∀ i ∈ S, i < w.heap.size) → Fo w'' v (copF n sz)) ∧ (∀ k, k < w.heap.size → CoOff k v) ∧ Fr [] w w' := by
  have hn8' : (n : Int) ≤ 8 := by omega
  have HN1 := Lib.hid hn
  clear hn
  go_enter Tryz.func7, Tryz.ntmps7
  go_wp2_with fail
  obtain ⟨wC, hwC⟩ : ∃ wC, wC = (w.alloc (.cells #[.slice none 0 0, .slice none 0 0, .slice none 0 0, .slice none 0 0, .bool false, .int .u32 0] 37)).alloc (.cells #[.slice none 0 0, .slice none 0 0, .slice none 0 0, .slice none 0 0, .bool false, .int .u32 0] 37) := ⟨_, rfl⟩
  have FC : Fr [] w wC := hwC ▸ ((Fr.refl _ _).alloc _).alloc _
  have hgf0 : wC.heap[w.heap.size + 1]? = some (.cells #[.slice none 0 0, .slice none 0 0, .slice none 0 0, .slice none 0 0, .bool false, .int .u32 0] 37) := by
    have := heap_alloc_new (w.alloc (.cells #[.slice none 0 0, .slice none 0 0, .slice none 0 0, .slice none 0 0, .bool false, .int .u32 0] 37)) (.cells #[.slice none 0 0, .slice none 0 0, .slice none 0 0, .slice none 0 0, .bool false, .int .u32 0] 37)
    rw [World.size_alloc] at this
    exact hwC ▸ this
  have hr0 : wC.heap[w.heap.size]? = some (.cells #[.slice none 0 0, .slice none 0 0, .slice none 0 0, .slice none 0 0, .bool false, .int .u32 0] 37) := by
    have h1 := heap_alloc_new w (.cells #[.slice none 0 0, .slice none 0 0, .slice none 0 0, .slice none 0 0, .bool false, .int .u32 0] 37)
    have F1 : Fr [] (w.alloc (.cells #[.slice none 0 0, .slice none 0 0, .slice none 0 0, .slice none 0 0, .bool false, .int .u32 0] 37)) wC := hwC ▸ (Fr.refl _ _).alloc _
    exact (F1.block _ (by simp) (by simp)).trans h1
  have sC : wC.heap.size = w.heap.size + 2 := by rw [hwC]; simp
  rw [← hwC]
  clear hwC
  obtain ⟨gf, hgf⟩ : ∃ gf, gf = w.heap.size + 1 := ⟨_, rfl⟩
  rw [← hgf] at hgf0 ⊢
  obtain ⟨br, hbr⟩ : ∃ br, br = w.heap.size := ⟨_, rfl⟩
  rw [← hbr] at hr0 hgf sC ⊢
  have HBR := Lib.hid hbr
  clear hbr
  have HGF := Lib.hid hgf
  have HSC := Lib.hid sC
  have HFC := Lib.hid FC
  have HR0 := Lib.hid hr0
  clear hgf sC FC hr0
  go_loopw [6] (fun i wr => ∃ (k : Nat) (L : List (Coder × Value)) (cv bv' sv : Value), k ≤ n ∧ i = .int .i64 k ∧ L.map (·.1) = (List.replicate k (0 : UInt8)).map coderOf ∧ (∀ c ∈ L, c.2 = .slice none 0 0 ∧ c.1.props = []) ∧
      St wC gf wr cv k (coV L) bv' (k - 1) (biV (chainB k false)) sv k (u64v (List.replicate k sz)) L) (fun i _ => n - (intOf i).toNat)
  case atStart =>
    refine ⟨0, [], _, _, _, Nat.zero_le _, rfl, by simp, by simp, hgf0, World.ownsRow_nil _ _ _ _, ?_, World.ownsRow_nil _ _ _ _, by simp, Fr.refl _ _, by have := HGF.out; have := HSC.out; omega⟩
    have : biV (chainB 0 false) = [] := by simp [chainB, biV]
    rw [this]
    exact World.ownsRow_nil _ _ _ _
  case round =>
    obtain ⟨k, L, cv, bv', sv, hk, rfl, hL, hnil, H⟩ := hrel
    have HNL := Lib.hid hnil
    clear hnil
    have HH := Lib.hid H
    by_cases hlt : k < n
    · have hF := H.blk
      have hgs : gf < wr.heap.size := (Array.getElem?_eq_some_iff.1 hF).1
      obtain ⟨cao, ccap, hcv, -⟩ := own_outS H.oc
      obtain ⟨bao, bcap, hbv, -⟩ := own_outS H.ob
      obtain ⟨sao, scap, hsv, -⟩ := own_outS H.os
      subst hcv hbv hsv
      have hkn : (k : Int) < n := by omega
      have hs4 := heap_alloc_new wr (.cells #[.int .i64 1, .slice none 0 0] 56)
      have HS4 := Lib.hid hs4
      clear hs4 H hF
      have hpb : PB (wr.alloc (.cells #[.int .i64 1, .slice none 0 0] 56)) (.slice none 0 0) (coderOf 0).props := .inl ⟨rfl, by rw [coderOf_zero]⟩
      have HST := Lib.hid ((HH.out.fresh ((Fr.refl _ _).alloc _ : Fr [] wr (wr.alloc (.cells #[.int .i64 1, .slice none 0 0] 56)))).add (coderOf 0, .slice none 0 0) hpb)
      obtain ⟨p0, p1, p2, p3, p4, p5⟩ := six HH.out.blk
      clear hpb
      go_wp2_with (at_builtin; refine wpList_append_pair sty_coder rfl _ _ (by rfl) wC.heap.size _ _ _ (by rfl) HST.out.oc _ _ _ (by rfl) HS4.out (by rfl) (by rfl) (by omega) (by decide) HST.out.fr.size ?_)
      intro cv2 w8 ownC2 g8
      obtain ⟨cao2, ccap2, hcv2, -⟩ := own_outS ownC2
      subst hcv2
      have hb8 := HST.out.blkC g8
      have HST2 := HST.out.putC ownC2 g8
      have HS9 := Lib.hid (HST2.fresh ((Fr.refl _ _).alloc (.cells #[.int .u64 sz.toNat] 39)))
      obtain ⟨x0, x1, x2, x3, x4, x5⟩ := six hb8
      have fz8 := frozen6 hb8 0
      have hsl : Sl ((w8.setCell ⟨gf, 0, none⟩ (.slice cao2 (k + 1) ccap2)).alloc (.cells #[.int .u64 sz.toNat] 39)) (.slice (some ⟨w8.heap.size, 0, none⟩) 1 1) [.int .u64 sz.toNat] := by
        have := sl_one (w8.setCell ⟨gf, 0, none⟩ (.slice cao2 (k + 1) ccap2)) 39 (.int .u64 sz.toNat)
        rwa [World.size_setCell] at this
      have HSL := Lib.hid hsl
      have hgl := (Array.getElem?_eq_some_iff.1 hb8).1
      clear hsl p0 p1 p2 p3 p4 p5 hgs HST ownC2 g8 HST2 HS4
      go_wp2_with (at_builtin; refine wpList_append_sl sty_u64 rfl _ _ (by rfl) wC.heap.size _ _ _ (by rfl) HS9.out.os _ [.int .u64 sz.toNat] (by rfl) HSL.out (by intro u hu; simp at hu; subst hu; rfl) (by simp; omega) (by simp; omega) HS9.out.fr.size ?_)
      intro sv2 w10 ownS2 g10
      obtain ⟨sao2, scap2, hsv2, -⟩ := own_outS ownS2
      subst hsv2
      have hb10 := HS9.out.blkS g10
      have H11 := Lib.hid (HS9.out.putS ownS2 g10)
      obtain ⟨z0, z1, z2, z3, z4, z5⟩ := six hb10
      have fz10 := frozen6 hb10 3
      have hgl2 := (Array.getElem?_eq_some_iff.1 hb10).1
      clear x0 x1 x2 x3 x4 x5 fz8 hgl HSL HS9 ownS2 g10 hb8
      have HL2 := Lib.hid (show (L ++ [(coderOf 0, (.slice none 0 0 : Value))]).map (·.1) = (List.replicate (k + 1) (0 : UInt8)).map coderOf by rw [List.replicate_succ', List.map_append, List.map_append, hL]; rfl)
      have HN2 := Lib.hid (show ∀ c ∈ L ++ [(coderOf 0, (.slice none 0 0 : Value))], c.2 = .slice none 0 0 ∧ c.1.props = [] from fun c hc => by
        rcases List.mem_append.1 hc with hc | hc
        · exact HNL.out c hc
        · simp at hc; subst hc; exact ⟨rfl, rfl⟩)
      have hX1 : coV (L ++ [(coderOf 0, (.slice none 0 0 : Value))]) = coV L ++ [.int .i64 1, .slice none 0 0] := by rw [coV_append, coderOf_zero]; rfl
      have hX2 : u64v (List.replicate (k + 1) sz) = u64v (List.replicate k sz) ++ [.int .u64 sz.toNat] := by rw [List.replicate_succ']; simp [u64v]
      by_cases hk0 : k = 0
      · have t5 : ¬ (0 : Int) < (k : Int) := by omega
        have HX := Lib.hid (And.intro hX1 (And.intro hX2 (show biV (chainB (k + 1) false) = biV (chainB k false) ∧ k + 1 - 1 = k - 1 from ⟨chainB_one k false hk0, by omega⟩)))
        clear hk0 hX1 hX2 hL
        go_wp2_with fail
        go_roundw
        case rel =>
          refine ⟨k + 1, L ++ [(coderOf 0, .slice none 0 0)], .slice cao2 (k + 1) ccap2, .slice bao (k - 1) bcap, .slice sao2 (k + 1) scap2, by omega, by go_num, HL2.out, HN2.out, ?_⟩
          rw [HX.out.1, HX.out.2.1, HX.out.2.2.1, HX.out.2.2.2]
          exact H11.out
        case measure => simp [intOf]; omega
      have t5 : (0 : Int) < (k : Int) := by omega
      have HX := Lib.hid (And.intro hX1 (And.intro hX2 (And.intro True.intro (chainB_more k false (by omega)))))
      clear hk0 hX1 hX2 hL
      obtain ⟨u0, u1, u2, u3, u4, u5⟩ := six H11.out.blk
      have hgx : gf < (w10.setCell ⟨gf, 3, none⟩ (.slice sao2 (k + 1) scap2)).heap.size := (Array.getElem?_eq_some_iff.1 H11.out.blk).1
      have HS12 := Lib.hid (H11.out.fresh ((Fr.refl _ _).alloc (.cells #[.int .i64 ((k : Int) - 1), .int .i64 ((k : Int))] 58)))
      have hs12 := heap_alloc_new (w10.setCell ⟨gf, 3, none⟩ (.slice sao2 (k + 1) scap2)) (.cells #[.int .i64 ((k : Int) - 1), .int .i64 ((k : Int))] 58)
      rw [World.size_setCell] at hs12
      have HSN := Lib.hid hs12
      clear hs12
      go_wp2_with (at_builtin; refine wpList_append_pair sty_bind rfl _ _ (by rfl) wC.heap.size _ _ _ (by rfl) HS12.out.ob _ _ _ (by rfl) HSN.out (by rfl) (by rfl) (by omega) (by decide) HS12.out.fr.size ?_)
      intro bv2 w12 ownB2 g12
      obtain ⟨bao2, bcap2, hbv2, -⟩ := own_outS ownB2
      subst hbv2
      have hb12 := HS12.out.blkB g12
      have HS13 := Lib.hid (HS12.out.putB ownB2 g12)
      obtain ⟨y0, y1, y2, y3, y4, y5⟩ := six hb12
      have fz12 := frozen6 hb12 1
      clear u0 u1 u2 u3 u4 u5 hgx HSN HS12 ownB2 g12
      go_wp2_with fail
      go_roundw
      case rel =>
        refine ⟨k + 1, L ++ [(coderOf 0, .slice none 0 0)], .slice cao2 (k + 1) ccap2, .slice bao2 (k - 1 + 1) bcap2, .slice sao2 (k + 1) scap2, by omega, by go_num, HL2.out, HN2.out, ?_⟩
        rw [HX.out.1, HX.out.2.1, HX.out.2.2.2]
        rw [show k + 1 - 1 = k - 1 + 1 from by omega]
        exact HS13.out
      case measure => simp [intOf]; omega
    · have hke : k = n := by omega
      subst hke
      have hF := H.blk
      have hgs : gf < wr.heap.size := (Array.getElem?_eq_some_iff.1 hF).1
      have HFr := Lib.hid H.fr
      obtain ⟨cao, ccap, hcv, -⟩ := own_outS H.oc
      obtain ⟨bao, bcap, hbv, -⟩ := own_outS H.ob
      obtain ⟨sao, scap, hsv, -⟩ := own_outS H.os
      subst hcv hbv hsv
      obtain ⟨p0, p1, p2, p3, p4, p5⟩ := six hF
      have pz := frozen6 hF 2
      have HL := Lib.hid hL
      have HLL := Lib.hid hL
      have hbg : br ≠ gf := by have := HGF.out; omega
      have hR := (H.fr.block br (by have := HSC.out; omega) (by simpa using hbg)).trans HR0.out
      obtain ⟨r0, r1, r2, r3, r4, r5⟩ := six hR
      have hrs : br < wr.heap.size := (Array.getElem?_eq_some_iff.1 hR).1
      have rz := fun j => frozen6 hR j
      have rz0 := rz 0
      have rz1 := rz 1
      have rz2 := rz 2
      have rz3 := rz 3
      have rz4 := rz 4
      have rz5 := rz 5
      have HRR := Lib.hid hR
      clear H hL rz hR
      go_wp2_with fail
      obtain ⟨wq, hwq⟩ : ∃ wq, wq = wr.setCell ⟨gf, 2, none⟩ (.slice (some ⟨wr.heap.size, 0, none⟩) 1 1) := ⟨_, rfl⟩
      have Fq : Fr [gf, br] wr wq := hwq ▸ (Fr.refl _ _).setCell (.inl (by simp)) _
      have Fq1 : Fr [gf] wr wq := hwq ▸ (Fr.refl _ _).setCell (.inl (by simp)) _
      have sq : wq.heap.size = wr.heap.size := by rw [hwq]; simp
      have hq := (Fq1.block br hrs (by simpa using hbg)).trans HRR.out
      rw [← hwq]
      clear hwq
      have b1 := Go.Joins.block_setCell (Go.Joins.block_setCell (Go.Joins.block_setCell (Go.Joins.block_setCell (Go.Joins.block_setCell (Go.Joins.block_setCell hq (i := 0) (.slice cao k ccap)) (i := 1) (.slice bao (k - 1) bcap)) (i := 2) (.slice (some ⟨wr.heap.size, 0, none⟩) 1 1)) (i := 3) (.slice sao k scap)) (i := 4) (.bool false)) (i := 5) (.int .u32 0)
      obtain ⟨wz, hwz⟩ : ∃ wz, wz = (((((wq.setCell ⟨br, 0, none⟩ (.slice cao k ccap)).setCell ⟨br, 1, none⟩ (.slice bao (k - 1) bcap)).setCell ⟨br, 2, none⟩ (.slice (some ⟨wr.heap.size, 0, none⟩) 1 1)).setCell ⟨br, 3, none⟩ (.slice sao k scap)).setCell ⟨br, 4, none⟩ (.bool false)).setCell ⟨br, 5, none⟩ (.int .u32 0) := ⟨_, rfl⟩
      have Fz : Fr [gf, br] wq wz := hwz ▸ ((((((Fr.refl _ _).setCell (.inl (by simp)) _).setCell (.inl (by simp)) _).setCell (.inl (by simp)) _).setCell (.inl (by simp)) _).setCell (.inl (by simp)) _).setCell (.inl (by simp)) _
      have sz2 : wz.heap.size = wr.heap.size := by rw [hwz]; simp [sq]
      rw [← hwz] at b1 ⊢
      clear hwz
      simp only [List.setIfInBounds_toArray, List.set_cons_zero, List.set_cons_succ] at b1
      obtain ⟨w3, hw3⟩ : ∃ w3, w3 = wz.alloc (.cells #[.int .i64 ((k : Int) - 1)] 3) := ⟨_, rfl⟩
      have F3 : Fr [] wz w3 := hw3 ▸ (Fr.refl _ _).alloc _
      have hP := heap_alloc_new wz (.cells #[.int .i64 ((k : Int) - 1)] 3)
      rw [← hw3, sz2] at hP
      rw [← hw3]
      clear hw3
      have FT : Fr [gf, br] wr w3 := (Fq.trans Fz (fun i hi => .inl hi)).trans0 F3
      have b3 := (F3.block br (by rw [sz2]; exact hrs) (by simp)).trans b1
      obtain ⟨x0, x1, x2, x3, x4, x5⟩ := six b3
      have HFO := fun (S : List Nat) (w'' : World) (F : Fr S w3 w'') (hS : ∀ i ∈ S, i < w.heap.size) => fo_chain2 (S := gf :: br :: S) (cs := List.replicate k 0) HH.out (by simp) HLL.out HNL.out HRR.out (pb := wr.heap.size) (w3 := w'') ((FT.mono (by simp)).trans F (fun i hi => .inl (by simp [hi]))) (fun i hi => by
        simp only [List.mem_cons] at hi
        rcases hi with rfl | rfl | hi
        · exact .inl rfl
        · exact .inr (.inl rfl)
        · have := hS i hi; have := HSC.out; have := HBR.out; exact .inr (.inr (by omega))) ((F.block wr.heap.size (Array.getElem?_eq_some_iff.1 hP).1 (fun hm => by have := hS _ hm; have := HFC.out.size; have := HFr.out.size; omega)).trans hP)
      refine bodyPost_ret (v := .agg #[.slice cao k ccap, .slice bao (k - 1) bcap, .slice (some ⟨wr.heap.size, 0, none⟩) 1 1, .slice sao k scap, .bool false, .int .u32 0]) (by simp [results, Tryz.results7, go_sem, x0, x1, x2, x3, x4, x5]) rfl ?_
      refine ⟨_, rfl, HFO, fun k0 hk0 a ha b o m c hb => ?_, ?_⟩
      · obtain rfl := (Value.agg.inj ha).symm
        simp only [List.getElem?_toArray, List.getElem?_cons_zero, Option.some.injEq, Value.slice.injEq] at hb
        obtain ⟨rfl, -⟩ := hb
        have := (own_ltS HH.out.oc b rfl).1
        have := HFC.out.size
        omega
      refine HFC.out.trans ((HFr.out.mono (by simp)).trans FT (T := [gf, br]) (S := [gf, br]) ?_) ?_
      · exact fun i hi => .inl hi
      · intro i hi
        simp only [List.mem_cons, List.not_mem_nil, or_false] at hi
        have := HBR.out
        have := HGF.out
        rcases hi with rfl | rfl <;> exact .inr (by omega)
end Go.Proofs.YtfnblemlcjdnhaaGreat
