/- Contract: lay. No condition but that lengths fit. -/
import Derived.Test.YthbkcjlpelihlaaGreatDoorGAN
namespace Go.Proofs.YthbkcjlpelihlaaGreatDoor
open Go.RowKit Go.Maps

theorem mclone_any {w : World} {b n : Nat} {KV : List UInt8 → Option Value} (h : MTh w b n KV) : Calls Tryz.prog 207 #[.map (some b)] w fun e w' => e = .returned (.map (some w.heap.size)) ∧ MTh w' w.heap.size n KV ∧ Fr [] w w' := by
  obtain ⟨D, hown, hK⟩ := h
  have hcon := Go.Proofs.AnyW.maps_Clone_owns Tryz.cloneM 9 rawR b n D w hown
  change Calls Tryz.prog 207 _ _ _ at hcon
  refine hcon.mono ?_
  rintro e w' ⟨rfl, h1, -, hB⟩
  exact ⟨rfl, ⟨D, h1, hK⟩, Fr.of_below hB⟩
theorem SandIn.mono {w : World} {lo p b : Nat} {fv cv : Value} {n m nc : Nat} {fl : Fl} {KV : List UInt8 → Option Value} {K : Tree} (h : SandIn w lo p b fv cv n nc fl KV K) (hn : n ≤ m) : SandIn w lo p b fv cv m nc fl KV K := ⟨h.blk, h.mp.mono hn, h.rd, h.fa, h.cr, h.lp, h.lb⟩
/-- What lay answers, where it comes to its loops. -/
def LayR (K : Tree) (fr to_ : List UInt8) (lo n : Nat) (w : World) (e : Ending) (w' : World) : Prop :=
  ∃ ks, KeysAre K ks ∧ ks.length ≤ n ∧ Fr [] w w' ∧ ((layGo K fr to_ (treeL ks fr) (dropK K fr) = none ∧ e = .returned (.map none)) ∨
    ∃ N bx n' KV', layGo K fr to_ (treeL ks fr) (dropK K fr) = some N ∧ e = .returned (.map (some bx)) ∧ w.heap.size ≤ bx ∧ MTh w' bx n' KV' ∧ Reads w' lo KV' N)
set_option maxRecDepth 100000 in
set_option maxHeartbeats 8000000 in
theorem lay_no {w : World} {lo p b : Nat} {fv cv : Value} {n nc : Nat} {fl : Fl} {KV : List UInt8 → Option Value} {K : Tree} (h : SandIn w lo p b fv cv n nc fl KV K) (fr to_ : List UInt8) (hf : fr.length ≤ 100000) (ht : to_.length ≤ 100000) (hno : layNo K fr to_ = true) :
    Calls Tryz.prog 160 #[.pointer (some ⟨p, 0, none⟩), .string ⟨fr.toArray⟩, .string ⟨to_.toArray⟩] w fun e w' => e = .returned (.map none) ∧ w' = w := by
  obtain ⟨c0, -, -⟩ := h.cells
  obtain ⟨kf, dvf, svf, hrunf, ef⟩ := h.kind fr hf
  obtain ⟨kt, dvt, svt, hrunt, et⟩ := h.kind to_ ht
  have hff : ∀ w : World, (Instr.field 80 (.agg #[.int .i64 kf, dvf, .string svf]) 0).run Tryz.prog w = .ok (.int .i64 kf) w := fun _ => by kernel_rfl
  have hft : ∀ w : World, (Instr.field 80 (.agg #[.int .i64 kt, dvt, .string svt]) 0).run Tryz.prog w = .ok (.int .i64 kt) w := fun _ => by kernel_rfl
  have HW := Lib.hid (within_any w to_ fr hf)
  unfold layNo at hno
  rw [ef, et] at hno
  generalize hwb : withinB to_ fr = wb at *
  clear h ef et hf ht hwb
  by_cases a1 : kf = 1
  rotate_left
  · have t1 : (kf != 1) = true := by simpa using a1
    clear hno a1
    go_enter Tryz.func160, Tryz.ntmps160
    go_wp2_with fail
    go_ret
    exact ⟨rfl, rfl⟩
  have t1 : (kf != 1) = false := by simpa using a1
  by_cases a2 : kt = 1
  rotate_left
  · have t2 : (kt != 1) = true := by simpa using a2
    clear hno a1 a2
    go_enter Tryz.func160, Tryz.ntmps160
    go_wp2_with fail
    go_ret
    exact ⟨rfl, rfl⟩
  have t2 : (kt != 1) = false := by simpa using a2
  cases a3 : fr == to_
  rotate_left
  · clear hno a1 a2
    go_enter Tryz.func160, Tryz.ntmps160
    go_wp2_with fail
    go_ret
    exact ⟨rfl, rfl⟩
  have hw : wb = true := by simpa [a1, a2, a3] using hno
  subst hw
  clear hno a1 a2
  go_enter Tryz.func160, Tryz.ntmps160
  go_wp2_with (go_at_call 161; refine HW.out.mono ?_; rintro e w1 ⟨rfl, rfl⟩)
  go_ret
  exact ⟨rfl, rfl⟩
set_option maxRecDepth 100000 in
set_option maxHeartbeats 8000000 in
theorem lay_go {w : World} {lo p b : Nat} {fv cv : Value} {n nc : Nat} {fl : Fl} {KV : List UInt8 → Option Value} {K : Tree} (h : SandIn w lo p b fv cv n nc fl KV K) (hKM : MayK K) (hG : Gl w) (fr to_ : List UInt8) (hf : fr.length ≤ 1024) (ht : to_.length ≤ 1024) (hn : n ≤ 40000) (hno : layNo K fr to_ = false) :
    Calls Tryz.prog 160 #[.pointer (some ⟨p, 0, none⟩), .string ⟨fr.toArray⟩, .string ⟨to_.toArray⟩] w (LayR K fr to_ lo n w) := by
  obtain ⟨c0, -, -⟩ := h.cells
  obtain ⟨kf, dvf, svf, hrunf, ef⟩ := h.kind fr (by omega)
  obtain ⟨kt, dvt, svt, hrunt, et⟩ := h.kind to_ (by omega)
  have hff : ∀ w : World, (Instr.field 80 (.agg #[.int .i64 kf, dvf, .string svf]) 0).run Tryz.prog w = .ok (.int .i64 kf) w := fun _ => by kernel_rfl
  have hft : ∀ w : World, (Instr.field 80 (.agg #[.int .i64 kt, dvt, .string svt]) 0).run Tryz.prog w = .ok (.int .i64 kt) w := fun _ => by kernel_rfl
  have HW := Lib.hid (within_any w to_ fr (by omega))
  have hno' := hno
  unfold layNo at hno'
  rw [ef, et] at hno'
  simp only [Bool.or_eq_false_iff] at hno'
  obtain ⟨⟨⟨a1, a2⟩, a3⟩, a4⟩ := hno'
  rw [a4] at HW
  have a1' : kf = 1 := by simpa using a1
  have a2' : kt = 1 := by simpa using a2
  subst a1' a2'
  have HTR := Lib.hid (tree_any h fr (by omega) (by omega))
  have HM := Lib.hid hKM
  have HG := Lib.hid hG
  have HH := Lib.hid h
  have HNB := Lib.hid hn
  have HLF := Lib.hid (And.intro hf ht)
  clear hno a1 a2 a4 h hG hKM hn ef et hf ht
  go_enter Tryz.func160, Tryz.ntmps160
  go_upto_region 4 with (first
    | (go_at_call 111; refine HTR.out.mono ?_; rintro e w1 ⟨v, ks, rfl, hks, hkl, own1, F1⟩; obtain ⟨vo1, vc1, rfl, -⟩ := own_outS own1)
    | (go_at_call 161; refine HW.out.mono ?_; rintro e w ⟨rfl, rfl⟩))
  have c1 := (F1.cell (World.block_lt_of_cell? _ _ c0) (by simp)).trans c0
  have S1 := Lib.hid (HH.out.fr0 F1)
  have HMC := Lib.hid (mclone_any S1.out.mp)
  have HKS := Lib.hid hks
  have HKL := Lib.hid hkl
  have HTL := Lib.hid (show (treeL ks fr).length ≤ n from Nat.le_trans (List.length_filter_le _ _) hkl)
  have OW1 := Lib.hid own1
  have HF1 := Lib.hid F1
  obtain ⟨T, hT⟩ : ∃ T, (treeL ks fr).length = T := ⟨_, rfl⟩
  rw [hT] at OW1 HTL ⊢
  have HT := Lib.hid hT
  have HTB := Lib.hid (show T ≤ 40000 by have := HTL.out; have := HNB.out; omega)
  clear hks hkl own1 F1 hT hrunf hrunt hff hft HTR HW
  go_upto_region 5 with (go_at_call 207; refine HMC.out.mono ?_; rintro e w2 ⟨rfl, hm2, F2⟩)
  obtain ⟨w3, hw3⟩ : ∃ w3, w3 = w2.alloc (.cells #[.map (some w1.heap.size), .slice none 0 0, .slice none 0 0] 82) := ⟨_, rfl⟩
  have F3 : Fr [] w2 w3 := hw3 ▸ (Fr.refl _ _).alloc _
  have S3 := Lib.hid (show SandIn w3 lo w2.heap.size w1.heap.size (.slice none 0 0) (.slice none 0 0) n 0 ⟨[], fun _ _ _ => True⟩ KV K from
    ⟨by rw [hw3]; exact heap_alloc_new w2 _, hm2.fr F3 (by simp), (S1.out.rd.fr (F2.trans0 F3) (fun i hi => by simp at hi)), World.ownsRow_nil _ _ _ _, ⟨[], World.ownsRow_nil _ _ _ _, CallsR.nil⟩, Nat.le_trans S1.out.lp (Nat.le_of_lt (Nat.lt_of_lt_of_le S1.out.ltp F2.size)), Nat.le_trans S1.out.lp (Nat.le_of_lt S1.out.ltp)⟩)
  have OW3 := Lib.hid (own_frB OW1.out (F2.trans0 F3) (by simp))
  have HF3 := Lib.hid (HF1.out.trans0 (F2.trans0 F3))
  have HB1 := Lib.hid HF1.out.size
  have HVL := Lib.hid (fun k hk => own_ltS OW1.out k hk)
  rw [← hw3]
  have h21 : w1.heap.size ≤ w2.heap.size := F2.size
  have h32 : w2.heap.size < w3.heap.size := S3.out.ltp
  clear hw3 hm2 F2 F3 c1
  generalize w2.heap.size = nx at *
  go_wp2_with (at_builtin; refine wpList_append_keep rfl _ _ (by rfl) w.heap.size _ _ _ (by rfl) (own_frB OW3.out ((Fr.refl [] w3).alloc _) (by simp)) (.string ⟨fr.toArray⟩) w3.heap.size 1 (by rfl) (by rw [Go.Joins.cell_of_block (heap_alloc_new w3 _)]; rfl) rfl (by have := HTB.out; omega) (by have := HF3.out.size; simp; omega) ?_; intro v4 w4 own4 sl4 g4; have HS4 := Lib.hid sl4; have OW4 := Lib.hid own4; have F4 : Fr (Value.slice vo1 T vc1).ownBlock.toList w3 w4 := ((Fr.refl _ w3).alloc _).grown g4 (fun j hj => .inl (by simp [hj])); obtain ⟨vo4, vc4, rfl, -⟩ := own_outS own4; clear own4 sl4 g4)
  obtain ⟨ps, hps⟩ : ∃ ps, treeL ks fr ++ [fr] = ps := ⟨_, rfl⟩
  have hlens := HKS.out.lens HM.out
  have HPL := Lib.hid (show ∀ x ∈ ps, x.length ≤ 100000 from fun x hx => by
    rw [← hps] at hx
    rcases List.mem_append.1 hx with hx | hx
    · exact Nat.le_trans (hlens x (List.mem_filter.1 hx).1) (by omega)
    · simp at hx; rw [hx]; have := HLF.out.1; omega)
  have HDR := Lib.hid (show delsK K ps = dropK K fr from by rw [← hps]; exact dels_drop HKS.out.mem fr)
  have HPN := Lib.hid (show ps.length = T + 1 by rw [← hps]; simp [HT.out])
  have OW5 := Lib.hid (show w4.ownsRow w.heap.size 9 1 (.slice vo4 (T + 1) vc4) (T + 1) (stv ps) by rw [← hps, stv_snoc]; exact OW4.out)
  have HSP := Lib.hid (fun i (hi : i ∈ (Value.slice vo1 T vc1).ownBlock.toList) => (show i ≠ p ∧ i < w1.heap.size ∧ (∀ e, e ≠ 9 → ∀ cs z, w3.heap[i]? ≠ some (.cells cs e z)) from
    ⟨fun e => own_type OW3.out i (by simpa using hi) 82 (by decide) _ _ (e ▸ (HH.out.fr0 HF3.out).blk), (HVL.out i (by simpa using hi)).2, fun e he => own_type OW3.out i (by simpa using hi) e he⟩))
  have S4 := Lib.hid (show SandIn w4 lo nx w1.heap.size (.slice none 0 0) (.slice none 0 0) n 0 ⟨[], fun _ _ _ => True⟩ KV K from by
    have hnx : nx ∉ (Value.slice vo1 T vc1).ownBlock.toList := fun hm => by have := (HSP.out _ hm).2.1; omega
    have hbx : w1.heap.size ∉ (Value.slice vo1 T vc1).ownBlock.toList := fun hm => by have := (HSP.out _ hm).2.1; omega
    exact ⟨(F4.block _ S3.out.ltp hnx).trans S3.out.blk, S3.out.mp.fr F4 hbx, S3.out.rd.fr F4 (fun i hi => .inr ((HSP.out i hi).2.2 _ (by decide))), World.ownsRow_nil _ _ _ _, ⟨[], World.ownsRow_nil _ _ _ _, CallsR.nil⟩, S3.out.lp, S3.out.lb⟩)
  have HF4 := Lib.hid (show Fr [] w w4 from HF3.out.trans F4 (fun i hi => .inr (HVL.out i (by simpa using hi)).1))
  have h43 : w3.heap.size ≤ w4.heap.size := F4.size
  have hTb := HTB.out
  have hTL1 : ∀ k, (Value.slice vo1 T vc1).ownBlock = some k → k < w1.heap.size := fun k hk => (HVL.out k hk).2
  have HTL1 := Lib.hid hTL1
  have HWB := Lib.hid (show w.heap.size ≤ w1.heap.size from HB1.out)
  clear hps hlens F4 OW4 OW3 HVL HSP HMC OW1 HF3 HF1 S1 S3 hTL1
  generalize w1.heap.size = bx at *
  go_wp2_with fail
  go_loopw [60] (fun iv wr => ∃ k : Nat, k ≤ T + 1 ∧ iv = .int .i64 (k : Int) ∧ (∃ KVx, SandIn wr lo nx bx (.slice none 0 0) (.slice none 0 0) n 0 ⟨[], fun _ _ _ => True⟩ KVx (delsK K (ps.take k))) ∧ Fr [bx] w4 wr) (fun i _ => T + 1 - (intOf i).toNat)
  case atStart => exact ⟨0, Nat.zero_le _, rfl, ⟨KV, S4.out⟩, Fr.refl _ _⟩
  case round =>
    obtain ⟨k, hk, rfl, ⟨KVx, hS⟩, F5⟩ := hrel
    have HS := Lib.hid hS
    obtain ⟨d0, -, -⟩ := hS.cells
    by_cases hlt : k < T + 1
    · obtain ⟨x, hx⟩ := some_get ps k (by rw [HPN.out]; exact hlt)
      have hxl := HPL.out x (List.mem_of_getElem? hx)
      have OW6 := own_frT OW5.out F5 (S4.out.mp.nobs _ _)
      obtain ⟨ao', cap', e', -, -, hcl⟩ := (Sl.of_own OW6).out
      rw [stv_len, HPN.out] at e' hcl
      obtain ⟨bb, oo, rfl, hbb, hcell⟩ := hcl k hlt
      injection e' with e1 e2 e3
      subst e1
      have cw : wr.cell? ⟨bb, oo + k, none⟩ = some (.string ⟨x.toArray⟩) := (hcell k hlt).trans (stv_get hx)
      have hltI : (k : Int) < (T : Int) + 1 := by omega
      have HX := Lib.hid (show delsK K (ps.take (k + 1)) = delK (delsK K (ps.take k)) x by rw [List.take_add_one, hx]; exact dels_snoc _ _ _)
      clear e2 e3 hcl hcell hx hS OW6
      go_wp2_with (at_delete; refine wpList_sand_del rfl _ _ (by rfl) HS.out x hxl (by rfl) (by rfl) ?_; intro wD SD FD)
      go_roundw
      case rel => exact ⟨k + 1, by omega, by go_num, ⟨_, by rw [HX.out]; exact SD⟩, F5.trans FD (fun i hi => .inl hi)⟩
      case measure => simp [intOf]; omega
    · obtain rfl : k = T + 1 := by omega
      have HSD := Lib.hid (show SandIn wr lo nx bx (.slice none 0 0) (.slice none 0 0) n 0 ⟨[], fun _ _ _ => True⟩ KVx (dropK K fr) by rw [← HDR.out, ← List.take_of_length_le (Nat.le_of_eq HPN.out)]; exact hS)
      have HSL := Lib.hid (fun wy (F : Fr [bx] w4 wy) => HS4.out.fr F (fun k hk hm => by have := HTL1.out k hk; simp at hm; omega))
      have HF5 := Lib.hid F5
      have HFW := Lib.hid (fun wy (F : Fr [bx] w4 wy) => HF4.out.trans F (fun i hi => .inr (by simp at hi; subst hi; exact HWB.out)))
      have hltI : ¬ (T : Int) + 1 < (T : Int) + 1 := by omega
      clear hS OW5 HPN HDR HPL S4 HS F5 HS4
      clear hlt
      go_wp2_with fail
      go_loopw [72] (fun iv wy => ∃ k : Nat, k ≤ T ∧ iv = .int .i64 (k : Int) ∧ (∃ KVy N, layGo K fr to_ ((treeL ks fr).take k) (dropK K fr) = some N ∧ SandIn wy lo nx bx (.slice none 0 0) (.slice none 0 0) (n + k) 0 ⟨[], fun _ _ _ => True⟩ KVy N) ∧ Fr [bx] w4 wy) (fun i _ => T - (intOf i).toNat)
      case atStart => exact ⟨0, Nat.zero_le _, rfl, ⟨KVx, _, rfl, HSD.out⟩, HF5.out⟩
      case round =>
        rename World => wA
        obtain ⟨k, hk, rfl, ⟨KVy, N, hgo, hS⟩, F6⟩ := hrel
        clear d0 HSD HF5
        have HS := Lib.hid hS
        have HGO := Lib.hid hgo
        by_cases hlt : k < T
        · obtain ⟨x, hx⟩ := some_get (treeL ks fr) k (by rw [HT.out]; exact hlt)
          have hxm := List.mem_filter.1 (List.mem_of_getElem? hx)
          obtain ⟨t, ht⟩ := Option.isSome_iff_exists.1 ((HKS.out.mem x).1 hxm.1)
          have hMX := HM.out x t ht
          have hxl := clean_len hMX.1
          have hwl : fr.length < x.length := (List.getElem?_eq_some_iff.1 (within_iff.1 hxm.2).2).1
          obtain ⟨ao', cap', e', -, -, hcl⟩ := (HSL.out wA F6).out
          rw [stv_len, HT.out] at e' hcl
          obtain ⟨bb, oo, rfl, hbb, hcell⟩ := hcl k hlt
          injection e' with e1 e2 e3
          subst e1
          have cw : wA.cell? ⟨bb, oo + k, none⟩ = some (.string ⟨x.toArray⟩) := (hcell k hlt).trans (stv_get hx)
          have hltI : (k : Int) < (T : Int) := by omega
          have hA := HH.out.fr0 (HFW.out wA F6)
          obtain ⟨p0, -, -⟩ := hA.cells
          obtain ⟨kd, dao, dn, dcap, sv, hrun0, ⟨t', ht', rfl, rfl, hown, rfl⟩ | ⟨hno, -⟩⟩ := hA.val x (by omega)
          rotate_left
          · rw [ht] at hno; cases hno
          obtain rfl : t = t' := by rw [ht] at ht'; injection ht'
          obtain ⟨kd, dl, ln⟩ := t
          dsimp only at hrun0 hown
          have hrunx := hrun0 wA (Fr.refl _ _)
          have HTH := Lib.hid (show ThV wA lo (.agg #[.int .i64 kd, .slice dao dl.length dcap, .string ⟨ln.toArray⟩]) ⟨kd, dl, ln⟩ from ⟨_, rfl, hown⟩)
          obtain ⟨DL, hDL⟩ : ∃ DL, dl.length = DL := ⟨_, rfl⟩
          rw [hDL] at hrunx HTH
          have hGB : ∃ wb, wb = wA.alloc (.cells #[.int .i64 kd, .slice dao DL dcap, .string ⟨ln.toArray⟩] 80) := ⟨_, rfl⟩
          obtain ⟨wb, hwb⟩ := hGB
          have Fb : Fr [] wA wb := hwb ▸ (Fr.refl _ _).alloc _
          have gb : wb.heap[wA.heap.size]? = some (.cells #[.int .i64 kd, .slice dao DL dcap, .string ⟨ln.toArray⟩] 80 (0, 0)) := by rw [hwb]; exact heap_alloc_new wA _
          have lb : wA.heap.size < wb.heap.size := (Array.getElem?_eq_some_iff.1 gb).1
          obtain ⟨pl, hpl⟩ : ∃ pl, placeL fr to_ x = pl := ⟨_, rfl⟩
          have hpll : pl.length ≤ 3000 := by rw [← hpl]; unfold placeL; rw [List.length_append, List.length_drop]; have := HLF.out; omega
          have hX : (⟨x.toArray⟩ : ByteArray).extract fr.length x.length = ⟨(x.drop fr.length).toArray⟩ := by rw [extract_ba, List.take_of_length_le (by rw [List.length_drop]; exact Nat.le_refl _)]
          have hcat : (⟨to_.toArray⟩ : ByteArray) ++ ⟨(x.drop fr.length).toArray⟩ = ⟨pl.toArray⟩ := by rw [cat_ba, ← hpl]; rfl
          have z1 : (⟨x.toArray⟩ : ByteArray).size = x.length := by simp [ByteArray.size]
          have z2 : (⟨fr.toArray⟩ : ByteArray).size = fr.length := by simp [ByteArray.size]
          have z3 : (⟨to_.toArray⟩ : ByteArray).size = to_.length := by simp [ByteArray.size]
          have z4 : (⟨(x.drop fr.length).toArray⟩ : ByteArray).size = x.length - fr.length := by simp [ByteArray.size]
          have hnb : ¬ 9223372036854775807 < (⟨to_.toArray⟩ : ByteArray).size + (⟨(x.drop fr.length).toArray⟩ : ByteArray).size := by rw [z3, z4]; have := HLF.out; omega
          have hwlI : (fr.length : Int) ≤ (x.length : Int) := by omega
          have HSb := Lib.hid (hS.fr0 Fb)
          obtain ⟨d0, -, -⟩ := HSb.out.cells
          obtain ⟨ko, ao2, dn2, cap2, sv2, hrunp0, eko⟩ := HSb.out.looks pl (by omega)
          have hrunp := hrunp0 wb (Fr.refl _ _)
          obtain ⟨wc, hwc⟩ : ∃ wc, wc = wb.alloc (.cells #[.int .i64 ko, .slice ao2 dn2 cap2, .string sv2] 80) := ⟨_, rfl⟩
          have Fc : Fr [] wb wc := hwc ▸ (Fr.refl _ _).alloc _
          have gc : wc.heap[wb.heap.size]? = some (.cells #[.int .i64 ko, .slice ao2 dn2 cap2, .string sv2] 80 (0, 0)) := by rw [hwc]; exact heap_alloc_new wb _
          have gbc : wc.heap[wA.heap.size]? = some (.cells #[.int .i64 kd, .slice dao DL dcap, .string ⟨ln.toArray⟩] 80 (0, 0)) := (Fc.block _ lb (by simp)).trans gb
          have HPLx := Lib.hid hpl
          have HTX := Lib.hid ht
          have HX := Lib.hid hx
          have HMX := Lib.hid hMX
          have HEK := Lib.hid eko
          have HDL := Lib.hid hDL
          have HFbc := Lib.hid Fc
          clear hrun0 hrunp0 ht ht' hx hMX hpl eko hcl hcell e2 e3 hS hgo hxm hown hA hDL
          go_upto_region 15 with fail
          rw [← hwb]
          clear hwb hrunx hX hcat z1 z2 z3 z4 hnb hwlI cw p0
          go_upto_region 16 with fail
          rw [← hwc]
          clear hwc hrunp d0
          have FWc := Lib.hid ((HFW.out wA F6).trans0 (Fb.trans0 Fc))
          have HCL := Lib.hid (sclean_any wc pl (HG.out.fr FWc.out) (by omega))
          have HLI := Lib.hid (fun wy (F : Fr [] wc wy) => lies_any (HSb.out.fr0 (Fc.trans0 F)) pl (by omega))
          have lc : wA.heap.size < wc.heap.size := Nat.lt_of_lt_of_le lb Fc.size
          have lc2 : wb.heap.size < wc.heap.size := (Array.getElem?_eq_some_iff.1 gc).1
          have hcells : ∀ wy, Fr [] wc wy → wy.cell? ⟨wb.heap.size, 0, none⟩ = some (.int .i64 ko) ∧ wy.cell? ⟨wA.heap.size, 0, none⟩ = some (.int .i64 kd) ∧ wy.cell? ⟨wA.heap.size, 1, none⟩ = some (.slice dao DL dcap) ∧ wy.cell? ⟨wA.heap.size, 2, none⟩ = some (.string ⟨ln.toArray⟩) ∧ wy.cell? ⟨nx, 0, none⟩ = some (.map (some bx)) := fun wy F => by
            have g1 := (F.block _ lc2 (by simp)).trans gc
            have g2 := (F.block _ lc (by simp)).trans gbc
            refine ⟨?_, ?_, ?_, ?_, (HSb.out.fr0 (Fc.trans0 F)).cells.1⟩
            · rw [Go.Joins.cell_of_block g1]; rfl
            · rw [Go.Joins.cell_of_block g2]; rfl
            · rw [Go.Joins.cell_of_block g2]; rfl
            · rw [Go.Joins.cell_of_block g2]; rfl
          have HST := Lib.hid (show layStep K fr to_ N x = (if layBad N ⟨kd, dl, ln⟩ pl then none else some (if decide (kd ≠ 1) || !(N pl).isSome then updK N pl ⟨kd, dl, ln⟩ else N)) by unfold layStep; rw [HTX.out]; dsimp only; rw [HPLx.out])
          have HNO := Lib.hid (fun (hb : layBad N ⟨kd, dl, ln⟩ pl = true) (wy : World) (F : Fr [] wc wy) => (show LayR K fr to_ lo n w (.returned (.map none)) wy from ⟨ks, HKS.out, HKL.out, FWc.out.trans0 F, .inl ⟨layGo_none HX.out HGO.out (by rw [HST.out, if_pos hb]), rfl⟩⟩))
          have HYES := Lib.hid (fun (hb : layBad N ⟨kd, dl, ln⟩ pl = false) (N' : Tree) (e : (if decide (kd ≠ 1) || !(N pl).isSome then updK N pl ⟨kd, dl, ln⟩ else N) = N') => (show layGo K fr to_ ((treeL ks fr).take (k + 1)) (dropK K fr) = some N' by
            rw [List.take_add_one, HX.out]
            show layGo K fr to_ (_ ++ [x]) _ = _
            rw [layGo_snoc, HGO.out]
            show layStep K fr to_ N x = _
            rw [HST.out, hb, ← e]
            rfl))
          have HF6c := Lib.hid (show Fr [bx] w4 wc from (F6.trans0 Fb).trans0 Fc)
          have hnot : ∀ (x : Bool) (w : World), (Op.unary .not (.bool x)).run Tryz.prog w = .ok (.bool (!x)) w := fun _ _ => rfl
          have HTHc := Lib.hid (HTH.out.fr (Fb.trans0 Fc) (fun i hi => by simp at hi))
          have hunf : layBad N ⟨kd, dl, ln⟩ pl = (!cleanL foldL pl || ((N pl).isSome && decide (ko ≠ kd)) || (decide (kd = 3) && (N pl).isSome) || !liesK N pl) := by unfold layBad; rw [HEK.out]
          have HUNF := Lib.hid hunf
          clear hunf F6 Fb gb Fc gc gbc lb HTH HX HGO HTX HPLx HST lc lc2
          generalize hcg : cleanL foldL pl = cl at *
          generalize hlg : liesK N pl = li at *
          generalize hog : (N pl).isSome = ok at *
          clear hcg hlg
          cases cl with
          | false =>
            have hbad : layBad N ⟨kd, dl, ln⟩ pl = true := by rw [HUNF.out]; rfl
            go_wp2_with (first
              | (go_at_call 36; refine (HLI.out w8 F8).mono ?_; rintro e w8 ⟨rfl, rfl⟩)
              | (go_at_call 56; refine HCL.out.mono ?_; rintro e w8 ⟨rfl, F8⟩; obtain ⟨q0, q1, q2, q3, q4⟩ := hcells w8 F8))
            go_ret
            exact HNO.out hbad _ F8
          | true =>
            cases ok with
            | true =>
              by_cases hk1 : ko = kd
              rotate_left
              · have t1 : (ko != kd) = true := by simpa using hk1
                have hbad : layBad N ⟨kd, dl, ln⟩ pl = true := by rw [HUNF.out, decide_eq_true hk1]; rfl
                clear hk1
                go_wp2_with (first
                  | (go_at_call 36; refine (HLI.out w8 F8).mono ?_; rintro e w8 ⟨rfl, rfl⟩)
                  | (go_at_call 56; refine HCL.out.mono ?_; rintro e w8 ⟨rfl, F8⟩; obtain ⟨q0, q1, q2, q3, q4⟩ := hcells w8 F8))
                go_ret
                exact HNO.out hbad _ F8
              have t1 : (ko != kd) = false := by simpa using hk1
              by_cases hk3 : kd = 3
              · have t3 : (kd == 3) = true := by simpa using hk3
                have hbad : layBad N ⟨kd, dl, ln⟩ pl = true := by rw [HUNF.out, decide_eq_true hk3]; simp
                clear hk1 hk3
                go_wp2_with (first
                  | (go_at_call 36; refine (HLI.out w8 F8).mono ?_; rintro e w8 ⟨rfl, rfl⟩)
                  | (go_at_call 56; refine HCL.out.mono ?_; rintro e w8 ⟨rfl, F8⟩; obtain ⟨q0, q1, q2, q3, q4⟩ := hcells w8 F8))
                go_ret
                exact HNO.out hbad _ F8
              have t3 : (kd == 3) = false := by simpa using hk3
              cases li with
              | false =>
                have hbad : layBad N ⟨kd, dl, ln⟩ pl = true := by rw [HUNF.out]; simp
                clear hk1 hk3
                go_wp2_with (first
                  | (go_at_call 36; refine (HLI.out w8 F8).mono ?_; rintro e w8 ⟨rfl, rfl⟩)
                  | (go_at_call 56; refine HCL.out.mono ?_; rintro e w8 ⟨rfl, F8⟩; obtain ⟨q0, q1, q2, q3, q4⟩ := hcells w8 F8))
                go_ret
                exact HNO.out hbad _ F8
              | true =>
                have hgood : layBad N ⟨kd, dl, ln⟩ pl = false := by rw [HUNF.out, decide_eq_false hk3, decide_eq_false (by simpa using hk1)]; rfl
                by_cases hk4 : kd = 1
                · have t4 : (kd != 1) = false := by simpa using hk4
                  have HN := Lib.hid (HYES.out hgood N (by rw [decide_eq_false (by simpa using hk4)]; rfl))
                  clear hk1 hk3 hk4 hgood
                  go_wp2_with (first
                    | (go_at_call 36; refine (HLI.out w8 F8).mono ?_; rintro e w8 ⟨rfl, rfl⟩)
                    | (go_at_call 56; refine HCL.out.mono ?_; rintro e w8 ⟨rfl, F8⟩; obtain ⟨q0, q1, q2, q3, q4⟩ := hcells w8 F8))
                  go_roundw
                  case rel => exact ⟨k + 1, by omega, by go_num, ⟨_, _, HN.out, (HSb.out.fr0 (HFbc.out.trans0 F8)).mono (by omega)⟩, HF6c.out.trans0 F8⟩
                  case measure => simp [intOf]; omega
                · have t4 : (kd != 1) = true := by simpa using hk4
                  have HN := Lib.hid (HYES.out hgood (updK N pl ⟨kd, dl, ln⟩) (by rw [decide_eq_true hk4]; rfl))
                  clear hk1 hk3 hk4 hgood
                  go_upto_region 19 with (first
                    | (go_at_call 36; refine (HLI.out w8 F8).mono ?_; rintro e w8 ⟨rfl, rfl⟩)
                    | (go_at_call 56; refine HCL.out.mono ?_; rintro e w8 ⟨rfl, F8⟩; obtain ⟨q0, q1, q2, q3, q4⟩ := hcells w8 F8))
                  have F8d : Fr [] wc w8.drew := F8.drew
                  have S8 := Lib.hid (HSb.out.fr0 (HFbc.out.trans0 F8d))
                  obtain ⟨w9, hupd, hM9, hg9⟩ := S8.out.mp.put (by have := HNB.out; omega) pl (by omega) (.agg #[.int .i64 kd, .slice dao DL dcap, .string ⟨ln.toArray⟩])
                  have S9 := Lib.hid (S8.out.turn (fr_turned hg9) hM9 (S8.out.rd.put pl (HTHc.out.fr F8d (fun i hi => by simp at hi))))
                  have F9 := Lib.hid (fr_turned hg9)
                  clear hM9 hg9
                  go_region
                  all_goals
                    go_wp2_with fail
                    go_roundw
                    case rel => exact ⟨k + 1, by omega, by go_num, ⟨_, _, HN.out, S9.out⟩, (HF6c.out.trans0 F8d).trans F9.out (fun i hi => .inl hi)⟩
                    case measure => simp [intOf]; omega
            | false =>
              have hHN : layBad N ⟨kd, dl, ln⟩ pl = !li := by rw [HUNF.out]; simp
              cases li with
              | false =>
                have hbad : layBad N ⟨kd, dl, ln⟩ pl = true := hHN
                clear hHN
                cases t3 : kd == 3
                all_goals
                  go_wp2_with (first
                    | (go_at_call 36; refine (HLI.out w8 F8).mono ?_; rintro e w8 ⟨rfl, rfl⟩)
                    | (go_at_call 56; refine HCL.out.mono ?_; rintro e w8 ⟨rfl, F8⟩; obtain ⟨q0, q1, q2, q3, q4⟩ := hcells w8 F8))
                  go_ret
                  exact HNO.out hbad _ F8
              | true =>
                have HN := Lib.hid (HYES.out hHN (updK N pl ⟨kd, dl, ln⟩) (by simp))
                clear hHN
                rcases (show kd = 3 ∨ kd = 1 ∨ (kd ≠ 3 ∧ kd ≠ 1) by omega) with hk | hk | ⟨hk, hk'⟩
                · have t3 : (kd == 3) = true := by rw [hk]; rfl
                  have t4 : (kd != 1) = true := by rw [hk]; rfl
                  clear hk
                  go_upto_region 19 with (first
                    | (go_at_call 36; refine (HLI.out w8 F8).mono ?_; rintro e w8 ⟨rfl, rfl⟩)
                    | (go_at_call 56; refine HCL.out.mono ?_; rintro e w8 ⟨rfl, F8⟩; obtain ⟨q0, q1, q2, q3, q4⟩ := hcells w8 F8))
                  have F8d : Fr [] wc w8.drew := F8.drew
                  have S8 := Lib.hid (HSb.out.fr0 (HFbc.out.trans0 F8d))
                  obtain ⟨w9, hupd, hM9, hg9⟩ := S8.out.mp.put (by have := HNB.out; omega) pl (by omega) (.agg #[.int .i64 kd, .slice dao DL dcap, .string ⟨ln.toArray⟩])
                  have S9 := Lib.hid (S8.out.turn (fr_turned hg9) hM9 (S8.out.rd.put pl (HTHc.out.fr F8d (fun i hi => by simp at hi))))
                  have F9 := Lib.hid (fr_turned hg9)
                  clear hM9 hg9
                  go_region
                  all_goals
                    go_wp2_with fail
                    go_roundw
                    case rel => exact ⟨k + 1, by omega, by go_num, ⟨_, _, HN.out, S9.out⟩, (HF6c.out.trans0 F8d).trans F9.out (fun i hi => .inl hi)⟩
                    case measure => simp [intOf]; omega
                · have t3 : (kd == 3) = false := by rw [hk]; rfl
                  have t4 : (kd != 1) = false := by rw [hk]; rfl
                  clear hk
                  go_upto_region 19 with (first
                    | (go_at_call 36; refine (HLI.out w8 F8).mono ?_; rintro e w8 ⟨rfl, rfl⟩)
                    | (go_at_call 56; refine HCL.out.mono ?_; rintro e w8 ⟨rfl, F8⟩; obtain ⟨q0, q1, q2, q3, q4⟩ := hcells w8 F8))
                  have F8d : Fr [] wc w8.drew := F8.drew
                  have S8 := Lib.hid (HSb.out.fr0 (HFbc.out.trans0 F8d))
                  obtain ⟨w9, hupd, hM9, hg9⟩ := S8.out.mp.put (by have := HNB.out; omega) pl (by omega) (.agg #[.int .i64 kd, .slice dao DL dcap, .string ⟨ln.toArray⟩])
                  have S9 := Lib.hid (S8.out.turn (fr_turned hg9) hM9 (S8.out.rd.put pl (HTHc.out.fr F8d (fun i hi => by simp at hi))))
                  have F9 := Lib.hid (fr_turned hg9)
                  clear hM9 hg9
                  go_region
                  all_goals
                    go_wp2_with fail
                    go_roundw
                    case rel => exact ⟨k + 1, by omega, by go_num, ⟨_, _, HN.out, S9.out⟩, (HF6c.out.trans0 F8d).trans F9.out (fun i hi => .inl hi)⟩
                    case measure => simp [intOf]; omega
                · have t3 : (kd == 3) = false := by simpa using hk
                  have t4 : (kd != 1) = true := by simpa using hk'
                  clear hk hk'
                  go_upto_region 19 with (first
                    | (go_at_call 36; refine (HLI.out w8 F8).mono ?_; rintro e w8 ⟨rfl, rfl⟩)
                    | (go_at_call 56; refine HCL.out.mono ?_; rintro e w8 ⟨rfl, F8⟩; obtain ⟨q0, q1, q2, q3, q4⟩ := hcells w8 F8))
                  have F8d : Fr [] wc w8.drew := F8.drew
                  have S8 := Lib.hid (HSb.out.fr0 (HFbc.out.trans0 F8d))
                  obtain ⟨w9, hupd, hM9, hg9⟩ := S8.out.mp.put (by have := HNB.out; omega) pl (by omega) (.agg #[.int .i64 kd, .slice dao DL dcap, .string ⟨ln.toArray⟩])
                  have S9 := Lib.hid (S8.out.turn (fr_turned hg9) hM9 (S8.out.rd.put pl (HTHc.out.fr F8d (fun i hi => by simp at hi))))
                  have F9 := Lib.hid (fr_turned hg9)
                  clear hM9 hg9
                  go_region
                  all_goals
                    go_wp2_with fail
                    go_roundw
                    case rel => exact ⟨k + 1, by omega, by go_num, ⟨_, _, HN.out, S9.out⟩, (HF6c.out.trans0 F8d).trans F9.out (fun i hi => .inl hi)⟩
                    case measure => simp [intOf]; omega
        · obtain rfl : k = T := by omega
          rw [List.take_of_length_le (Nat.le_of_eq HT.out)] at hgo
          have HGN := Lib.hid hgo
          have hltI : ¬ (k : Int) < (k : Int) := by omega
          obtain ⟨d0, -, -⟩ := HS.out.cells
          clear hgo hS
          go_wp2_with fail
          go_ret
          exact ⟨ks, HKS.out, HKL.out, HFW.out _ F6, .inr ⟨N, bx, _, _, HGN.out, rfl, HWB.out, HS.out.mp, HS.out.rd⟩⟩
end Go.Proofs.YthbkcjlpelihlaaGreatDoor
