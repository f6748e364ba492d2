/- Contracts: bytes.Clone, State. No condition but that lengths fit. -/
import Derived.Test.YthbkcjlpelihlaaGreatDoorGAN
import Derived.Test.YthbkcjlpelihlaaGreatDoorGAO
import Derived.Deep.AppendLies
namespace Go.Proofs.YthbkcjlpelihlaaGreatDoor
open Go.RowKit Go.Maps

theorem ybclone_any (w : World) (ao : Option Addr) (c : Nat) (l : List UInt8) (h : Sl w (.slice ao l.length c) (bv l)) (hl : l.length ≤ 100000000) : Calls Tryz.prog 33 #[.slice ao l.length c] w fun e w' => ∃ r, e = .returned r ∧ w'.ownsRow w.heap.size 5 1 r l.length (bv l) ∧ Fr [] w w' := by
  cases ao with
  | none =>
    obtain ⟨ao', cap', e, h1, h2, h3, -⟩ := h
    rw [bv_length] at e h1
    injection e with e1 e2 e3
    have hc := h3 e1.symm
    have : l = [] := List.eq_nil_of_length_eq_zero (by omega)
    subst this
    refine (Tryz.bytes_Clone_nil _ _ w).mono ?_
    rintro e w' ⟨rfl, rfl⟩
    exact ⟨_, rfl, World.ownsRow_nil _ _ _ _, Fr.refl _ _⟩
  | some a =>
    have hm : (l.map fun b => (b.toNat : Int)).map (Value.int .u8) = bv l := by simp [bv]
    refine (Tryz.bytes_Clone_at a l.length c (l.map fun b => (b.toNat : Int)) w (by simp) (by omega) (fun i hi => ?_)).mono ?_
    · obtain ⟨x, hx⟩ := some_get l i hi
      obtain ⟨ao', cap', e, h1, h2, h3, h4⟩ := h
      rw [bv_length] at e h1
      injection e with e1 e2 e3
      obtain ⟨q1, q2, q3⟩ := h4 a e1.symm (by omega)
      obtain ⟨b, o, s⟩ := a
      dsimp only at q1 q2 q3
      subst q1
      have hadd : (⟨b, o, none⟩ : Addr).add i = ⟨b, o + i, none⟩ := by unfold Addr.add; split <;> simp_all
      rw [hadd, q3 i (by rw [bv_length]; exact hi), bv_get l i x hx]
      simp [List.getD, hx]
    · rintro e w' ⟨v', rfl, own, -, hb⟩
      rw [hm] at own
      exact ⟨_, rfl, own, Fr.of_below hb⟩

/-- 'append(v, u)' at a step of a region that draws its order. -/
theorem step_append_struct {P : Program} {t e : TypeId} {z : Value} {m bytes : Nat} (T : SlTyM P t e z m bytes) {w : World} {ops : Array Oper} {o : Oper} {a : Act} {K : Act → World → Prop} {Q : Exit → Act → World → Prop} {E : Prop} (hgd : o.guard = none) (s x : Operand)
    (ho : o.op = .call { callee := .builtin .append, args := #[s, x], argTypes := #[t, t] })
    (base : Nat) (v : Value) (n : Nat) (xs : List Value) (hs : a.eval s = v) (hown : w.ownsRow base e m v n xs)
    (g : Nat) (us : List Value) (hx : a.eval x = .slice (some ⟨g, 0, none⟩) 1 1) (hg : w.heap[g]? = some (.cells us.toArray e)) (hul : us.length = m) (h1 : us.all (·.oneCell') = true)
    (hm : n + 1 ≤ 100000000) (hby : bytes ≤ 1000) (hbase : base ≤ w.heap.size)
    (h : ∀ v' w', w'.ownsRow base e m v' (n + 1) (xs ++ us) → w.grownBy w' v.ownBlock → K (a.put o.dst v') w') :
    if Region.wanted o (yielded ops a.tmps) = true then Oper.wp P o a w K Q else E := by
  have hw : Region.wanted o (yielded ops a.tmps) = true := by simp [Region.wanted, hgd]
  rw [if_pos hw]
  obtain ⟨i, hi, hz, hsz, hb⟩ := T.info
  have hle : (n + 1) * bytes ≤ 100000000 * 1000 := Nat.mul_le_mul hm hby
  refine wp_append_own w s x t ho base e i z m bytes T.under hi hz hsz hb T.cells T.pos v n xs hs hown ⟨g, 0, none⟩ 1 1 us hx (by omega) ?_ ?_ (by unfold maxLen; omega) (by omega) hbase (fun v' w' q1 q2 _ => h v' w' q1 q2)
  · intro j u hu
    have hadd : (⟨g, 0, none⟩ : Addr).add j = ⟨g, j, none⟩ := by unfold Addr.add; split <;> simp_all
    rw [hadd, Go.Joins.cell_of_block hg]
    simpa using hu
  · intro u hu
    exact List.all_eq_true.1 h1 u hu

theorem info_th : (Tryz.prog.info? 49).map (fun i => (i.zero, i.size, i.bytes)) = some (some (.agg #[.string ⟨#[]⟩, .int .i64 0, .slice none 0 0, .string ⟨#[]⟩]), 4, 64) := by kernel_rfl
theorem sty_th : SlTyM Tryz.prog 22 49 (.agg #[.string ⟨#[]⟩, .int .i64 0, .slice none 0 0, .string ⟨#[]⟩]) 4 64 := ⟨Tryz.underlying22, by obtain ⟨i, h⟩ := info_parts info_th; exact ⟨i, h⟩, rfl, by decide⟩

/-- A thing's cells. -/
def thC (x : Th × Value) : List Value := [.string ⟨x.1.path.toArray⟩, .int .i64 x.1.tv.kind, x.2, .string ⟨x.1.tv.ln.toArray⟩]
def thF (l : List (Th × Value)) : List Value := l.flatMap thC
theorem thF_snoc (l : List (Th × Value)) (x : Th × Value) : thF (l ++ [x]) = thF l ++ thC x := by simp [thF]
theorem thF_get : ∀ (l : List (Th × Value)) (j : Nat) (x : Th × Value), l[j]? = some x → ∀ k, k < 4 → (thF l)[j * 4 + k]? = (thC x)[k]?
  | [], _, _, h, _, _ => by simp at h
  | y :: t, 0, x, h, k, hk => by
    simp only [List.getElem?_cons_zero, Option.some.injEq] at h
    subst h
    show (thC y ++ thF t)[0 * 4 + k]? = _
    rw [List.getElem?_append_left (by simp [thC]; omega), Nat.zero_mul, Nat.zero_add]
  | y :: t, j + 1, x, h, k, hk => by
    show (thC y ++ thF t)[(j + 1) * 4 + k]? = _
    rw [List.getElem?_append_right (by simp [thC]; omega), show (j + 1) * 4 + k - (thC y).length = j * 4 + k by simp [thC]; omega]
    exact thF_get t j x (by simpa using h) k hk
/-- What was built reads as things. -/
theorem ThAt.of_rows {w : World} {lo : Nat} {v : Value} {l : List (Th × Value)} (h : w.ownsRow lo 49 4 v l.length (thF l)) (hd : ∀ x ∈ l, w.ownsRow lo 5 1 x.2 x.1.tv.data.length (bv x.1.tv.data)) : ThAt w w.heap.size v (l.map (·.1)) := by
  obtain ⟨ao, cap, rfl, h1, h2⟩ := own_outS h
  refine ⟨ao, cap, by rw [List.length_map], by rw [List.length_map]; exact h1, h2, fun j t hj => ?_⟩
  rw [List.getElem?_map] at hj
  obtain ⟨x, hx, rfl⟩ := Option.map_eq_some_iff.1 hj
  have hjl : j < l.length := (List.getElem?_eq_some_iff.1 hx).1
  have ho := hd x (List.mem_of_getElem? hx)
  obtain ⟨dao, dcap, e, -, -⟩ := own_outS ho
  rcases h.2 with ⟨e0, h0⟩ | ⟨g, cap', cur, e0, hb, hg, hnc, hcm, _⟩
  · omega
  · injection e0 with e1 e2 e3
    subst e1
    have key : ∀ k, k < 4 → w.cell? ⟨g, 0 + j * 4 + k, none⟩ = (thC x)[k]? := fun k hk => by
      rw [Nat.zero_add, ← thF_get l j x hx k hk]
      exact h.cellAt (j * 4 + k) (by omega)
    refine ⟨g, 0, dao, dcap, rfl, (Array.getElem?_eq_some_iff.1 hg).1, (Array.getElem?_eq_some_iff.1 hg).1, key 0 (by omega), key 1 (by omega), by rw [key 2 (by omega), ← e]; rfl, key 3 (by omega), by rw [← e]; exact Sl.of_own ho, fun _ k hk => ?_⟩
    rw [← e] at hk
    exact (own_ltS ho k hk).2
/-- What is there, as things. -/
def thOf (K : Tree) (p : List UInt8) : Th := ⟨p, (K p).getD ⟨0, [], []⟩⟩
def listK (K : Tree) (ks : List (List UInt8)) : List Th := ks.map (thOf K)
theorem listK_paths (K : Tree) (ks : List (List UInt8)) : (listK K ks).map (·.path) = ks := by
  unfold listK
  rw [List.map_map]
  have : ((·.path) ∘ thOf K) = id := rfl
  rw [this, List.map_id]
theorem listK_look {K : Tree} {ks : List (List UInt8)} (h : KeysAre K ks) : lookL (listK K ks) = K := by
  funext p
  by_cases hp : p ∈ ks
  · obtain ⟨i, hi⟩ := List.getElem?_of_mem hp
    have h1 : (listK K ks)[i]? = some (thOf K p) := by unfold listK; rw [List.getElem?_map, hi]; rfl
    have := look_at (L := listK K ks) (by rw [listK_paths]; exact h.nd) h1
    have e : (thOf K p).path = p := rfl
    rw [e] at this
    rw [this]
    obtain ⟨t, ht⟩ := Option.isSome_iff_exists.1 ((h.mem p).1 hp)
    unfold thOf
    rw [ht]
    rfl
  · have h1 : (lookL (listK K ks) p).isSome = false := by
      cases hh : (lookL (listK K ks) p).isSome with
      | false => rfl
      | true => rw [look_mem, listK_paths] at hh; exact absurd hh hp
    have h2 : (K p).isSome = false := by
      cases hh : (K p).isSome with
      | false => rfl
      | true => exact absurd ((h.mem p).2 hh) hp
    cases e1 : lookL (listK K ks) p with
    | none =>
      cases e2 : K p with
      | none => rfl
      | some t => rw [e2] at h2; cases h2
    | some t => rw [e1] at h1; cases h1
theorem listK_may {K : Tree} {ks : List (List UInt8)} (h : KeysAre K ks) (hK : MayK K) : MayT (listK K ks) := ⟨by rw [listK_paths]; exact h.nd, by rw [listK_look h]; exact hK⟩
set_option maxRecDepth 100000 in
set_option maxHeartbeats 4000000 in
theorem state_any {w : World} {lo p b : Nat} {fv cv : Value} {n nc : Nat} {fl : Fl} {KV : List UInt8 → Option Value} {K : Tree} (h : SandIn w lo p b fv cv n nc fl KV K) (hKM : MayK K) {D : Nat} (hD : DatK K D) (hDl : D ≤ 1000000) (hn : n ≤ 100000) :
    Calls Tryz.prog 13 #[.pointer (some ⟨p, 0, none⟩)] w fun e w' => ∃ v ks, e = .returned v ∧ KeysAre K ks ∧ ks.length ≤ n ∧ ThAt w' w'.heap.size v (listK K ks) ∧ Fr [] w w' := by
  obtain ⟨c0, -, -⟩ := h.cells
  have HK := Lib.hid (keys_any w b)
  have F0 : Fr [] w (w.alloc (.cells #[.map (some b)] 78)) := (Fr.refl _ _).alloc _
  have HS := Lib.hid (sorted_any (w.alloc (.cells #[.map (some b)] 78)) w.heap.size b n KV (by rw [World.size_alloc]; omega) (by rw [Go.Joins.cell_of_block (heap_alloc_new w _)]; rfl) (h.mp.fr F0 (by simp)) (by omega))
  have HH := Lib.hid h
  have HM := Lib.hid hKM
  have HD := Lib.hid hD
  have HDl := Lib.hid hDl
  clear h hKM hD hDl
  go_enter Tryz.func13, Tryz.ntmps13
  go_wp2_with (first
    | (go_at_call 31; refine HS.out.mono ?_; rintro e w1 ⟨v, ks, rfl, own, hks, hln, F1⟩; obtain ⟨ao, cap, rfl, -⟩ := own_outS own)
    | (go_at_call 32; refine HK.out.mono ?_; rintro e w' ⟨rfl, rfl⟩))
  have HSl := Lib.hid (Sl.of_own own)
  have HKA := Lib.hid (hks.tree HH.out.rd)
  have HLN := Lib.hid hln
  have F01 : Fr [] w w1 := F0.trans0 F1
  have c1 := (F01.cell (World.block_lt_of_cell? _ _ c0) (by simp)).trans c0
  clear own hks hln F0 F1
  go_loopw [3, 14] (fun v iv wr => ∃ k : Nat, k ≤ ks.length ∧ iv = .int .i64 (k : Int) ∧ (∃ rows, rows.map (·.1) = listK K (ks.take k) ∧ wr.ownsRow w1.heap.size 49 4 v rows.length (thF rows) ∧ ∀ x ∈ rows, wr.ownsRow w1.heap.size 5 1 x.2 x.1.tv.data.length (bv x.1.tv.data)) ∧ Fr [] w1 wr) (fun _ i _ => ks.length - (intOf i).toNat)
  case atStart => exact ⟨0, Nat.zero_le _, rfl, ⟨[], rfl, World.ownsRow_nil _ _ _ _, by simp⟩, Fr.refl _ _⟩
  case round =>
    obtain ⟨k, hk, rfl, ⟨rows, hrows, own, hdat⟩, F1⟩ := hrel
    have hkb : ks.length ≤ 100000 := Nat.le_trans HLN.out hn
    by_cases hlt : k < ks.length
    · obtain ⟨x, hx⟩ := some_get ks k hlt
      obtain ⟨ao', cap', e', -, -, hcl⟩ := HSl.out.out
      rw [stv_len] at e' hcl
      obtain ⟨bb, oo, rfl, hbb, hcell⟩ := hcl k hlt
      injection e' with e1 e2 e3
      subst e1
      clear e2 e3 hcl
      have cw : wr.cell? ⟨bb, oo + k, none⟩ = some (.string ⟨x.toArray⟩) := ((F1.cell (p := ⟨bb, oo + k, none⟩) hbb (by simp)).trans (hcell k hlt)).trans (stv_get hx)
      have hltI : (k : Int) < (ks.length : Int) := by omega
      have hxm : x ∈ ks := List.mem_of_getElem? hx
      have hxl : x.length ≤ 100000 := Nat.le_trans (HKA.out.lens HM.out x hxm) (by omega)
      have HR := Lib.hid (HH.out.fr0 (F01.trans0 F1))
      have cr := (F1.cell (World.block_lt_of_cell? _ _ c1) (by simp)).trans c1
      obtain ⟨t, ht⟩ := Option.isSome_iff_exists.1 ((HKA.out.mem x).1 hxm)
      obtain ⟨kd, dao, dn, dcap, sv, hrun, ⟨t', ht', rfl, rfl, hown, rfl⟩ | ⟨hno, -⟩⟩ := HR.out.val x hxl
      rotate_left
      · rw [ht] at hno; cases hno
      obtain rfl : t = t' := by rw [ht] at ht'; injection ht'
      have hdl := (HD.out x t ht).1
      have hrunr := hrun wr (Fr.refl _ _)
      obtain ⟨wb, hwb⟩ : ∃ wb, wb = wr.alloc (.cells #[.int .i64 t.kind, .slice dao t.data.length dcap, .string ⟨t.ln.toArray⟩] 80) := ⟨_, rfl⟩
      have Fb : Fr [] wr wb := hwb ▸ (Fr.refl _ _).alloc _
      have gb : wb.heap[wr.heap.size]? = some (.cells #[.int .i64 t.kind, .slice dao t.data.length dcap, .string ⟨t.ln.toArray⟩] 80 (0, 0)) := by rw [hwb]; exact heap_alloc_new wr _
      have lb : wr.heap.size < wb.heap.size := (Array.getElem?_eq_some_iff.1 gb).1
      obtain ⟨b0, b1, b2, bz⟩ := cells3 gb
      have HC := Lib.hid (fun wx (F : Fr [] wb wx) => ybclone_any wx dao dcap t.data ((Sl.of_own hown).fr0 (Fb.trans0 F)) (by have := HDl.out; omega))
      have HX := Lib.hid (show listK K (ks.take (k + 1)) = listK K (ks.take k) ++ [⟨x, t⟩] by
        unfold listK
        rw [List.take_add_one, hx, List.map_append]
        show _ ++ [thOf K x] = _
        unfold thOf
        rw [ht]
        rfl)
      have HRO := Lib.hid hrows
      have HRL := Lib.hid (show rows.length = k by have := congrArg List.length hrows; rw [List.length_map] at this; rw [this]; unfold listK; rw [List.length_map, List.length_take]; omega)
      have OWR := Lib.hid own
      have HDA := Lib.hid hdat
      obtain ⟨vo, vc, rfl, -⟩ := own_outS own
      obtain ⟨DL, hDL⟩ : ∃ DL, t.data.length = DL := ⟨_, rfl⟩
      have HDL := Lib.hid hDL
      rw [hDL] at hrunr HC hwb gb b1
      clear hdl hrun hown ht ht' hx hDL own hdat hrows
      go_upto_region 6 with fail
      rw [← hwb]
      clear hwb hrunr
      have FA : Fr [] w1 wb := F1.trans0 Fb
      go_region_law (first
        | (have hq := OWD; refine step_append_struct sty_th rfl _ _ (by rfl) w1.heap.size _ _ _ (by rfl) (own_frB OWR.out (((Fb.trans0 F2)).alloc _) (by simp)) w2.heap.size [.string ⟨x.toArray⟩, .int .i64 t.kind, .slice ro DL rc, .string ⟨t.ln.toArray⟩] (by rfl) (heap_alloc_new w2 _) rfl rfl (by have := HRL.out; omega) (by decide) (by have := (FA.trans0 F2).size; simp; omega) ?_; intro v3 w3 own3 g3; have F3 : Fr (Value.slice vo rows.length vc).ownBlock.toList wr w3 := (((Fr.mono (Fb.trans0 F2) (by simp)).alloc _).grown g3 (fun j hj => .inl (by simp [hj]))); have FW3 : Fr [] w1 w3 := F1.trans F3 (fun i hi => .inr (own_ltS OWR.out i (by simpa using hi)).1); obtain ⟨vo3, vc3, rfl, -⟩ := own_outS own3)
        | (go_simp; go_at_call 33; refine (HC.out _ ((Fr.refl _ wb).drew)).mono ?_; rintro e w2 ⟨r, rfl, own2, FX⟩; have OWD := Lib.hid own2; have F2 : Fr [] wb w2 := ((Fr.refl _ wb).drew).trans0 FX; obtain ⟨ro, rc, rfl, -⟩ := own_outS own2; obtain ⟨d0, d1, d2, dz⟩ := cells3 ((F2.block _ lb (by simp)).trans gb); clear own2))
      all_goals
        have HDN := Lib.hid (show w3.ownsRow w1.heap.size 5 1 (.slice ro DL rc) DL (bv t.data) by
          refine own_frT (own_mono (own_frB OWD.out ((Fr.refl [] w2).alloc (.cells #[.string ⟨x.toArray⟩, .int .i64 t.kind, .slice ro DL rc, .string ⟨t.ln.toArray⟩] 49)) (by simp)) (show w1.heap.size ≤ wb.drew.heap.size from FA.size)) ((Fr.refl (Value.slice vo rows.length vc).ownBlock.toList _).grown g3 (fun j hj => .inl (by simp [hj]))) (fun i hi => .inr ?_)
          exact own_type (own_frB OWR.out ((Fb.trans0 F2).alloc _) (by simp)) i (by simpa using hi) _ (by decide))
        have HDO := Lib.hid (show ∀ y ∈ rows, w3.ownsRow w1.heap.size 5 1 y.2 y.1.tv.data.length (bv y.1.tv.data) from fun y hy => own_frT (HDA.out y hy) F3 (fun i hi => .inr (own_type OWR.out i (by simpa using hi) _ (by decide))))
        go_wp2_with fail
        go_roundw
        case rel => exact ⟨k + 1, by omega, by go_num, ⟨rows ++ [(⟨x, t⟩, .slice ro DL rc)], by rw [List.map_append, HX.out, HRO.out]; rfl, by rw [thF_snoc, List.length_append]; exact own3, fun y hy => by
          rcases List.mem_append.1 hy with hy | hy
          · exact HDO.out y hy
          · simp at hy
            subst hy
            show w3.ownsRow _ _ 1 (.slice ro DL rc) t.data.length (bv t.data)
            rw [HDL.out]
            exact HDN.out⟩, FW3⟩
        case measure => simp [intOf]; omega
    · obtain rfl : k = ks.length := by omega
      rw [List.take_length] at hrows
      have HT := Lib.hid (show ThAt wr wr.heap.size _ (listK K ks) by rw [← hrows]; exact ThAt.of_rows own hdat)
      have hltI : ¬ (ks.length : Int) < (ks.length : Int) := by omega
      clear hrows own hdat
      go_wp2_with fail
      go_ret
      exact ⟨_, rfl, ks, HKA.out, HLN.out, HT.out, F01.trans0 F1⟩
end Go.Proofs.YthbkcjlpelihlaaGreatDoor
