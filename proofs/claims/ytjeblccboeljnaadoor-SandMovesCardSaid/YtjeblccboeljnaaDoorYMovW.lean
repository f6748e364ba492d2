/- SandMoves: the walk. No condition. -/
import Derived.Test.YtjeblccboeljnaaDoorYMovP
import Derived.Test.YtjeblccboeljnaaDoorYOpen
namespace Go.Proofs.YtjeblccboeljnaaDoor
open Go.RowKit Go.Maps

/-- The cells of a row of things that came in. -/
theorem things_rows {w : World} {hi N cap : Nat} {ao : Option Addr} {L : List Th} (h : ThAt w hi (.slice ao N cap) L) (hN : L.length = N) :
    ∃ rows : List (Th × Value), rows.map (·.1) = L ∧ (∀ x ∈ rows, ∃ dao dcap, x.2 = .slice dao x.1.tv.data.length dcap ∧ Sl w x.2 (bv x.1.tv.data) ∧ (0 < dcap → ∀ k, (Value.slice dao x.1.tv.data.length dcap).ownBlock = some k → k < hi)) ∧
      (N = 0 ∨ ∃ b o, ao = some ⟨b, o, none⟩ ∧ b < w.heap.size ∧ ∀ j u, (thF rows)[j]? = some u → w.cell? ⟨b, o + j, none⟩ = some u) := by
  have each : ∀ i, i < L.length → ∃ x : Th × Value, L[i]? = some x.1 ∧ (∃ dao dcap, x.2 = .slice dao x.1.tv.data.length dcap ∧ Sl w x.2 (bv x.1.tv.data) ∧ (0 < dcap → ∀ k, (Value.slice dao x.1.tv.data.length dcap).ownBlock = some k → k < hi)) ∧
      ∃ b o, ao = some ⟨b, o, none⟩ ∧ b < w.heap.size ∧ ∀ k, k < 4 → w.cell? ⟨b, o + i * 4 + k, none⟩ = (thC x)[k]? := fun i hi => by
    obtain ⟨t, ht⟩ := some_get L i hi
    obtain ⟨b, o, da, dc, rfl, hb, -, c0, c1, c2, c3, hs, hk⟩ := h.get ht
    refine ⟨(t, .slice da t.tv.data.length dc), ht, ⟨da, dc, rfl, hs, hk⟩, b, o, rfl, hb, fun k hk4 => ?_⟩
    match k, hk4 with
    | 0, _ => exact c0
    | 1, _ => exact c1
    | 2, _ => exact c2
    | 3, _ => exact c3
  haveI : Inhabited (Th × Value) := ⟨(⟨[], ⟨0, [], []⟩⟩, .bool false)⟩
  obtain ⟨rows, hl, hp⟩ := rows_list each
  have hmap : rows.map (·.1) = L := by
    apply List.ext_getElem?
    intro i
    rw [List.getElem?_map]
    by_cases hi : i < L.length
    · obtain ⟨x, hx⟩ := some_get rows i (by omega)
      rw [hx, (hp i x hx).1]
      rfl
    · rw [List.getElem?_eq_none (by omega), List.getElem?_eq_none (by omega)]
      rfl
  refine ⟨rows, hmap, fun x hx => ?_, ?_⟩
  · obtain ⟨i, hi⟩ := List.getElem?_of_mem hx
    exact (hp i x hi).2.1
  · by_cases h0 : N = 0
    · exact .inl h0
    · right
      obtain ⟨x0, hx0⟩ := some_get rows 0 (by omega)
      obtain ⟨-, -, b, o, rfl, hb, -⟩ := hp 0 x0 hx0
      refine ⟨b, o, rfl, hb, fun j u hu => ?_⟩
      have hlen : (thF rows).length = rows.length * 4 := by
        clear hp hl hmap hx0 hu
        induction rows with
        | nil => rfl
        | cons a r ih => show (thC a ++ thF r).length = _; rw [List.length_append, ih, List.length_cons]; show 4 + _ = _; omega
      have hj : j < rows.length * 4 := by rw [← hlen]; exact (List.getElem?_eq_some_iff.1 hu).1
      obtain ⟨x, hx⟩ := some_get rows (j / 4) (by omega)
      obtain ⟨-, -, b', o', e, -, hc⟩ := hp (j / 4) x hx
      injection e with e
      injection e with e1 e2 e3
      subst e1 e2
      have hd : j / 4 * 4 + j % 4 = j := by omega
      have h1 := hc (j % 4) (by omega)
      rw [Nat.add_assoc, hd] at h1
      rw [h1, ← thF_get rows (j / 4) x hx (j % 4) (by omega), hd]
      exact hu
/-- 'append(v, u...)' of rows of things. -/
theorem wpList_append_rows {w : World} {ops : Array Oper} {rest : List Oper} {o : Oper} {a : Act} {Q : Exit → Act → World → Prop} (hgd : o.guard = none) (s x : Operand)
    (ho : o.op = .call { callee := .builtin .append, args := #[s, x], argTypes := #[22, 22] })
    (base : Nat) (v : Value) (n : Nat) (xs : List Value) (hs : a.eval s = v) (hown : w.ownsRow base 36 4 v n xs)
    (ao : Option Addr) (m c : Nat) (hx : a.eval x = .slice ao m c) (news : List Value) (hl : news.length = m * 4) (hc : m = 0 ∨ ∃ b of, ao = some ⟨b, of, none⟩ ∧ ∀ j u, news[j]? = some u → w.cell? ⟨b, of + j, none⟩ = some u) (hz : ao = none → c = 0) (h1 : ∀ u ∈ news, u.oneCell' = true)
    (hm : n + m ≤ 100000) (hbase : base ≤ w.heap.size)
    (h : ∀ v' w', w'.ownsRow base 36 4 v' (n + m) (xs ++ news) → w.grownBy w' v.ownBlock → wpList Tryd.prog ops Q rest (a.put o.dst v') w') : wpList Tryd.prog ops Q (o :: rest) a w := by
  obtain ⟨i, hi, hz0, hsz, hby⟩ := sty_th.info
  cases ao with
  | none =>
    obtain rfl : m = 0 := by
      rcases hc with hc | ⟨b, of, e, -⟩
      · exact hc
      · cases e
    have hys : news = [] := List.eq_nil_of_length_eq_zero (by omega)
    subst hys
    obtain rfl := hz rfl
    exact wpList_append_own_none hgd s x _ ho base _ i 4 sty_th.under (by simpa using hi) v n xs hs hown hx (h v w (by rw [List.append_nil]; exact hown) (World.grownBy.refl w _))
  | some ad =>
    refine wpList_append_own w hgd s x _ ho base _ i _ 4 64 sty_th.under hi hz0 hsz hby sty_th.cells (by decide) v n xs hs hown ad m c news hx hl (fun j u hu => ?_) h1 (by unfold maxLen; omega) (by omega) hbase (fun v' w' q1 q2 _ => h v' w' q1 q2)
    rcases hc with rfl | ⟨b, of, e, hc⟩
    · have : news = [] := List.eq_nil_of_length_eq_zero (by omega)
      subst this
      simp at hu
    · obtain rfl := Option.some.inj e
      have hadd : (⟨b, of, none⟩ : Addr).add j = ⟨b, of + j, none⟩ := by unfold Addr.add; split <;> simp_all
      rw [hadd]
      exact hc j u hu
/-- What was built reads as things; the data lie anywhere. -/
theorem ThAt.of_rowsS {w : World} {lo : Nat} {v : Value} {l : List (Th × Value)} (h : w.ownsRow lo 36 4 v l.length (thF l)) (hd : ∀ x ∈ l, ∃ dao dcap, x.2 = .slice dao x.1.tv.data.length dcap ∧ Sl w x.2 (bv x.1.tv.data)) : ThAt w w.heap.size v (l.map (·.1)) := by
  obtain ⟨ao, cap, rfl, h1, h2⟩ := own_outS h
  refine ⟨ao, cap, by rw [List.length_map], by rw [List.length_map]; exact h1, h2, fun j t hj => ?_⟩
  rw [List.getElem?_map] at hj
  obtain ⟨x, hx, rfl⟩ := Option.map_eq_some_iff.1 hj
  have hjl : j < l.length := (List.getElem?_eq_some_iff.1 hx).1
  obtain ⟨dao, dcap, e, hs⟩ := hd x (List.mem_of_getElem? hx)
  rcases h.2 with ⟨e0, h0⟩ | ⟨g, cap', cur, e0, hb, hg, hnc, hcm, _⟩
  · omega
  · injection e0 with e1 e2 e3
    subst e1
    have key : ∀ k, k < 4 → w.cell? ⟨g, 0 + j * 4 + k, none⟩ = (thC x)[k]? := fun k hk => by
      rw [Nat.zero_add, ← thF_get l j x hx k hk]
      exact h.cellAt (j * 4 + k) (by omega)
    rw [e] at hs
    exact ⟨g, 0, dao, dcap, rfl, (Array.getElem?_eq_some_iff.1 hg).1, (Array.getElem?_eq_some_iff.1 hg).1, key 0 (by omega), key 1 (by omega), by rw [key 2 (by omega), ← e]; rfl, key 3 (by omega), hs, hs.room⟩
theorem thF_one (l : List (Th × Value)) : ∀ u ∈ thF l, (∀ x ∈ l, ∃ da n dc, x.2 = .slice da n dc) → u.oneCell' = true := by
  intro u hu hs
  unfold thF at hu
  obtain ⟨x, hx, hu⟩ := List.mem_flatMap.1 hu
  obtain ⟨da, n, dc, e⟩ := hs x hx
  unfold thC at hu
  rw [e] at hu
  simp at hu
  rcases hu with rfl | rfl | rfl | rfl <;> rfl
theorem thF_len (rows : List (Th × Value)) : (thF rows).length = rows.length * 4 := by
  induction rows with
  | nil => rfl
  | cons a r ih => show (thC a ++ thF r).length = _; rw [List.length_append, ih, List.length_cons]; show 4 + _ = _; omega
/-- The list that is wanted says what is there. -/
theorem want_look {L : List Th} (hn : (L.map (·.path)).Nodup) {p q : List UInt8} {s t : Tv} (hp : lookL L p = none) (hq : lookL L q = none) (hpq : q ≠ p) :
    lookL (L ++ [(⟨p, s⟩ : Th), (⟨q, t⟩ : Th)]) = updK (updK (lookL L) p s) q t ∧ ((L ++ [(⟨p, s⟩ : Th), (⟨q, t⟩ : Th)]).map (·.path)).Nodup := by
  have no : ∀ {r}, lookL L r = none → r ∉ L.map (·.path) := fun {r} h hm => by
    rw [← look_mem] at hm
    rw [h] at hm
    cases hm
  refine ⟨?_, ?_⟩
  · funext r
    unfold updK lookL
    rw [List.find?_append]
    unfold lookL at hp hq
    rw [Option.map_eq_none_iff] at hp hq
    by_cases h1 : r = q
    · subst h1
      rw [hq, if_pos rfl]
      have : (p == r) = false := by simpa using fun e => hpq e.symm
      simp [this]
    · rw [if_neg h1]
      by_cases h2 : r = p
      · subst h2
        rw [hp, if_pos rfl]
        simp
      · rw [if_neg h2]
        have e1 : (p == r) = false := by simpa using fun e => h2 e.symm
        have e2 : (q == r) = false := by simpa using fun e => h1 e.symm
        cases L.find? (fun t => t.path == r) with
        | some x => simp
        | none => simp [e1, e2]
  · rw [List.map_append, List.nodup_append]
    refine ⟨hn, by simp; exact fun e => hpq e.symm, fun a ha b hb => ?_⟩
    simp at hb
    rcases hb with rfl | rfl
    · exact fun e => no hp (e ▸ ha)
    · exact fun e => no hq (e ▸ ha)
theorem own_empty4 (w : World) : (w.alloc (.cells #[] 36)).ownsRow w.heap.size 36 4 (.slice (some ⟨w.heap.size, 0, none⟩) 0 0) 0 [] :=
  ⟨rfl, .inr ⟨w.heap.size, 0, #[], rfl, Nat.le_refl _, heap_alloc_new w _, Nat.le_refl _, by simp [maxLen], rfl, rfl⟩⟩
theorem rat_or {w : World} {hi : Nat} {v : Value} {L : List Th} (h : ThAt w hi v L) (hL : L.length ≤ 1000000) (q : List UInt8) :
    Calls Tryd.prog 7 #[v, .string ⟨q.toArray⟩] w fun e w' => ((∃ i : Nat, e = .returned (.int .i64 (i : Int))) ∨ (e = .returned (.int .i64 (-1)) ∧ lookL L q = none)) ∧ w' = w := by
  refine (rat_any h hL q).mono ?_
  rintro e w' ⟨rfl, rfl⟩
  rcases atL_cases L q with ⟨i, s, -, -, e1, -⟩ | ⟨e1, e2⟩
  · exact ⟨.inl ⟨i, by rw [e1]⟩, rfl⟩
  · exact ⟨.inr ⟨by rw [e1], e2⟩, rfl⟩
set_option maxRecDepth 100000 in
set_option maxHeartbeats 8000000 in
theorem walk_SandMoves (W : World) (v : Value) (L : List Th) (t : List UInt8) (u : Value) (dt : List UInt8) (hG : Gl W) (h : ThAt W W.heap.size v L) (hz : ∀ n c, v = .slice none n c → c = 0) (g : Sl W u (bv dt)) :
    Calls Tryd.prog 3 #[v, .string ⟨t.toArray⟩, u] W fun e w' => e = .returned (.bool true) ∧ Fr [] W w' := by
  obtain ⟨ao, cap, rfl, -, -⟩ := h.out
  obtain ⟨bo, bap, rfl, -, -⟩ := g.out
  rw [bv_length] at g ⊢
  have HZC := Lib.hid (show ao = none → cap = 0 from fun e => hz _ _ (by rw [e]))
  clear hz
  have HAW := Lib.hid (awake_any W hG)
  have HT := Lib.hid h
  have HU := Lib.hid g
  have HG := Lib.hid hG
  have hnot : ∀ (x : Bool) (w : World), (Op.unary .not (.bool x)).run Tryd.prog w = .ok (.bool (!x)) w := fun _ _ => rfl
  have z1 : (⟨t.toArray⟩ : ByteArray).size = t.length := by simp [ByteArray.size]
  have x1 : (⟨t.toArray⟩ : ByteArray) ++ ⟨#[47, 111, 110, 101]⟩ = ⟨(t ++ oneS).toArray⟩ := cat_ba t oneS
  have x2 : (⟨t.toArray⟩ : ByteArray) ++ ⟨#[47, 111, 110, 101, 47, 120]⟩ = ⟨(t ++ onxS).toArray⟩ := cat_ba t onxS
  have zz1 : (⟨#[47, 111, 110, 101]⟩ : ByteArray).size = 4 := rfl
  have zz2 : (⟨#[47, 111, 110, 101, 47, 120]⟩ : ByteArray).size = 6 := rfl
  obtain ⟨N, hN⟩ : ∃ N, L.length = N := ⟨_, rfl⟩
  obtain ⟨M, hM⟩ : ∃ M, dt.length = M := ⟨_, rfl⟩
  have HN := Lib.hid hN
  have HM := Lib.hid hM
  rw [hN] at HT ⊢
  rw [hM] at HU ⊢
  clear h g hG hN hM
  go_enter Tryd.func3, Tryd.ntmps3
  go_upto_region 3 with (go_at_call 4; refine HAW.out.mono ?_; rintro e w1 ⟨rfl, F1⟩)
  have inn : ∀ i : Nat, (0 : Int) ≤ (i : Int) := fun i => by omega
  by_cases h600 : t.length ≤ 600
  rotate_left
  · have hI : (600 : Int) < (t.length : Int) := by omega
    clear h600
    go_wp2_with (first
      | (have hq := HSL; go_at_call 6; refine (rmay_any (HT.out.fr0 F1) (by have := HSL.out.1; omega) (fun t ht => Nat.le_trans (HSL.out.2 t ht).1 (by decide))).mono ?_; rintro e w2 ⟨r, rfl, hr, F2⟩; cases r)
      | (go_at_call 5; refine (rsmall_any (HT.out.fr0 F1)).mono ?_; rintro e w1 ⟨r, rfl, hr, rfl⟩; cases r; rotate_left; have HSL := Lib.hid (hr rfl); rotate_left))
    · go_ret
      exact ⟨rfl, F1⟩
    · go_ret
      exact ⟨rfl, F1.trans0 F2⟩
    · go_ret
      exact ⟨rfl, F1.trans0 F2⟩
  have hI : ¬ (600 : Int) < (t.length : Int) := by omega
  have o1 : ¬ 9223372036854775807 < (⟨t.toArray⟩ : ByteArray).size + (⟨#[47, 111, 110, 101]⟩ : ByteArray).size := by rw [z1, zz1]; omega
  have o2 : ¬ 9223372036854775807 < (⟨t.toArray⟩ : ByteArray).size + (⟨#[47, 111, 110, 101, 47, 120]⟩ : ByteArray).size := by rw [z1, zz2]; omega
  go_upto_region 5 with (first
    | (have hq := hnw; go_at_call 7; refine (rat_or ((HT.out.fr0 F1).fr0 F2) (by have := HSL.out.1; omega) (t ++ oneS)).mono ?_; rintro e w2 ⟨⟨i2, rfl⟩ | ⟨rfl, hone⟩, rfl⟩)
    | (have hq := HMT; go_at_call 7; refine (rat_or ((HT.out.fr0 F1).fr0 F2) (by have := HSL.out.1; omega) nw).mono ?_; rintro e w2 ⟨⟨i1, rfl⟩ | ⟨rfl, hnw⟩, rfl⟩)
    | (have hq := HSL; go_at_call 6; refine (rmay_any (HT.out.fr0 F1) (by have := HSL.out.1; omega) (fun t ht => Nat.le_trans (HSL.out.2 t ht).1 (by decide))).mono ?_; rintro e w2 ⟨r, rfl, hr, F2⟩; cases r; rotate_left; have HMT := Lib.hid (hr rfl); rotate_left)
    | (go_at_call 5; refine (rsmall_any (HT.out.fr0 F1)).mono ?_; rintro e w1 ⟨r, rfl, hr, rfl⟩; cases r; rotate_left; have HSL := Lib.hid (hr rfl); rotate_left))
  · go_ret
    exact ⟨rfl, F1⟩
  · go_ret
    exact ⟨rfl, F1.trans0 F2⟩
  · go_ret
    exact ⟨rfl, F1.trans0 F2⟩
  · go_ret
    exact ⟨rfl, F1.trans0 F2⟩
  rotate_left
  · go_ret
    exact ⟨rfl, F1.trans0 F2⟩
  have hM1 : M ≤ 1000 := by omega
  have FW := Lib.hid (F1.trans0 F2)
  have HG2 := Lib.hid (HG.out.fr FW.out)
  have HLO := Lib.hid HG2.out.sz
  have HNW := Lib.hid hnw
  have HONE := Lib.hid hone
  have HM1 := Lib.hid hM1
  have HTL := Lib.hid h600
  have HN60 := Lib.hid (show N ≤ 60 by have := HSL.out.1; rw [HN.out] at this; exact this)
  have HKM := Lib.hid HMT.out.2
  have K1 := Lib.hid (show MayK (mv1 (lookL L)) by have := mk_may HKM.out nw (kd := 1) (.inl rfl); rw [mv_a1 HNW.out] at this; exact this)
  have K2 := Lib.hid (show MayK (mv2 (lookL L)) by have := mk_may K1.out nwo (kd := 1) (.inl rfl); rw [mv_a2 HKM.out HNW.out] at this; exact this)
  have K3 := Lib.hid (show MayK (mv3 (lookL L)) by have := mk_may K2.out nwx (kd := 2) (.inr rfl); rw [mv_a3 HKM.out HNW.out] at this; exact this)
  have K4 := Lib.hid (show MayK (mv4 (lookL L) dt) by have := app_may K3.out nwx dt; rw [mv_a4] at this; exact this)
  have HNEW := new_any (HT.out.fr0 FW.out) HMT.out (by have := HSL.out.1; omega) (dat_of HSL.out) (by decide) HG2.out none 0 [] (Sl.nil w2) (fun a h => by cases h) (by decide)
  rw [HN.out] at HNEW
  have HNW2 := Lib.hid HNEW
  have HDT := Lib.hid (fun (w6 : World) (L6 : Lo w2.heap.size w2 w6) => (show Sl w6 (.slice bo M bap) (bv dt) from by
    obtain ⟨S, F, hS⟩ := L6
    exact (HU.out.fr0 FW.out).frC F (fun h0 k e hm => by have h1 := HU.out.room h0 k e; have := hS k hm; have := FW.out.size; omega)))
  clear hnw hone F1 F2 hM1 HNEW h600
  go_upto_region 8 with (first
    | (have hq := S3; go_at_call 11; have hap := append_any S3.out (HG2.out.lo L3.out HLO.out) nwx (by decide) (by have := HN3.out; omega) (by decide) rfl bo bap dt (by have := HDT.out _ L3.out; rw [← HM.out] at this; exact this) (by have := HM1.out; rw [HM.out]; omega) (fun u hu => by unfold mv3 updK at hu; rw [if_pos rfl] at hu; injection hu with hu; subst hu; decide); rw [HM.out] at hap; refine hap.mono ?_; clear hap; rw [mv_a4]; rintro e w7 ⟨n4, rfl, hS4, hn4, hL4⟩; have S4 := Lib.hid hS4; have L4 := Lib.hid (L3.out.trans hL4); have HN4 := Lib.hid (show n4 ≤ 80 by have := HN3.out; omega); clear hS4 hn4 hL4)
    | (have hq := S2; go_at_call 10; refine (create_any S2.out (HG2.out.lo L2.out HLO.out) nwx (by decide) (by have := HN2.out; omega) (by decide) rfl).mono ?_; rintro e w6 ⟨n3, he, hS3, hn3, hL3⟩; rw [mv_a3 HKM.out HNW.out] at he hS3; obtain rfl := he; have S3 := Lib.hid hS3; have L3 := Lib.hid (L2.out.trans hL3); have HN3 := Lib.hid (show n3 ≤ 70 by have := HN2.out; omega); clear hS3 hn3 hL3)
    | (have hq := S1; go_at_call 9; refine (mkdir_any S1.out (HG2.out.lo L1.out HLO.out) nwo (by decide) (by have := HN1.out; omega) (by decide) rfl).mono ?_; rintro e w5 ⟨n2, he, hS2, hn2, hL2⟩; rw [mv_a2 HKM.out HNW.out] at he hS2; obtain rfl := he; have S2 := Lib.hid hS2; have L2 := Lib.hid (L1.out.trans hL2); have HN2 := Lib.hid (show n2 ≤ 64 by have := HN1.out; omega); clear hS2 hn2 hL2)
    | (have hq := S0; go_at_call 9; refine (mkdir_any S0.out (HG2.out.fr F3) nw (by decide) (by have := HN60.out; omega) (by decide) rfl).mono ?_; rintro e w4 ⟨n1, he, hS1, hn1, hL1⟩; rw [mv_a1 HNW.out] at he hS1; obtain rfl := he; have S1 := Lib.hid hS1; have L1 := Lib.hid ((Lo.of0 F3).trans hL1); have HN1 := Lib.hid (show n1 ≤ 62 by have := HN60.out; omega); clear hS1 hn1 hL1)
    | (go_at_call 8; refine HNW2.out.mono ?_; rintro e w3 ⟨p, rfl, hS0, F3⟩; have S0 := Lib.hid hS0; clear hS0))
  have HPB := Lib.hid (publish_any S4.out K4.out (HG2.out.lo L4.out HLO.out) nw t (by decide) (by have := HTL.out; omega) (by have := HN4.out; omega) (by decide) rfl)
  have HTW := Lib.hid (fun (w6 : World) (L6 : Lo w2.heap.size w2 w6) => (HT.out.fr0 FW.out).lo L6 FW.out.size)
  have HNL := Lib.hid (show L.length ≤ 1000000 by have := HSL.out.1; omega)
  have HCX := Lib.hid (fun w6 => rc25_any w6 (t ++ onxS) (by rw [List.length_append]; have := HTL.out; have : onxS.length = 6 := rfl; omega))
  have HCT := Lib.hid (fun w6 => rc25_any w6 t (by have := HTL.out; omega))
  by_cases hgd : kindK (lookL L) t = 1 ∧ cleanL foldL (t ++ onxS) = true
  rotate_left
  · have HB := Lib.hid (fun ks (hks : KeysAre (mv4 (lookL L) dt) ks) => mv_bad HKM.out HNW.out hks hgd)
    by_cases hk : kindK (lookL L) t = 1
    · have hx : cleanL foldL (t ++ onxS) = false := by
        cases hx : cleanL foldL (t ++ onxS) with
        | false => rfl
        | true => exact absurd ⟨hk, hx⟩ hgd
      have hct : cleanL foldL t = true := by
        obtain ⟨tt, ht, -⟩ := kindK_some hk (by decide)
        exact (HKM.out t tt ht).1
      rw [hx] at HCX
      have HK := Lib.hid hk
      have HC := Lib.hid (fun ks (hks : KeysAre (mv4 (lookL L) dt) ks) => (show (publishK (mv4 (lookL L) dt) nw t ks).1 = 202 from by
        rcases HB.out ks hks with hb | ⟨-, hb⟩
        · exact hb
        · rw [hct] at hb
          cases hb))
      clear hgd hk hx hct
      go_wp2_with (first
        | (have hq := S5; go_at_call 14; refine (HCX.out w8).mono ?_; rintro e w9 ⟨rfl, F9⟩)
        | (have hq := S5; go_at_call 13; refine (rkind_any (HTW.out w8 L5.out) HNL.out t).mono ?_; rw [HK.out]; rintro e w8 ⟨rfl, rfl⟩)
        | (go_at_call 12; refine HPB.out.mono ?_; rintro e w8 ⟨ks, hks, -, he, hS5, hL5⟩; rw [HC.out ks hks] at he; obtain rfl := he; have S5 := Lib.hid hS5; have L5 := Lib.hid (L4.out.trans hL5); clear hS5 hL5 hks))
      go_ret
      exact ⟨rfl, (Lo.fr FW.out L5.out).trans0 F9⟩
    · have hkb : (kindK (lookL L) t != 1) = true := by simpa using hk
      obtain ⟨kk, hkk⟩ : ∃ kk, kindK (lookL L) t = kk := ⟨_, rfl⟩
      rw [hkk] at hkb
      have HK := Lib.hid hkk
      clear hgd hk hkk
      go_upto_region 10 with (first
        | (have hq := S5; go_at_call 13; refine (rkind_any (HTW.out w8 L5.out) HNL.out t).mono ?_; rw [HK.out]; rintro e w8 ⟨rfl, rfl⟩)
        | (go_at_call 12; refine HPB.out.mono ?_; rintro e w8 ⟨ks, hks, -, he, hS5, hL5⟩; have S5 := Lib.hid hS5; have L5 := Lib.hid (L4.out.trans hL5); obtain ⟨c, hc⟩ : ∃ c, (publishK (mv4 (lookL L) dt) nw t ks).1 = c := ⟨_, rfl⟩; rw [hc] at he; obtain rfl := he; have HBC := Lib.hid (show c = 202 ∨ (c = 301 ∧ cleanL foldL t = false) from hc ▸ HB.out ks hks); clear hS5 hL5 hks hc))
      rcases HBC.out with hc | ⟨hc, hct⟩
      · subst hc
        go_wp2_with fail
        go_ret
        exact ⟨rfl, Lo.fr FW.out L5.out⟩
      · subst hc
        rw [hct] at HCT
        clear hct
        go_wp2_with (go_at_call 14; refine (HCT.out w8).mono ?_; rintro e w9 ⟨rfl, F9⟩)
        go_ret
        exact ⟨rfl, (Lo.fr FW.out L5.out).trans0 F9⟩
  · obtain ⟨hk, hx⟩ := hgd
    have HGD := Lib.hid (fun ks (hks : KeysAre (mv4 (lookL L) dt) ks) => mv_good HKM.out HNW.out hks hk hx HONE.out)
    have HK := Lib.hid hk
    rw [hx] at HCX
    have HXC := Lib.hid hx
    clear hk hx
    go_upto_region 11 with (first
      | (have hq := S5; go_at_call 14; refine (HCX.out w8).mono ?_; rintro e w9 ⟨rfl, F9⟩)
      | (have hq := S5; go_at_call 13; refine (rkind_any (HTW.out w8 L5.out) HNL.out t).mono ?_; rw [HK.out]; rintro e w8 ⟨rfl, rfl⟩)
      | (go_at_call 12; refine HPB.out.mono ?_; rintro e w8 ⟨ks, hks, -, he, hS5, hL5⟩; have HM5 := pub_may K4.out nw t ks; rw [HGD.out ks hks] at he hS5 HM5; obtain rfl := he; have S5 := Lib.hid hS5; have M5 := Lib.hid HM5; have L5 := Lib.hid (L4.out.trans hL5); clear hS5 hL5 hks HM5))
    obtain ⟨K5, hK5⟩ : ∃ K5, updK (updK (lookL L) (t ++ oneS) ⟨1, [], []⟩) (t ++ onxS) ⟨2, dt, []⟩ = K5 := ⟨_, rfl⟩
    have D5 := Lib.hid (show DatK K5 5000 by rw [← hK5]; exact ((dat_of HSL.out).upd _ ⟨by decide, by decide⟩).upd _ ⟨by show dt.length ≤ _; rw [HM.out]; have := HM1.out; omega, Nat.zero_le _⟩)
    have hxn : lookL L (t ++ onxS) = none := by
      refine not_below HKM.out HONE.out _ _ (Nat.le_refl _) (within_iff.2 ⟨?_, ?_⟩)
      · show (t ++ (oneS ++ [47, 120])).take (t ++ oneS).length = _
        rw [← List.append_assoc, List.take_left]
      · show (t ++ (oneS ++ [47, 120]))[(t ++ oneS).length]? = some 47
        rw [← List.append_assoc, List.getElem?_append_right (Nat.le_refl _), Nat.sub_self]
        rfl
    obtain ⟨wl1, wl2⟩ := want_look HMT.out.1 (s := ⟨1, [], []⟩) (t := ⟨2, dt, []⟩) HONE.out hxn (fun e => by have := congrArg List.length e; simp [onxS, oneS] at this)
    rw [hK5] at wl1 S5 M5
    have WL := Lib.hid (And.intro wl1 wl2)
    have L9 := Lib.hid (L5.out.trans (Lo.of0 F9))
    have S9 := Lib.hid (S5.out.fr0 F9)
    obtain ⟨rows, hrows, hdat, hcel⟩ := things_rows (HTW.out w9 L9.out) HN.out
    have HRL := Lib.hid (show rows.length = N by rw [← HN.out, ← hrows, List.length_map])
    have HRO := Lib.hid hrows
    have HDA := Lib.hid hdat
    have HCE := Lib.hid hcel
    clear hK5 hxn wl1 wl2 hrows hdat hcel
    have hn60 := HN60.out
    have HTWO := Lib.hid (show ∀ u ∈ thF [((⟨t ++ oneS, ⟨1, [], []⟩⟩ : Th), Value.slice none 0 0), ((⟨t ++ onxS, ⟨2, dt, []⟩⟩ : Th), Value.slice bo M bap)], u.oneCell' = true from fun u hu => thF_one _ u hu (fun x hx => by
      simp at hx
      rcases hx with rfl | rfl
      · exact ⟨_, _, _, rfl⟩
      · exact ⟨_, _, _, rfl⟩))
    have HONES := Lib.hid (show ∀ u ∈ thF rows, u.oneCell' = true from fun u hu => thF_one _ u hu (fun x hx => by obtain ⟨da, dc, e, -⟩ := HDA.out x hx; exact ⟨_, _, _, e⟩))
    have HCE2 := Lib.hid (show ∀ ob : Obj, N = 0 ∨ ∃ b of, ao = some ⟨b, of, none⟩ ∧ ∀ j u, (thF rows)[j]? = some u → (w9.alloc ob).cell? ⟨b, of + j, none⟩ = some u from fun ob => by
      rcases HCE.out with h0 | ⟨b, of, e, hb, hc⟩
      · exact .inl h0
      · exact .inr ⟨b, of, e, fun j u hu => (((Fr.refl [] w9).alloc ob).cell (p := ⟨b, of + j, none⟩) hb (by simp)).trans (hc j u hu)⟩)
    have HLN := Lib.hid (show (thF rows).length = N * 4 by rw [thF_len, HRL.out])
    have HWANT := Lib.hid (fun (w11 : World) (v11 : Value) (F : Fr [] w9 w11) (own : w11.ownsRow w9.heap.size 36 4 v11 (N + 2) (thF rows ++ thF [((⟨t ++ oneS, ⟨1, [], []⟩⟩ : Th), Value.slice none 0 0), ((⟨t ++ onxS, ⟨2, dt, []⟩⟩ : Th), Value.slice bo M bap)])) =>
      (show ThAt w11 w11.heap.size v11 (L ++ [(⟨t ++ oneS, ⟨1, [], []⟩⟩ : Th), (⟨t ++ onxS, ⟨2, dt, []⟩⟩ : Th)]) from by
        have h1 := ThAt.of_rowsS (w := w11) (lo := w9.heap.size) (v := v11) (l := rows ++ [((⟨t ++ oneS, ⟨1, [], []⟩⟩ : Th), Value.slice none 0 0), ((⟨t ++ onxS, ⟨2, dt, []⟩⟩ : Th), Value.slice bo M bap)])
          (by rw [List.length_append, HRL.out, show thF (rows ++ [((⟨t ++ oneS, ⟨1, [], []⟩⟩ : Th), Value.slice none 0 0), ((⟨t ++ onxS, ⟨2, dt, []⟩⟩ : Th), Value.slice bo M bap)]) = thF rows ++ thF [((⟨t ++ oneS, ⟨1, [], []⟩⟩ : Th), Value.slice none 0 0), ((⟨t ++ onxS, ⟨2, dt, []⟩⟩ : Th), Value.slice bo M bap)] from List.flatMap_append]; exact own)
          (fun x hx => by
            rcases List.mem_append.1 hx with hx | hx
            · obtain ⟨da, dc, e, hs, -⟩ := HDA.out x hx
              exact ⟨da, dc, e, hs.fr0 F⟩
            · simp at hx
              rcases hx with rfl | rfl
              · exact ⟨_, _, rfl, Sl.nil _⟩
              · exact ⟨bo, bap, by show Value.slice bo M bap = .slice bo dt.length bap; rw [HM.out], (HDT.out w9 L9.out).fr0 F⟩)
        rw [List.map_append, HRO.out] at h1
        exact h1))
    have HSAME := Lib.hid (fun (w12 : World) (hi : Nat) (xv uv : Value) (ks5 : List (List UInt8)) (hk5 : KeysAre K5 ks5) (hx : ThAt w12 w12.heap.size xv (listK K5 ks5)) (hu : ThAt w12 hi uv (L ++ [(⟨t ++ oneS, ⟨1, [], []⟩⟩ : Th), (⟨t ++ onxS, ⟨2, dt, []⟩⟩ : Th)])) =>
      (show Calls Tryd.prog 15 #[xv, uv] w12 fun e w' => e = .returned (.bool true) ∧ Same w12 w' from by
        have hp : ((listK K5 ks5).map (·.path)).Nodup := by rw [listK_paths]; exact hk5.nd
        have hl := listK_look hk5
        refine rsame_any hx hu (by rw [List.length_append, HN.out]; simp; omega) (look_len hp WL.out.2 (by rw [hl, WL.out.1])) (fun y hy => ?_)
        obtain ⟨i, hi⟩ := List.getElem?_of_mem hy
        have := look_at hp hi
        rw [hl] at this
        rw [WL.out.1]
        exact this))
    go_wp2_with (first
      | (have hq := X12; go_at_call 15; refine (HSAME.out w12 _ _ _ _ KS5.out X12.out (TW.out.fr0 F12)).mono ?_; rintro e w13 ⟨rfl, F13⟩)
      | (have hq := TW; go_at_call 16; refine (state_at (S9.out.fr0 F911) M5.out D5.out (by decide) (by have := HN4.out; omega)).mono ?_; rintro e w12 ⟨xo, xc, ks5, rfl, hks5, -, hth, F12⟩; have X12 := Lib.hid hth; have KS5 := Lib.hid hks5; clear hth hks5)
      | (have hq := OW10; at_builtin; refine wpList_append_rows rfl _ _ (by rfl) w9.heap.size _ N (thF rows) (by rfl) (own_frB OW10.out ((Fr.refl [] w10).alloc _) (by simp)) (some ⟨w10.heap.size, 0, none⟩) 2 2 (by rfl) (thF [((⟨t ++ oneS, ⟨1, [], []⟩⟩ : Th), Value.slice none 0 0), ((⟨t ++ onxS, ⟨2, dt, []⟩⟩ : Th), Value.slice bo M bap)]) rfl (.inr ⟨w10.heap.size, 0, rfl, fun j u hu => by rw [Nat.zero_add, Go.Joins.cell_of_block (heap_alloc_new w10 _), List.getElem?_toArray]; exact hu⟩) (fun e => by cases e) HTWO.out (by omega) (by have := F10.size; simp; omega) ?_; intro v11 w11 own11 g11; have F911 : Fr [] w9 w11 := (F10.alloc _).grown g11 (fun k hk => .inr (own_ltS OW10.out k hk).1); have TW := Lib.hid (HWANT.out w11 v11 F911 own11); obtain ⟨vo11, vc11, rfl, -⟩ := own_outS own11; clear own11 g11)
      | (at_builtin; refine wpList_append_rows rfl _ _ (by rfl) w9.heap.size _ 0 [] (by rfl) (own_empty4 w9) ao N cap (by rfl) (thF rows) HLN.out (HCE2.out _) HZC.out HONES.out (by omega) (by simp) ?_; intro v10 w10 own10 g10; rw [Nat.zero_add, List.nil_append] at own10; have F10 : Fr [] w9 w10 := ((Fr.refl [] w9).alloc _).grown g10 (fun k hk => .inr (by simp [Value.ownBlock] at hk; omega)); have OW10 := Lib.hid own10; obtain ⟨vo10, vc10, rfl, -⟩ := own_outS own10; clear own10 g10))
    go_ret
    exact ⟨rfl, (Lo.fr FW.out L9.out).trans0 ((F911.trans0 F12).trans0 F13.fr)⟩
end Go.Proofs.YtjeblccboeljnaaDoor
