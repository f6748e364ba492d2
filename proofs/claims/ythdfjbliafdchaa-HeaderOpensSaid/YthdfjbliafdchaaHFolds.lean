/- Contract: the reader's folders. No condition but that lengths fit. -/
import Derived.Test.YthdfjbliafdchaaHFolsM
import Derived.Deep.AppendLies
namespace Go.Proofs.Ythdfjbliafdchaa
open Go.RowKit Go.Maps

/-- 'append(v, u)' at a step of a region that draws its order. -/
theorem step_append_struct {P : Program} {t e : TypeId} {z : Value} {m bytes : Nat} (T : SlTyM P t e z m bytes) {w : World} {ops : Array Oper} {o : Oper} {a : Act} {K : Act → World → Prop} {Q : Exit → Act → World → Prop} {E : Prop} (hgd : o.guard = none) (s x : Operand)
    (ho : o.op = .call { callee := .builtin .append, args := #[s, x], argTypes := #[t, t] })
    (base : Nat) (v : Value) (n : Nat) (xs : List Value) (hs : a.eval s = v) (hown : w.ownsRow base e m v n xs)
    (g : Nat) (us : List Value) (hx : a.eval x = .slice (some ⟨g, 0, none⟩) 1 1) (hg : w.heap[g]? = some (.cells us.toArray e)) (hul : us.length = m) (h1 : us.all (·.oneCell') = true)
    (hm : n + 1 ≤ 100000000) (hby : bytes ≤ 1000) (hbase : base ≤ w.heap.size)
    (h : ∀ v' w', w'.ownsRow base e m v' (n + 1) (xs ++ us) → w.grownBy w' v.ownBlock → K (a.put o.dst v') w') :
    if Region.wanted o (yielded ops a.tmps) = true then Oper.wp P o a w K Q else E := by
  have hw : Region.wanted o (yielded ops a.tmps) = true := by simp [Region.wanted, hgd]
  rw [if_pos hw]
  obtain ⟨i, hi, hz, hsz, hb⟩ := T.info
  have hle : (n + 1) * bytes ≤ 100000000 * 1000 := Nat.mul_le_mul hm hby
  refine wp_append_own w s x t ho base e i z m bytes T.under hi hz hsz hb T.cells T.pos v n xs hs hown ⟨g, 0, none⟩ 1 1 us hx (by omega) ?_ ?_ (by unfold maxLen; omega) (by omega) hbase (fun v' w' q1 q2 _ => h v' w' q1 q2)
  · intro j u hu
    have hadd : (⟨g, 0, none⟩ : Addr).add j = ⟨g, j, none⟩ := by unfold Addr.add; split <;> simp_all
    rw [hadd, Go.Joins.cell_of_block hg]
    simpa using hu
  · intro u hu
    exact List.all_eq_true.1 h1 u hu

theorem info_fo : (Try.prog.info? 47).map (fun i => (i.zero, i.size, i.bytes)) = some (some (.agg #[.slice none 0 0, .slice none 0 0, .slice none 0 0, .slice none 0 0, .bool false, .int .u32 0]), 6, 104) := by kernel_rfl
theorem sty_fo : SlTyM Try.prog 32 47 (.agg #[.slice none 0 0, .slice none 0 0, .slice none 0 0, .slice none 0 0, .bool false, .int .u32 0]) 6 104 := ⟨Try.underlying32, by obtain ⟨i, h⟩ := info_parts info_fo; exact ⟨i, h⟩, rfl, by decide⟩

theorem far_fo : FarT 47 := by unfold FarT; decide

/-- A folder without a check. -/
def bare (f : Folder) : Fol := ⟨f, ⟨false, 0⟩⟩

/-- The state while folders are read. -/
structure FsM (w : World) (p cp : Nat) (q : Option Nat) (d : DV) (rows : List FoRow) (L : List Fol) (fv : Value) (t : Rs) (wx : World) : Prop where
  own : wx.ownsRow w.heap.size 47 6 fv rows.length (foV rows)
  rw : RowsM wx w.heap.size rows L
  rd : RdAt wx p cp q t { d with fs := fv }
  fr : Fr [p, cp] w wx
theorem FsM.on2 {w : World} {p cp : Nat} {q : Option Nat} {d : DV} {rows : List FoRow} {L : List Fol} {fv : Value} {t t' : Rs} {wx wy : World} (h : FsM w p cp q d rows L fv t wx) (hl : p < w.heap.size ∧ cp < w.heap.size) (F : Fr [p, cp] wx wy) (R : RdAt wy p cp q t' { d with fs := fv }) : FsM w p cp q d rows L fv t' wy :=
  ⟨own_frB h.own F (two_lt hl), h.rw.frT F (fun i hi => .inl (two_lt hl i hi)), R, h.fr.tr2 F⟩
theorem FsM.fr0 {w : World} {p cp : Nat} {q : Option Nat} {d : DV} {rows : List FoRow} {L : List Fol} {fv : Value} {t : Rs} {wx wy : World} (h : FsM w p cp q d rows L fv t wx) (F : Fr [] wx wy) : FsM w p cp q d rows L fv t wy :=
  ⟨own_frB h.own F (by simp), h.rw.frT F (by simp), h.rd.fr0 F, h.fr.trans0 F⟩
/-- One folder more. -/
theorem FsM.snoc {w : World} {p cp : Nat} {q : Option Nat} {d : DV} {rows : List FoRow} {L : List Fol} {fv fv2 : Value} {t : Rs} {wx w7 : World} {o : Obj} {r : FoRow} {x : Fol} (h : FsM w p cp q d rows L fv t wx) (hl : p < w.heap.size ∧ cp < w.heap.size) (hq : ∀ k, q = some k → k < w.heap.size)
    (hr : RowM wx w.heap.size r x) (g7 : (wx.alloc o).grownBy w7 fv.ownBlock) (own7 : w7.ownsRow w.heap.size 47 6 fv2 (rows.length + 1) (foV rows ++ r.cells)) :
    RdAt w7 p cp q t { d with fs := fv } ∧ FsM w p cp q d (rows ++ [r]) (L ++ [x]) fv2 t (w7.setCell ⟨p, 6, none⟩ fv2) := by
  have FA : Fr [] wx (wx.alloc o) := (Fr.refl _ _).alloc _
  have own6 := own_frB h.own FA (by simp)
  have R7 := (h.rd.fr0 FA).grownB g7 own6 hl.1 hl.2 hq
  have F7 : Fr fv.ownBlock.toList (wx.alloc o) w7 := (Fr.refl _ _).grown g7 (fun k hk => .inl (by rw [hk]; simp))
  have F8 : Fr [p] w7 (w7.setCell ⟨p, 6, none⟩ fv2) := (Fr.refl _ _).setCell (by simp) _
  have hp1 : ∀ i ∈ [p], i < w.heap.size := by simp; exact hl.1
  have rw1 := (h.rw.snoc hr).frT FA (by simp)
  have rw2 := rw1.frT F7 (fun i hi => .inr ⟨_, own_typed own6 i hi, far_fo⟩)
  refine ⟨R7, by rw [List.length_append, foV_append, show foV [r] = r.cells by simp [foV]]; exact own_frB own7 F8 hp1, rw2.frT F8 (fun i hi => .inl (hp1 i hi)), R7.put6 fv2, ?_⟩
  exact ((h.fr.trans0 FA).grown g7 (fun k hk => .inr (own_ltS own6 k hk).1)).setCell (by simp) _

theorem codersGo_b : ∀ (m : Nat) (s : Rs) (L : List Coder), (codersGo m s L).2.c.b = s.c.b
  | 0, s, L => rfl
  | m + 1, s, L => by
    show (if s.ok.k ≠ 0 then (L, s.ok) else codersGo m s.ok.coder.2 (L ++ [s.ok.coder.1])).2.c.b = _
    split
    · rfl
    · rw [codersGo_b m, coder_b]; rfl
theorem bindsGo_b : ∀ (m i n : Nat) (s : Rs) (B : List (Int × Int)), (bindsGo m i n s B).2.c.b = s.c.b
  | 0, i, n, s, B => rfl
  | m + 1, i, n, s, B => by
    show (if s.ok.k ≠ 0 then (B, s.ok) else bindsGo m i n ((s.ok.below i).2.below n).2 _).2.c.b = _
    split
    · rfl
    · rw [bindsGo_b m, below_b, below_b]; rfl
theorem belowGo_b : ∀ (m i : Nat) (s : Rs) (P : List Int), (belowGo m i s P).2.c.b = s.c.b
  | 0, i, s, P => rfl
  | m + 1, i, s, P => by
    show (belowGo m i (s.below i).2 _).2.c.b = _
    rw [belowGo_b m, below_b]
theorem folder_b (s : Rs) : s.folder.2.c.b = s.c.b := by
  have h0 : ∀ n (t : Rs), (Rs.folderC n t).2.c.b = t.c.b := fun n t => by
    unfold Rs.folderC Rs.folderD
    have h1 : (bindsGo (n - 1) (insL (codersGo n t []).1) n (codersGo n t []).2 []).2.c.b = t.c.b := by rw [bindsGo_b, codersGo_b]
    split
    · exact h1
    · split
      · dsimp only
        split
        · exact h1
        · exact h1
      · dsimp only
        rw [belowGo_b]
        exact h1
  unfold Rs.folder
  rw [h0, check_b, Rs.number_cb]
theorem folder_ok (w : World) (p cp : Nat) (q : Option Nat) (s : Rs) (d : DV) (h : RdAt w p cp q s d) (hb : s.c.b.length ≤ 10000000) :
    Calls Try.prog 65 #[.pointer (some ⟨p, 0, none⟩)] w fun e w' => (∃ cv bv' pv LP, e = .returned (.agg #[cv, bv', pv, .slice none 0 0, .bool false, .int .u32 0]) ∧ LP.map (·.1) = s.folder.1.coders ∧ Sm w' w.heap.size 61 2 cv s.folder.1.coders.length (coV LP) ∧ PropsM w' w.heap.size LP ∧
    Sm w' w.heap.size 50 2 bv' s.folder.1.binds.length (biV s.folder.1.binds) ∧ Sm w' w.heap.size 3 1 pv s.folder.1.packs.length (iv s.folder.1.packs)) ∧ RdAt w' p cp q s.folder.2 d ∧ Fr [p, cp] w w' := folder_any w p cp q s d h hb
theorem folder_sizes (s : Rs) : s.folder.1.sizes = [] := by
  unfold Rs.folder Rs.folderC Rs.folderD
  split
  · rfl
  · split <;> rfl
theorem must_b (s : Rs) (id : Nat) : (s.must id).c.b = s.c.b := by
  unfold Rs.must
  split <;> exact byte_b s
theorem inside_b (s : Rs) : s.inside.c.b = s.c.b := by
  unfold Rs.inside
  split
  · exact byte_b s
  · split <;> exact byte_b s
theorem codersGo_len : ∀ (m : Nat) (s : Rs) (L : List Coder), (codersGo m s L).1.length ≤ L.length + m
  | 0, s, L => by show L.length ≤ _; omega
  | m + 1, s, L => by
    show (if s.ok.k ≠ 0 then (L, s.ok) else codersGo m s.ok.coder.2 (L ++ [s.ok.coder.1])).1.length ≤ _
    split
    · dsimp only; omega
    · have := codersGo_len m s.ok.coder.2 (L ++ [s.ok.coder.1])
      simp at this
      omega
theorem folderC_coders (n : Nat) (s : Rs) : (Rs.folderC n s).1.coders = (codersGo n s []).1 := by
  unfold Rs.folderC Rs.folderD
  split
  · rfl
  · split <;> rfl
theorem folder_len (s : Rs) : s.folder.1.coders.length ≤ 8 := by
  unfold Rs.folder
  rw [folderC_coders]
  by_cases h0 : (s.number.2.check (decide (s.number.1 < 1) || decide (8 < s.number.1)) 10).ok.k = 0
  · have h8 : s.number.1 ≤ 8 := by
      unfold Rs.check at h0
      split at h0
      · rename_i hc
        rw [Rs.fail_ok (by decide), Rs.fail_k hc.1] at h0
        cases h0
      · rename_i hc
        rw [Rs.ok_ok] at h0
        have h2 := fun hh => hc ⟨h0, hh⟩
        simp at h2
        omega
    have := codersGo_len s.number.1 (s.number.2.check (decide (s.number.1 < 1) || decide (8 < s.number.1)) 10) []
    rw [List.length_nil, Nat.zero_add] at this
    omega
  · rw [codersGo_bad h0]
    simp
theorem foldersGo_bad {s : Rs} (h : s.ok.k ≠ 0) (m : Nat) (L : List Folder) : foldersGo m s L = (L, s.ok) := by
  cases m with
  | zero => rfl
  | succ m => show (if s.ok.k ≠ 0 then _ else _) = _; rw [if_pos h]
theorem foldersGo_ok {s : Rs} (h : s.ok.k = 0) (m : Nat) (L : List Folder) : foldersGo (m + 1) s L = foldersGo m s.folder.2 (L ++ [s.folder.1]) := by
  show (if s.ok.k ≠ 0 then _ else _) = _
  rw [if_neg (by simp [h]), Rs.ok_of_zero h]

/-- The state while a folder's sizes are read; the memory was wk when the first was. -/
structure SzM (w : World) (p cp : Nat) (q : Option Nat) (d : DV) (rows : List FoRow) (fv : Value) (wk : World) (k : Nat) (r : FoRow) (S : List UInt64) (sv : Value) (t : Rs) (wx : World) : Prop where
  own : wx.ownsRow w.heap.size 47 6 fv rows.length (foV (rows.set k { r with sv := sv }))
  sz : wx.ownsRow wk.heap.size 29 1 sv S.length (u64v S)
  rd : RdAt wx p cp q t { d with fs := fv }
  old : Fr (p :: cp :: fv.ownBlock.toList) wk wx
  fr : Fr [p, cp] w wx
theorem SzM.on2 {w : World} {p cp : Nat} {q : Option Nat} {d : DV} {rows : List FoRow} {fv : Value} {wk : World} {k : Nat} {r : FoRow} {S : List UInt64} {sv : Value} {t t' : Rs} {wx wy : World} (h : SzM w p cp q d rows fv wk k r S sv t wx) (hl : p < w.heap.size ∧ cp < w.heap.size) (hw : w.heap.size ≤ wk.heap.size) (F : Fr [p, cp] wx wy) (R : RdAt wy p cp q t' { d with fs := fv }) : SzM w p cp q d rows fv wk k r S sv t' wy :=
  ⟨own_frB h.own F (two_lt hl), own_frB h.sz F (two_lt (by omega)), R, h.old.trans F (fun i hi => .inl (by simp at hi; simp; omega)), h.fr.tr2 F⟩
/-- One size more. -/
theorem SzM.snoc {w : World} {p cp : Nat} {q : Option Nat} {d : DV} {rows : List FoRow} {g n cap : Nat} {wk : World} {k : Nat} {r : FoRow} {S : List UInt64} {sv sv2 : Value} {x : UInt64} {t : Rs} {wx w7 : World} {o : Obj} (h : SzM w p cp q d rows (.slice (some ⟨g, 0, none⟩) n cap) wk k r S sv t wx) (hl : p < w.heap.size ∧ cp < w.heap.size) (hq : ∀ k, q = some k → k < w.heap.size) (hw : w.heap.size ≤ wk.heap.size) (hr : rows[k]? = some r)
    (g7 : (wx.alloc o).grownBy w7 sv.ownBlock) (own7 : w7.ownsRow wk.heap.size 29 1 sv2 (S.length + 1) (u64v S ++ [.int .u64 x.toNat])) :
    RdAt w7 p cp q t { d with fs := .slice (some ⟨g, 0, none⟩) n cap } ∧ w7.cell? ⟨g, k * 6 + 3, none⟩ = some sv ∧ w7.frozen? ⟨g, k * 6 + 3, none⟩ = false ∧ SzM w p cp q d rows (.slice (some ⟨g, 0, none⟩) n cap) wk k r (S ++ [x]) sv2 t (w7.setCell ⟨g, k * 6 + 3, none⟩ sv2) := by
  have hk := (List.getElem?_eq_some_iff.1 hr).1
  have FA : Fr [] wx (wx.alloc o) := (Fr.refl _ _).alloc _
  have sz6 := own_frB h.sz FA (by simp)
  have R7 := (h.rd.fr0 FA).grownB g7 sz6 (by omega) (by omega) (fun j hj => by have := hq j hj; omega)
  have F7 : Fr sv.ownBlock.toList (wx.alloc o) w7 := (Fr.refl _ _).grown g7 (fun k hk => .inl (by rw [hk]; simp))
  have ownF := own_frT (own_frB h.own FA (by simp)) F7 (fun i hi => .inr ((own_typed sz6 i hi).ne (by decide)))
  obtain ⟨rfl, -⟩ : n = rows.length ∧ True := by
    rcases h.own.2 with ⟨h1, -⟩ | ⟨g', cap', cur, h1, -⟩
    · cases h1
    · injection h1 with _ h2 _
      exact ⟨h2, trivial⟩
  have hc : w7.cell? ⟨g, k * 6 + 3, none⟩ = some sv := by
    rw [ownF.cellAt (k * 6 + 3) (by omega), foV_get (rows.set k { r with sv := sv }) k { r with sv := sv } (by rw [List.getElem?_set, if_pos rfl, if_pos hk]) 3 (by omega)]
    rfl
  have hst := ownF.stored (k * 6 + 3) sv2
  have hg : w.heap.size ≤ g := (own_ltS ownF g rfl).1
  have hgt : Typed w7 g 47 := own_typed ownF g (by simp [Value.ownBlock])
  have F8 : Fr [g] w7 (w7.setCell ⟨g, k * 6 + 3, none⟩ sv2) := (Fr.refl _ _).setCell (by simp) _
  have e1 : (foV (rows.set k { r with sv := sv })).set (k * 6 + 3) sv2 = foV (rows.set k { r with sv := sv2 }) := by
    rw [foV_set _ k { r with sv := sv } sv2 (by rw [List.getElem?_set, if_pos rfl, if_pos hk]), List.set_set]
  refine ⟨R7, hc, ownF.frozenAt _, by have := hst.1; rw [e1] at this; exact this, ?_, R7.fr F8 (by simp; omega) (by simp; omega) (fun j hj => by have := hq j hj; simp; omega), ?_, ?_⟩
  · rw [List.length_append, show u64v (S ++ [x]) = u64v S ++ [.int .u64 x.toNat] by simp [u64v]]
    exact own_frT own7 F8 (fun i hi => .inr (by rw [List.mem_singleton.1 hi]; exact hgt.ne (by decide)))
  · refine ((h.old.trans0 FA).grown g7 (fun j hj => .inr (own_ltS sz6 j hj).1)).setCell (.inl ?_) _
    simp [Value.ownBlock]
  · exact ((h.fr.trans0 FA).grown g7 (fun j hj => .inr (by have := (own_ltS sz6 j hj).1; omega))).setCell (.inr hg) _

theorem set_self {α : Type} {l : List α} {k : Nat} {r : α} (h : l[k]? = some r) : l.set k r = l := by
  refine List.ext_getElem? fun i => ?_
  rw [List.getElem?_set]
  by_cases e : k = i
  · subst e
    rw [if_pos rfl, if_pos (List.getElem?_eq_some_iff.1 h).1, h]
  · rw [if_neg e]
theorem withCks_get (D : List Folder) (cs : List Ck) (k : Nat) : (withCks D cs)[k]? = D[k]?.map fun f => ⟨f, cs.getD k ⟨false, 0⟩⟩ := by
  unfold withCks
  simp [List.getElem?_mapIdx]
theorem withCks_set (D : List Folder) (cs : List Ck) (k : Nat) (f : Folder) (c : Ck) (hf : D[k]? = some f) (hc : cs[k]? = some c) : (withCks D (cs.take k)).set k ⟨f, c⟩ = withCks D (cs.take (k + 1)) := by
  have hk := (List.getElem?_eq_some_iff.1 hf).1
  refine List.ext_getElem? fun i => ?_
  rw [List.getElem?_set, withCks_get, withCks_get]
  by_cases e : k = i
  · subst e
    rw [if_pos rfl, if_pos (by simp [withCks]; exact hk), hf]
    simp [hc]
  · rw [if_neg e]
    have h1 : (cs.take k).getD i ⟨false, 0⟩ = (cs.take (k + 1)).getD i ⟨false, 0⟩ := by
      simp only [List.getD_eq_getElem?_getD, List.getElem?_take]
      by_cases h : i < k
      · rw [if_pos h, if_pos (by omega)]
      · rw [if_neg h, if_neg (by omega)]
    rw [h1]
theorem withCks_all (D : List Folder) (cs : List Ck) : withCks D (cs.take cs.length) = withCks D cs := by rw [List.take_length]
theorem sumsL_len : ∀ (hs : List Bool) (s : Rs) (out : List Ck), (sumsL hs s out).1.length ≤ out.length + hs.length
  | [], s, out => by show out.length ≤ _; simp
  | false :: t, s, out => by
    rw [sumsL_false]
    split
    · simp
    · have := sumsL_len t s.ok (out ++ [⟨false, 0⟩])
      simp at this ⊢
      omega
  | true :: t, s, out => by
    rw [sumsL_true]
    split
    · simp
    · have := sumsL_len t (s.num 4).2.ok (out ++ [⟨true, UInt32.ofNat (s.num 4).1⟩])
      simp at this ⊢
      omega
theorem sums_len (s : Rs) (n : Nat) : (s.sums n).1.length ≤ n := by
  have h1 := sumsL_len (s.told n).1 (s.told n).2 []
  have h2 : (s.told n).1.length ≤ n := Nat.le_trans (told_len s.c n) (by simp)
  simp at h1
  show (sumsL (s.told n).1 (s.told n).2 []).1.length ≤ n
  omega
theorem ckV_get : ∀ (l : List Ck) (i : Nat) (c : Ck), l[i]? = some c → (ckV l)[i * 2]? = some (.bool c.has) ∧ (ckV l)[i * 2 + 1]? = some (.int .u32 c.sum.toNat)
  | [], i, c, h => by simp at h
  | x :: t, 0, c, h => by simp at h; subst h; exact ⟨rfl, rfl⟩
  | x :: t, i + 1, c, h => by
    have := ckV_get t i c (by simpa using h)
    rw [show (i + 1) * 2 = i * 2 + 1 + 1 by omega]
    exact this
theorem withCks_nil (D : List Folder) : withCks D [] = D.map bare := by
  unfold withCks bare
  refine List.ext_getElem? fun i => ?_
  simp [List.getElem?_mapIdx]
theorem set_bare {D L : List Folder} {k : Nat} {f : Folder} {S : List UInt64} (hD : D.length = k) (hL : L.drop k = f :: L.drop (k + 1)) :
    ((D ++ L.drop k).map bare).set k ⟨{ (bare f).f with sizes := S }, (bare f).ck⟩ = ((D ++ [{ f with sizes := S }]) ++ L.drop (k + 1)).map bare := by
  subst hD
  rw [hL, List.map_append, List.set_append_right _ _ (by rw [List.length_map]; exact Nat.le_refl _), List.length_map, Nat.sub_self]
  simp [bare]
theorem FsM.toSz {w : World} {p cp : Nat} {q : Option Nat} {d : DV} {rows : List FoRow} {L : List Fol} {fv : Value} {t : Rs} {wk : World} (h : FsM w p cp q d rows L fv t wk) {k : Nat} {r : FoRow} (hr : rows[k]? = some r) (hs : r.sv = .slice none 0 0) : SzM w p cp q d rows fv wk k r [] (.slice none 0 0) t wk :=
  ⟨by rw [show ({ r with sv := .slice none 0 0 } : FoRow) = r by rw [← hs], set_self hr]; exact h.own, World.ownsRow_nil _ _ _ _, h.rd, Fr.refl _ _, h.fr⟩
theorem SzM.toFs {w : World} {p cp : Nat} {q : Option Nat} {d : DV} {rows : List FoRow} {L : List Fol} {fv : Value} {u t : Rs} {wk wx : World} {k : Nat} {r : FoRow} {x : Fol} {S : List UInt64} {sv : Value} (h0 : FsM w p cp q d rows L fv u wk) (h : SzM w p cp q d rows fv wk k r S sv t wx) (hl : p < w.heap.size ∧ cp < w.heap.size) (hr : rows[k]? = some r) (hx : L[k]? = some x) :
    FsM w p cp q d (rows.set k { r with sv := sv }) (L.set k ⟨{ x.f with sizes := S }, x.ck⟩) fv t wx := by
  have hS : ∀ i ∈ p :: cp :: fv.ownBlock.toList, i < w.heap.size ∨ ∃ e, Typed wk i e ∧ FarT e := by
    intro i hi
    rcases List.mem_cons.1 hi with rfl | hi
    · exact .inl hl.1
    · rcases List.mem_cons.1 hi with rfl | hi
      · exact .inl hl.2
      · exact .inr ⟨_, own_typed h0.own i hi, far_fo⟩
  have hR := (h0.rw.row k r x hr hx).frT h.old hS
  refine ⟨by rw [List.length_set]; exact h.own, (h0.rw.frT h.old hS).set k ⟨hR.co, hR.bi, hR.pa, Sm.of_own w.heap.size h.sz h0.fr.size, hR.has, hR.sum⟩, h.rd, h.fr⟩

/-- A folder's check is written. -/
theorem FsM.check {w : World} {p cp : Nat} {q : Option Nat} {d : DV} {rows : List FoRow} {L : List Fol} {g n cap : Nat} {t : Rs} {wx : World} (h : FsM w p cp q d rows L (.slice (some ⟨g, 0, none⟩) n cap) t wx) (hl : p < w.heap.size ∧ cp < w.heap.size) (hq : ∀ k, q = some k → k < w.heap.size) {k : Nat} {r : FoRow} {x : Fol} (hr : rows[k]? = some r) (hx : L[k]? = some x) (c : Ck) :
    FsM w p cp q d (rows.set k { r with has := c.has, sum := c.sum }) (L.set k ⟨x.f, c⟩) (.slice (some ⟨g, 0, none⟩) n cap) t ((wx.setCell ⟨g, k * 6 + 4, none⟩ (.bool c.has)).setCell ⟨g, k * 6 + 5, none⟩ (.int .u32 c.sum.toNat)) := by
  have hg : w.heap.size ≤ g := (own_ltS h.own g rfl).1
  have hgt : Typed wx g 47 := own_typed h.own g (by simp [Value.ownBlock])
  have F : Fr [g] wx ((wx.setCell ⟨g, k * 6 + 4, none⟩ (.bool c.has)).setCell ⟨g, k * 6 + 5, none⟩ (.int .u32 c.sum.toNat)) := ((Fr.refl _ _).setCell (by simp) _).setCell (by simp) _
  have hnn : n = rows.length := by
    rcases h.own.2 with ⟨h1, -⟩ | ⟨g', cap', cur, h1, -⟩
    · cases h1
    · injection h1 with _ h2 _
  have o1 := h.own
  rw [← hnn] at o1
  have o2 := ((o1.stored (k * 6 + 4) (.bool c.has)).1.stored (k * 6 + 5) (.int .u32 c.sum.toNat)).1
  rw [foV_set2 rows k r c.has c.sum hr] at o2
  have rw1 := h.rw.frT F (fun i hi => .inr ⟨_, by rw [List.mem_singleton.1 hi]; exact hgt, far_fo⟩)
  have hR := rw1.row k r x hr hx
  exact ⟨by rw [List.length_set, ← hnn]; exact o2, rw1.set k ⟨hR.co, hR.bi, hR.pa, hR.si, rfl, rfl⟩, h.rd.fr F (by simp; omega) (by simp; omega) (fun j hj => by have := hq j hj; simp; omega), (h.fr.setCell (.inr hg) _).setCell (.inr hg) _⟩

theorem sizesGo_bad {s : Rs} (h : s.ok.k ≠ 0) (L D : List Folder) : sizesGo L s D = (D ++ L, s.ok) := by
  cases L with
  | nil => show (D, s.ok) = _; simp
  | cons f t => show (if s.ok.k ≠ 0 then _ else _) = _; rw [if_pos h]
theorem sizesGo_ok {s : Rs} (h : s.ok.k = 0) (f : Folder) (t D : List Folder) : sizesGo (f :: t) s D = sizesGo t (sizesFor f.coders.length s []).2 (D ++ [{ f with sizes := (sizesFor f.coders.length s []).1 }]) := by
  show (if s.ok.k ≠ 0 then _ else _) = _
  rw [if_neg (by simp [h]), Rs.ok_of_zero h]
theorem sizesFor_b : ∀ (m : Nat) (s : Rs) (S : List UInt64), (sizesFor m s S).2.c.b = s.c.b
  | 0, s, S => rfl
  | m + 1, s, S => by
    show (sizesFor m s.size.2 _).2.c.b = _
    rw [sizesFor_b m, size_b]
theorem sums_ok (w : World) (p cp : Nat) (q : Option Nat) (s : Rs) (d : DV) (n : Nat) (h : RdAt w p cp q s d) (hb : s.c.b.length ≤ 10000000) (hn : n ≤ 10000000) :
    Calls Try.prog 62 #[.pointer (some ⟨p, 0, none⟩), .int .i64 (n : Int)] w fun e w' => (∃ v, e = .returned v ∧ Sm w' w.heap.size 45 2 v (s.sums n).1.length (ckV (s.sums n).1)) ∧ RdAt w' p cp q (s.sums n).2 d ∧ Fr [p, cp] w w' := sums_any w p cp q s d n h hb hn
theorem bad_stays (s : Rs) (id : Nat) (h : (s.must id).ok.k = 0) : s.k = 0 := by
  by_cases hk : s.k = 0
  · exact hk
  · exfalso
    have hb : s.byte.2.k = s.k := rfl
    have h1 : s.byte.2.ok = s.byte.2 := Rs.ok_of_bad (by rw [hb]; exact hk)
    unfold Rs.must at h
    rw [h1, if_neg (fun hh => hk (hb ▸ hh.1)), h1] at h
    exact hk (hb ▸ h)

/-- What the folders are when they are read, their sizes aside. -/
def FolsA (w : World) (p cp : Nat) (q : Option Nat) (n : Nat) (s2 : Rs) (d : DV) (wx : World) : Prop :=
  ∃ (rows : List FoRow) (L : List Folder) (fv : Value) (t : Rs), foldersGo n s2 [] = (L, t) ∧ t.ok = t ∧ (t.k = 0 → L.length = n) ∧ L.length ≤ n ∧ t.c.b.length ≤ 10000000 ∧ (∀ f ∈ L, f.sizes = [] ∧ f.coders.length ≤ 8) ∧ (∀ r ∈ rows, r.sv = .slice none 0 0) ∧ FsM w p cp q d rows (L.map bare) fv t wx

def FoldersR (w : World) (p cp : Nat) (q : Option Nat) (r : List Fol × Rs) (d : DV) (e : Ending) (w' : World) : Prop :=
  e = .returned (.tuple #[]) ∧ ∃ rows fv, FsM w p cp q d rows r.1 fv r.2 w'

set_option maxRecDepth 100000 in
set_option maxHeartbeats 4000000 in
theorem folders_any (w : World) (p cp : Nat) (q : Option Nat) (s : Rs) (d : DV) (h : RdAt w p cp q s d) (hb : s.c.b.length ≤ 10000000) (hfs : d.fs = .slice none 0 0) :
    Calls Try.prog 52 #[.pointer (some ⟨p, 0, none⟩)] w (FoldersR w p cp q s.folders d) := by
  have HLT := Lib.hid (And.intro h.lt h.cur.lt)
  have HLQ := Lib.hid h.ql
  have HR0 := Lib.hid h
  have HB := Lib.hid hb
  have HB1 := Lib.hid (show (s.must 11).c.b.length ≤ 10000000 by rw [must_b]; exact hb)
  have HT1 := Lib.hid (fun w d (h : RdAt w p cp q (s.must 11) d) => things_ok w p cp q (s.must 11) d h HB1.out)
  have HB2 := Lib.hid (show (s.must 11).things.2.c.b.length ≤ 10000000 by rw [things_b]; exact HB1.out)
  have HT2 := Lib.hid (fun w d (h : RdAt w p cp q (s.must 11).things.2 d) => inside_any w p cp q (s.must 11).things.2 d h HB2.out)
  have HB3 := Lib.hid (show (s.must 11).things.2.inside.c.b.length ≤ 10000000 by rw [inside_b]; exact HB2.out)
  have HNL := Lib.hid (show (s.must 11).things.1 ≤ 10000000 from Nat.le_trans (things_le _) HB1.out)
  have HS := Lib.hid (show s.folders = Rs.foldersA (s.must 11).things.1 (s.must 11).things.2.inside from rfl)
  have HM := Lib.hid (must_any w p cp q s d 11 h hb)
  clear h hb
  generalize (s.must 11).things.2.inside = s3 at *
  generalize (s.must 11).things.2 = s2 at *
  generalize (s.must 11).things.1 = n at *
  generalize s.must 11 = s1 at *
  have hd : ({ d with fs := .slice none 0 0 } : DV) = d := by rw [← hfs]
  have HD := Lib.hid hd
  clear hfs hd
  go_enter Try.func52, Try.ntmps52
  go_upto_region 2 with (first
    | (have hq := R1; go_at_call 58; refine (HT1.out _ _ R1).mono ?_; rintro e w2 ⟨rfl, R2, F2⟩)
    | (go_at_call 63; refine HM.out.mono ?_; rintro e w1 ⟨rfl, R1, F1⟩))
  rename_i K0 hK0
  go_cut [] (fun wx => FsM w p cp q d [] [] (.slice none 0 0) s3 wx)
  case first =>
    clear hK0
    go_wp2_with (go_at_call 64; refine (HT2.out _ _ R2).mono ?_; rintro e w3 ⟨rfl, R3, F3⟩)
    go_meet
    case rel => exact ⟨World.ownsRow_nil _ _ _ _, RowsM.nil _ _, by rw [HD.out]; exact R3, (F1.tr2 F2).tr2 F3⟩
  case rest =>
  have C1 := hcut
  clear hcut R1 R2 F1 F2
  (refine hK0 _ _ ?_; clear hK0; refine wp_seq_k fun K1 hK1 => ?_)
  go_cut [3] (fun _ wx => FolsA w p cp q n s3 d wx)
  case first =>
    clear hK1
    have hnM : (n : Int) ≤ 10000000 := by have := HNL.out; omega
    go_wp2_with fail
    go_loopw [3] (fun i wr => ∃ (k : Nat) (rows : List FoRow) (L : List Folder) (fv : Value) (u : Rs), k ≤ n ∧ i = .int .i64 (k : Int) ∧ L.length = k ∧ rows.length = k ∧ foldersGo n s3 [] = foldersGo (n - k) u L ∧ u.c.b.length ≤ 10000000 ∧ (∀ f ∈ L, f.sizes = [] ∧ f.coders.length ≤ 8) ∧ (∀ r ∈ rows, r.sv = .slice none 0 0) ∧ FsM w p cp q d rows (L.map bare) fv u wr) (fun i _ => n - (intOf i).toNat)
    case atStart => exact ⟨0, [], [], .slice none 0 0, s3, Nat.zero_le _, rfl, rfl, rfl, by simp, HB3.out, by simp, by simp, C1⟩
    case round =>
      obtain ⟨k, rows, L, fv, u, hk, rfl, hLk, hRk, hgo, hub, hsz, hnil, CU⟩ := hrel
      obtain ⟨oao, ocap, rfl, -⟩ := own_outS CU.own
      have HGo := Lib.hid hgo
      have HLk := Lib.hid hLk
      have HRk := Lib.hid hRk
      have HUB := Lib.hid hub
      have HSZ := Lib.hid hsz
      have HCU := Lib.hid CU
      have HNil := Lib.hid hnil
      clear hgo hLk hRk hub hsz hnil CU
      by_cases hz : u.ok.k = 0
      · have HK := Lib.hid (show (u.ok.k == 0) = true by rw [hz]; rfl)
        have HO := Lib.hid (Rs.ok_of_zero hz)
        by_cases hlt : k < n
        · have hltI : (k : Int) < (n : Int) := by omega
          have HG2 := Lib.hid (show foldersGo n s3 [] = foldersGo (n - (k + 1)) u.folder.2 (L ++ [u.folder.1]) by
            rw [HGo.out, show n - k = (n - (k + 1)) + 1 by omega, foldersGo_ok hz])
          have HFO := Lib.hid (fun wy d (R : RdAt wy p cp q u d) => folder_ok wy p cp q u d R HUB.out)
          have HUB2 := Lib.hid (show u.folder.2.c.b.length ≤ 10000000 by rw [folder_b]; exact HUB.out)
          have HFS := Lib.hid (And.intro (folder_sizes u) (folder_len u))
          clear hz
          generalize u.folder.2 = u2 at *
          generalize u.folder.1 = f at *
          go_wp2_with (go_at_call 31; refine (ok_any _ p cp q u _ HCU.out.rd).mono ?_; rw [HK.out, HO.out]; rintro e w2 ⟨rfl, R2, F2⟩; have C2 := HCU.out.on2 HLT.out F2.two1 R2)
          have C2d : FsM w p cp q d rows (L.map bare) (.slice oao rows.length ocap) u w2.drew := C2.on2 HLT.out ((Fr.refl _ _).drew) (C2.rd.same Same.drew)
          have e0 := (cells9 C2d.rd.blk).2.2.2.2.2.2.1
          go_region_law (first
            | (have hq := C3; refine step_append_struct sty_fo rfl _ _ (by rfl) w.heap.size _ _ _ (by rfl) (own_frB C3.own ((Fr.refl [] w3).alloc (.cells #[.slice cao f.coders.length ccap, .slice bao f.binds.length bcap, .slice pao f.packs.length pcap, .slice none 0 0, .bool false, .int .u32 0] 47)) (by simp)) w3.heap.size [.slice cao f.coders.length ccap, .slice bao f.binds.length bcap, .slice pao f.packs.length pcap, .slice none 0 0, .bool false, .int .u32 0] (by rfl) (heap_alloc_new w3 _) rfl rfl (by have := HNL.out; have := HRk.out; omega) (by decide) (by rw [World.size_alloc]; have := C3.fr.size; omega) ?_; intro v2 w7 own7 g7; obtain ⟨vao2, vcap2, rfl, -⟩ := own_outS own7; obtain ⟨R7, C7⟩ := C3.snoc (r := ⟨_, _, _, _, _, _⟩) HLT.out HLQ.out hrow g7 own7; obtain ⟨-, -, -, -, -, -, k6, -, -, kz⟩ := cells9 R7.blk)
            | (go_simp; go_at_call 65; refine (HFO.out _ _ C2d.rd).mono ?_; rintro e w3 ⟨⟨cv, bv', pv, LP, rfl, hLP, hco, hpm, hbi, hpa⟩, R3, F3⟩; have C3 := C2d.on2 HLT.out F3 R3; have hlo : w.heap.size ≤ w2.drew.heap.size := C2d.fr.size; have hrow : RowM w3 w.heap.size ⟨cv, bv', pv, .slice none 0 0, false, 0⟩ (bare f) := ⟨⟨LP, hLP, hco.mono hlo, fun c hc => (hpm c hc).mono hlo⟩, hbi.mono hlo, hpa.mono hlo, (by rw [show (bare f).f.sizes = [] from HFS.out.1]; exact Sm.nil _ _ _ _), rfl, rfl⟩; obtain ⟨cao, ccap, rfl, -⟩ := hco.out; obtain ⟨bao, bcap, rfl, -⟩ := hbi.out; obtain ⟨pao, pcap, rfl, -⟩ := hpa.out; have e3 := (cells9 C3.rd.blk).2.2.2.2.2.2.1; have e3a := (cells9 (C3.fr0 ((Fr.refl [] w3).alloc (.cells #[.slice cao f.coders.length ccap, .slice bao f.binds.length bcap, .slice pao f.packs.length pcap, .slice none 0 0, .bool false, .int .u32 0] 47))).rd.blk).2.2.2.2.2.2.1))
          all_goals
            go_wp2_with fail
            go_roundw
            case rel => exact ⟨k + 1, rows ++ [⟨.slice cao f.coders.length ccap, .slice bao f.binds.length bcap, .slice pao f.packs.length pcap, .slice none 0 0, false, 0⟩], L ++ [f], _, u2, by omega, by go_num, by rw [List.length_append, HLk.out]; rfl, by rw [List.length_append, HRk.out]; rfl, HG2.out, HUB2.out, (fun g hg => by rcases List.mem_append.1 hg with h1 | h1; exact HSZ.out g h1; simp at h1; rw [h1]; exact HFS.out), (fun g hg => by rcases List.mem_append.1 hg with h1 | h1; exact HNil.out g h1; simp at h1; rw [h1]), by rw [List.map_append]; exact C7⟩
            case measure => simp [intOf]; omega
        · have hke : k = n := by omega
          have HE := Lib.hid (show foldersGo n s3 [] = (L, u) by rw [HGo.out, hke, Nat.sub_self]; show (_, u.ok) = _; rw [HO.out])
          have hltI : (n : Int) ≤ (k : Int) := by omega
          clear hz
          go_wp2_with (go_at_call 31; refine (ok_any _ p cp q u _ HCU.out.rd).mono ?_; rw [HK.out, HO.out]; rintro e w2 ⟨rfl, R2, F2⟩)
          go_meet
          case rel => exact ⟨rows, L, _, u, HE.out, HO.out, fun _ => by rw [HLk.out, hke], by rw [HLk.out]; exact hk, HUB.out, HSZ.out, HNil.out, HCU.out.on2 HLT.out F2.two1 R2⟩
      · have HK := Lib.hid (show (u.ok.k == 0) = false by rw [beq_eq_false_iff_ne]; exact hz)
        have HE := Lib.hid (show foldersGo n s3 [] = (L, u.ok) by rw [HGo.out, foldersGo_bad hz])
        have HZ := Lib.hid hz
        clear hz
        go_wp2_with (go_at_call 31; refine (ok_any _ p cp q u _ HCU.out.rd).mono ?_; rw [HK.out]; rintro e w2 ⟨rfl, R2, F2⟩)
        go_meet
        case rel => exact ⟨rows, L, _, u.ok, HE.out, Rs.ok_ok u, fun h => absurd h HZ.out, by rw [HLk.out]; exact hk, HUB.out, HSZ.out, HNil.out, HCU.out.on2 HLT.out F2.two1 R2⟩
  case rest =>
  clear C1
  obtain ⟨rows, L, fv, t, hgo, hto, hlen, hle, htb, hsz, hnil, C2⟩ := hcut
  have HGo := Lib.hid hgo
  have HLN := Lib.hid (show (t.must 12).ok.k = 0 → L.length = n from fun h => hlen (bad_stays t 12 h))
  have HLe := Lib.hid (show L.length ≤ 10000000 from Nat.le_trans hle HNL.out)
  have HTB := Lib.hid htb
  have HTB2 := Lib.hid (show (t.must 12).c.b.length ≤ 10000000 by rw [must_b]; exact htb)
  have HSz := Lib.hid hsz
  have HNil := Lib.hid hnil
  have HRL := Lib.hid (show rows.length = L.length by have := C2.rw.len; simpa using this)
  clear hgo hto hlen hle htb hsz hnil
  (refine hK1 _ _ ?_; clear hK1; refine wp_seq_k fun K2 hK2 => ?_)
  go_cut [] (fun wx => FsM w p cp q d rows (L.map bare) fv (t.must 12) wx)
  case first =>
    clear hK2
    go_wp2_with (go_at_call 63; refine (must_any _ p cp q t _ 12 C2.rd HTB.out).mono ?_; rintro e w4 ⟨rfl, R4, F4⟩)
    go_meet
    case rel => exact C2.on2 HLT.out F4 R4
  case rest =>
  clear C2
  have C3 := hcut
  clear hcut
  have HSA := Lib.hid (show s.folders = Rs.foldersB (sizesGo L (t.must 12) []).1 n (sizesGo L (t.must 12) []).2.byte.1 (sizesGo L (t.must 12) []).2.byte.2 by rw [HS.out, Rs.foldersA, HGo.out])
  generalize t.must 12 = t' at *
  (refine hK2 _ _ ?_; clear hK2; refine wp_seq_k fun K3 hK3 => ?_)
  go_cut [4, 5] (fun _ _ wx => ∃ (rows2 : List FoRow) (D : List Folder) (t2 : Rs), sizesGo L t' [] = (D, t2) ∧ t2.ok = t2 ∧ (t2.k = 0 → D.length = n) ∧ D.length ≤ 10000000 ∧ t2.c.b.length ≤ 10000000 ∧ FsM w p cp q d rows2 (D.map bare) fv t2 wx)
  case first =>
    clear hK3
    have hnM : (n : Int) ≤ 10000000 := by have := HNL.out; omega
    go_wp2_with fail
    go_loopw [4] (fun i wr => ∃ (k : Nat) (rows2 : List FoRow) (D : List Folder) (u : Rs), k ≤ n ∧ i = .int .i64 (k : Int) ∧ D.length = k ∧ sizesGo L t' [] = sizesGo (L.drop k) u D ∧ u.c.b.length ≤ 10000000 ∧ (u.ok.k = 0 → L.length = n) ∧ rows2.length = L.length ∧ (k = 0 ∨ k ≤ L.length) ∧ (∀ (j : Nat) r, k ≤ j → rows2[j]? = some r → r.sv = .slice none 0 0) ∧ FsM w p cp q d rows2 ((D ++ L.drop k).map bare) fv u wr) (fun i _ => n - (intOf i).toNat)
    case atStart => exact ⟨0, rows, [], t', Nat.zero_le _, rfl, rfl, by simp, HTB2.out, HLN.out, HRL.out, .inl rfl, fun j r _ hr => HNil.out r (List.mem_of_getElem? hr), C3⟩
    case round =>
      obtain ⟨k, rows2, D, u, hk, rfl, hDk, hgo, hub, hln, hRk, hkL, hnil, CU⟩ := hrel
      have HGo2 := Lib.hid hgo
      have HDk := Lib.hid hDk
      have HUB := Lib.hid hub
      have HRk := Lib.hid hRk
      have HNil2 := Lib.hid hnil
      have HCU := Lib.hid CU
      have HkL := Lib.hid hkL
      clear hgo hDk hub hRk hnil CU hkL
      by_cases hz : u.ok.k = 0
      · have HK := Lib.hid (show (u.ok.k == 0) = true by rw [hz]; rfl)
        have HO := Lib.hid (Rs.ok_of_zero hz)
        have HLn := Lib.hid (hln hz)
        by_cases hlt : k < n
        · have hltI : (k : Int) < (n : Int) := by omega
          have hkl : k < L.length := by rw [HLn.out]; exact hlt
          obtain ⟨f, hf⟩ := some_get L k hkl
          have HDr := Lib.hid (show L.drop k = f :: L.drop (k + 1) by rw [List.drop_eq_getElem_cons hkl, (List.getElem?_eq_some_iff.1 hf).2])
          have HG3 := Lib.hid (show sizesGo L t' [] = sizesGo (L.drop (k + 1)) (sizesFor f.coders.length u []).2 (D ++ [{ f with sizes := (sizesFor f.coders.length u []).1 }]) by rw [HGo2.out, HDr.out, sizesGo_ok hz])
          obtain ⟨r, hr⟩ := some_get rows2 k (by rw [HRk.out]; exact hkl)
          have HNr := Lib.hid (HNil2.out k r (Nat.le_refl _) hr)
          have HFL := Lib.hid (show ((D ++ L.drop k).map bare)[k]? = some (bare f) by rw [HDr.out, List.map_append, List.getElem?_append_right (by rw [List.length_map, HDk.out]; exact Nat.le_refl _), List.length_map, HDk.out, Nat.sub_self]; rfl)
          have HFB := Lib.hid (show (sizesFor f.coders.length u []).2.c.b.length ≤ 10000000 by rw [sizesFor_b]; exact HUB.out)
          obtain ⟨LP, -, hco, -⟩ := (HCU.out.rw.row k r (bare f) hr HFL.out).co
          obtain ⟨cao, ccap, hcv, -⟩ := hco.out
          have hkr : k < rows2.length := (List.getElem?_eq_some_iff.1 hr).1
          obtain ⟨g, cap, rfl⟩ : ∃ g cap, fv = .slice (some ⟨g, 0, none⟩) rows2.length cap := by
            rcases HCU.out.own.2 with ⟨-, h0⟩ | ⟨g, cap, cur, h1, -⟩
            · omega
            · exact ⟨g, cap, h1⟩
          have hcell : wr.cell? ⟨g, k * 6, none⟩ = some (.slice cao f.coders.length ccap) := (HCU.out.own.cellAt (k * 6) (by omega)).trans ((foV_get rows2 k r hr 0 (by omega)).trans (congrArg some hcv))
          have HCell := Lib.hid hcell
          have HHr := Lib.hid hr
          have hkrI : (k : Int) < (rows2.length : Int) := by omega
          have HM8 := Lib.hid (HSz.out f (List.mem_of_getElem? hf)).2
          clear hz hln hcell hco hcv hf hr
          go_wp2_with (go_at_call 31; refine (ok_any _ p cp q u _ HCU.out.rd).mono ?_; rw [HK.out, HO.out]; rintro e w2 ⟨rfl, R2, F2⟩; have C4 := HCU.out.on2 HLT.out F2.two1 R2; obtain ⟨-, -, -, -, -, -, l6, -⟩ := cells9 C4.rd.blk; have hg : w.heap.size ≤ g := (own_ltS C4.own g rfl).1; have hgw := (own_ltS HCU.out.own g rfl).2; have l0 := (F2.cell (p := ⟨g, k * 6, none⟩) hgw (fun hm => by have h5 : g = p := List.mem_singleton.1 hm; have := HLT.out; omega)).trans HCell.out)
          have HWk : w.heap.size ≤ w2.heap.size := C4.fr.size
          have HC4 := Lib.hid C4
          have Z0 := C4.toSz HHr.out HNr.out
          have hm8 : (f.coders.length : Int) ≤ 8 := by have := HM8.out; omega
          go_loopw [60] (fun v wq => ∃ (j : Nat) (S : List UInt64) (sv : Value) (x : Rs), j ≤ f.coders.length ∧ v = .int .i64 (j : Int) ∧ S.length = j ∧ sizesFor f.coders.length u [] = sizesFor (f.coders.length - j) x S ∧ x.c.b.length ≤ 10000000 ∧ SzM w p cp q d rows2 (.slice (some ⟨g, 0, none⟩) rows2.length cap) w2 k r S sv x wq) (fun v _ => f.coders.length - (intOf v).toNat)
          case atStart => exact ⟨0, [], .slice none 0 0, u, Nat.zero_le _, rfl, rfl, rfl, HUB.out, Z0⟩
          case round =>
            obtain ⟨j, S, sv, x, hj, rfl, hSj, hsf, hxb, ZU⟩ := hrel
            obtain ⟨sao, scap, rfl, -⟩ := own_outS ZU.sz
            have HSf := Lib.hid hsf
            have HSj := Lib.hid hSj
            have HXB := Lib.hid hxb
            have HZU := Lib.hid ZU
            clear hsf hSj hxb ZU
            by_cases hlj : j < f.coders.length
            · have hljI : (j : Int) < (f.coders.length : Int) := by omega
              have HSf2 := Lib.hid (show sizesFor f.coders.length u [] = sizesFor (f.coders.length - (j + 1)) x.size.2 (S ++ [UInt64.ofNat x.size.1]) by rw [HSf.out, show f.coders.length - j = (f.coders.length - (j + 1)) + 1 by omega]; rfl)
              have HZS := Lib.hid (fun wy d (R : RdAt wy p cp q x d) => size_ok wy p cp q x d R HXB.out)
              have HXB2 := Lib.hid (show x.size.2.c.b.length ≤ 10000000 by rw [size_b]; exact HXB.out)
              have HV := Lib.hid (size_le x)
              generalize x.size.2 = x2 at *
              generalize x.size.1 = v at *
              have HVN := Lib.hid (show ((UInt64.ofNat v).toNat : Int) = (v : Int) by have := HV.out; simp; omega)
              go_wp2_with fail
              have Zd := HZU.out.on2 HLT.out HWk ((Fr.refl _ _).drew) (HZU.out.rd.same Same.drew)
              have hcz : ∀ wz (Z : SzM w p cp q d rows2 (.slice (some ⟨g, 0, none⟩) rows2.length cap) w2 k r S (.slice sao S.length scap) x2 wz), wz.cell? ⟨g, k * 6 + 3, none⟩ = some (.slice sao S.length scap) := fun wz Z => by
                have hk6 := (List.getElem?_eq_some_iff.1 HHr.out).1
                rw [Z.own.cellAt (k * 6 + 3) (by omega), foV_get _ k { r with sv := .slice sao S.length scap } (by rw [List.getElem?_set, if_pos rfl, if_pos hk6]) 3 (by omega)]
                rfl
              have HCZ := Lib.hid hcz
              have e0 : wr.drew.cell? ⟨g, k * 6 + 3, none⟩ = some (.slice sao S.length scap) := by
                have hk6 := (List.getElem?_eq_some_iff.1 HHr.out).1
                rw [Zd.own.cellAt (k * 6 + 3) (by omega), foV_get _ k { r with sv := .slice sao S.length scap } (by rw [List.getElem?_set, if_pos rfl, if_pos hk6]) 3 (by omega)]
                rfl
              clear hcz
              go_region_law (first
                | (have hq := Z3; refine step_append_struct sty_u64 rfl _ _ (by rfl) w2.heap.size _ _ _ (by rfl) (own_frB Z3.sz ((Fr.refl [] w3).alloc (.cells #[.int .u64 (v : Int)] 29)) (by simp)) w3.heap.size [.int .u64 (v : Int)] (by rfl) (heap_alloc_new w3 _) rfl rfl (by have := HSj.out; omega) (by decide) (by rw [World.size_alloc]; have := Z3.old.size; omega) ?_; intro v2 w7 own7 g7; obtain ⟨vao2, vcap2, rfl, -⟩ := own_outS own7; obtain ⟨R7, k3, kz, Z7⟩ := Z3.snoc (x := UInt64.ofNat v) HLT.out HLQ.out HWk HHr.out g7 (by rw [HVN.out]; exact own7))
                | (go_simp; go_at_call 61; refine (HZS.out _ _ Zd.rd).mono ?_; rintro e w3 ⟨rfl, R3, F3⟩; have Z3 := Zd.on2 HLT.out HWk F3 R3; have e3 := HCZ.out _ Z3; have e3a : (w3.alloc (.cells #[.int .u64 (v : Int)] 29)).cell? ⟨g, k * 6 + 3, none⟩ = some (.slice sao S.length scap) := (((Fr.refl [] w3).alloc _).cell (p := ⟨g, k * 6 + 3, none⟩) (own_ltS Z3.own g rfl).2 (by simp)).trans e3))
              all_goals
                go_wp2_with fail
                go_roundw
                case rel => exact ⟨j + 1, S ++ [UInt64.ofNat v], _, x2, by omega, by go_num, by rw [List.length_append, HSj.out]; rfl, HSf2.out, HXB2.out, Z7⟩
                case measure => simp [intOf]; omega
            · have hje : j = f.coders.length := by omega
              have hljI : (f.coders.length : Int) ≤ (j : Int) := by omega
              have HSE := Lib.hid (show sizesFor f.coders.length u [] = (S, x) by rw [HSf.out, hje, Nat.sub_self]; rfl)
              have FF := HZU.out.toFs HC4.out HLT.out HHr.out HFL.out
              rw [set_bare HDk.out HDr.out] at FF
              have HFF := Lib.hid FF
              clear FF
              go_wp2_with fail
              go_roundw
              case rel => exact ⟨k + 1, rows2.set k { r with sv := .slice sao S.length scap }, D ++ [{ f with sizes := S }], x, by omega, by go_num, by rw [List.length_append, HDk.out]; rfl, by rw [HG3.out, HSE.out], HXB.out, fun _ => HLn.out, by rw [List.length_set]; exact HRk.out, .inr (by have := HLn.out; omega), (fun i r' hi hr' => by
                  rw [List.getElem?_set, if_neg (by omega)] at hr'
                  exact HNil2.out i r' (by omega) hr'), HFF.out⟩
              case measure => simp [intOf]; omega
        · have hke : k = n := by omega
          have HE := Lib.hid (show sizesGo L t' [] = (D, u) by rw [HGo2.out, hke, ← HLn.out, List.drop_length]; show (_, u.ok) = _; rw [HO.out])
          have hltI : (n : Int) ≤ (k : Int) := by omega
          have HFD := Lib.hid (show (D ++ L.drop k).map bare = D.map bare by rw [hke, ← HLn.out, List.drop_length, List.append_nil])
          clear hz hln
          go_wp2_with (go_at_call 31; refine (ok_any _ p cp q u _ HCU.out.rd).mono ?_; rw [HK.out, HO.out]; rintro e w2 ⟨rfl, R2, F2⟩)
          go_meet
          case rel => exact ⟨rows2, D, u, HE.out, HO.out, fun _ => by rw [HDk.out, hke], by rw [HDk.out]; exact Nat.le_trans hk HNL.out, HUB.out, by have := HCU.out.on2 HLT.out F2.two1 R2; rw [HFD.out] at this; exact this⟩
      · have HK := Lib.hid (show (u.ok.k == 0) = false by rw [beq_eq_false_iff_ne]; exact hz)
        have HE := Lib.hid (show sizesGo L t' [] = (D ++ L.drop k, u.ok) by rw [HGo2.out, sizesGo_bad hz])
        have HZ := Lib.hid hz
        clear hz hln
        go_wp2_with (go_at_call 31; refine (ok_any _ p cp q u _ HCU.out.rd).mono ?_; rw [HK.out]; rintro e w2 ⟨rfl, R2, F2⟩)
        go_meet
        case rel => exact ⟨rows2, D ++ L.drop k, u.ok, HE.out, Rs.ok_ok u, fun h => absurd h HZ.out, by rw [List.length_append, List.length_drop, HDk.out]; have := HkL.out; have := HLe.out; omega, HUB.out, HCU.out.on2 HLT.out F2.two1 R2⟩
  case rest =>
  clear C3
  obtain ⟨rows2, D, t2, hsg, hto2, hdl, hd7, htb2, C4⟩ := hcut
  have HRes := Lib.hid (show s.folders = Rs.foldersB D n t2.byte.1 t2.byte.2 by rw [HSA.out, hsg])
  have HDL := Lib.hid (show t2.byte.2.ok.k = 0 → D.length = n from fun h => hdl (by
    have hk := (Rs.ok_zero h).1
    exact hk))
  have HD7 := Lib.hid hd7
  have HTB3 := Lib.hid htb2
  have HTB4 := Lib.hid (show t2.byte.2.c.b.length ≤ 10000000 by rw [byte_b]; exact htb2)
  clear hsg hto2 hdl hd7 htb2
  (refine hK3 _ _ ?_; clear hK3; refine wp_seq_k fun K4 hK4 => ?_)
  go_cut [6] (fun v6 wx => v6 = .int .i64 (t2.byte.1 : Int) ∧ FsM w p cp q d rows2 (D.map bare) fv t2.byte.2 wx)
  case first =>
    clear hK4
    go_wp2_with (go_at_call 28; refine (byte_any _ p cp q t2 _ C4.rd HTB3.out).mono ?_; rintro e w4 ⟨rfl, R4, F4⟩)
    go_meet
    case rel => exact ⟨rfl, C4.on2 HLT.out F4.two2 R4⟩
  case rest =>
  clear C4
  obtain ⟨rfl, C5⟩ := hcut
  generalize t2.byte.2 = u at *
  generalize t2.byte.1 = id at *
  (refine hK4 _ _ ?_; clear hK4; refine wp_seq_k fun K5 hK5 => ?_)
  go_cut [6, 7, 8] (fun v6 _ _ wx => ∃ (id2 : Nat) (rows3 : List FoRow) (L3 : List Fol) (u3 : Rs), v6 = .int .i64 (id2 : Int) ∧ s.folders = (L3, u3.end_ id2) ∧ FsM w p cp q d rows3 L3 fv u3 wx)
  case first =>
    clear hK5
    by_cases h10 : id = 10
    · subst h10
      by_cases hz : u.ok.k = 0
      · have HK := Lib.hid (show (u.ok.k == 0) = true by rw [hz]; rfl)
        have HO := Lib.hid (Rs.ok_of_zero hz)
        have HDn := Lib.hid (HDL.out hz)
        have HE := Lib.hid (show s.folders = (withCks D (u.sums n).1, (u.sums n).2.byte.2.end_ (u.sums n).2.byte.1) by
          rw [HRes.out, Rs.foldersB, show u.at (10 == 10) = (true, u) by show ((u.ok.k == 0), u.ok) = _; rw [hz, Rs.ok_of_zero hz]; rfl]
          simp only [if_true])
        have HCL := Lib.hid (sums_len u n)
        have HSB := Lib.hid (show (u.sums n).2.c.b.length ≤ 10000000 by rw [sums_b]; exact HTB4.out)
        have HSU := Lib.hid (fun wy d (R : RdAt wy p cp q u d) => sums_ok wy p cp q u d n R HTB4.out HNL.out)
        clear hz
        generalize (u.sums n).2 = u1 at *
        generalize (u.sums n).1 = cs at *
        have hcI : (cs.length : Int) ≤ 10000000 := by have := HCL.out; have := HNL.out; omega
        go_wp2_with (first
          | (have hq := C7; go_at_call 62; refine (HSU.out _ _ C7.rd).mono ?_; rintro e w7 ⟨⟨v, rfl, hv⟩, R7, F7⟩; have C8 := C7.on2 HLT.out F7 R7; obtain ⟨vao, vcap, rfl, -⟩ := hv.out)
          | (go_at_call 31; refine (ok_any _ p cp q u _ C5.rd).mono ?_; rw [HK.out, HO.out]; rintro e w6 ⟨rfl, R6, F6⟩; have C7 := C5.on2 HLT.out F6.two1 R6))
        have hR2 : rows2.length = D.length := by have := C5.rw.len; simpa using this
        go_loopw [86] (fun v wr => ∃ (k : Nat) (rows3 : List FoRow), k ≤ cs.length ∧ v = .int .i64 (k : Int) ∧ rows3.length = D.length ∧ Sm wr w6.heap.size 45 2 (.slice vao cs.length vcap) cs.length (ckV cs) ∧ FsM w p cp q d rows3 (withCks D (cs.take k)) fv u1 wr) (fun v _ => cs.length - (intOf v).toNat)
        case atStart => exact ⟨0, rows2, Nat.zero_le _, rfl, hR2, hv, by rw [List.take_zero, withCks_nil]; exact C8⟩
        case round =>
          obtain ⟨k, rows3, hk, rfl, hR3, hv3, CU⟩ := hrel
          have HR3 := Lib.hid hR3
          have HV3 := Lib.hid hv3
          have HCU := Lib.hid CU
          clear hv hR3 CU
          by_cases hlt : k < cs.length
          · have hltI : (k : Int) < (cs.length : Int) := by omega
            obtain ⟨c, hc⟩ := some_get cs k hlt
            have hkD : k < D.length := by rw [HDn.out]; have := HCL.out; omega
            obtain ⟨f, hf⟩ := some_get D k hkD
            obtain ⟨r, hr⟩ := some_get rows3 k (by rw [HR3.out]; exact hkD)
            obtain ⟨x1, x2, he, -, -, ho⟩ := hv3.out
            obtain ⟨b, o, rfl, hblo, hb, hcell⟩ := ho k hlt
            injection he with e1 e2 e3
            subst e1
            have c0 : wr.cell? ⟨b, o + k * 2, none⟩ = some (.bool c.has) := (hcell (k * 2) (by omega)).trans (ckV_get cs k c hc).1
            have c1 : wr.cell? ⟨b, o + k * 2 + 1, none⟩ = some (.int .u32 c.sum.toNat) := by
              have := (hcell (k * 2 + 1) (by omega)).trans (ckV_get cs k c hc).2
              rwa [← Nat.add_assoc] at this
            have hkr : k < rows3.length := (List.getElem?_eq_some_iff.1 hr).1
            obtain ⟨g, cap, rfl⟩ : ∃ g cap, fv = .slice (some ⟨g, 0, none⟩) rows3.length cap := by
              rcases HCU.out.own.2 with ⟨-, h0⟩ | ⟨g, cap, cur, h1, -⟩
              · omega
              · exact ⟨g, cap, h1⟩
            have hkrI : (k : Int) < (rows3.length : Int) := by omega
            have CA := HCU.out.fr0 ((Fr.refl [] wr).alloc (.cells #[.bool c.has, .int .u32 c.sum.toNat] 45))
            have a6 := (cells9 CA.rd.blk).2.2.2.2.2.2.1
            have m4 : (wr.alloc (.cells #[.bool c.has, .int .u32 c.sum.toNat] 45)).cell? ⟨g, k * 6 + 4, none⟩ = some (.bool r.has) := (CA.own.cellAt (k * 6 + 4) (by omega)).trans ((foV_get rows3 k r hr 4 (by omega)).trans rfl)
            have m5 : (wr.alloc (.cells #[.bool c.has, .int .u32 c.sum.toNat] 45)).cell? ⟨g, k * 6 + 5, none⟩ = some (.int .u32 r.sum.toNat) := (CA.own.cellAt (k * 6 + 5) (by omega)).trans ((foV_get rows3 k r hr 5 (by omega)).trans rfl)
            have mz := fun j => CA.own.frozenAt j
            have HC := Lib.hid (And.intro hc (And.intro hf hr))
            have HCA := Lib.hid CA
            clear hcell ho e2 e3 hc hf hr hv3 CA
            go_wp2_with fail
            go_region
            go_wp2_with fail
            have hx1 : (withCks D (cs.take k))[k]? = some ⟨f, (cs.take k).getD k ⟨false, 0⟩⟩ := by rw [withCks_get, HC.out.2.1]; rfl
            have CK := HCA.out.check HLT.out HLQ.out HC.out.2.2 hx1 c
            rw [withCks_set D cs k f c HC.out.2.1 HC.out.1] at CK
            have CKd := CK.on2 HLT.out ((Fr.refl _ _).drew) (CK.rd.same Same.drew)
            have hgb := own_ltS HCU.out.own g rfl
            have VF : Sm (wr.alloc (.cells #[.bool c.has, .int .u32 c.sum.toNat] 45)) w6.heap.size 45 2 (.slice (some ⟨b, o, none⟩) cs.length vcap) cs.length (ckV cs) := HV3.out.fr0 ((Fr.refl _ _).alloc _)
            have hgt : Typed (wr.alloc (.cells #[.bool c.has, .int .u32 c.sum.toNat] 45)) g 47 := own_typed HCA.out.own g (by simp [Value.ownBlock])
            have FG : Fr [g] (wr.alloc (.cells #[.bool c.has, .int .u32 c.sum.toNat] 45)) (((wr.alloc (.cells #[.bool c.has, .int .u32 c.sum.toNat] 45)).setCell ⟨g, k * 6 + 4, none⟩ (.bool c.has)).setCell ⟨g, k * 6 + 5, none⟩ (.int .u32 c.sum.toNat)).drew := (((Fr.refl _ _).setCell (by simp) _).setCell (by simp) _).drew
            have VG := VF.frT FG (fun i hi => .inr (by rw [List.mem_singleton.1 hi]; exact hgt.ne (by decide)))
            go_roundw
            case rel => exact ⟨k + 1, _, by omega, by go_num, by rw [List.length_set]; exact HR3.out, VG, CKd⟩
            case measure => simp [intOf]; omega
          · have hke : k = cs.length := by omega
            have hltI : (cs.length : Int) ≤ (k : Int) := by omega
            have CE := HCU.out
            rw [hke, withCks_all] at CE
            have HBY := Lib.hid (byte_any wr p cp q u1 _ CE.rd HSB.out)
            go_wp2_with (go_at_call 28; refine HBY.out.mono ?_; rintro e w9 ⟨rfl, R9, F9⟩)
            go_meet
            case rel => exact ⟨_, rows3, _, _, rfl, HE.out, CE.on2 HLT.out F9.two2 R9⟩
      · have HK := Lib.hid (show (u.ok.k == 0) = false by rw [beq_eq_false_iff_ne]; exact hz)
        have HE := Lib.hid (show s.folders = (D.map bare, u.ok.end_ 10) by
          rw [HRes.out, Rs.foldersB, show u.at (10 == 10) = (false, u.ok) by show ((u.ok.k == 0), u.ok) = _; rw [beq_eq_false_iff_ne.2 hz]]
          simp only [Bool.false_eq_true, if_false, withCks_nil])
        clear hz
        go_wp2_with (go_at_call 31; refine (ok_any _ p cp q u _ C5.rd).mono ?_; rw [HK.out]; rintro e w6 ⟨rfl, R6, F6⟩)
        go_meet
        case rel => exact ⟨10, rows2, _, u.ok, rfl, HE.out, C5.on2 HLT.out F6.two1 R6⟩
    · have t0 : ((id : Int) == 10) = false := by rw [beq_eq_false_iff_ne]; omega
      have HE := Lib.hid (show s.folders = (D.map bare, u.end_ id) by
        rw [HRes.out, Rs.foldersB, show (id == 10) = false from by simpa using h10, Rs.at_false]
        simp only [Bool.false_eq_true, if_false, withCks_nil])
      clear h10
      go_wp2_with fail
      go_meet
      case rel => exact ⟨id, rows2, _, u, rfl, HE.out, C5⟩
  case rest =>
  obtain ⟨id2, rows3, L3, u3, rfl, hres, C6⟩ := hcut
  have HRs := Lib.hid hres
  clear hres C5
  go_wp2_with (first
    | (go_at_call 50; refine (end_any _ p cp q u3 _ id2 C6.rd).mono ?_; rintro e w7 ⟨rfl, R7, F7⟩))
  go_end0
  exact ⟨rfl, rows3, fv, by rw [HRs.out]; exact C6.on2 HLT.out F7 R7⟩
end Go.Proofs.Ythdfjbliafdchaa
