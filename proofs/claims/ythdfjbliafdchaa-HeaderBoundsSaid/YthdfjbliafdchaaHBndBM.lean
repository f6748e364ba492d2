/- The reader of headers, plain: the bounds of a header that is read without a fault. No condition. -/
import Derived.Test.YthdfjbliafdchaaHBndM
namespace Go.Proofs.Ythdfjbliafdchaa

theorem told_ok_len {s : Rs} {n : Nat} (h : (s.told (n : Int)).2.ok.k = 0) : (s.told (n : Int)).1.length = n := by
  have hc0 : (s.c.told (n : Int)).2.code = 0 := ((ok_k _).1 h).2
  have fails : ∀ (c : Cur) k, k ≠ 0 → (c.fail k).code ≠ 0 := fun c k hk e => by
    unfold Cur.fail at e
    dsimp only at e
    split at e
    · exact hk e
    · contradiction
  have bl : ∀ c : Cur, (c.bits (n : Int)).2.code = 0 → (c.bits (n : Int)).1.length = n := fun c h => by
    unfold Cur.bits at h ⊢
    by_cases h1 : c.code ≠ 0 ∨ (n : Int) < 0 ∨ c.left < ((n : Int).toNat + 7) / 8
    · rw [if_pos h1] at h; exact absurd h (fails _ 3 (by omega))
    · rw [if_neg h1] at h
      rw [if_neg h1]
      by_cases h2 : padded (c.row (n : Int).toNat) (n : Int).toNat = true
      · rw [if_pos h2] at h; exact absurd h (fails _ 5 (by omega))
      · rw [if_neg h2, unpack_length]; simp
  show (s.c.told (n : Int)).1.length = n
  unfold Cur.told at hc0 ⊢
  by_cases h1 : s.c.left < 1 ∨ (n : Int) < 0
  · rw [if_pos h1] at hc0; exact absurd hc0 (fails _ 3 (by omega))
  rw [if_neg h1] at hc0
  rw [if_neg h1]
  by_cases h2 : s.c.head = 1
  · rw [if_pos h2]; simp
  rw [if_neg h2] at hc0
  rw [if_neg h2]
  by_cases h3 : s.c.head = 0
  · rw [if_pos h3] at hc0
    rw [if_pos h3]
    by_cases h4 : (Cur.bits { s.c with at_ := s.c.at_ + 1 } (n : Int)).2.code ≠ 0
    · rw [if_pos h4] at hc0
      exact absurd hc0 h4
    · rw [if_neg h4]
      exact bl _ (by simpa using h4)
  · rw [if_neg h3] at hc0
    exact absurd hc0 (fails _ 5 (by omega))
theorem sumsL_ok_len : ∀ (hs : List Bool) (s : Rs) (out : List Ck), (sumsL hs s out).2.ok.k = 0 → (sumsL hs s out).1.length = out.length + hs.length
  | [], s, out, _ => rfl
  | false :: t, s, out, h => by
    rw [sumsL_false] at h ⊢
    by_cases hk : s.ok.k ≠ 0
    · rw [if_pos hk] at h
      dsimp only at h
      rw [Rs.ok_ok] at h
      exact absurd h hk
    · rw [if_neg hk] at h
      rw [if_neg hk, sumsL_ok_len t _ _ h]
      simp
      omega
  | true :: t, s, out, h => by
    rw [sumsL_true] at h ⊢
    by_cases hk : (s.num 4).2.ok.k ≠ 0
    · rw [if_pos hk] at h
      dsimp only at h
      rw [Rs.ok_ok] at h
      exact absurd h hk
    · rw [if_neg hk] at h
      rw [if_neg hk, sumsL_ok_len t _ _ h]
      simp
      omega
theorem sums_ok_len {s : Rs} {n : Nat} (h : (s.sums n).2.ok.k = 0) : (s.sums n).1.length = n := by
  have h1 : (s.told n).2.ok.k = 0 := (sumsL_st _ _ _).keep h
  have h2 := sumsL_ok_len (s.told n).1 (s.told n).2 [] h
  rw [told_ok_len h1, List.length_nil, Nat.zero_add] at h2
  exact h2
theorem packsGo_ok_len : ∀ (n m : Nat) (s : Rs) (P : List UInt64), (packsGo n m s P).2.2.ok.k = 0 → (packsGo n m s P).2.1.length = P.length + n
  | 0, m, s, P, _ => rfl
  | n + 1, m, s, P, h => by
    have hl : (s.sumOf m).ok = s.sumOf m := by
      have hl : s.size.2.ok = s.size.2 := lim_ok s _ 7 (by omega)
      unfold Rs.sumOf
      split
      · exact Rs.fail_ok (by omega)
      · exact hl
    by_cases hc : (s.sumOf m).k ≠ 0
    · rw [packsGo_bad hc] at h
      dsimp only at h
      rw [hl] at h
      exact absurd h hc
    · rw [packsGo_ok hc] at h
      rw [packsGo_ok hc, packsGo_ok_len n _ _ _ h]
      simp
      omega
theorem packsEnd_len {P : List UInt64} {n id : Nat} {s : Rs} (hn : P.length = n) (h : (Rs.packsEnd P n id s).2.ok.k = 0) : (Rs.packsEnd P n id s).1.length = P.length := by
  unfold Rs.packsEnd at h ⊢
  by_cases hc : (s.at (id == 10)).1 = true
  · rw [if_pos hc] at h
    rw [if_pos hc]
    dsimp only at h ⊢
    have h2 := (end_st _ _).keep h
    have h1 := (byte_st _).keep h2
    rw [sums_ok_len h1, hn]
  · rw [if_neg hc]
    simp
/-- What is packed: as many sums as sizes, not more than the header's bytes; its place is bounded. -/
theorem packs_nice {s : Rs} (h : s.packs.2.ok.k = 0) : s.packs.1.1 ≤ 1099511627776 ∧ s.packs.1.2.1.length ≤ s.c.b.length ∧ s.packs.1.2.2.length = s.packs.1.2.1.length := by
  unfold Rs.packs at h ⊢
  have hpl := size_le s
  have htl := things_le s.size.2
  rw [size_b] at htl
  generalize s.size.2.things.2.byte.2 = u at *
  generalize s.size.2.things.2.byte.1 = id at *
  generalize s.size.2.things.1 = n at *
  generalize s.size.1 = pl at *
  cases hat : u.at (id == 9) with
  | mk c v =>
  cases c with
  | true =>
    rw [packsA_true hat] at h
    rw [packsA_true hat]
    by_cases he : (packsGo n 0 v []).1 = true
    · exfalso
      -- it ended early, so something was wrong
      have early : ∀ (n m : Nat) (s : Rs) (P : List UInt64), (packsGo n m s P).1 = true → (packsGo n m s P).2.2.ok.k ≠ 0 := fun n => by
        induction n with
        | zero => intro m s P h; cases h
        | succ n ih =>
          intro m s P h
          have hl : (s.sumOf m).ok = s.sumOf m := by
            have hl : s.size.2.ok = s.size.2 := lim_ok s _ 7 (by omega)
            unfold Rs.sumOf
            split
            · exact Rs.fail_ok (by omega)
            · exact hl
          by_cases hc : (s.sumOf m).k ≠ 0
          · rw [packsGo_bad hc]
            dsimp only
            rw [hl]
            exact hc
          · rw [packsGo_ok hc] at h ⊢
            exact ih _ _ _ h
      rw [if_pos he] at h
      exact early _ _ _ _ he h
    · rw [if_neg he] at h
      rw [if_neg he]
      dsimp only at h ⊢
      have h2 := (packsEnd_st _ _ _ _).keep h
      have h1 := (byte_st _).keep h2
      have hl := packsGo_ok_len n 0 v [] h1
      simp at hl
      exact ⟨hpl, by omega, packsEnd_len hl h⟩
  | false =>
    rw [packsA_false hat] at h
    rw [packsA_false hat]
    dsimp only at h ⊢
    have h2 := (packsEnd_st _ _ _ _).keep h
    have hn : n = 0 := by
      by_cases hn : 0 < n
      · exfalso
        rw [decide_eq_true hn, Rs.at_true] at h2
        dsimp only at h2
        by_cases hz : v.ok.k = 0
        · rw [hz] at h2
          exact fail_no (by omega) h2
        · rw [beq_eq_false_iff_ne.2 hz] at h2
          simp only [Bool.false_eq_true, if_false] at h2
          rw [Rs.ok_ok] at h2
          exact hz h2
      · omega
    exact ⟨hpl, by simp, packsEnd_len (by rw [hn]; rfl) h⟩

/-- Streams as the document bounds them. -/
structure StrNice (B : Nat) (D : Strm) : Prop where
  pl : D.pl ≤ 1099511627776
  ps : D.ps.length ≤ B
  cs : D.cs.length = D.ps.length
  fo : ∀ x ∈ D.fo, FolSz x.f
  ss : RowsOK D.fo D.ss
theorem streamsC_nice {B : Nat} {D : Strm} {id : Nat} {s : Rs} (hD : D.pl ≤ 1099511627776 ∧ D.ps.length ≤ B ∧ D.cs.length = D.ps.length) (hF : ∀ x ∈ D.fo, FolSz x.f) (h : (Rs.streamsC D id s).2.ok.k = 0) : StrNice B (Rs.streamsC D id s).1 := by
  have hp : RowsOK D.fo (plainL D.fo) := fun i x l hx hl => by
    rw [plainL_get, hx] at hl
    simp at hl
    subst hl
    exact plain_row (hF x (List.mem_of_getElem? hx))
  unfold Rs.streamsC at h ⊢
  by_cases hc : (s.at (id == 8)).1 = true
  · rw [if_pos hc] at h
    rw [if_pos hc]
    dsimp only at h
    have h2 := (end_st _ _).keep h
    have h1 := (byte_st _).keep h2
    exact ⟨hD.1, hD.2.1, hD.2.2, hF, subs_sum hF h1⟩
  · rw [if_neg hc]
    exact ⟨hD.1, hD.2.1, hD.2.2, hF, hp⟩
theorem streamsB_nice {B : Nat} {D : Strm} {id : Nat} {s : Rs} (hD : D.pl ≤ 1099511627776 ∧ D.ps.length ≤ B ∧ D.cs.length = D.ps.length) (hF : D.fo = []) (h : (Rs.streamsB D id s).2.ok.k = 0) : StrNice B (Rs.streamsB D id s).1 := by
  unfold Rs.streamsB at h ⊢
  generalize hu : (s.at (id == 7)).2 = u at *
  by_cases hc : (s.at (id == 7)).1 = true
  · rw [if_pos hc] at h
    rw [if_pos hc]
    have h2 := (streamsC_st _ _ _).keep h
    have h1 := (byte_st _).keep h2
    have hn := folders_nice h1
    generalize u.folders = r at *
    generalize hD2 : ({ D with fo := r.1 } : Strm) = D2 at *
    refine streamsC_nice ?_ ?_ h
    · rw [← hD2]; exact hD
    · rw [← hD2]; exact hn
  · rw [if_neg hc] at h
    rw [if_neg hc]
    exact streamsC_nice hD (by rw [hF]; simp) h
theorem streams_nice {s : Rs} (h : s.streams.2.ok.k = 0) : StrNice s.c.b.length s.streams.1 := by
  unfold Rs.streams Rs.streamsA at h ⊢
  have hb : (s.byte.2.at (s.byte.1 == 6)).2.c.b = s.c.b := by rw [Rs.at_c, byte_b]
  generalize hu : (s.byte.2.at (s.byte.1 == 6)).2 = u at *
  by_cases hc : (s.byte.2.at (s.byte.1 == 6)).1 = true
  · rw [if_pos hc] at h
    rw [if_pos hc]
    have h2 := (streamsB_st _ _ _).keep h
    have h1 := (byte_st _).keep h2
    have hn := packs_nice h1
    rw [hb] at hn
    generalize u.packs = r at *
    generalize hD2 : (⟨r.1.1, r.1.2.1, r.1.2.2, [], []⟩ : Strm) = D2 at *
    refine streamsB_nice ?_ ?_ h
    · rw [← hD2]; exact hn
    · rw [← hD2]
  · rw [if_neg hc] at h
    rw [if_neg hc]
    exact streamsB_nice ⟨by simp, by simp, rfl⟩ rfl h

/-- No file has a stream and is a directory. -/
structure LsNice (L : Lst) : Prop where
  sd : ∀ (i : Nat) x, L.files[i]? = some x → x.stream = true → x.dir = false
  em : ∀ (i : Nat) x, L.files[i]? = some x → L.empty[i]? = some true → x.stream = false
theorem withEmpty_nice {L : Lst} {E : List Bool} (h : LsNice L) : LsNice { L with empty := E, files := withEmpty L.files E } := by
  have key : ∀ (i : Nat) x, (withEmpty L.files E)[i]? = some x → ∃ y, L.files[i]? = some y ∧ x = (match E[i]? with | some b => { y with stream := !b, dir := b } | none => y) := fun i x hx => by
    unfold withEmpty at hx
    rw [List.getElem?_mapIdx] at hx
    obtain ⟨y, hy, e⟩ := Option.map_eq_some_iff.1 hx
    exact ⟨y, hy, e.symm⟩
  refine ⟨fun i x hx hs => ?_, fun i x hx he => ?_⟩
  · obtain ⟨y, hy, e⟩ := key i x hx
    cases hE : E[i]? with
    | none => rw [hE] at e; subst e; exact h.sd i _ hy hs
    | some b =>
      rw [hE] at e
      subst e
      cases b with
      | true => cases hs
      | false => rfl
  · obtain ⟨y, hy, e⟩ := key i x hx
    have he' : E[i]? = some true := he
    rw [he'] at e
    subst e
    rfl
theorem keep_nice {L : Lst} {F : List Fil} (h : LsNice L) (hF : ∀ (i : Nat) x, F[i]? = some x → ∃ y, L.files[i]? = some y ∧ x.stream = y.stream ∧ x.dir = y.dir) : LsNice { L with files := F } := by
  refine ⟨fun i x hx hs => ?_, fun i x hx he => ?_⟩
  · obtain ⟨y, hy, e1, e2⟩ := hF i x hx
    rw [e2]
    exact h.sd i y hy (by rw [← e1]; exact hs)
  · obtain ⟨y, hy, e1, e2⟩ := hF i x hx
    rw [e1]
    exact h.em i y hy he
def SameSD (F G : List Fil) : Prop := ∀ (i : Nat) x, F[i]? = some x → ∃ y, G[i]? = some y ∧ x.stream = y.stream ∧ x.dir = y.dir
theorem SameSD.refl (F : List Fil) : SameSD F F := fun _ x h => ⟨x, h, rfl, rfl⟩
theorem SameSD.trans {F G H : List Fil} (h : SameSD F G) (k : SameSD G H) : SameSD F H := fun i x hx => by
  obtain ⟨y, hy, e1, e2⟩ := h i x hx
  obtain ⟨z, hz, e3, e4⟩ := k i y hy
  exact ⟨z, hz, e1.trans e3, e2.trans e4⟩
theorem SameSD.modify (F : List Fil) (i : Nat) (f : Fil → Fil) (hf : ∀ x, (f x).stream = x.stream ∧ (f x).dir = x.dir) : SameSD (F.modify i f) F := fun j x hx => by
  rw [List.getElem?_modify] at hx
  cases hF : F[j]? with
  | none => rw [hF] at hx; simp at hx
  | some y =>
    rw [hF] at hx
    by_cases e : i = j
    · simp [e] at hx
      subst hx
      exact ⟨y, rfl, (hf y).1, (hf y).2⟩
    · simp [e] at hx
      subst hx
      exact ⟨y, rfl, rfl, rfl⟩
theorem namesGo_sd : ∀ (m i : Nat) (s : Rs) (F : List Fil), SameSD (namesGo m i s F).1 F
  | 0, _, s, F => SameSD.refl F
  | m + 1, i, s, F => by
    by_cases h : s.ok.k = 0
    · by_cases h2 : s.units.2.ok.k = 0
      · rw [namesGo_ok h h2]
        exact (namesGo_sd m _ _ _).trans (SameSD.modify F i _ (fun x => ⟨rfl, rfl⟩))
      · rw [namesGo_cut h h2]; exact SameSD.refl F
    · rw [namesGo_bad h]; exact SameSD.refl F
theorem numsGo_sd (id : Nat) : ∀ (l : List Bool) (k : Nat) (s : Rs) (F : List Fil), SameSD (numsGo id l k s F).1 F
  | [], k, s, F => SameSD.refl F
  | false :: t, k, s, F => by rw [numsGo_no]; exact numsGo_sd id t _ _ _
  | true :: t, k, s, F => by
    by_cases h : (s.num (numSz id)).2.ok.k = 0
    · rw [numsGo_ok h]
      refine (numsGo_sd id t _ _ _).trans ?_
      unfold numAt
      split
      · exact SameSD.modify F k _ (fun x => ⟨rfl, rfl⟩)
      · split
        · exact SameSD.modify F k _ (fun x => ⟨rfl, rfl⟩)
        · exact SameSD.refl F
    · rw [numsGo_bad h]; exact SameSD.refl F
theorem among_nice (id : Nat) : ∀ (z : List (Nat × Bool)) (L : Lst) (s : Rs), LsNice L → (∀ p ∈ z, L.empty[p.1]? = some true) → LsNice { L with files := (z.foldl (amongStep id) (L.files, s)).1 }
  | [], L, s, h, _ => h
  | a :: t, L, s, h, hz => by
    rw [List.foldl_cons]
    have ha := hz a (by simp)
    have step : LsNice { L with files := (amongStep id (L.files, s) a).1 } := by
      unfold amongStep
      split
      · refine ⟨fun i x hx hs => ?_, fun i x hx he => ?_⟩
        · dsimp only at hx
          unfold dirAt at hx
          rw [List.getElem?_modify] at hx
          cases hF : L.files[i]? with
          | none => rw [hF] at hx; simp at hx
          | some y =>
            rw [hF] at hx
            by_cases e : a.1 = i
            · simp [e] at hx
              subst hx
              have := h.em i y hF (by rw [← e]; exact ha)
              have hs' : y.stream = true := hs
              rw [this] at hs'
              cases hs'
            · simp [e] at hx
              subst hx
              exact h.sd i _ hF hs
        · dsimp only at hx he
          unfold dirAt at hx
          rw [List.getElem?_modify] at hx
          cases hF : L.files[i]? with
          | none => rw [hF] at hx; simp at hx
          | some y =>
            rw [hF] at hx
            by_cases e : a.1 = i
            · simp [e] at hx
              subst hx
              exact h.em i y hF he
            · simp [e] at hx
              subst hx
              exact h.em i _ hF he
      · exact h
    exact among_nice id t { L with files := (amongStep id (L.files, s) a).1 } _ step (fun p hp => hz p (List.mem_cons_of_mem _ hp))
theorem posL_true {E : List Bool} {x : Nat} (h : x ∈ posL E) : E[x]? = some true := by
  unfold posL posN at h
  rw [List.mem_filter] at h
  obtain ⟨h1, h2⟩ := h
  rw [List.getD_eq_getElem?_getD] at h2
  cases hE : E[x]? with
  | none => rw [hE] at h2; simp at h2
  | some b => rw [hE] at h2; simp at h2; rw [h2]
theorem partBody_nice (n id : Nat) (L : Lst) (s : Rs) (h : LsNice L) : LsNice (partBody n id L s).1 := by
  unfold partBody
  split
  · exact withEmpty_nice h
  split
  · show LsNice { L with files := (amongL id L.empty L.files s).1 }
    unfold amongL
    refine among_nice id _ L _ h fun p hp => ?_
    exact posL_true (List.of_mem_zip hp).1
  split
  · exact keep_nice h (namesGo_sd _ _ _ _)
  split
  · exact keep_nice h (numsGo_sd _ _ _ _ _)
  split
  · exact h
  · exact h
theorem filesGo_nice (n : Nat) : ∀ (m : Nat) (L : Lst) (s : Rs), LsNice L → LsNice (filesGo n m L s).1
  | 0, L, s, h => h
  | m + 1, L, s, h => by
    by_cases hz : s.ok.k = 0
    rotate_left
    · rw [filesGo_bad hz]; exact h
    by_cases hzy : s.byte.2.ok.k = 0
    rotate_left
    · rw [filesGo_end hz (.inl hzy)]; exact h
    by_cases hv : s.byte.1 = 0
    · rw [filesGo_end hz (.inr hv)]; exact h
    have hs : LsNice (L.say s.byte.1) := ⟨h.sd, h.em⟩
    cases hm : mayL L.said s.byte.1 with
    | false => rw [filesGo_not hz hzy hv hm]; exact h
    | true =>
      by_cases hzz : s.byte.2.chunk.2.ok.k = 0
      · rw [filesGo_ok hz hzy hv hm hzz]
        exact filesGo_nice n m _ _ (partBody_nice _ _ _ _ hs)
      · rw [filesGo_cut hz hzy hv hm hzz]
        exact filesGo_nice n m _ _ hs
theorem files_nice (s : Rs) : ∀ x ∈ s.files.1, x.stream = true → x.dir = false := by
  intro x hx
  obtain ⟨i, hi⟩ := List.mem_iff_getElem?.1 hx
  have h0 : LsNice ⟨fun _ => false, [], List.replicate s.things.1 noFil⟩ := ⟨fun i x hx _ => by
    have := List.mem_of_getElem? hx
    rw [List.mem_replicate] at this
    rw [this.2]
    rfl, fun i x _ he => by simp at he⟩
  exact (filesGo_nice s.things.1 (s.things.2.c.b.length + 1) _ s.things.2 h0).sd i x hi
/-- What a header says, as the document bounds it. -/
structure DscNice (B : Nat) (r : Bool × Strm × List Fil) : Prop where
  st : StrNice B r.2.1
  fi : ∀ x ∈ r.2.2, x.stream = true → x.dir = false
  fl : r.2.2.length ≤ B
  fo : r.2.1.fo.length ≤ B
  ss : r.2.1.ss.length = r.2.1.fo.length
  rw : RowsIn B r.2.1.ss
  ct : r.1 = true ∨ totL r.2.1.ss = strN r.2.2
theorem noStrm_nice (B : Nat) : StrNice B noStrm := ⟨by simp [noStrm], by simp [noStrm], rfl, (by simp [noStrm]), (fun i x l hx _ => by simp [noStrm] at hx)⟩
theorem all_nice {s : Rs} (h : s.all.2.ok.k = 0) : StrNice s.c.b.length s.all.1.1 ∧ ∀ x ∈ s.all.1.2, x.stream = true → x.dir = false := by
  have hC : ∀ (D : Strm) (id : Nat) (u : Rs), (Rs.allC D id u).1.1 = D ∧ ∀ x ∈ (Rs.allC D id u).1.2, x.stream = true → x.dir = false := fun D id u => by
    unfold Rs.allC
    split
    · exact ⟨rfl, files_nice _⟩
    · exact ⟨rfl, fun x hx => by cases hx⟩
  have hB : ∀ (id : Nat) (u : Rs), u.c.b = s.c.b → (Rs.allB id u).2.ok.k = 0 → StrNice s.c.b.length (Rs.allB id u).1.1 ∧ ∀ x ∈ (Rs.allB id u).1.2, x.stream = true → x.dir = false := fun id u hub hk => by
    unfold Rs.allB at hk ⊢
    generalize hv : (u.at (id == 4)).2 = v at *
    have hvb : v.c.b = s.c.b := by rw [← hv, Rs.at_c, hub]
    by_cases hc : (u.at (id == 4)).1 = true
    · rw [if_pos hc] at hk
      rw [if_pos hc]
      have h2 := (allC_st _ _ _).keep hk
      have h1 := (byte_st _).keep h2
      have hn := streams_nice h1
      rw [hvb] at hn
      generalize v.streams = r at *
      have := hC r.1 r.2.byte.1 r.2.byte.2
      rw [this.1]
      exact ⟨hn, this.2⟩
    · rw [if_neg hc]
      have := hC noStrm id v
      rw [this.1]
      exact ⟨noStrm_nice _, this.2⟩
  have hA : ∀ (id : Nat) (u : Rs), u.c.b = s.c.b → (Rs.allA id u).2.ok.k = 0 → StrNice s.c.b.length (Rs.allA id u).1.1 ∧ ∀ x ∈ (Rs.allA id u).1.2, x.stream = true → x.dir = false := fun id u hub hk => by
    unfold Rs.allA at hk ⊢
    refine hB id _ ?_ hk
    split
    · rw [Rs.fail_c, Rs.at_c, hub]
    · rw [Rs.at_c, hub]
  unfold Rs.all at h ⊢
  by_cases hc : (s.byte.2.at (s.byte.1 == 2)).1 = true
  · rw [if_pos hc] at h
    rw [if_pos hc]
    exact hA _ _ (by rw [byte_b, props_b, Rs.at_c, byte_b]) h
  · rw [if_neg hc] at h
    rw [if_neg hc]
    exact hA _ _ (by rw [Rs.at_c, byte_b]) h
/-- A header that is read without a fault is as the document bounds it. -/
theorem parse_nice (b : List UInt8) (h : (parseL b).2 = 0) : DscNice b.length (parseL b).1 := by
  by_cases hb : b = []
  · subst hb
    have e : (parseL []).1 = noDesc := rfl
    rw [e]
    exact ⟨noStrm_nice _, (by simp [noDesc]), Nat.zero_le _, Nat.zero_le _, rfl, RowsIn.nil _, .inr rfl⟩
  have hb1 : 1 ≤ b.length := by
    cases b with
    | nil => exact absurd rfl hb
    | cons x t => simp
  unfold parseL at h ⊢
  rw [if_neg hb] at h
  rw [if_neg hb]
  by_cases hz : (parseTail (parseBody (newRs b))).k = 0
  rotate_left
  · rw [if_neg hz] at h
    exact absurd h hz
  rw [if_pos hz]
  have hcnt : (parseBody (newRs b)).1.1 = true ∨ totL (parseBody (newRs b)).1.2.1.ss = strN (parseBody (newRs b)).1.2.2 := by
    cases hp : (parseBody (newRs b)).1.1 with
    | true => exact .inl rfl
    | false =>
      right
      unfold parseTail at hz
      by_cases hc : (parseBody (newRs b)).2.partEnd.ok.k = 0 ∧ (parseBody (newRs b)).1.1 = false
      · rw [if_pos hc] at hz
        unfold Rs.count at hz
        split at hz
        · assumption
        · rw [Rs.fail_k (by rw [hc.1])] at hz
          cases hz
      · rw [if_neg hc] at hz
        exact absurd ⟨hz, hp⟩ hc
  have hB : (parseBody (newRs b)).2.ok.k = 0 := by
    have h1 : (parseBody (newRs b)).2.partEnd.ok.k = 0 := by
      unfold parseTail at hz
      split at hz
      · rename_i hc; exact hc.1
      · exact hz
    exact (partEnd_st _).keep h1
  dsimp only
  refine ⟨?_, ?_, ?_, ?_, ?_, ?_, hcnt⟩
  all_goals
    clear hcnt hz h
    unfold parseBody at hB ⊢
    have hbb : (newRs b).byte.2.c.b = b := byte_b (newRs b)
    generalize (newRs b).byte.2 = s at *
    generalize (newRs b).byte.1 = id at *
    by_cases h1 : id = 1
    · rw [if_pos h1] at hB
      rw [if_pos h1]
      have hn := all_nice hB
      have hs := all_small s b.length hb1 (by rw [hbb]; exact Nat.le_refl _)
      rw [hbb] at hn hs
      first | exact hn.1 | exact hn.2 | exact hs.2.2.2 | exact hs.2.2.1 | exact hs.1 | exact hs.2.1
    rw [if_neg h1] at hB
    rw [if_neg h1]
    by_cases h2 : id = 23
    · rw [if_pos h2] at hB
      rw [if_pos h2]
      have h3 := (oneSub_st _ _).keep hB
      have hn := streams_nice h3
      have hs := streams_rows s b.length hb1 (by rw [hbb]; exact Nat.le_refl _)
      rw [hbb] at hn hs
      first | exact hn | exact (fun x hx => by cases hx) | exact Nat.zero_le _ | exact hs.2.2 | exact hs.1 | exact hs.2.1
    · rw [if_neg h2] at hB
      exact (fail_no (by omega) hB).elim
end Go.Proofs.Ythdfjbliafdchaa
