/- The reader of headers, plain: the bounds of what is read without a fault. No condition. -/
import Derived.Test.YthdfjbliafdchaaHStM
namespace Go.Proofs.Ythdfjbliafdchaa

/-- A folder as the document bounds it, its sizes aside. -/
structure FolNice (f : Folder) : Prop where
  c1 : 1 ≤ f.coders.length
  c8 : f.coders.length ≤ 8
  bl : f.binds.length + 1 = f.coders.length
  pl : f.packs.length + f.binds.length = insL f.coders
  pr : ∀ p ∈ f.packs, 0 ≤ p ∧ p < (insL f.coders : Int)
  br : ∀ b ∈ f.binds, 0 ≤ b.1 ∧ b.1 < (insL f.coders : Int) ∧ 0 ≤ b.2 ∧ b.2 < (f.coders.length : Int)
theorem fail_no {s : Rs} {e : Nat} (he : e ≠ 0) (h : (s.fail e).ok.k = 0) : False := by
  have h1 := ((ok_k _).1 h).1
  unfold Rs.fail at h1
  dsimp only at h1
  split at h1
  · exact he h1
  · contradiction
theorem check_no {s : Rs} {b : Bool} {e : Nat} (he : e ≠ 0) (h : (s.check b e).ok.k = 0) : b = false := by
  cases hb : b with
  | false => rfl
  | true =>
    exfalso
    unfold Rs.check at h
    rw [hb] at h
    by_cases hz : s.ok.k = 0
    · rw [if_pos ⟨hz, rfl⟩] at h
      exact fail_no he h
    · rw [if_neg (fun hh => hz hh.1), Rs.ok_ok] at h
      exact hz h
theorem ins_method (l : List UInt8) (h : methodOf l ≠ 0) : 1 ≤ ins (methodOf l : Int) := by
  unfold methodOf at h ⊢
  repeat' split
  all_goals first | decide | (exfalso; simp_all)
theorem coder_ins {s : Rs} (h : s.coder.2.ok.k = 0) : 1 ≤ ins s.coder.1.method := by
  unfold Rs.coder Rs.coderA at h ⊢
  generalize ((s.byte.2.check (decide (s.byte.1 / 64 ≠ 0)) 5).take (s.byte.1 % 16)).2 = u at *
  generalize ((s.byte.2.check (decide (s.byte.1 / 64 ≠ 0)) 5).take (s.byte.1 % 16)).1 = l at *
  by_cases hk : u.ok.k ≠ 0
  · rw [if_pos hk] at h
    dsimp only at h
    rw [Rs.ok_ok] at h
    exact absurd h hk
  rw [if_neg hk] at h
  rw [if_neg hk]
  have h1 := (coderB_st _ _ _).keep h
  show 1 ≤ ins ((u.ok.method l).1 : Int)
  unfold Rs.method at h1 ⊢
  by_cases hm : methodOf l ≠ 0
  · rw [if_pos hm]
    exact ins_method l hm
  · rw [if_neg hm] at h1
    exfalso
    by_cases ha : l = [6, 241, 7, 1]
    · rw [if_pos ha] at h1
      exact fail_no (by omega) h1
    · rw [if_neg ha] at h1
      exact fail_no (by omega) h1
theorem codersGo_nice : ∀ (m : Nat) (s : Rs) (L : List Coder), (codersGo m s L).2.ok.k = 0 → (∀ c ∈ L, 1 ≤ ins c.method) → (codersGo m s L).1.length = L.length + m ∧ ∀ c ∈ (codersGo m s L).1, 1 ≤ ins c.method
  | 0, s, L, _, hL => ⟨rfl, hL⟩
  | m + 1, s, L, h, hL => by
    by_cases hk : s.ok.k = 0
    · rw [codersGo_ok hk] at h ⊢
      have h1 := (codersGo_st m _ _).keep h
      have ih := codersGo_nice m _ _ h (fun c hc => by
        rcases List.mem_append.1 hc with hc | hc
        · exact hL c hc
        · simp at hc; subst hc; exact coder_ins h1)
      refine ⟨by rw [ih.1]; simp; omega, ih.2⟩
    · rw [codersGo_bad hk] at h
      dsimp only at h
      rw [Rs.ok_ok] at h
      exact absurd h hk
theorem insL_ge : ∀ (L : List Coder), (∀ c ∈ L, 1 ≤ ins c.method) → L.length ≤ insL L
  | [], _ => Nat.zero_le _
  | c :: t, h => by
    have ih := insL_ge t (fun c hc => h c (List.mem_cons_of_mem _ hc))
    have h1 := h c (by simp)
    unfold insL at ih ⊢
    rw [List.map_cons, List.sum_cons, List.length_cons]
    omega
theorem below_ok_lt {s : Rs} {m : Nat} (h : (s.below m).2.ok.k = 0) : (s.below m).1 < m := by
  unfold Rs.below Rs.lim at h ⊢
  by_cases h1 : s.number.2.ok.k ≠ 0
  · rw [if_pos h1] at h
    dsimp only at h
    rw [Rs.ok_ok] at h
    exact absurd h h1
  rw [if_neg h1] at h
  rw [if_neg h1]
  by_cases h2 : decide (m ≤ s.number.1) = true
  · rw [if_pos h2] at h
    exact (fail_no (by omega) h).elim
  · rw [if_neg h2]
    simpa using h2
theorem bindsGo_nice : ∀ (m i n : Nat) (s : Rs) (B : List (Int × Int)), (bindsGo m i n s B).2.ok.k = 0 → (∀ b ∈ B, 0 ≤ b.1 ∧ b.1 < (i : Int) ∧ 0 ≤ b.2 ∧ b.2 < (n : Int)) → (bindsGo m i n s B).1.length = B.length + m ∧ ∀ b ∈ (bindsGo m i n s B).1, 0 ≤ b.1 ∧ b.1 < (i : Int) ∧ 0 ≤ b.2 ∧ b.2 < (n : Int)
  | 0, i, n, s, B, _, hB => ⟨rfl, hB⟩
  | m + 1, i, n, s, B, h, hB => by
    by_cases hk : s.ok.k = 0
    · rw [bindsGo_ok hk] at h ⊢
      have h2 := (bindsGo_st m i n _ _).keep h
      have h1 := (below_st _ n).keep h2
      have ih := bindsGo_nice m i n _ _ h (fun b hb => by
        rcases List.mem_append.1 hb with hb | hb
        · exact hB b hb
        · simp at hb
          subst hb
          have := below_ok_lt h1
          have := below_ok_lt h2
          dsimp only
          omega)
      refine ⟨by rw [ih.1]; simp; omega, ih.2⟩
    · rw [bindsGo_bad hk] at h
      dsimp only at h
      rw [Rs.ok_ok] at h
      exact absurd h hk
theorem belowGo_nice : ∀ (m i : Nat) (s : Rs) (P : List Int), (belowGo m i s P).2.ok.k = 0 → (∀ p ∈ P, 0 ≤ p ∧ p < (i : Int)) → (belowGo m i s P).1.length = P.length + m ∧ ∀ p ∈ (belowGo m i s P).1, 0 ≤ p ∧ p < (i : Int)
  | 0, i, s, P, _, hP => ⟨rfl, hP⟩
  | m + 1, i, s, P, h, hP => by
    have h1 : (s.below i).2.ok.k = 0 := (belowGo_st m i _ _).keep h
    have ih := belowGo_nice m i (s.below i).2 (P ++ [((s.below i).1 : Int)]) h (fun p hp => by
      rcases List.mem_append.1 hp with hp | hp
      · exact hP p hp
      · simp at hp
        subst hp
        have := below_ok_lt h1
        omega)
    refine ⟨?_, ih.2⟩
    show (belowGo m i (s.below i).2 (P ++ [((s.below i).1 : Int)])).1.length = _
    rw [ih.1]; simp; omega
theorem freeAt_le (B : List (Int × Int)) (i : Nat) : freeAt B i ≤ i := by
  unfold freeAt
  cases h : (List.range i).find? fun (k : Nat) => !decide ((k : Int) ∈ B.map (·.1)) with
  | none => simp
  | some k =>
    have := List.mem_of_find?_eq_some h
    simp at this
    simp
    omega
/-- A folder that was read without a fault is as the document bounds it. -/
theorem folder_nice {s : Rs} (h : s.folder.2.ok.k = 0) : FolNice s.folder.1 := by
  unfold Rs.folder at h ⊢
  have hc := (folderC_st _ _).keep h
  have hn := check_no (by omega) hc
  have hn1 : 1 ≤ s.number.1 ∧ s.number.1 ≤ 8 := by simp at hn; omega
  generalize s.number.2.check (decide (s.number.1 < 1) || decide (8 < s.number.1)) 10 = u at *
  generalize s.number.1 = n at *
  unfold Rs.folderC at h ⊢
  have h2 := (folderD_st _ _ _).keep h
  have h1 := (bindsGo_st _ _ _ _ _).keep h2
  obtain ⟨q1, q2⟩ := codersGo_nice n u [] h1 (by simp)
  obtain ⟨q3, q4⟩ := bindsGo_nice _ _ n _ [] h2 (by simp)
  generalize (codersGo n u []).2 = v at *
  generalize (codersGo n u []).1 = C at *
  generalize (bindsGo (n - 1) (insL C) n v []).2 = z at *
  generalize (bindsGo (n - 1) (insL C) n v []).1 = B at *
  rw [List.length_nil, Nat.zero_add] at q1 q3
  have hi := insL_ge C q2
  unfold Rs.folderD at h ⊢
  rw [if_neg (by simp [h2])] at h
  rw [if_neg (by simp [h2])]
  by_cases he : insL C = B.length + 1
  · rw [if_pos he] at h
    rw [if_pos he]
    dsimp only at h ⊢
    by_cases hf : freeAt B (insL C) = insL C
    · rw [if_pos hf] at h
      exact (fail_no (by omega) h).elim
    · have hle := freeAt_le B (insL C)
      refine ⟨by dsimp only; omega, by dsimp only; omega, by dsimp only; omega, by dsimp only; simp; omega, fun p hp => ?_, fun b hb => ?_⟩
      · simp at hp
        subst hp
        dsimp only
        omega
      · have := q4 b hb
        dsimp only at this ⊢
        rw [q1]
        exact this
  · rw [if_neg he] at h
    rw [if_neg he]
    dsimp only at h ⊢
    obtain ⟨q5, q6⟩ := belowGo_nice _ _ _ [] h (by simp)
    rw [List.length_nil, Nat.zero_add] at q5
    refine ⟨by dsimp only; omega, by dsimp only; omega, by dsimp only; omega, by dsimp only; omega, q6, fun b hb => ?_⟩
    have := q4 b hb
    dsimp only at this ⊢
    rw [q1]
    exact this
theorem foldersGo_nice : ∀ (m : Nat) (s : Rs) (L : List Folder), (foldersGo m s L).2.ok.k = 0 → (∀ f ∈ L, FolNice f) → ∀ f ∈ (foldersGo m s L).1, FolNice f
  | 0, s, L, _, hL => hL
  | m + 1, s, L, h, hL => by
    by_cases hk : s.ok.k = 0
    · rw [foldersGo_ok hk] at h ⊢
      have h1 := (foldersGo_st m _ _).keep h
      exact foldersGo_nice m _ _ h (fun f hf => by
        rcases List.mem_append.1 hf with hf | hf
        · exact hL f hf
        · simp at hf; subst hf; exact folder_nice h1)
    · rw [foldersGo_bad hk]
      exact hL
/-- With its sizes. -/
def FolSz (f : Folder) : Prop := FolNice f ∧ f.sizes.length = f.coders.length ∧ ∀ z ∈ f.sizes, z.toNat ≤ 1099511627776
theorem sizesFor_le : ∀ (m : Nat) (s : Rs) (S : List UInt64), (∀ z ∈ S, z.toNat ≤ 1099511627776) → ∀ z ∈ (sizesFor m s S).1, z.toNat ≤ 1099511627776
  | 0, s, S, h => h
  | m + 1, s, S, h => sizesFor_le m s.size.2 (S ++ [UInt64.ofNat s.size.1]) (fun z hz => by
      rcases List.mem_append.1 hz with hz | hz
      · exact h z hz
      · simp at hz
        subst hz
        have := size_le s
        simp
        omega)
theorem sizesGo_nice : ∀ (L : List Folder) (s : Rs) (D : List Folder), (sizesGo L s D).2.ok.k = 0 → (∀ f ∈ L, FolNice f) → (∀ f ∈ D, FolSz f) → ∀ f ∈ (sizesGo L s D).1, FolSz f
  | [], s, D, _, _, hD => hD
  | x :: t, s, D, h, hL, hD => by
    by_cases hk : s.ok.k = 0
    · rw [sizesGo_ok hk] at h ⊢
      refine sizesGo_nice t _ _ h (fun f hf => hL f (List.mem_cons_of_mem _ hf)) (fun f hf => ?_)
      rcases List.mem_append.1 hf with hf | hf
      · exact hD f hf
      · simp at hf
        subst hf
        have hx := hL x (by simp)
        refine ⟨⟨hx.c1, hx.c8, hx.bl, hx.pl, hx.pr, hx.br⟩, ?_, sizesFor_le _ _ _ (by simp)⟩
        show (sizesFor x.coders.length s []).1.length = _
        rw [sizesFor_len]
        simp
    · rw [sizesGo_bad hk] at h
      dsimp only at h
      rw [Rs.ok_ok] at h
      exact absurd h hk
theorem folders_nice {s : Rs} (h : s.folders.2.ok.k = 0) : ∀ x ∈ s.folders.1, FolSz x.f := by
  unfold Rs.folders Rs.foldersA at h ⊢
  have h5 := (foldersB_st _ _ _ _).keep h
  have h4 := (byte_st _).keep h5
  have h3 := (sizesGo_st _ _ _).keep h4
  have h2 := (must_st _ 12).keep h3
  have h1 := (byte_st _).keep h2
  intro x hx
  obtain ⟨cs, hcs⟩ := foldersB_fst (sizesGo (foldersGo (s.must 11).things.1 (s.must 11).things.2.inside []).1 ((foldersGo (s.must 11).things.1 (s.must 11).things.2.inside []).2.must 12) []).1 (s.must 11).things.1 (sizesGo (foldersGo (s.must 11).things.1 (s.must 11).things.2.inside []).1 ((foldersGo (s.must 11).things.1 (s.must 11).things.2.inside []).2.must 12) []).2.byte.1 (sizesGo (foldersGo (s.must 11).things.1 (s.must 11).things.2.inside []).1 ((foldersGo (s.must 11).things.1 (s.must 11).things.2.inside []).2.must 12) []).2.byte.2
  rw [hcs] at hx
  exact sizesGo_nice _ _ _ h4 (foldersGo_nice _ _ _ h1 (by simp)) (by simp) x.f (withCks_mem hx)
theorem whole_le {f : Folder} (h : FolSz f) : (wholeOf f).toNat ≤ 1099511627776 := by
  unfold wholeOf
  split
  · rename_i i _
    rw [List.getD_eq_getElem?_getD]
    cases hz : f.sizes[i]? with
    | none => simp
    | some z => simpa using h.2.2 z (List.mem_of_getElem? hz)
  · simp

/-- A folder's subs: their sizes are the folder's. -/
structure RowOK (x : Fol) (l : List Sub) : Prop where
  le : ∀ y ∈ l, y.size.toNat ≤ 1099511627776
  sum : (l.map fun y => y.size.toNat).sum = (wholeOf x.f).toNat
def RowsOK (F : List Fol) (L : List (List Sub)) : Prop := ∀ (i : Nat) x l, F[i]? = some x → L[i]? = some l → RowOK x l
theorem RowOK.of_sizes {x : Fol} {l l' : List Sub} (h : RowOK x l) (e : l'.map (fun y => y.size) = l.map fun y => y.size) : RowOK x l' := by
  have e2 : l'.map (fun y => y.size.toNat) = l.map fun y => y.size.toNat := by
    have := congrArg (List.map UInt64.toNat) e
    rw [List.map_map, List.map_map] at this
    exact this
  refine ⟨fun y hy => ?_, by rw [e2]; exact h.sum⟩
  have h1 : y.size ∈ l'.map fun y => y.size := List.mem_map.2 ⟨y, hy, rfl⟩
  rw [e] at h1
  obtain ⟨z, hz, e3⟩ := List.mem_map.1 h1
  rw [← e3]
  exact h.le z hz
theorem plain_row {x : Fol} (h : FolSz x.f) : RowOK x [⟨wholeOf x.f, x.ck⟩] :=
  ⟨fun y hy => by simp at hy; subst hy; exact whole_le h, by simp⟩
theorem plainL_get (F : List Fol) (i : Nat) : (plainL F)[i]? = F[i]?.map fun x => [⟨wholeOf x.f, x.ck⟩] := by simp [plainL]
theorem cutGo_sum : ∀ (m left : Nat) (s : Rs) (Z : List Nat), (cutGo m left s Z).2.2.ok.k = 0 → left ≤ 1099511627776 → (∀ z ∈ Z, z ≤ 1099511627776) →
    (cutGo m left s Z).2.1.length = Z.length + m + 1 ∧ (cutGo m left s Z).2.1.sum = Z.sum + left ∧ ∀ z ∈ (cutGo m left s Z).2.1, z ≤ 1099511627776
  | 0, left, s, Z, _, hl, hZ => ⟨by show (Z ++ [left]).length = _; simp, by show (Z ++ [left]).sum = _; simp, fun z hz => by
      rcases List.mem_append.1 (show z ∈ Z ++ [left] from hz) with hz | hz
      · exact hZ z hz
      · simp at hz; omega⟩
  | m + 1, left, s, Z, h, hl, hZ => by
    by_cases hc : (s.size.2.check (decide (left < s.size.1)) 13).ok.k ≠ 0
    · rw [cutGo_bad hc] at h
      dsimp only at h
      rw [Rs.ok_ok] at h
      exact absurd h hc
    · have hb := check_no (s := s.size.2) (b := decide (left < s.size.1)) (e := 13) (by omega) (by simpa using hc)
      simp at hb
      rw [cutGo_ok hc] at h ⊢
      have hs := size_le s
      obtain ⟨q1, q2, q3⟩ := cutGo_sum m _ _ _ h (by omega) (fun z hz => by
        rcases List.mem_append.1 hz with hz | hz
        · exact hZ z hz
        · simp at hz; omega)
      refine ⟨by rw [q1]; simp; omega, by rw [q2]; simp; omega, q3⟩
theorem withSizes_map : ∀ (l : List Sub) (Z : List Nat), Z.length = l.length → (∀ z ∈ Z, z ≤ 1099511627776) → (withSizes l Z).map (fun y => y.size.toNat) = Z := by
  intro l Z hl hZ
  refine List.ext_getElem? fun i => ?_
  rw [List.getElem?_map]
  unfold withSizes
  rw [List.getElem?_mapIdx]
  by_cases hi : i < l.length
  · have h1 : l[i]? = some l[i] := by simp [hi]
    have h2 : Z[i]? = some Z[i] := by simp [hl, hi]
    rw [h1, h2]
    simp
    have := hZ (Z[i]) (List.getElem_mem _)
    omega
  · rw [List.getElem?_eq_none (l := l) (by omega), List.getElem?_eq_none (l := Z) (by omega)]
    rfl
theorem cutL_ok {x : Fol} {l : List Sub} {s : Rs} (hx : FolSz x.f) (hl : 1 ≤ l.length) (h : (cutL x.f l s).2.ok.k = 0) : RowOK x (cutL x.f l s).1 := by
  unfold cutL at h ⊢
  obtain ⟨q1, q2, q3⟩ := cutGo_sum (l.length - 1) (wholeOf x.f).toNat s [] h (whole_le hx) (by simp)
  have hlen : (cutGo (l.length - 1) (wholeOf x.f).toNat s []).2.1.length = l.length := by rw [q1]; simp; omega
  have hm := withSizes_map l _ hlen q3
  refine ⟨fun y hy => ?_, by dsimp only; rw [hm, q2]; simp⟩
  have : y.size.toNat ∈ (withSizes l (cutGo (l.length - 1) (wholeOf x.f).toNat s []).2.1).map (fun y => y.size.toNat) := List.mem_map.2 ⟨y, hy, rfl⟩
  rw [hm] at this
  exact q3 _ this
theorem cutsGo_sum : ∀ (F : List Fol) (L : List (List Sub)) (s : Rs) (D : List (List Sub)), (cutsGo F L s D).2.ok.k = 0 → (∀ x ∈ F, FolSz x.f) → (∀ l ∈ L, 1 ≤ l.length) → F.length = L.length →
    ∃ M, (cutsGo F L s D).1 = D ++ M ∧ RowsOK F M
  | x :: f, l :: u, s, D, h, hF, hL, hlen => by
    by_cases hk : s.ok.k = 0
    · rw [cutsGo_ok hk] at h ⊢
      have h1 := (cutsGo_st f u _ _).keep h
      obtain ⟨M, hM, hR⟩ := cutsGo_sum f u _ _ h (fun y hy => hF y (List.mem_cons_of_mem _ hy)) (fun y hy => hL y (List.mem_cons_of_mem _ hy)) (by simpa using hlen)
      refine ⟨(cutL x.f l s.ok).1 :: M, by rw [hM]; simp, fun i y r hy hr => ?_⟩
      cases i with
      | zero =>
        simp at hy hr
        subst hy hr
        exact cutL_ok (hF x (by simp)) (hL l (by simp)) h1
      | succ i => exact hR i y r (by simpa using hy) (by simpa using hr)
    · rw [cutsGo_bad hk] at h
      dsimp only at h
      rw [Rs.ok_ok] at h
      exact absurd h hk
  | [], L, s, D, _, _, _, hlen => by
    have : L = [] := List.eq_nil_of_length_eq_zero (by simpa using hlen.symm)
    subst this
    exact ⟨[], by simp [cutsGo], fun i x l hx _ => by simp at hx⟩
  | x :: f, [], s, D, _, _, _, hlen => by simp at hlen
theorem giveCks_sizes (F : List Fol) (L : List (List Sub)) (cs : List Ck) (i : Nat) : (giveCks F L cs)[i]?.map (List.map fun y => y.size) = L[i]?.map (List.map fun y => y.size) := by
  unfold giveCks
  generalize (unkIx F L).zip cs = z
  induction z generalizing L with
  | nil => rfl
  | cons a t ih =>
    rw [List.foldl_cons, ih]
    unfold putCk
    rw [List.getElem?_modify]
    cases L[i]? with
    | none => rfl
    | some l =>
      by_cases e : a.1.1 = i
      · simp [e]
        refine List.ext_getElem? fun j => ?_
        rw [List.getElem?_map, List.getElem?_map, List.getElem?_modify]
        cases l[j]? with
        | none => rfl
        | some y => by_cases e2 : a.1.2 = j <;> simp [e2]
      · simp [e]
theorem subsC_sum {F : List Fol} {L : List (List Sub)} {id : Nat} {s : Rs} (h : RowsOK F L) : RowsOK F (Rs.subsC F L id s).1 := by
  unfold Rs.subsC
  split
  · intro i x l hx hl
    dsimp only at hl
    have := giveCks_sizes F L ((s.at (id == 10)).2.sums (unknownN F L)).1 i
    rw [hl] at this
    cases hL : L[i]? with
    | none => rw [hL] at this; simp at this
    | some l0 =>
      rw [hL] at this
      simp at this
      exact (h i x l0 hx hL).of_sizes this
  · exact h
theorem countsGo_row : ∀ (SL : List (List Sub)) (s : Rs) (D : List (List Sub)), ∃ M, (countsGo SL s D).1 = D ++ M ∧ M.length = SL.length ∧ ∀ (i : Nat) l, M[i]? = some l → SL[i]? = some l ∨ 1 < l.length
  | [], s, D => ⟨[], by show D = _; simp, rfl, fun i l h => by simp at h⟩
  | x :: t, s, D => by
    by_cases hc : (s.things.2.check (decide (s.things.1 = 0)) 14).ok.k ≠ 0
    · rw [countsGo_bad hc]
      exact ⟨x :: t, rfl, rfl, fun i l h => .inl h⟩
    · rw [countsGo_ok hc]
      obtain ⟨M, hM, hl, hR⟩ := countsGo_row t (s.things.2.check (decide (s.things.1 = 0)) 14).ok (D ++ [if 1 < s.things.1 then List.replicate s.things.1 noSub else x])
      refine ⟨(if 1 < s.things.1 then List.replicate s.things.1 noSub else x) :: M, by rw [hM]; simp, by simp [hl], fun i l h => ?_⟩
      cases i with
      | zero =>
        simp at h
        subst h
        split
        · right; simpa
        · left; simp
      | succ i =>
        rcases hR i l (by simpa using h) with h1 | h1
        · left; simpa using h1
        · right; exact h1
/-- Subs that were read without a fault: a folder's sizes are its whole. -/
theorem subs_sum {F : List Fol} {s : Rs} (hF : ∀ x ∈ F, FolSz x.f) (h : (Rs.subs F (plainL F) s).2.ok.k = 0) : RowsOK F (Rs.subs F (plainL F) s).1 := by
  have hB : ∀ (L : List (List Sub)) (id : Nat) (s : Rs), (Rs.subsB F L id s).2.ok.k = 0 → L.length = F.length → (∀ l ∈ L, 1 ≤ l.length) → (∀ (i : Nat) l, L[i]? = some l → (plainL F)[i]? = some l ∨ 1 < l.length) → RowsOK F (Rs.subsB F L id s).1 := fun L id s h hlen h1 hrow => by
    unfold Rs.subsB at h ⊢
    by_cases hc : (s.at (id == 9)).1 = true
    · rw [if_pos hc] at h
      rw [if_pos hc]
      have h2 := (subsC_st _ _ _ _).keep h
      have h3 := (byte_st _).keep h2
      obtain ⟨M, hM, hR⟩ := cutsGo_sum F L (s.at (id == 9)).2 [] h3 hF h1 hlen.symm
      refine subsC_sum ?_
      rw [hM]
      exact hR
    · rw [if_neg hc] at h
      rw [if_neg hc]
      have h2 := (subsC_st _ _ _ _).keep h
      refine subsC_sum fun i x l hx hl => ?_
      have hmany : (L.any fun l => decide (1 < l.length)) = false := by
        cases hm : (L.any fun l => decide (1 < l.length)) with
        | false => rfl
        | true =>
          exfalso
          rw [hm, Rs.at_true] at h2
          dsimp only at h2
          by_cases hz : (s.at (id == 9)).2.ok.k = 0
          · rw [hz] at h2
            exact fail_no (by omega) h2
          · rw [beq_eq_false_iff_ne.2 hz] at h2
            simp only [Bool.false_eq_true, if_false] at h2
            rw [Rs.ok_ok] at h2
            exact hz h2
      rcases hrow i l hl with hp | hp
      · rw [plainL_get, hx] at hp
        simp at hp
        subst hp
        exact plain_row (hF x (List.mem_of_getElem? hx))
      · exfalso
        rw [List.any_eq_false] at hmany
        have := hmany l (List.mem_of_getElem? hl)
        simp at this
        omega
  unfold Rs.subs Rs.subsA at h ⊢
  by_cases hc : (s.byte.2.at (s.byte.1 == 13)).1 = true
  · rw [if_pos hc] at h
    rw [if_pos hc]
    obtain ⟨M, hM, hMl, hMr⟩ := countsGo_row (plainL F) (s.byte.2.at (s.byte.1 == 13)).2 []
    have hr := countsGo_rows (max 1 (s.byte.2.at (s.byte.1 == 13)).2.c.b.length) (plainL F) (s.byte.2.at (s.byte.1 == 13)).2 [] ((plainL_rows F).mono (by omega)) (RowsIn.nil _) (by omega)
    rw [List.nil_append] at hM
    refine hB _ _ _ h (by rw [hM, hMl, plainL_len]) (fun l hl => (hr l hl).1) ?_
    rw [hM]
    exact hMr
  · rw [if_neg hc] at h
    rw [if_neg hc]
    exact hB _ _ _ h (plainL_len F) (fun l hl => ((plainL_rows F) l hl).1) (fun i l hl => .inl hl)
end Go.Proofs.Ythdfjbliafdchaa
