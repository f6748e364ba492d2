/- The reader of headers, plain: with more bytes behind a header is none. No condition. -/
import Derived.Test.YthdfjbliafdchaaHExtM
namespace Go.Proofs.Ythdfjbliafdchaa

theorem foldersGo_ext (t : List UInt8) : ∀ (m : Nat) (s : Rs) (L : List Folder), (foldersGo m s L).2.ok.k = 0 → foldersGo m (s.ext t) L = ((foldersGo m s L).1, (foldersGo m s L).2.ext t)
  | 0, s, L, h => rfl
  | m + 1, s, L, h => by
    by_cases hk : s.ok.k = 0
    · rw [foldersGo_ok hk] at h
      have h1 := (foldersGo_st m _ _).keep h
      rw [foldersGo_ok hk, foldersGo_ok (show (s.ext t).ok.k = 0 from hk), folder_ext s t h1]
      exact foldersGo_ext t m _ _ h
    · rw [foldersGo_bad hk, foldersGo_bad (show (s.ext t).ok.k ≠ 0 from hk)]; rfl
theorem sizesFor_ext (t : List UInt8) : ∀ (m : Nat) (s : Rs) (S : List UInt64), (sizesFor m s S).2.ok.k = 0 → sizesFor m (s.ext t) S = ((sizesFor m s S).1, (sizesFor m s S).2.ext t)
  | 0, s, S, h => rfl
  | m + 1, s, S, h => by
    have h1 : s.size.2.ok.k = 0 := (sizesFor_st m _ _).keep h
    show sizesFor m (s.ext t).size.2 (S ++ [UInt64.ofNat (s.ext t).size.1]) = _
    rw [size_ext s t h1]
    exact sizesFor_ext t m _ _ h
theorem sizesGo_ext (t : List UInt8) : ∀ (L : List Folder) (s : Rs) (D : List Folder), (sizesGo L s D).2.ok.k = 0 → sizesGo L (s.ext t) D = ((sizesGo L s D).1, (sizesGo L s D).2.ext t)
  | [], s, D, h => rfl
  | f :: l, s, D, h => by
    by_cases hk : s.ok.k = 0
    · rw [sizesGo_ok hk] at h
      have h1 := (sizesGo_st l _ _).keep h
      rw [sizesGo_ok hk, sizesGo_ok (show (s.ext t).ok.k = 0 from hk), sizesFor_ext t _ s _ h1]
      exact sizesGo_ext t l _ _ h
    · rw [sizesGo_bad hk, sizesGo_bad (show (s.ext t).ok.k ≠ 0 from hk)]; rfl
theorem foldersB_ext (L : List Folder) (n id : Nat) (s : Rs) (t : List UInt8) (h : (Rs.foldersB L n id s).2.ok.k = 0) : Rs.foldersB L n id (s.ext t) = ((Rs.foldersB L n id s).1, (Rs.foldersB L n id s).2.ext t) := by
  unfold Rs.foldersB at h ⊢
  rw [ext_at]
  dsimp only
  by_cases hc : (s.at (id == 10)).1 = true
  · rw [if_pos hc] at h
    rw [if_pos hc, if_pos hc]
    dsimp only at h
    have h2 := (end_st _ _).keep h
    have h1 := (byte_st _).keep h2
    rw [sums_ext _ n t h1]
    dsimp only
    rw [byte_ext _ t h2, ext_end]
  · rw [if_neg hc, if_neg hc, ext_end]
theorem foldersA_ext (n : Nat) (s : Rs) (t : List UInt8) (h : (Rs.foldersA n s).2.ok.k = 0) : Rs.foldersA n (s.ext t) = ((Rs.foldersA n s).1, (Rs.foldersA n s).2.ext t) := by
  unfold Rs.foldersA at h ⊢
  have h5 := (foldersB_st _ _ _ _).keep h
  have h4 := (byte_st _).keep h5
  have h3 := (sizesGo_st _ _ _).keep h4
  have h2 := (must_st _ 12).keep h3
  have h1 := (byte_st _).keep h2
  rw [foldersGo_ext t n s [] h1]
  dsimp only
  rw [must_ext _ 12 t h3, sizesGo_ext t _ _ _ h4]
  dsimp only
  rw [byte_ext _ t h5]
  exact foldersB_ext _ _ _ _ t h
theorem folders_ext (s : Rs) (t : List UInt8) (h : s.folders.2.ok.k = 0) : (s.ext t).folders = (s.folders.1, s.folders.2.ext t) := by
  unfold Rs.folders at h ⊢
  have h4 := (foldersA_st _ _).keep h
  have h3 := (inside_st _).keep h4
  have h2 := (byte_st _).keep h3
  have h1 := (things_st _).keep h2
  rw [must_ext s 11 t h1, things_ext _ t h2]
  dsimp only
  rw [inside_ext _ t h4]
  exact foldersA_ext _ _ t h
theorem sumOf_ext (s : Rs) (sum : Nat) (t : List UInt8) (h : (s.sumOf sum).ok.k = 0) : (s.ext t).sumOf sum = (s.sumOf sum).ext t := by
  have h1 : s.size.2.ok.k = 0 := by
    unfold Rs.sumOf at h
    split at h
    · exact (St.fail _ 7 (by omega)).keep h
    · exact h
  unfold Rs.sumOf
  rw [size_ext s t h1]
  dsimp only
  rw [ext_k]
  split <;> rfl
theorem sumOf_ok (s : Rs) (sum : Nat) : (s.sumOf sum).ok = s.sumOf sum := by
  have hl : s.size.2.ok = s.size.2 := lim_ok s _ 7 (by omega)
  unfold Rs.sumOf
  split
  · exact Rs.fail_ok (by omega)
  · exact hl
theorem packsGo_ext (t : List UInt8) : ∀ (n m : Nat) (s : Rs) (P : List UInt64), (packsGo n m s P).2.2.ok.k = 0 → packsGo n m (s.ext t) P = ((packsGo n m s P).1, (packsGo n m s P).2.1, (packsGo n m s P).2.2.ext t)
  | 0, m, s, P, h => rfl
  | n + 1, m, s, P, h => by
    have hz : (s.sumOf m).k = 0 := by
      by_cases e : (s.sumOf m).k = 0
      · exact e
      · rw [packsGo_bad e, sumOf_ok] at h
        exact absurd h e
    have hne : ¬ (s.sumOf m).k ≠ 0 := by simp [hz]
    rw [packsGo_ok hne] at h
    have h1 := (packsGo_st n _ _ _).keep h
    have hx : (s.ext t).sumOf m = (s.sumOf m).ext t := sumOf_ext s m t (by rw [sumOf_ok]; exact hz)
    rw [packsGo_ok hne, packsGo_ok (s := s.ext t) (by rw [hx]; exact hne), size_ext s t h1]
    exact packsGo_ext t n _ _ _ h
theorem packsEnd_ext (P : List UInt64) (n id : Nat) (s : Rs) (t : List UInt8) (h : (Rs.packsEnd P n id s).2.ok.k = 0) : Rs.packsEnd P n id (s.ext t) = ((Rs.packsEnd P n id s).1, (Rs.packsEnd P n id s).2.ext t) := by
  unfold Rs.packsEnd at h ⊢
  rw [ext_at]
  dsimp only
  by_cases hc : (s.at (id == 10)).1 = true
  · rw [if_pos hc] at h
    rw [if_pos hc, if_pos hc]
    dsimp only at h
    have h2 := (end_st _ _).keep h
    have h1 := (byte_st _).keep h2
    rw [sums_ext _ n t h1]
    dsimp only
    rw [byte_ext _ t h2, ext_end]
  · rw [if_neg hc, if_neg hc, ext_end]
theorem packsA_ext (n id pl : Nat) (s : Rs) (t : List UInt8) (h : (Rs.packsA n id pl s).2.ok.k = 0) : Rs.packsA n id pl (s.ext t) = ((Rs.packsA n id pl s).1, (Rs.packsA n id pl s).2.ext t) := by
  cases hat : s.at (id == 9) with
  | mk c u =>
  have hat2 : (s.ext t).at (id == 9) = (c, u.ext t) := by rw [ext_at, hat]
  cases c with
  | true =>
    rw [packsA_true hat] at h
    rw [packsA_true hat, packsA_true hat2]
    by_cases he : (packsGo n 0 u []).1 = true
    · rw [if_pos he] at h
      rw [packsGo_ext t n 0 u [] h]
      dsimp only
      rw [if_pos he, if_pos he]
    · rw [if_neg he] at h
      dsimp only at h
      have h2 := (packsEnd_st _ _ _ _).keep h
      have h1 := (byte_st _).keep h2
      rw [packsGo_ext t n 0 u [] h1]
      dsimp only
      rw [if_neg he, if_neg he, byte_ext _ t h2]
      dsimp only
      rw [packsEnd_ext _ _ _ _ t h]
  | false =>
    rw [packsA_false hat] at h
    rw [packsA_false hat, packsA_false hat2, ext_at]
    dsimp only at h ⊢
    have hx : (if (u.at (decide (0 < n))).1 = true then ((u.at (decide (0 < n))).2.ext t).fail 5 else (u.at (decide (0 < n))).2.ext t) = (if (u.at (decide (0 < n))).1 = true then (u.at (decide (0 < n))).2.fail 5 else (u.at (decide (0 < n))).2).ext t := by
      split <;> rfl
    rw [hx, packsEnd_ext _ _ _ _ t h]
theorem packs_ext (s : Rs) (t : List UInt8) (h : s.packs.2.ok.k = 0) : (s.ext t).packs = (s.packs.1, s.packs.2.ext t) := by
  unfold Rs.packs at h ⊢
  have h3 := (packsA_st _ _ _ _).keep h
  have h2 := (byte_st _).keep h3
  have h1 := (things_st _).keep h2
  rw [size_ext s t h1]
  dsimp only
  rw [things_ext _ t h2]
  dsimp only
  rw [byte_ext _ t h3]
  exact packsA_ext _ _ _ _ t h
theorem countsGo_ext (t : List UInt8) : ∀ (SL : List (List Sub)) (s : Rs) (D : List (List Sub)), (countsGo SL s D).2.ok.k = 0 → countsGo SL (s.ext t) D = ((countsGo SL s D).1, (countsGo SL s D).2.ext t)
  | [], s, D, h => rfl
  | x :: l, s, D, h => by
    have h1 : s.things.2.ok.k = 0 := by
      by_cases hc : (s.things.2.check (decide (s.things.1 = 0)) 14).ok.k ≠ 0
      · rw [countsGo_bad hc] at h
        dsimp only at h
        rw [Rs.ok_ok] at h
        exact absurd h hc
      · exact (check_st _ (decide (s.things.1 = 0)) 14 (by omega)).keep (by simpa using hc)
    have hx := things_ext s t h1
    by_cases hc : (s.things.2.check (decide (s.things.1 = 0)) 14).ok.k ≠ 0
    · rw [countsGo_bad hc] at h
      dsimp only at h
      rw [Rs.ok_ok] at h
      exact absurd h hc
    · have hc2 : ¬ ((s.ext t).things.2.check (decide ((s.ext t).things.1 = 0)) 14).ok.k ≠ 0 := by
        rw [hx]
        dsimp only
        rw [ext_check, ext_okk]
        exact hc
      rw [countsGo_ok hc] at h
      rw [countsGo_ok hc, countsGo_ok hc2, hx]
      dsimp only
      rw [ext_check, ext_ok]
      exact countsGo_ext t l _ _ h
theorem cutGo_ext (t : List UInt8) : ∀ (m left : Nat) (s : Rs) (Z : List Nat), (cutGo m left s Z).2.2.ok.k = 0 → cutGo m left (s.ext t) Z = ((cutGo m left s Z).1, (cutGo m left s Z).2.1, (cutGo m left s Z).2.2.ext t)
  | 0, left, s, Z, h => rfl
  | m + 1, left, s, Z, h => by
    by_cases hc : (s.size.2.check (decide (left < s.size.1)) 13).ok.k ≠ 0
    · rw [cutGo_bad hc] at h
      dsimp only at h
      rw [Rs.ok_ok] at h
      exact absurd h hc
    · have h1 : s.size.2.ok.k = 0 := (check_st _ (decide (left < s.size.1)) 13 (by omega)).keep (by simpa using hc)
      have hx := size_ext s t h1
      have hc2 : ¬ ((s.ext t).size.2.check (decide (left < (s.ext t).size.1)) 13).ok.k ≠ 0 := by
        rw [hx]
        dsimp only
        rw [ext_check, ext_okk]
        exact hc
      rw [cutGo_ok hc] at h
      rw [cutGo_ok hc, cutGo_ok hc2, hx]
      dsimp only
      rw [ext_check, ext_ok]
      exact cutGo_ext t m _ _ _ h
theorem cutL_ext (f : Folder) (l : List Sub) (s : Rs) (t : List UInt8) (h : (cutL f l s).2.ok.k = 0) : cutL f l (s.ext t) = ((cutL f l s).1, (cutL f l s).2.ext t) := by
  unfold cutL at h ⊢
  rw [cutGo_ext t _ _ s [] h]
theorem cutsGo_ext (t : List UInt8) : ∀ (F : List Fol) (L : List (List Sub)) (s : Rs) (D : List (List Sub)), (cutsGo F L s D).2.ok.k = 0 → cutsGo F L (s.ext t) D = ((cutsGo F L s D).1, (cutsGo F L s D).2.ext t)
  | x :: f, l :: u, s, D, h => by
    by_cases hk : s.ok.k = 0
    · rw [cutsGo_ok hk] at h
      have h1 := (cutsGo_st f u _ _).keep h
      rw [cutsGo_ok hk, cutsGo_ok (s := s.ext t) hk, ext_ok, cutL_ext _ _ _ t h1]
      exact cutsGo_ext t f u _ _ h
    · rw [cutsGo_bad hk, cutsGo_bad (s := s.ext t) hk]; rfl
  | [], L, s, D, h => by simp only [cutsGo]; rfl
  | x :: f, [], s, D, h => by simp only [cutsGo]; rfl
theorem subsC_ext (F : List Fol) (L : List (List Sub)) (id : Nat) (s : Rs) (t : List UInt8) (h : (Rs.subsC F L id s).2.ok.k = 0) : Rs.subsC F L id (s.ext t) = ((Rs.subsC F L id s).1, (Rs.subsC F L id s).2.ext t) := by
  unfold Rs.subsC at h ⊢
  rw [ext_at]
  dsimp only
  by_cases hc : (s.at (id == 10)).1 = true
  · rw [if_pos hc] at h
    rw [if_pos hc, if_pos hc]
    dsimp only at h
    have h2 := (end_st _ _).keep h
    have h1 := (byte_st _).keep h2
    rw [sums_ext _ _ t h1]
    dsimp only
    rw [byte_ext _ t h2, ext_end]
  · rw [if_neg hc, if_neg hc, ext_end]
theorem subsB_ext (F : List Fol) (L : List (List Sub)) (id : Nat) (s : Rs) (t : List UInt8) (h : (Rs.subsB F L id s).2.ok.k = 0) : Rs.subsB F L id (s.ext t) = ((Rs.subsB F L id s).1, (Rs.subsB F L id s).2.ext t) := by
  unfold Rs.subsB at h ⊢
  rw [ext_at]
  dsimp only
  by_cases hc : (s.at (id == 9)).1 = true
  · rw [if_pos hc] at h
    rw [if_pos hc, if_pos hc]
    have h2 := (subsC_st _ _ _ _).keep h
    have h1 := (byte_st _).keep h2
    rw [cutsGo_ext t _ _ _ _ h1]
    dsimp only
    rw [byte_ext _ t h2]
    exact subsC_ext _ _ _ _ t h
  · rw [if_neg hc] at h
    rw [if_neg hc, if_neg hc, ext_at]
    dsimp only
    have hx : ∀ (c : Bool) (u : Rs), (if c = true then (u.ext t).fail 5 else u.ext t) = (if c = true then u.fail 5 else u).ext t := fun c u => by split <;> rfl
    rw [hx]
    exact subsC_ext _ _ _ _ t h
theorem subs_ext (F : List Fol) (L : List (List Sub)) (s : Rs) (t : List UInt8) (h : (Rs.subs F L s).2.ok.k = 0) : Rs.subs F L (s.ext t) = ((Rs.subs F L s).1, (Rs.subs F L s).2.ext t) := by
  have hA : ∀ (id : Nat) (s : Rs), (Rs.subsA F L id s).2.ok.k = 0 → Rs.subsA F L id (s.ext t) = ((Rs.subsA F L id s).1, (Rs.subsA F L id s).2.ext t) := fun id s h => by
    unfold Rs.subsA at h ⊢
    rw [ext_at]
    dsimp only
    by_cases hc : (s.at (id == 13)).1 = true
    · rw [if_pos hc] at h
      rw [if_pos hc, if_pos hc]
      have h2 := (subsB_st _ _ _ _).keep h
      have h1 := (byte_st _).keep h2
      rw [countsGo_ext t _ _ _ h1]
      dsimp only
      rw [byte_ext _ t h2]
      exact subsB_ext _ _ _ _ t h
    · rw [if_neg hc] at h
      rw [if_neg hc, if_neg hc]
      exact subsB_ext _ _ _ _ t h
  unfold Rs.subs at h ⊢
  have h1 := (subsA_st _ _ _ _).keep h
  rw [byte_ext s t h1]
  exact hA _ _ h
theorem streamsC_ext (D : Strm) (id : Nat) (s : Rs) (t : List UInt8) (h : (Rs.streamsC D id s).2.ok.k = 0) : Rs.streamsC D id (s.ext t) = ((Rs.streamsC D id s).1, (Rs.streamsC D id s).2.ext t) := by
  unfold Rs.streamsC at h ⊢
  rw [ext_at]
  dsimp only
  by_cases hc : (s.at (id == 8)).1 = true
  · rw [if_pos hc] at h
    rw [if_pos hc, if_pos hc]
    dsimp only at h
    have h2 := (end_st _ _).keep h
    have h1 := (byte_st _).keep h2
    rw [subs_ext _ _ _ t h1]
    dsimp only
    rw [byte_ext _ t h2, ext_end]
  · rw [if_neg hc, if_neg hc, ext_end]
theorem streamsB_ext (D : Strm) (id : Nat) (s : Rs) (t : List UInt8) (h : (Rs.streamsB D id s).2.ok.k = 0) : Rs.streamsB D id (s.ext t) = ((Rs.streamsB D id s).1, (Rs.streamsB D id s).2.ext t) := by
  unfold Rs.streamsB at h ⊢
  rw [ext_at]
  dsimp only
  generalize hu : (s.at (id == 7)).2 = u at *
  by_cases hc : (s.at (id == 7)).1 = true
  · rw [if_pos hc] at h
    rw [if_pos hc, if_pos hc]
    have h2 := (streamsC_st _ _ _).keep h
    have h1 := (byte_st _).keep h2
    rw [folders_ext u t h1]
    dsimp only
    rw [byte_ext _ t h2]
    dsimp only
    generalize u.folders = r at *
    generalize ({ D with fo := r.1 } : Strm) = D2 at *
    exact streamsC_ext D2 _ _ t h
  · rw [if_neg hc] at h
    rw [if_neg hc, if_neg hc]
    exact streamsC_ext _ _ _ t h
theorem streamsA_ext (id : Nat) (s : Rs) (t : List UInt8) (h : (Rs.streamsA id s).2.ok.k = 0) : Rs.streamsA id (s.ext t) = ((Rs.streamsA id s).1, (Rs.streamsA id s).2.ext t) := by
  unfold Rs.streamsA at h ⊢
  rw [ext_at]
  dsimp only
  generalize hu : (s.at (id == 6)).2 = u at *
  by_cases hc : (s.at (id == 6)).1 = true
  · rw [if_pos hc] at h
    rw [if_pos hc, if_pos hc]
    have h2 := (streamsB_st _ _ _).keep h
    have h1 := (byte_st _).keep h2
    rw [packs_ext u t h1]
    dsimp only
    rw [byte_ext _ t h2]
    dsimp only
    generalize u.packs = r at *
    generalize (⟨r.1.1, r.1.2.1, r.1.2.2, [], []⟩ : Strm) = D2 at *
    exact streamsB_ext D2 _ _ t h
  · rw [if_neg hc] at h
    rw [if_neg hc, if_neg hc]
    exact streamsB_ext _ _ _ t h
theorem streams_ext (s : Rs) (t : List UInt8) (h : s.streams.2.ok.k = 0) : (s.ext t).streams = (s.streams.1, s.streams.2.ext t) := by
  unfold Rs.streams at h ⊢
  have h1 := (streamsA_st _ _).keep h
  rw [byte_ext s t h1]
  exact streamsA_ext _ _ t h
theorem chunk_ext (s : Rs) (t : List UInt8) (h : s.chunk.2.ok.k = 0) : (s.ext t).chunk = (s.chunk.1, s.chunk.2.ext t) := by
  unfold Rs.chunk at h ⊢
  have h1 := (take_st _ _).keep h
  rw [things_ext s t h1]
  exact take_ext _ _ t h
/-- With fuel enough: more of it changes nothing. -/
theorem propsGo_ext (t : List UInt8) : ∀ (m j : Nat) (s : Rs), s.c.b.length - s.c.at_ < m → (propsGo m s).ok.k = 0 → propsGo (m + j) (s.ext t) = (propsGo m s).ext t
  | 0, j, s, hm, h => by omega
  | m + 1, j, s, hm, h => by
    rw [show m + 1 + j = (m + j) + 1 by omega]
    by_cases hc : s.byte.1 = 0 ∨ s.byte.2.ok.k ≠ 0
    · rw [propsGo_end hc] at h
      rw [Rs.ok_ok] at h
      have hx := byte_ext s t h
      rw [propsGo_end hc, propsGo_end (s := s.ext t) (by rw [hx]; dsimp only; rw [ext_okk]; exact hc), hx]
      rfl
    · have h1 : s.byte.1 ≠ 0 := fun e => hc (.inl e)
      have h2 : s.byte.2.ok.k = 0 := by
        by_cases e : s.byte.2.ok.k = 0
        · exact e
        · exact absurd (.inr e) hc
      have hx := byte_ext s t h2
      rw [propsGo_ok h1 h2] at h
      have h3 : s.byte.2.chunk.2.ok.k = 0 := (propsGo_st m _).keep h
      rw [propsGo_ok h1 h2, propsGo_ok (s := s.ext t) (by rw [hx]; exact h1) (by rw [hx]; exact h2), hx]
      dsimp only
      rw [chunk_ext _ t h3]
      dsimp only
      have hb := byte_on (byte_left h2)
      have hca := chunk_at s.byte.2
      refine propsGo_ext t m j _ ?_ h
      rw [chunk_b, byte_b]
      omega
theorem filesGo_ext (n : Nat) (t : List UInt8) : ∀ (m j : Nat) (L : Lst) (s : Rs), s.c.b.length - s.c.at_ < m → (filesGo n m L s).2.ok.k = 0 → filesGo n (m + j) L (s.ext t) = ((filesGo n m L s).1, (filesGo n m L s).2.ext t)
  | 0, j, L, s, hm, h => by omega
  | m + 1, j, L, s, hm, h => by
    rw [show m + 1 + j = (m + j) + 1 by omega]
    by_cases hz : s.ok.k = 0
    rotate_left
    · rw [filesGo_bad hz, filesGo_bad (s := s.ext t) hz]; rfl
    by_cases hzy : s.byte.2.ok.k = 0
    rotate_left
    · exfalso
      rw [filesGo_end hz (.inl hzy)] at h
      dsimp only at h
      rw [Rs.ok_ok] at h
      exact hzy h
    have hx := byte_ext s t hzy
    by_cases hv : s.byte.1 = 0
    · rw [filesGo_end hz (.inr hv), filesGo_end (s := s.ext t) hz (by rw [hx]; exact .inr hv), hx]
      rfl
    cases hm2 : mayL L.said s.byte.1 with
    | false =>
      exfalso
      rw [filesGo_not hz hzy hv hm2] at h
      exact fail_bad (by omega) h
    | true =>
      have hb := byte_on (byte_left hzy)
      have hca := chunk_at s.byte.2
      have h3 : s.byte.2.chunk.2.ok.k = 0 := by
        by_cases hzz : s.byte.2.chunk.2.ok.k = 0
        · exact hzz
        · rw [filesGo_cut hz hzy hv hm2 hzz] at h
          have := (filesGo_st n m _ _).keep h
          rw [Rs.ok_ok] at this
          exact this
      rw [filesGo_ok hz hzy hv hm2 h3] at h
      have hcx := chunk_ext s.byte.2 t h3
      rw [filesGo_ok hz hzy hv hm2 h3, filesGo_ok (s := s.ext t) hz (by rw [hx]; exact hzy) (by rw [hx]; exact hv) (by rw [hx]; exact hm2) (by rw [hx]; dsimp only; rw [hcx]; exact h3), hx]
      dsimp only
      rw [hcx]
      dsimp only
      have hto : ∀ (u : Rs) (e : Nat), (u.ext t).told' e = (u.told' e).ext t := fun u e => by
        unfold Rs.told'
        split <;> rfl
      rw [hto]
      refine filesGo_ext n t m j _ _ ?_ h
      rw [told'_c, chunk_b, byte_b]
      omega
theorem filesEnd_ext (L : Lst) (s : Rs) (n : Nat) (t : List UInt8) : Rs.filesEnd (L, s.ext t) n = ((Rs.filesEnd (L, s) n).1, (Rs.filesEnd (L, s) n).2.ext t) := by
  unfold Rs.filesEnd
  dsimp only
  rw [ext_okk]
  congr 1
  split <;> rfl
theorem files_ext (s : Rs) (t : List UInt8) (h : s.files.2.ok.k = 0) : (s.ext t).files = (s.files.1, s.files.2.ext t) := by
  unfold Rs.files at h ⊢
  have h2 : (s.things.2.filesN s.things.1).2.ok.k = 0 := (filesEnd_st _ _).keep h
  have h1 : s.things.2.ok.k = 0 := (filesGo_st _ _ _ _).keep h2
  rw [things_ext s t h1]
  dsimp only
  have hg : (s.things.2.ext t).filesN s.things.1 = ((s.things.2.filesN s.things.1).1, (s.things.2.filesN s.things.1).2.ext t) := by
    unfold Rs.filesN at h2 ⊢
    have hl : (s.things.2.ext t).c.b.length + 1 = (s.things.2.c.b.length + 1) + t.length := by
      show (s.things.2.c.b ++ t).length + 1 = _
      rw [List.length_append]
      omega
    rw [hl]
    exact filesGo_ext _ t _ _ _ _ (by omega) h2
  rw [hg, filesEnd_ext]
theorem allC_ext (D : Strm) (id : Nat) (s : Rs) (t : List UInt8) (h : (Rs.allC D id s).2.ok.k = 0) : Rs.allC D id (s.ext t) = ((Rs.allC D id s).1, (Rs.allC D id s).2.ext t) := by
  unfold Rs.allC at h ⊢
  rw [ext_at]
  dsimp only
  by_cases hc : (s.at (id == 5)).1 = true
  · rw [if_pos hc] at h
    rw [if_pos hc, if_pos hc]
    dsimp only at h
    have h2 := (end_st _ _).keep h
    have h1 := (byte_st _).keep h2
    rw [files_ext _ t h1]
    dsimp only
    rw [byte_ext _ t h2, ext_end]
  · rw [if_neg hc, if_neg hc, ext_end]
theorem allB_ext (id : Nat) (s : Rs) (t : List UInt8) (h : (Rs.allB id s).2.ok.k = 0) : Rs.allB id (s.ext t) = ((Rs.allB id s).1, (Rs.allB id s).2.ext t) := by
  unfold Rs.allB at h ⊢
  rw [ext_at]
  dsimp only
  by_cases hc : (s.at (id == 4)).1 = true
  · rw [if_pos hc] at h
    rw [if_pos hc, if_pos hc]
    have h2 := (allC_st _ _ _).keep h
    have h1 := (byte_st _).keep h2
    rw [streams_ext _ t h1]
    dsimp only
    rw [byte_ext _ t h2]
    exact allC_ext _ _ _ t h
  · rw [if_neg hc] at h
    rw [if_neg hc, if_neg hc]
    exact allC_ext _ _ _ t h
theorem allA_ext (id : Nat) (s : Rs) (t : List UInt8) (h : (Rs.allA id s).2.ok.k = 0) : Rs.allA id (s.ext t) = ((Rs.allA id s).1, (Rs.allA id s).2.ext t) := by
  unfold Rs.allA at h ⊢
  rw [ext_at]
  dsimp only
  have hx : ∀ (c : Bool) (u : Rs), (if c = true then (u.ext t).fail 6 else u.ext t) = (if c = true then u.fail 6 else u).ext t := fun c u => by split <;> rfl
  rw [hx]
  exact allB_ext _ _ t h
theorem props_ext (s : Rs) (t : List UInt8) (h : s.props.ok.k = 0) : (s.ext t).props = s.props.ext t := by
  unfold Rs.props at h ⊢
  have hl : (s.ext t).c.b.length + 1 = (s.c.b.length + 1) + t.length := by
    show (s.c.b ++ t).length + 1 = _
    rw [List.length_append]
    omega
  rw [hl]
  exact propsGo_ext t _ _ _ (by omega) h
theorem all_ext (s : Rs) (t : List UInt8) (h : s.all.2.ok.k = 0) : (s.ext t).all = (s.all.1, s.all.2.ext t) := by
  unfold Rs.all at h ⊢
  by_cases hc : (s.byte.2.at (s.byte.1 == 2)).1 = true
  · rw [if_pos hc] at h
    have h4 := (allA_st _ _).keep h
    have h3 := (byte_st _).keep h4
    have h2 : (s.byte.2.at (s.byte.1 == 2)).2.ok.k = 0 := (propsGo_st _ _).keep h3
    have h1 := (at_st _ _).keep h2
    rw [byte_ext s t h1]
    dsimp only
    rw [ext_at]
    dsimp only
    rw [if_pos hc, if_pos hc, props_ext _ t h3, byte_ext _ t h4]
    exact allA_ext _ _ t h
  · rw [if_neg hc] at h
    have h2 := (allA_st _ _).keep h
    have h1 := (at_st _ _).keep h2
    rw [byte_ext s t h1]
    dsimp only
    rw [ext_at]
    dsimp only
    rw [if_neg hc, if_neg hc]
    exact allA_ext _ _ t h
theorem parseBody_ext (s : Rs) (t : List UInt8) (h : (parseBody s).2.ok.k = 0) : parseBody (s.ext t) = ((parseBody s).1, (parseBody s).2.ext t) := by
  unfold parseBody at h ⊢
  by_cases h1 : s.byte.1 = 1
  · rw [if_pos h1] at h
    have h3 := (all_st _).keep h
    rw [byte_ext s t h3]
    dsimp only
    rw [if_pos h1, if_pos h1, all_ext _ t h]
  · rw [if_neg h1] at h
    by_cases h2 : s.byte.1 = 23
    · rw [if_pos h2] at h
      have h4 := (oneSub_st _ _).keep h
      have h3 := (streams_st _).keep h4
      rw [byte_ext s t h3]
      dsimp only
      rw [if_neg h1, if_neg h1, if_pos h2, if_pos h2, streams_ext _ t h4]
      dsimp only
      congr 1
      unfold oneSub
      rw [ext_okk]
      split <;> rfl
    · rw [if_neg h2] at h
      exact absurd h (fun h => fail_bad (by omega) h)
/-- With bytes behind it a header is none. -/
theorem parse_more (b t : List UInt8) (hb : b ≠ []) (ht : t ≠ []) (h : (parseL b).2 = 0) : (parseL (b ++ t)).2 = 5 := by
  have hz : (parseTail (parseBody (newRs b))).k = 0 := by
    unfold parseL at h
    rw [if_neg hb] at h
    split at h
    · assumption
    · exact h
  -- the body is read without a fault
  have hE : (parseBody (newRs b)).2.partEnd.ok.k = 0 := by
    unfold parseTail at hz
    split at hz
    · rename_i hc; exact hc.1
    · exact hz
  have hB : (parseBody (newRs b)).2.ok.k = 0 := (partEnd_st _).keep hE
  have hat : (parseBody (newRs b)).2.c.at_ ≤ b.length := (parseBody_st (newRs b)).at_ (Nat.zero_le _)
  have hbb : (parseBody (newRs b)).2.c.b = b := (parseBody_st (newRs b)).b
  have hx : parseBody (newRs (b ++ t)) = ((parseBody (newRs b)).1, (parseBody (newRs b)).2.ext t) := parseBody_ext (newRs b) t hB
  have hc0 : (parseBody (newRs b)).2.c.code = 0 := ((ok_k _).1 hB).2
  have ho := Rs.ok_of_zero hB
  generalize (parseBody (newRs b)).2 = s at *
  -- something is left
  have hleft : 0 < (s.ext t).c.left := by
    have hl : (s.ext t).c.left = (s.c.b ++ t).length - s.c.at_ := by
      show ({ s.c with b := s.c.b ++ t } : Cur).left = _
      unfold Cur.left
      rw [if_pos (show ({ s.c with b := s.c.b ++ t } : Cur).code = 0 from hc0)]
    rw [hl, List.length_append, hbb]
    have : 0 < t.length := by
      cases t with
      | nil => exact absurd rfl ht
      | cons x t => simp
    omega
  have hk0 : s.k = 0 := ((ok_k _).1 hB).1
  have hpe : (s.ext t).partEnd = (s.ext t).fail 5 := by
    unfold Rs.partEnd
    rw [if_pos ⟨hB, hleft⟩, ext_ok, ho]
  have hk5 : ((s.ext t).fail 5).k = 5 := Rs.fail_k (show (s.ext t).k = 0 from hk0)
  have hok5 := Rs.fail_ok (s := s.ext t) (e := 5) (by decide)
  have htl : parseTail ((parseBody (newRs b)).1, s.ext t) = (s.ext t).fail 5 := by
    unfold parseTail
    dsimp only
    rw [hpe, hok5, if_neg (by rw [hk5]; simp)]
  unfold parseL
  rw [if_neg (by simp [hb]), hx, htl, if_neg (by rw [hk5]; decide)]
  exact hk5
end Go.Proofs.Ythdfjbliafdchaa
