/- The reader of headers, plain: what each step keeps. No condition. -/
import Derived.Test.YthdfjbliafdchaaHFirstWM
namespace Go.Proofs.Ythdfjbliafdchaa

def codeR (k : Nat) : Prop := k = 0 ∨ (3 ≤ k ∧ k ≤ 18)
def Rs.rng (s : Rs) : Prop := codeR s.k ∧ codeR s.c.code
/-- From s the reader has come to s': the bytes stay, it is not beyond their end, the codes are some that the document has, and what is wrong stays wrong. -/
structure St (s s' : Rs) : Prop where
  b : s'.c.b = s.c.b
  at_ : s.c.at_ ≤ s.c.b.length → s'.c.at_ ≤ s.c.b.length
  r : s.rng → s'.rng
  keep : s'.ok.k = 0 → s.ok.k = 0
theorem St.refl (s : Rs) : St s s := ⟨rfl, id, id, id⟩
theorem St.trans {a b c : Rs} (h : St a b) (k : St b c) : St a c :=
  ⟨k.b.trans h.b, fun hh => by have := k.at_ (by rw [h.b]; exact h.at_ hh); rw [h.b] at this; exact this, fun hh => k.r (h.r hh), fun hh => h.keep (k.keep hh)⟩
theorem ok_k (s : Rs) : s.ok.k = 0 ↔ s.k = 0 ∧ s.c.code = 0 := by
  constructor
  · exact Rs.ok_zero
  · rintro ⟨h1, h2⟩
    unfold Rs.ok
    rw [if_pos h1]
    exact h2
theorem St.ok (s : Rs) : St s s.ok := by
  refine ⟨rfl, id, fun h => ⟨?_, h.2⟩, fun h => by rw [Rs.ok_ok] at h; exact h⟩
  unfold Rs.ok
  dsimp only
  split
  · exact h.2
  · exact h.1
theorem St.fail (s : Rs) (e : Nat) (he : 3 ≤ e ∧ e ≤ 18) : St s (s.fail e) := by
  refine ⟨rfl, id, fun h => ⟨?_, h.2⟩, fun h => ?_⟩
  · unfold Rs.fail
    dsimp only
    split
    · exact .inr he
    · exact h.1
  · have h1 := ((ok_k _).1 h).1
    unfold Rs.fail at h1
    dsimp only at h1
    split at h1
    · omega
    · contradiction
theorem St.cur (s : Rs) (c : Cur) (hb : c.b = s.c.b) (ha : s.c.at_ ≤ s.c.b.length → c.at_ ≤ s.c.b.length) (hr : codeR s.c.code → codeR c.code) (hk : c.code = 0 → s.c.code = 0) : St s { s with c := c } :=
  ⟨hb, ha, fun h => ⟨h.1, hr h.2⟩, fun h => (ok_k _).2 ⟨((ok_k _).1 h).1, hk ((ok_k _).1 h).2⟩⟩
theorem cfail_r (c : Cur) (e : Nat) (he : 3 ≤ e ∧ e ≤ 18) (h : codeR c.code) : codeR (c.fail e).code := by
  unfold Cur.fail
  dsimp only
  split
  · exact .inr he
  · exact h
theorem cfail_k (c : Cur) (e : Nat) (_ : 3 ≤ e) (h : (c.fail e).code = 0) : c.code = 0 := by
  unfold Cur.fail at h
  dsimp only at h
  split at h
  · assumption
  · exact h
theorem left_lt {c : Cur} {n : Nat} (h : ¬ c.left < n) (hn : 0 < n) : c.code = 0 ∧ c.at_ + n ≤ c.b.length := by
  unfold Cur.left at h
  split at h
  · rename_i hc; exact ⟨hc, by omega⟩
  · omega
theorem take_st (s : Rs) (n : Nat) : St s (s.take n).2 := by
  refine St.cur s _ (Cur.take_b _ _) ?_ ?_ ?_
  · unfold Cur.take
    split
    · exact id
    · rename_i h
      intro hh
      by_cases h0 : n = 0
      · subst h0; exact hh
      · exact (left_lt (fun hl => h (.inr hl)) (by omega)).2
  · unfold Cur.take
    split
    · exact cfail_r _ 3 (by omega)
    · exact id
  · unfold Cur.take
    split
    · exact cfail_k _ 3 (by omega)
    · exact id
theorem num_st (s : Rs) (n : Int) : St s (s.num n).2 := by
  by_cases h : Cur.sized n = true
  · have e : (s.num n).2 = (s.take n.toNat).2 := by
      show ({ s with c := (s.c.num n).2 } : Rs) = { s with c := (s.c.take n.toNat).2 }
      unfold Cur.num
      rw [if_pos h]
    rw [e]
    exact take_st s _
  · have e : (s.num n).2 = { s with c := s.c.fail 3 } := by
      show ({ s with c := (s.c.num n).2 } : Rs) = _
      unfold Cur.num
      rw [if_neg h]
    rw [e]
    exact St.cur s _ rfl id (cfail_r _ 3 (by omega)) (cfail_k _ 3 (by omega))
theorem byte_st (s : Rs) : St s s.byte.2 := num_st s 1
theorem number_st (s : Rs) : St s s.number.2 := by
  refine St.cur s _ (number_b _) ?_ ?_ ?_
  · unfold Cur.number
    split
    · exact id
    · rename_i h
      intro _
      have := (left_lt h (by omega)).2
      dsimp only
      omega
  · unfold Cur.number
    split
    · exact cfail_r _ 3 (by omega)
    · exact id
  · unfold Cur.number
    split
    · exact cfail_k _ 3 (by omega)
    · exact id
theorem cbits_st (c : Cur) (n : Int) : (c.at_ ≤ c.b.length → (c.bits n).2.at_ ≤ c.b.length) ∧ (codeR c.code → codeR (c.bits n).2.code) ∧ ((c.bits n).2.code = 0 → c.code = 0) := by
  unfold Cur.bits
  split
  · exact ⟨id, cfail_r _ 3 (by omega), cfail_k _ 3 (by omega)⟩
  · rename_i h
    split
    · exact ⟨id, cfail_r _ 5 (by omega), cfail_k _ 5 (by omega)⟩
    · refine ⟨fun hh => ?_, id, id⟩
      by_cases h0 : (n.toNat + 7) / 8 = 0
      · dsimp only; omega
      · exact (left_lt (fun hl => h (.inr (.inr hl))) (by omega)).2
theorem rbits_st (s : Rs) (n : Int) : St s (s.bits n).2 := St.cur s _ (cbits_b _ _) (cbits_st s.c n).1 (cbits_st s.c n).2.1 (cbits_st s.c n).2.2
theorem told_st (s : Rs) (n : Int) : St s (s.told n).2 := by
  refine St.cur s _ (told_b _ _) ?_ ?_ ?_
  · unfold Cur.told
    split
    · exact id
    · rename_i h
      have hl := (left_lt (fun hl => h (.inl hl)) (by omega)).2
      split
      · intro _; exact hl
      · split
        · have := (cbits_st { s.c with at_ := s.c.at_ + 1 } n).1 hl
          split
          · exact id
          · intro _; exact this
        · exact id
  · unfold Cur.told
    split
    · exact cfail_r _ 3 (by omega)
    · split
      · exact id
      · split
        · have := (cbits_st { s.c with at_ := s.c.at_ + 1 } n).2.1
          split
          · exact this
          · exact this
        · exact cfail_r _ 5 (by omega)
  · unfold Cur.told
    split
    · exact cfail_k _ 3 (by omega)
    · split
      · exact id
      · split
        · have := (cbits_st { s.c with at_ := s.c.at_ + 1 } n).2.2
          split
          · exact this
          · exact this
        · exact cfail_k _ 5 (by omega)
theorem lim_st (s : Rs) (bad : Nat → Rs → Bool) (e : Nat) (he : 3 ≤ e ∧ e ≤ 18) : St s (s.lim bad e).2 := by
  have h := (number_st s).trans (St.ok _)
  unfold Rs.lim
  split
  · exact h
  · split
    · exact h.trans (St.fail _ e he)
    · exact h
theorem things_st (s : Rs) : St s s.things.2 := lim_st s _ 3 (by omega)
theorem size_st (s : Rs) : St s s.size.2 := lim_st s _ 7 (by omega)
theorem below_st (s : Rs) (m : Nat) : St s (s.below m).2 := lim_st s _ 10 (by omega)
theorem at_st (s : Rs) (c : Bool) : St s (s.at c).2 := by
  cases c
  · exact St.refl s
  · exact St.ok s
theorem check_st (s : Rs) (bad : Bool) (e : Nat) (he : 3 ≤ e ∧ e ≤ 18) : St s (s.check bad e) := by
  unfold Rs.check
  split
  · exact (St.ok s).trans (St.fail _ e he)
  · exact St.ok s
theorem end_st (s : Rs) (id : Nat) : St s (s.end_ id) := by
  unfold Rs.end_
  split
  · exact (St.ok s).trans (St.fail _ 5 (by omega))
  · exact St.ok s
theorem must_st (s : Rs) (id : Nat) : St s.byte.2 (s.must id) := by
  unfold Rs.must
  split
  · exact (St.ok _).trans (St.fail _ 5 (by omega))
  · exact St.ok _
theorem inside_st (s : Rs) : St s.byte.2 s.inside := by
  unfold Rs.inside
  split
  · exact St.ok _
  · split
    · exact (St.ok _).trans (St.fail _ 6 (by omega))
    · exact (St.ok _).trans (St.fail _ 5 (by omega))
theorem sumsL_st : ∀ (hs : List Bool) (s : Rs) (out : List Ck), St s (sumsL hs s out).2
  | [], s, out => St.ok s
  | false :: t, s, out => by
    rw [sumsL_false]
    split
    · exact St.ok s
    · exact (St.ok s).trans (sumsL_st t _ _)
  | true :: t, s, out => by
    rw [sumsL_true]
    split
    · exact (num_st s 4).trans (St.ok _)
    · exact ((num_st s 4).trans (St.ok _)).trans (sumsL_st t _ _)
theorem sums_st (s : Rs) (n : Nat) : St s (s.sums n).2 := (told_st s n).trans (sumsL_st _ _ _)
theorem method_st (s : Rs) (l : List UInt8) : St s (s.method l).2 := by
  unfold Rs.method
  split
  · exact St.refl s
  · split
    · exact St.fail s 9 (by omega)
    · exact St.fail s 8 (by omega)
theorem two_st (s : Rs) (c : Bool) : St s (s.two c).2 := by
  unfold Rs.two
  split
  · exact ((at_st s c).trans (number_st _)).trans (number_st _)
  · exact at_st s c
theorem propsOf_st (s : Rs) (c : Bool) : St s (s.propsOf c).2 := by
  unfold Rs.propsOf
  split
  · exact ((at_st s c).trans (things_st _)).trans (take_st _ _)
  · exact at_st s c
theorem coderB_st (f m : Nat) (s : Rs) : St s (Rs.coderB f m s).2 := ((two_st s _).trans (check_st _ _ 10 (by omega))).trans (propsOf_st _ _)
theorem coderA_st (f : Nat) (l : List UInt8) (s : Rs) : St s (Rs.coderA f l s).2 := by
  unfold Rs.coderA
  split
  · exact St.ok s
  · exact ((St.ok s).trans (method_st _ l)).trans (coderB_st _ _ _)
theorem coder_st (s : Rs) : St s s.coder.2 := (((byte_st s).trans (check_st _ _ 5 (by omega))).trans (take_st _ _)).trans (coderA_st _ _ _)
theorem codersGo_st : ∀ (m : Nat) (s : Rs) (L : List Coder), St s (codersGo m s L).2
  | 0, s, L => St.ok s
  | m + 1, s, L => by
    by_cases h : s.ok.k = 0
    · rw [codersGo_ok h]; exact (coder_st s).trans (codersGo_st m _ _)
    · rw [codersGo_bad h]; exact St.ok s
theorem bindsGo_st : ∀ (m i n : Nat) (s : Rs) (B : List (Int × Int)), St s (bindsGo m i n s B).2
  | 0, i, n, s, B => St.ok s
  | m + 1, i, n, s, B => by
    by_cases h : s.ok.k = 0
    · rw [bindsGo_ok h]; exact ((below_st s i).trans (below_st _ n)).trans (bindsGo_st m i n _ _)
    · rw [bindsGo_bad h]; exact St.ok s
theorem belowGo_st : ∀ (m i : Nat) (s : Rs) (P : List Int), St s (belowGo m i s P).2
  | 0, _, s, _ => St.refl s
  | m + 1, i, s, _ => (below_st s i).trans (belowGo_st m i _ _)
theorem folderD_st (C : List Coder) (B : List (Int × Int)) (s : Rs) : St s (Rs.folderD C B s).2 := by
  unfold Rs.folderD
  split
  · exact St.ok s
  · split
    · dsimp only
      split
      · exact (St.ok s).trans (St.fail _ 10 (by omega))
      · exact St.ok s
    · exact (St.ok s).trans (belowGo_st _ _ _ _)
theorem folderC_st (n : Nat) (s : Rs) : St s (Rs.folderC n s).2 := ((codersGo_st n s []).trans (bindsGo_st _ _ _ _ _)).trans (folderD_st _ _ _)
theorem folder_st (s : Rs) : St s s.folder.2 := ((number_st s).trans (check_st _ _ 10 (by omega))).trans (folderC_st _ _)
theorem foldersGo_st : ∀ (m : Nat) (s : Rs) (L : List Folder), St s (foldersGo m s L).2
  | 0, s, L => St.ok s
  | m + 1, s, L => by
    by_cases h : s.ok.k = 0
    · rw [foldersGo_ok h]; exact (folder_st s).trans (foldersGo_st m _ _)
    · rw [foldersGo_bad h]; exact St.ok s
theorem sizesFor_st : ∀ (m : Nat) (s : Rs) (S : List UInt64), St s (sizesFor m s S).2
  | 0, s, _ => St.refl s
  | m + 1, s, _ => (size_st s).trans (sizesFor_st m _ _)
theorem sizesGo_st : ∀ (L : List Folder) (s : Rs) (D : List Folder), St s (sizesGo L s D).2
  | [], s, D => St.ok s
  | f :: t, s, D => by
    by_cases h : s.ok.k = 0
    · rw [sizesGo_ok h]; exact (sizesFor_st _ s _).trans (sizesGo_st t _ _)
    · rw [sizesGo_bad h]; exact St.ok s
theorem foldersB_st (L : List Folder) (n id : Nat) (s : Rs) : St s (Rs.foldersB L n id s).2 := by
  unfold Rs.foldersB
  split
  · exact (((at_st s _).trans (sums_st _ n)).trans (byte_st _)).trans (end_st _ _)
  · exact (at_st s _).trans (end_st _ _)
theorem foldersA_st (n : Nat) (s : Rs) : St s (Rs.foldersA n s).2 :=
  (((((foldersGo_st n s []).trans (byte_st _)).trans (must_st _ 12)).trans (sizesGo_st _ _ _)).trans (byte_st _)).trans (foldersB_st _ _ _ _)
theorem folders_st (s : Rs) : St s s.folders.2 := (((((byte_st s).trans (must_st s 11)).trans (things_st _)).trans (byte_st _)).trans (inside_st _)).trans (foldersA_st _ _)
theorem sumOf_st (s : Rs) (sum : Nat) : St s (s.sumOf sum) := by
  unfold Rs.sumOf
  split
  · exact (size_st s).trans (St.fail _ 7 (by omega))
  · exact size_st s
theorem packsGo_st : ∀ (n m : Nat) (s : Rs) (P : List UInt64), St s (packsGo n m s P).2.2
  | 0, m, s, P => St.refl s
  | n + 1, m, s, P => by
    by_cases h : (s.sumOf m).k ≠ 0
    · rw [packsGo_bad h]; exact sumOf_st s m
    · rw [packsGo_ok h]; exact (size_st s).trans (packsGo_st n _ _ _)
theorem packsEnd_st (P : List UInt64) (n id : Nat) (s : Rs) : St s (Rs.packsEnd P n id s).2 := by
  unfold Rs.packsEnd
  split
  · exact (((at_st s _).trans (sums_st _ n)).trans (byte_st _)).trans (end_st _ _)
  · exact (at_st s _).trans (end_st _ _)
theorem packsA_st (n id pl : Nat) (s : Rs) : St s (Rs.packsA n id pl s).2 := by
  unfold Rs.packsA
  split
  · split
    · exact (at_st s _).trans (packsGo_st _ _ _ _)
    · exact (((at_st s _).trans (packsGo_st _ _ _ _)).trans (byte_st _)).trans (packsEnd_st _ _ _ _)
  · refine St.trans ?_ (packsEnd_st _ _ _ _)
    split
    · exact ((at_st s _).trans (at_st _ _)).trans (St.fail _ 5 (by omega))
    · exact (at_st s _).trans (at_st _ _)
theorem packs_st (s : Rs) : St s s.packs.2 := (((size_st s).trans (things_st _)).trans (byte_st _)).trans (packsA_st _ _ _ _)
theorem countsGo_st : ∀ (SL : List (List Sub)) (s : Rs) (D : List (List Sub)), St s (countsGo SL s D).2
  | [], s, D => St.refl s
  | x :: t, s, D => by
    have h0 := ((things_st s).trans (check_st _ (decide (s.things.1 = 0)) 14 (by omega))).trans (St.ok _)
    by_cases h : (s.things.2.check (decide (s.things.1 = 0)) 14).ok.k ≠ 0
    · rw [countsGo_bad h]; exact h0
    · rw [countsGo_ok h]; exact h0.trans (countsGo_st t _ _)
theorem cutGo_st : ∀ (m left : Nat) (s : Rs) (Z : List Nat), St s (cutGo m left s Z).2.2
  | 0, left, s, Z => St.refl s
  | m + 1, left, s, Z => by
    have h0 := ((size_st s).trans (check_st _ (decide (left < s.size.1)) 13 (by omega))).trans (St.ok _)
    by_cases h : (s.size.2.check (decide (left < s.size.1)) 13).ok.k ≠ 0
    · rw [cutGo_bad h]; exact h0
    · rw [cutGo_ok h]; exact h0.trans (cutGo_st m _ _ _)
theorem cutL_st (f : Folder) (l : List Sub) (s : Rs) : St s (cutL f l s).2 := cutGo_st _ _ _ _
theorem cutsGo_st : ∀ (F : List Fol) (L : List (List Sub)) (s : Rs) (D : List (List Sub)), St s (cutsGo F L s D).2
  | x :: t, l :: u, s, D => by
    by_cases h : s.ok.k ≠ 0
    · rw [cutsGo_bad h]; exact St.ok s
    · rw [cutsGo_ok (by simpa using h)]; exact ((St.ok s).trans (cutL_st _ _ _)).trans (cutsGo_st t u _ _)
  | [], L, s, D => by simp only [cutsGo]; exact St.ok s
  | x :: t, [], s, D => by simp only [cutsGo]; exact St.ok s
theorem subsC_st (F : List Fol) (L : List (List Sub)) (id : Nat) (s : Rs) : St s (Rs.subsC F L id s).2 := by
  unfold Rs.subsC
  split
  · exact (((at_st s _).trans (sums_st _ _)).trans (byte_st _)).trans (end_st _ _)
  · exact (at_st s _).trans (end_st _ _)
theorem subsB_st (F : List Fol) (L : List (List Sub)) (id : Nat) (s : Rs) : St s (Rs.subsB F L id s).2 := by
  unfold Rs.subsB
  split
  · exact (((at_st s _).trans (cutsGo_st _ _ _ _)).trans (byte_st _)).trans (subsC_st _ _ _ _)
  · refine St.trans ?_ (subsC_st _ _ _ _)
    split
    · exact ((at_st s _).trans (at_st _ _)).trans (St.fail _ 5 (by omega))
    · exact (at_st s _).trans (at_st _ _)
theorem subsA_st (F : List Fol) (L : List (List Sub)) (id : Nat) (s : Rs) : St s (Rs.subsA F L id s).2 := by
  unfold Rs.subsA
  split
  · exact (((at_st s _).trans (countsGo_st _ _ _)).trans (byte_st _)).trans (subsB_st _ _ _ _)
  · exact (at_st s _).trans (subsB_st _ _ _ _)
theorem subs_st (F : List Fol) (L : List (List Sub)) (s : Rs) : St s (Rs.subs F L s).2 := (byte_st s).trans (subsA_st _ _ _ _)
theorem streamsC_st (D : Strm) (id : Nat) (s : Rs) : St s (Rs.streamsC D id s).2 := by
  unfold Rs.streamsC
  split
  · exact (((at_st s _).trans (subs_st _ _ _)).trans (byte_st _)).trans (end_st _ _)
  · exact (at_st s _).trans (end_st _ _)
theorem streamsB_st (D : Strm) (id : Nat) (s : Rs) : St s (Rs.streamsB D id s).2 := by
  unfold Rs.streamsB
  split
  · exact (((at_st s _).trans (folders_st _)).trans (byte_st _)).trans (streamsC_st _ _ _)
  · exact (at_st s _).trans (streamsC_st _ _ _)
theorem streamsA_st (id : Nat) (s : Rs) : St s (Rs.streamsA id s).2 := by
  unfold Rs.streamsA
  split
  · exact (((at_st s _).trans (packs_st _)).trans (byte_st _)).trans (streamsB_st _ _ _)
  · exact (at_st s _).trans (streamsB_st _ _ _)
theorem streams_st (s : Rs) : St s s.streams.2 := (byte_st s).trans (streamsA_st _ _)
theorem chunk_st (s : Rs) : St s s.chunk.2 := (things_st s).trans (take_st _ _)
theorem propsGo_st : ∀ (m : Nat) (s : Rs), St s (propsGo m s)
  | 0, s => St.refl s
  | m + 1, s => by
    by_cases h : s.byte.1 = 0 ∨ s.byte.2.ok.k ≠ 0
    · rw [propsGo_end h]; exact (byte_st s).trans (St.ok _)
    · have h1 : s.byte.1 ≠ 0 := fun e => h (.inl e)
      have h2 : s.byte.2.ok.k = 0 := by
        by_cases e : s.byte.2.ok.k = 0
        · exact e
        · exact absurd (.inr e) h
      rw [propsGo_ok h1 h2]
      exact ((byte_st s).trans (chunk_st _)).trans (propsGo_st m _)
/-- A part's end has some code that the document has. -/
theorem unitsGo_st : ∀ (m : Nat) (s : Rs) (U : List Nat), St s (unitsGo m s U).2
  | 0, s, U => St.refl s
  | m + 1, s, U => by
    by_cases h : s.ok.k = 0
    · by_cases h0 : (s.num 2).1 = 0
      · rw [unitsGo_end h h0]; exact num_st s 2
      · rw [unitsGo_ok h h0]; exact (num_st s 2).trans (unitsGo_st m _ _)
    · rw [unitsGo_bad h]; exact St.ok s
theorem nameOk_st (s : Rs) : St s (nameOk s) := by
  unfold nameOk
  have h := (unitsGo_st (s.c.b.length + 1) s []).trans (St.ok _)
  split
  · exact h.trans (St.fail _ 15 (by omega))
  · exact h
theorem namesGo_st : ∀ (m i : Nat) (s : Rs) (F : List Fil), St s (namesGo m i s F).2
  | 0, i, s, F => St.ok s
  | m + 1, i, s, F => by
    by_cases h : s.ok.k = 0
    · by_cases h2 : s.units.2.ok.k = 0
      · rw [namesGo_ok h h2]; exact (nameOk_st s).trans (namesGo_st m _ _ _)
      · rw [namesGo_cut h h2]; exact (unitsGo_st _ s []).trans (St.ok _)
    · rw [namesGo_bad h]; exact St.ok s
theorem numsGo_st (id : Nat) : ∀ (l : List Bool) (k : Nat) (s : Rs) (F : List Fil), St s (numsGo id l k s F).2
  | [], k, s, F => St.refl s
  | false :: t, k, s, F => by rw [numsGo_no]; exact numsGo_st id t _ _ _
  | true :: t, k, s, F => by
    by_cases h : (s.num (numSz id)).2.ok.k = 0
    · rw [numsGo_ok h]; exact (num_st s _).trans (numsGo_st id t _ _ _)
    · rw [numsGo_bad h]; exact (num_st s _).trans (St.ok _)
theorem amongFold_st (id : Nat) : ∀ (z : List (Nat × Bool)) (r : List Fil × Rs), St r.2 (z.foldl (amongStep id) r).2
  | [], r => St.refl _
  | a :: t, r => by
    rw [List.foldl_cons]
    refine St.trans ?_ (amongFold_st id t _)
    unfold amongStep
    split
    · exact St.refl _
    · dsimp only
      split
      · exact St.fail _ 18 (by omega)
      · exact St.refl _
theorem dummyGo_st : ∀ (m : Nat) (s : Rs), St s (dummyGo m s)
  | 0, s => St.refl s
  | m + 1, s => by
    by_cases h : s.c.left = 0
    · rw [dummyGo_end h]; exact St.refl s
    · by_cases h2 : s.ok.k = 0
      · rw [dummyGo_ok h h2]
        refine St.trans ?_ (dummyGo_st m _)
        split
        · exact (byte_st s).trans (St.fail _ 5 (by omega))
        · exact byte_st s
      · rw [dummyGo_bad h h2]; exact St.ok s
theorem partBody_st (n id : Nat) (L : Lst) (s : Rs) : St s (partBody n id L s).2 := by
  unfold partBody
  split
  · exact rbits_st _ _
  split
  · show St s (amongL id L.empty L.files s).2
    unfold amongL
    exact (rbits_st s _).trans (amongFold_st id ((posL L.empty).zip (s.bits (posL L.empty).length).1) (L.files, (s.bits (posL L.empty).length).2))
  split
  · exact ((byte_st s).trans (inside_st s)).trans (namesGo_st _ _ _ _)
  split
  · exact (((told_st s n).trans (byte_st _)).trans (inside_st _)).trans (numsGo_st _ _ _ _ _)
  split
  · exact dummyGo_st _ _
  · exact St.refl s
theorem partEnd_st (s : Rs) : St s s.partEnd := by
  unfold Rs.partEnd
  split
  · exact (St.ok s).trans (St.fail _ 5 (by omega))
  · exact St.ok s
theorem partL_code (n id : Nat) (L : Lst) (b : List UInt8) : codeR (partL n id L b).2 :=
  (((partBody_st n id L (newRs b)).trans (partEnd_st _)).r ⟨.inl rfl, .inl rfl⟩).1
theorem told'_st (s : Rs) (e : Nat) (he : codeR e) : St s (s.told' e) := by
  unfold Rs.told'
  split
  · exact St.refl s
  · rcases he with h | h
    · contradiction
    · exact St.fail s e h
theorem filesGo_st (n : Nat) : ∀ (m : Nat) (L : Lst) (s : Rs), St s (filesGo n m L s).2
  | 0, L, s => St.refl s
  | m + 1, L, s => by
    by_cases hz : s.ok.k = 0
    rotate_left
    · rw [filesGo_bad hz]; exact St.ok s
    by_cases hzy : s.byte.2.ok.k = 0
    rotate_left
    · rw [filesGo_end hz (.inl hzy)]; exact (byte_st s).trans (St.ok _)
    by_cases hv : s.byte.1 = 0
    · rw [filesGo_end hz (.inr hv)]; exact (byte_st s).trans (St.ok _)
    cases hm : mayL L.said s.byte.1 with
    | false => rw [filesGo_not hz hzy hv hm]; exact (byte_st s).trans (St.fail _ 5 (by omega))
    | true =>
      by_cases hzz : s.byte.2.chunk.2.ok.k = 0
      · rw [filesGo_ok hz hzy hv hm hzz]
        exact (((byte_st s).trans (chunk_st _)).trans (told'_st _ _ (partL_code _ _ _ _))).trans (filesGo_st n m _ _)
      · rw [filesGo_cut hz hzy hv hm hzz]
        exact (((byte_st s).trans (chunk_st _)).trans (St.ok _)).trans (filesGo_st n m _ _)
theorem filesEnd_st (r : Lst × Rs) (n : Nat) : St r.2 (Rs.filesEnd r n).2 := by
  unfold Rs.filesEnd
  dsimp only
  split
  · exact (St.ok _).trans (St.fail _ 5 (by omega))
  · exact St.ok _
theorem files_st (s : Rs) : St s s.files.2 := ((things_st s).trans (filesGo_st _ _ _ _)).trans (filesEnd_st _ _)
theorem allC_st (D : Strm) (id : Nat) (s : Rs) : St s (Rs.allC D id s).2 := by
  unfold Rs.allC
  split
  · have h1 := (at_st s (id == 5)).trans (files_st (s.at (id == 5)).2)
    generalize (s.at (id == 5)).2.files = r at h1 ⊢
    exact (h1.trans (byte_st r.2)).trans (end_st _ _)
  · exact (at_st s _).trans (end_st _ _)
theorem allB_st (id : Nat) (s : Rs) : St s (Rs.allB id s).2 := by
  unfold Rs.allB
  split
  · have h1 := (at_st s (id == 4)).trans (streams_st (s.at (id == 4)).2)
    generalize (s.at (id == 4)).2.streams = r at h1 ⊢
    exact (h1.trans (byte_st r.2)).trans (allC_st _ _ _)
  · exact (at_st s _).trans (allC_st _ _ _)
theorem allA_st (id : Nat) (s : Rs) : St s (Rs.allA id s).2 := by
  unfold Rs.allA
  refine St.trans ?_ (allB_st _ _)
  split
  · exact (at_st s _).trans (St.fail _ 6 (by omega))
  · exact at_st s _
theorem all_st (s : Rs) : St s s.all.2 := by
  unfold Rs.all
  split
  · exact ((((byte_st s).trans (at_st _ _)).trans (propsGo_st _ _)).trans (byte_st _)).trans (allA_st _ _)
  · exact ((byte_st s).trans (at_st _ _)).trans (allA_st _ _)
theorem oneSub_st (D : Strm) (s : Rs) : St s (oneSub D s) := by
  unfold oneSub
  split
  · exact (St.ok s).trans (St.fail _ 5 (by omega))
  · exact St.ok s
theorem parseBody_st (s : Rs) : St s (parseBody s).2 := by
  unfold parseBody
  split
  · exact (byte_st s).trans (all_st _)
  · split
    · exact ((byte_st s).trans (streams_st _)).trans (oneSub_st _ _)
    · exact (byte_st s).trans (St.fail _ 5 (by omega))
theorem count_st (s : Rs) (L : List (List Sub)) (F : List Fil) : St s (s.count L F) := by
  unfold Rs.count
  split
  · exact St.refl s
  · exact St.fail s 14 (by omega)
theorem parseTail_st (r : (Bool × Strm × List Fil) × Rs) : St r.2 (parseTail r) := by
  unfold parseTail
  split
  · exact ((partEnd_st _).trans (St.ok _)).trans (count_st _ _ _)
  · exact (partEnd_st _).trans (St.ok _)
/-- Parse's code is one that the document has. -/
theorem parse_code (b : List UInt8) : codeR (parseL b).2 := by
  unfold parseL
  split
  · exact .inl rfl
  · split
    · exact .inl rfl
    · exact (((parseBody_st (newRs b)).trans (parseTail_st _)).r ⟨.inl rfl, .inl rfl⟩).1
end Go.Proofs.Ythdfjbliafdchaa
