/- The reader of headers, plain: with more bytes behind, what was read without a fault is read as it was. No condition. -/
import Derived.Test.YthdfjbliafdchaaHStM
namespace Go.Proofs.Ythdfjbliafdchaa

def Rs.ext (s : Rs) (t : List UInt8) : Rs := { s with c := { s.c with b := s.c.b ++ t } }
theorem ext_ok (s : Rs) (t : List UInt8) : (s.ext t).ok = s.ok.ext t := rfl
theorem ext_k (s : Rs) (t : List UInt8) : (s.ext t).k = s.k := rfl
theorem ext_okk (s : Rs) (t : List UInt8) : (s.ext t).ok.k = s.ok.k := rfl
theorem ext_fail (s : Rs) (t : List UInt8) (e : Nat) : (s.ext t).fail e = (s.fail e).ext t := rfl
theorem ext_at (s : Rs) (t : List UInt8) (c : Bool) : (s.ext t).at c = ((s.at c).1, (s.at c).2.ext t) := by cases c <;> rfl
theorem ext_left (s : Rs) (t : List UInt8) : s.c.left ≤ (s.ext t).c.left := by
  show s.c.left ≤ ({ s.c with b := s.c.b ++ t } : Cur).left
  unfold Cur.left
  split
  · simp; omega
  · exact Nat.le_refl _
theorem ext_check (s : Rs) (t : List UInt8) (b : Bool) (e : Nat) : (s.ext t).check b e = (s.check b e).ext t := by
  unfold Rs.check
  rw [ext_okk]
  split <;> rfl
theorem ext_end (s : Rs) (t : List UInt8) (id : Nat) : (s.ext t).end_ id = (s.end_ id).ext t := by
  unfold Rs.end_
  rw [ext_okk]
  split <;> rfl
theorem ext_method (s : Rs) (t : List UInt8) (l : List UInt8) : (s.ext t).method l = ((s.method l).1, (s.method l).2.ext t) := by
  unfold Rs.method
  split
  · rfl
  · split <;> rfl

theorem fail_bad {s : Rs} {e : Nat} (he : e ≠ 0) (h : (s.fail e).ok.k = 0) : False := by
  have h1 := ((ok_k _).1 h).1
  unfold Rs.fail at h1
  dsimp only at h1
  split at h1
  · exact he h1
  · contradiction
/-- The cursor's steps. -/
theorem ctake_ext (c : Cur) (n : Nat) (t : List UInt8) (h : (c.take n).2.code = 0) : ({ c with b := c.b ++ t } : Cur).take n = ((c.take n).1, { (c.take n).2 with b := (c.take n).2.b ++ t }) := by
  have hc : ¬ (c.code ≠ 0 ∨ c.left < n) := by
    intro hb
    unfold Cur.take at h
    rw [if_pos hb] at h
    unfold Cur.fail at h
    dsimp only at h
    split at h
    · cases h
    · contradiction
  have h0 : c.code = 0 := by
    by_cases e : c.code = 0
    · exact e
    · exact absurd (.inl e) hc
  have hl1 : ¬ c.left < n := fun e => hc (.inr e)
  have hl2 : c.left = c.b.length - c.at_ := by unfold Cur.left; rw [if_pos h0]
  have hl3 : ({ c with b := c.b ++ t } : Cur).left = (c.b ++ t).length - c.at_ := by unfold Cur.left; rw [if_pos (show ({ c with b := c.b ++ t } : Cur).code = 0 from h0)]
  have hl4 : (c.b ++ t).length = c.b.length + t.length := List.length_append
  have hc2 : ¬ (({ c with b := c.b ++ t } : Cur).code ≠ 0 ∨ ({ c with b := c.b ++ t } : Cur).left < n) := by
    rintro (e | e)
    · exact e h0
    · omega
  unfold Cur.take
  rw [if_neg hc, if_neg hc2]
  dsimp only
  congr 1
  by_cases hn : n = 0
  · subst hn; simp
  · rw [List.drop_append_of_le_length (by omega), List.take_append_of_le_length (by simp; omega)]
theorem take_ext (s : Rs) (n : Nat) (t : List UInt8) (h : (s.take n).2.ok.k = 0) : (s.ext t).take n = ((s.take n).1, (s.take n).2.ext t) := by
  have hc := ctake_ext s.c n t ((ok_k _).1 h).2
  show ((({ s.c with b := s.c.b ++ t } : Cur).take n).1, ({ s with c := (({ s.c with b := s.c.b ++ t } : Cur).take n).2 } : Rs)) = _
  rw [hc]
  rfl
theorem num_ext (s : Rs) (n : Int) (t : List UInt8) (h : (s.num n).2.ok.k = 0) : (s.ext t).num n = ((s.num n).1, (s.num n).2.ext t) := by
  have hc0 : (s.c.num n).2.code = 0 := ((ok_k _).1 h).2
  by_cases hs : Cur.sized n = true
  · have e : ∀ c : Cur, c.num n = (leNat (c.take n.toNat).1, (c.take n.toNat).2) := fun c => by unfold Cur.num; rw [if_pos hs]
    rw [e] at hc0
    have hc := ctake_ext s.c n.toNat t hc0
    show ((({ s.c with b := s.c.b ++ t } : Cur).num n).1, ({ s with c := (({ s.c with b := s.c.b ++ t } : Cur).num n).2 } : Rs)) = ((s.c.num n).1, ({ s with c := { (s.c.num n).2 with b := (s.c.num n).2.b ++ t } } : Rs))
    rw [e, e, hc]
  · exfalso
    have e : s.c.num n = (0, s.c.fail 3) := by unfold Cur.num; rw [if_neg hs]
    rw [e] at hc0
    unfold Cur.fail at hc0
    dsimp only at hc0
    split at hc0
    · cases hc0
    · contradiction
theorem byte_ext (s : Rs) (t : List UInt8) (h : s.byte.2.ok.k = 0) : (s.ext t).byte = (s.byte.1, s.byte.2.ext t) := num_ext s 1 t h
theorem number_ext (s : Rs) (t : List UInt8) (h : s.number.2.ok.k = 0) : (s.ext t).number = (s.number.1, s.number.2.ext t) := by
  have hc0 : s.c.number.2.code = 0 := ((ok_k _).1 h).2
  have hc : ¬ s.c.left < 1 + Cur.ones s.c.head := by
    intro hb
    unfold Cur.number at hc0
    rw [if_pos hb] at hc0
    unfold Cur.fail at hc0
    dsimp only at hc0
    split at hc0
    · cases hc0
    · contradiction
  obtain ⟨h0, hl⟩ := left_lt hc (by omega)
  have hat : s.c.at_ < s.c.b.length := by omega
  have hh : ({ s.c with b := s.c.b ++ t } : Cur).head = s.c.head := by
    unfold Cur.head
    dsimp only
    rw [List.getD_eq_getElem?_getD, List.getD_eq_getElem?_getD, List.getElem?_append_left hat]
  have hc2 : ¬ ({ s.c with b := s.c.b ++ t } : Cur).left < 1 + Cur.ones ({ s.c with b := s.c.b ++ t } : Cur).head := by
    rw [hh]
    have := ext_left s t
    have h2 : (s.ext t).c.left = ({ s.c with b := s.c.b ++ t } : Cur).left := rfl
    omega
  have e : ({ s.c with b := s.c.b ++ t } : Cur).number = (s.c.number.1, { s.c.number.2 with b := s.c.number.2.b ++ t }) := by
    unfold Cur.number
    rw [if_neg hc, if_neg hc2, hh]
    dsimp only
    congr 3
    rw [List.drop_append_of_le_length (by omega), List.take_append_of_le_length (by simp; omega)]
  show ((({ s.c with b := s.c.b ++ t } : Cur).number).1, ({ s with c := (({ s.c with b := s.c.b ++ t } : Cur).number).2 } : Rs)) = _
  rw [e]
  rfl
theorem cbits_ext (c : Cur) (n : Nat) (t : List UInt8) (h : (c.bits (n : Int)).2.code = 0) : ({ c with b := c.b ++ t } : Cur).bits (n : Int) = ((c.bits (n : Int)).1, { (c.bits (n : Int)).2 with b := (c.bits (n : Int)).2.b ++ t }) := by
  have fails : ∀ k, k ≠ 0 → (c.fail k).code ≠ 0 := fun k hk e => by
    unfold Cur.fail at e
    dsimp only at e
    split at e
    · exact hk e
    · contradiction
  have hc : ¬ (c.code ≠ 0 ∨ (n : Int) < 0 ∨ c.left < ((n : Int).toNat + 7) / 8) := by
    intro hb
    unfold Cur.bits at h
    rw [if_pos hb] at h
    exact fails 3 (by omega) h
  have h0 : c.code = 0 := by
    by_cases e : c.code = 0
    · exact e
    · exact absurd (.inl e) hc
  have hl1 : ¬ c.left < ((n : Int).toNat + 7) / 8 := fun e => hc (.inr (.inr e))
  have hl2 : c.left = c.b.length - c.at_ := by unfold Cur.left; rw [if_pos h0]
  have hl3 : ({ c with b := c.b ++ t } : Cur).left = (c.b ++ t).length - c.at_ := by unfold Cur.left; rw [if_pos (show ({ c with b := c.b ++ t } : Cur).code = 0 from h0)]
  have hl4 : (c.b ++ t).length = c.b.length + t.length := List.length_append
  have hc2 : ¬ (({ c with b := c.b ++ t } : Cur).code ≠ 0 ∨ (n : Int) < 0 ∨ ({ c with b := c.b ++ t } : Cur).left < ((n : Int).toNat + 7) / 8) := by
    rintro (e | e | e)
    · exact e h0
    · omega
    · omega
  have hr : ({ c with b := c.b ++ t } : Cur).row (n : Int).toNat = c.row (n : Int).toNat := by
    unfold Cur.row
    dsimp only
    by_cases hn : ((n : Int).toNat + 7) / 8 = 0
    · rw [hn]; simp
    · rw [List.drop_append_of_le_length (by omega), List.take_append_of_le_length (by simp; omega)]
  by_cases hp : padded (c.row (n : Int).toNat) (n : Int).toNat = true
  · exfalso
    unfold Cur.bits at h
    rw [if_neg hc, if_pos hp] at h
    exact fails 5 (by omega) h
  have e1 : c.bits (n : Int) = (unpack (c.row (n : Int).toNat) (n : Int).toNat, { c with at_ := c.at_ + ((n : Int).toNat + 7) / 8 }) := by
    unfold Cur.bits
    rw [if_neg hc, if_neg hp]
  have e2 : ({ c with b := c.b ++ t } : Cur).bits (n : Int) = (unpack (c.row (n : Int).toNat) (n : Int).toNat, { c with b := c.b ++ t, at_ := c.at_ + ((n : Int).toNat + 7) / 8 }) := by
    unfold Cur.bits
    rw [if_neg hc2, hr, if_neg hp]
  rw [e1, e2]
theorem told_ext (s : Rs) (n : Nat) (t : List UInt8) (h : (s.told (n : Int)).2.ok.k = 0) : (s.ext t).told (n : Int) = ((s.told (n : Int)).1, (s.told (n : Int)).2.ext t) := by
  have hc0 : (s.c.told (n : Int)).2.code = 0 := ((ok_k _).1 h).2
  have fails : ∀ (c : Cur) k, k ≠ 0 → (c.fail k).code ≠ 0 := fun c k hk e => by
    unfold Cur.fail at e
    dsimp only at e
    split at e
    · exact hk e
    · contradiction
  have hc : ¬ (s.c.left < 1 ∨ (n : Int) < 0) := by
    intro hb
    unfold Cur.told at hc0
    rw [if_pos hb] at hc0
    exact fails _ 3 (by omega) hc0
  obtain ⟨h0, hl⟩ := left_lt (n := 1) (fun e => hc (.inl e)) (by omega)
  have hat : s.c.at_ < s.c.b.length := by omega
  have hh : ({ s.c with b := s.c.b ++ t } : Cur).head = s.c.head := by
    unfold Cur.head
    dsimp only
    rw [List.getD_eq_getElem?_getD, List.getD_eq_getElem?_getD, List.getElem?_append_left hat]
  have hc2 : ¬ (({ s.c with b := s.c.b ++ t } : Cur).left < 1 ∨ (n : Int) < 0) := by
    rintro (e | e)
    · have := ext_left s t
      have h2 : (s.ext t).c.left = ({ s.c with b := s.c.b ++ t } : Cur).left := rfl
      exact hc (.inl (by omega))
    · omega
  have e : ({ s.c with b := s.c.b ++ t } : Cur).told (n : Int) = ((s.c.told (n : Int)).1, { (s.c.told (n : Int)).2 with b := (s.c.told (n : Int)).2.b ++ t }) := by
    unfold Cur.told at hc0 ⊢
    rw [if_neg hc] at hc0
    rw [if_neg hc, if_neg hc2, hh]
    by_cases h1 : s.c.head = 1
    · rw [if_pos h1, if_pos h1]
    · rw [if_neg h1] at hc0
      rw [if_neg h1, if_neg h1]
      by_cases h2 : s.c.head = 0
      · rw [if_pos h2] at hc0
        rw [if_pos h2, if_pos h2]
        have hb0 : (Cur.bits { s.c with at_ := s.c.at_ + 1 } (n : Int)).2.code = 0 := by
          split at hc0
          · rename_i hx
            exact absurd hc0 hx
          · exact hc0
        have hx := cbits_ext { s.c with at_ := s.c.at_ + 1 } n t hb0
        have hx2 : Cur.bits { ({ s.c with b := s.c.b ++ t } : Cur) with at_ := s.c.at_ + 1 } (n : Int) = _ := hx
        rw [hx2, if_neg (by simpa using hb0), if_neg (by simpa using hb0)]
      · rw [if_neg h2] at hc0
        exact absurd hc0 (fails _ 5 (by omega))
  show ((({ s.c with b := s.c.b ++ t } : Cur).told (n : Int)).1, ({ s with c := (({ s.c with b := s.c.b ++ t } : Cur).told (n : Int)).2 } : Rs)) = _
  rw [e]
  rfl
theorem lim_ext (s : Rs) (bad : Nat → Rs → Bool) (e : Nat) (he : e ≠ 0) (t : List UInt8) (hbad : ∀ n u, bad n u = false → bad n (u.ext t) = false) (h : (s.lim bad e).2.ok.k = 0) : (s.ext t).lim bad e = ((s.lim bad e).1, (s.lim bad e).2.ext t) := by
  by_cases h1 : s.number.2.ok.k = 0
  rotate_left
  · exfalso
    unfold Rs.lim at h
    rw [if_pos h1] at h
    dsimp only at h
    rw [Rs.ok_ok] at h
    exact h1 h
  have hn := number_ext s t h1
  by_cases h2 : bad s.number.1 s.number.2.ok = true
  · exfalso
    unfold Rs.lim at h
    rw [if_neg (by simp [h1]), if_pos h2] at h
    exact fail_bad he h
  have h3 : bad s.number.1 s.number.2.ok = false := by simpa using h2
  have h4 := hbad _ _ h3
  have e1 : s.lim bad e = (s.number.1, s.number.2.ok) := by
    unfold Rs.lim
    rw [if_neg (by simp [h1]), if_neg h2]
  have e2 : (s.ext t).lim bad e = (s.number.1, s.number.2.ok.ext t) := by
    unfold Rs.lim
    rw [hn]
    dsimp only
    rw [ext_ok, ext_k, if_neg (by simp [h1]), if_neg (by rw [h4]; simp)]
  rw [e1, e2]
theorem things_ext (s : Rs) (t : List UInt8) (h : s.things.2.ok.k = 0) : (s.ext t).things = (s.things.1, s.things.2.ext t) :=
  lim_ext s _ 3 (by omega) t (fun n u hu => by
    simp at hu ⊢
    exact Nat.le_trans hu (ext_left u t)) h
theorem size_ext (s : Rs) (t : List UInt8) (h : s.size.2.ok.k = 0) : (s.ext t).size = (s.size.1, s.size.2.ext t) := lim_ext s _ 7 (by omega) t (fun _ _ hu => hu) h
theorem below_ext (s : Rs) (m : Nat) (t : List UInt8) (h : (s.below m).2.ok.k = 0) : (s.ext t).below m = ((s.below m).1, (s.below m).2.ext t) := lim_ext s _ 10 (by omega) t (fun _ _ hu => hu) h
theorem must_ext (s : Rs) (id : Nat) (t : List UInt8) (h : (s.must id).ok.k = 0) : (s.ext t).must id = (s.must id).ext t := by
  have h1 := (must_st s id).keep h
  unfold Rs.must
  rw [byte_ext s t h1]
  dsimp only
  rw [ext_okk]
  split <;> rfl
theorem inside_ext (s : Rs) (t : List UInt8) (h : s.inside.ok.k = 0) : (s.ext t).inside = s.inside.ext t := by
  have h1 := (inside_st s).keep h
  unfold Rs.inside
  rw [byte_ext s t h1]
  dsimp only
  rw [ext_okk]
  split
  · rfl
  · split <;> rfl
theorem sumsL_ext (t : List UInt8) : ∀ (hs : List Bool) (s : Rs) (out : List Ck), (sumsL hs s out).2.ok.k = 0 → sumsL hs (s.ext t) out = ((sumsL hs s out).1, (sumsL hs s out).2.ext t)
  | [], s, out, h => rfl
  | false :: l, s, out, h => by
    rw [sumsL_false] at h
    rw [sumsL_false, sumsL_false, ext_okk]
    split
    · rfl
    · rename_i hk
      rw [if_neg hk] at h
      rw [ext_ok]
      exact sumsL_ext t l _ _ h
  | true :: l, s, out, h => by
    have h1 : (s.num 4).2.ok.k = 0 := (St.trans (St.ok _) (by
      rw [sumsL_true] at h ⊢
      split
      · rename_i hk
        rw [if_pos hk] at h
        exact St.refl _
      · exact sumsL_st l _ _)).keep h
    have hn := num_ext s 4 t h1
    rw [sumsL_true] at h
    rw [sumsL_true, sumsL_true, hn]
    dsimp only
    rw [ext_okk]
    rw [if_neg (by simp [h1])] at h
    rw [if_neg (by simp [h1]), if_neg (by simp [h1]), ext_ok]
    exact sumsL_ext t l _ _ h
theorem sums_ext (s : Rs) (n : Nat) (t : List UInt8) (h : (s.sums n).2.ok.k = 0) : (s.ext t).sums n = ((s.sums n).1, (s.sums n).2.ext t) := by
  have h1 : (s.told n).2.ok.k = 0 := (sumsL_st _ _ _).keep h
  unfold Rs.sums
  rw [told_ext s n t h1]
  exact sumsL_ext t _ _ _ h
theorem two_ext (s : Rs) (c : Bool) (t : List UInt8) (h : (s.two c).2.ok.k = 0) : (s.ext t).two c = ((s.two c).1, (s.two c).2.ext t) := by
  unfold Rs.two at h ⊢
  rw [ext_at]
  dsimp only
  by_cases hc : (s.at c).1 = true
  · rw [if_pos hc] at h
    rw [if_pos hc, if_pos hc]
    dsimp only at h
    have h1 := (number_st _).keep h
    rw [number_ext _ t h1]
    dsimp only
    rw [number_ext _ t h]
  · rw [if_neg hc, if_neg hc]
theorem propsOf_ext (s : Rs) (c : Bool) (t : List UInt8) (h : (s.propsOf c).2.ok.k = 0) : (s.ext t).propsOf c = ((s.propsOf c).1, (s.propsOf c).2.ext t) := by
  unfold Rs.propsOf at h ⊢
  rw [ext_at]
  dsimp only
  by_cases hc : (s.at c).1 = true
  · rw [if_pos hc] at h
    rw [if_pos hc, if_pos hc]
    have h1 := (take_st _ _).keep h
    rw [things_ext _ t h1]
    dsimp only
    exact take_ext _ _ t h
  · rw [if_neg hc, if_neg hc]
theorem coderB_ext (f m : Nat) (s : Rs) (t : List UInt8) (h : (Rs.coderB f m s).2.ok.k = 0) : Rs.coderB f m (s.ext t) = ((Rs.coderB f m s).1, (Rs.coderB f m s).2.ext t) := by
  unfold Rs.coderB at h ⊢
  dsimp only at h
  have h2 := (propsOf_st _ _).keep h
  have h1 := (check_st _ _ 10 (by omega)).keep h2
  rw [two_ext s _ t h1]
  dsimp only
  rw [ext_check, propsOf_ext _ _ t h]
theorem coderA_ext (f : Nat) (l : List UInt8) (s : Rs) (t : List UInt8) (h : (Rs.coderA f l s).2.ok.k = 0) : Rs.coderA f l (s.ext t) = ((Rs.coderA f l s).1, (Rs.coderA f l s).2.ext t) := by
  unfold Rs.coderA at h ⊢
  rw [ext_okk]
  split
  · rfl
  · rename_i hk
    rw [if_neg hk] at h
    rw [ext_ok, ext_method]
    exact coderB_ext f _ _ t h
theorem coder_ext (s : Rs) (t : List UInt8) (h : s.coder.2.ok.k = 0) : (s.ext t).coder = (s.coder.1, s.coder.2.ext t) := by
  unfold Rs.coder at h ⊢
  have h3 := (coderA_st _ _ _).keep h
  have h2 := (take_st _ _).keep h3
  have h1 := (check_st _ _ 5 (by omega)).keep h2
  rw [byte_ext s t h1]
  dsimp only
  rw [ext_check, take_ext _ _ t h3]
  exact coderA_ext _ _ _ t h
theorem codersGo_ext (t : List UInt8) : ∀ (m : Nat) (s : Rs) (L : List Coder), (codersGo m s L).2.ok.k = 0 → codersGo m (s.ext t) L = ((codersGo m s L).1, (codersGo m s L).2.ext t)
  | 0, s, L, h => rfl
  | m + 1, s, L, h => by
    by_cases hk : s.ok.k = 0
    · rw [codersGo_ok hk] at h
      have h1 := (codersGo_st m _ _).keep h
      rw [codersGo_ok hk, codersGo_ok (show (s.ext t).ok.k = 0 from hk), coder_ext s t h1]
      exact codersGo_ext t m _ _ h
    · rw [codersGo_bad hk, codersGo_bad (show (s.ext t).ok.k ≠ 0 from hk)]; rfl
theorem bindsGo_ext (t : List UInt8) : ∀ (m i n : Nat) (s : Rs) (B : List (Int × Int)), (bindsGo m i n s B).2.ok.k = 0 → bindsGo m i n (s.ext t) B = ((bindsGo m i n s B).1, (bindsGo m i n s B).2.ext t)
  | 0, i, n, s, B, h => rfl
  | m + 1, i, n, s, B, h => by
    by_cases hk : s.ok.k = 0
    · rw [bindsGo_ok hk] at h
      have h2 := (bindsGo_st m i n _ _).keep h
      have h1 := (below_st _ n).keep h2
      rw [bindsGo_ok hk, bindsGo_ok (show (s.ext t).ok.k = 0 from hk), below_ext s i t h1]
      dsimp only
      rw [below_ext _ n t h2]
      exact bindsGo_ext t m i n _ _ h
    · rw [bindsGo_bad hk, bindsGo_bad (show (s.ext t).ok.k ≠ 0 from hk)]; rfl
theorem belowGo_ext (t : List UInt8) : ∀ (m i : Nat) (s : Rs) (P : List Int), (belowGo m i s P).2.ok.k = 0 → belowGo m i (s.ext t) P = ((belowGo m i s P).1, (belowGo m i s P).2.ext t)
  | 0, i, s, P, h => rfl
  | m + 1, i, s, P, h => by
    have h1 : (s.below i).2.ok.k = 0 := (belowGo_st m i _ _).keep h
    show belowGo m i ((s.ext t).below i).2 (P ++ [(((s.ext t).below i).1 : Int)]) = _
    rw [below_ext s i t h1]
    exact belowGo_ext t m i _ _ h
theorem folderD_ext (C : List Coder) (B : List (Int × Int)) (s : Rs) (t : List UInt8) (h : (Rs.folderD C B s).2.ok.k = 0) : Rs.folderD C B (s.ext t) = ((Rs.folderD C B s).1, (Rs.folderD C B s).2.ext t) := by
  unfold Rs.folderD at h ⊢
  rw [ext_okk]
  split
  · rfl
  · rename_i hk
    rw [if_neg hk] at h
    split
    · dsimp only
      congr 1
      split <;> rfl
    · rename_i hi
      rw [if_neg hi] at h
      rw [ext_ok, belowGo_ext t _ _ _ _ h]
theorem folderC_ext (n : Nat) (s : Rs) (t : List UInt8) (h : (Rs.folderC n s).2.ok.k = 0) : Rs.folderC n (s.ext t) = ((Rs.folderC n s).1, (Rs.folderC n s).2.ext t) := by
  unfold Rs.folderC at h ⊢
  have h2 := (folderD_st _ _ _).keep h
  have h1 := (bindsGo_st _ _ _ _ _).keep h2
  rw [codersGo_ext t n s [] h1]
  dsimp only
  rw [bindsGo_ext t _ _ _ _ _ h2]
  exact folderD_ext _ _ _ t h
theorem folder_ext (s : Rs) (t : List UInt8) (h : s.folder.2.ok.k = 0) : (s.ext t).folder = (s.folder.1, s.folder.2.ext t) := by
  unfold Rs.folder at h ⊢
  have h2 := (folderC_st _ _).keep h
  have h1 := (check_st _ _ 10 (by omega)).keep h2
  rw [number_ext s t h1]
  dsimp only
  rw [ext_check]
  exact folderC_ext _ _ t h
end Go.Proofs.Ythdfjbliafdchaa
