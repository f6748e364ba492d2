/- A new tree that is published into a directory: the plain law. No condition. -/
import Derived.Test.YtjeblccboeljnaaDoorYSameS
import Derived.Test.YtjeblccboeljnaaDoorNRuneC
namespace Go.Proofs.YtjeblccboeljnaaDoor

def nw : List UInt8 := [110, 101, 119]
def nwo : List UInt8 := [110, 101, 119, 47, 111, 110, 101]
def nwx : List UInt8 := [110, 101, 119, 47, 111, 110, 101, 47, 120]
def oneS : List UInt8 := [47, 111, 110, 101]
def onxS : List UInt8 := [47, 111, 110, 101, 47, 120]
def mv1 (K : Tree) : Tree := updK K nw ⟨1, [], []⟩
def mv2 (K : Tree) : Tree := updK (mv1 K) nwo ⟨1, [], []⟩
def mv3 (K : Tree) : Tree := updK (mv2 K) nwx ⟨2, [], []⟩
def mv4 (K : Tree) (dt : List UInt8) : Tree := updK (mv2 K) nwx ⟨2, dt, []⟩
theorem split_app : ∀ (a b : List UInt8), splitL (a ++ 47 :: b) = splitL a ++ splitL b
  | [], b => by show splitL (47 :: b) = [[]] ++ splitL b; rw [splitL, if_pos rfl]; rfl
  | x :: t, b => by
    show splitL (x :: (t ++ 47 :: b)) = splitL (x :: t) ++ splitL b
    rw [splitL, splitL, split_app t b]
    by_cases hx : x = 47
    · rw [if_pos hx, if_pos hx]; rfl
    · rw [if_neg hx, if_neg hx]
      cases ht : splitL t with
      | nil => exact absurd ht (splitL_ne t)
      | cons p ps => rfl
theorem clean_one {t : List UInt8} (h1 : cleanL foldL t = true) (h2 : cleanL foldL (t ++ onxS) = true) : cleanL foldL (t ++ oneS) = true := by
  unfold cleanL at h1 h2 ⊢
  simp only [Bool.and_eq_true, decide_eq_true_eq, List.all_eq_true] at h1 h2 ⊢
  have e1 : splitL (t ++ oneS) = splitL t ++ [[111, 110, 101]] := split_app t [111, 110, 101]
  have e2 : splitL (t ++ onxS) = splitL t ++ splitL [111, 110, 101, 47, 120] := split_app t [111, 110, 101, 47, 120]
  have e3 : splitL [111, 110, 101, 47, 120] = [[111, 110, 101], [120]] := by decide
  rw [e2, e3] at h2
  obtain ⟨⟨⟨r1, r2⟩, r3⟩, r4⟩ := h1
  obtain ⟨⟨⟨-, s2⟩, s3⟩, -⟩ := h2
  refine ⟨⟨⟨runes_ok_app t oneS r1 (by decide), ?_⟩, ?_⟩, fun p hp => ?_⟩
  · rw [List.length_append] at s2 ⊢
    have a1 : oneS.length = 4 := rfl
    have a2 : onxS.length = 6 := rfl
    omega
  · rw [e1]
    rw [List.length_append] at s3 ⊢
    simp at s3 ⊢
    omega
  · rw [e1] at hp
    rcases List.mem_append.1 hp with hp | hp
    · exact r4 p hp
    · simp at hp
      subst hp
      decide
theorem mv_below {K : Tree} (hK : MayK K) (h0 : K nw = none) {p : List UInt8} (h : withinB p nw = true) : K p = none := not_below hK h0 p.length p (Nat.le_refl _) h
theorem mv_a1 {K : Tree} (h0 : K nw = none) : mkK K nw 1 = (0, mv1 K) := by
  unfold mkK
  rw [if_neg (by decide), if_neg (by rw [h0]; unfold liesK; rw [show deepL nw = false by decide]; simp)]
  rfl
theorem mv_a2 {K : Tree} (hK : MayK K) (h0 : K nw = none) : mkK (mv1 K) nwo 1 = (0, mv2 K) := by
  have e1 : mv1 K nwo = none := by
    unfold mv1 updK
    rw [if_neg (by decide)]
    exact mv_below hK h0 (by decide)
  have e2 : liesK (mv1 K) nwo = true := by
    unfold liesK
    rw [show parentL nwo = nw by decide, show deepL nwo = true by decide]
    have : kindK (mv1 K) nw = 1 := by unfold kindK mv1 updK; simp
    rw [this]
    rfl
  unfold mkK
  rw [if_neg (by decide), if_neg (by rw [e1, e2]; simp)]
  rfl
theorem mv_a3 {K : Tree} (hK : MayK K) (h0 : K nw = none) : mkK (mv2 K) nwx 2 = (0, mv3 K) := by
  have e1 : mv2 K nwx = none := by
    unfold mv2 mv1 updK
    rw [if_neg (by decide), if_neg (by decide)]
    exact mv_below hK h0 (by decide)
  have e2 : liesK (mv2 K) nwx = true := by
    unfold liesK
    rw [show parentL nwx = nwo by decide, show deepL nwx = true by decide]
    have : kindK (mv2 K) nwo = 1 := by unfold kindK mv2 updK; simp
    rw [this]
    rfl
  unfold mkK
  rw [if_neg (by decide), if_neg (by rw [e1, e2]; simp)]
  rfl
theorem mv_a4 (K : Tree) (dt : List UInt8) : appendK (mv3 K) nwx dt = (0, mv4 K dt) := app_new (K := mv2 K) (by decide) dt
/-- Outside of the new tree all is as it was. -/
theorem mv_out (K : Tree) (dt : List UInt8) {q : List UInt8} (h1 : q ≠ nw) (h2 : withinB q nw = false) : mv4 K dt q = K q := by
  have a : q ≠ nwo := fun e => by rw [e] at h2; exact absurd h2 (by decide)
  have b : q ≠ nwx := fun e => by rw [e] at h2; exact absurd h2 (by decide)
  unfold mv4 mv2 mv1 updK
  rw [if_neg b, if_neg a, if_neg h1]
theorem mv_drop {K : Tree} (hK : MayK K) (h0 : K nw = none) (dt : List UInt8) : dropK (mv4 K dt) nw = K := by
  funext q
  unfold dropK
  by_cases h : q = nw ∨ withinB q nw = true
  · rw [if_pos h]
    rcases h with rfl | h
    · exact h0.symm
    · exact (mv_below hK h0 h).symm
  · rw [if_neg h]
    exact mv_out K dt (fun e => h (.inl e)) (by cases hw : withinB q nw with | false => rfl | true => exact absurd (.inr hw) h)
theorem mv_tree {K : Tree} (hK : MayK K) (h0 : K nw = none) {dt : List UInt8} {ks : List (List UInt8)} (hks : KeysAre (mv4 K dt) ks) : treeL ks nw = [nwo, nwx] := by
  unfold treeL
  refine sorted_eq (hks.nd.sublist List.filter_sublist) (by decide) (hks.so.sublist List.filter_sublist) (by decide) fun p => ?_
  rw [List.mem_filter, hks.mem]
  constructor
  · rintro ⟨h1, h2⟩
    unfold mv4 mv2 mv1 updK at h1
    by_cases a : p = nwx
    · simp [a]
    · by_cases b : p = nwo
      · simp [b]
      · rw [if_neg a, if_neg b] at h1
        by_cases c : p = nw
        · rw [c] at h2; exact absurd h2 (by decide)
        · rw [if_neg c, mv_below hK h0 h2] at h1
          cases h1
  · intro h
    have h' : p = nwo ∨ p = nwx := by simpa using h
    rcases h' with rfl | rfl
    · exact ⟨by unfold mv4 mv2 updK; rw [if_neg (by decide), if_pos rfl]; rfl, by decide⟩
    · exact ⟨by unfold mv4 updK; rw [if_pos rfl]; rfl, by decide⟩
theorem mv_no {K : Tree} {dt : List UInt8} {t : List UInt8} (h : kindK K t ≠ 1) : layNo (mv4 K dt) nw t = true := by
  unfold layNo
  by_cases a : t = nw
  · rw [show (nw == t) = true by rw [a]; decide]; simp
  · cases b : withinB t nw with
    | true => simp
    | false =>
      have : kindK (mv4 K dt) t = kindK K t := by unfold kindK; rw [mv_out K dt a b]
      rw [this, decide_eq_true h]
      simp
theorem mv_yes {K : Tree} (hK : MayK K) (h0 : K nw = none) {dt : List UInt8} {t : List UInt8} (h : kindK K t = 1) : layNo (mv4 K dt) nw t = false := by
  have a : t ≠ nw := fun e => by rw [e] at h; unfold kindK at h; rw [h0] at h; exact absurd h (by decide)
  have b : withinB t nw = false := by
    cases b : withinB t nw with
    | false => rfl
    | true => unfold kindK at h; rw [mv_below hK h0 b] at h; exact absurd h (by decide)
  have c : kindK (mv4 K dt) t = 1 := by unfold kindK; rw [mv_out K dt a b]; exact h
  have d : kindK (mv4 K dt) nw = 1 := by
    unfold kindK mv4 mv2 mv1 updK
    rw [if_neg (by decide), if_neg (by decide), if_pos rfl]
    rfl
  unfold layNo
  rw [c, d, b, show (nw == t) = false by simpa using fun e => a e.symm]
  rfl
theorem mv_nwo (K : Tree) (dt : List UInt8) : mv4 K dt nwo = some ⟨1, [], []⟩ := by unfold mv4 mv2 updK; rw [if_neg (by decide), if_pos rfl]
theorem mv_nwx (K : Tree) (dt : List UInt8) : mv4 K dt nwx = some ⟨2, dt, []⟩ := by unfold mv4 updK; rw [if_pos rfl]
/-- Where it can't be. -/
theorem mv_bad {K : Tree} (hK : MayK K) (h0 : K nw = none) {dt t : List UInt8} {ks : List (List UInt8)} (hks : KeysAre (mv4 K dt) ks) (h : ¬ (kindK K t = 1 ∧ cleanL foldL (t ++ onxS) = true)) :
    (publishK (mv4 K dt) nw t ks).1 = 202 ∨ ((publishK (mv4 K dt) nw t ks).1 = 301 ∧ cleanL foldL t = false) := by
  unfold publishK
  cases hc : cleanL foldL t with
  | false => rw [if_neg (by simp)]; exact .inr ⟨rfl, rfl⟩
  | true =>
    rw [if_pos (by rw [show cleanL foldL nw = true by decide]; rfl)]
    left
    have hl : layK (mv4 K dt) nw t ks = none := by
      unfold layK
      by_cases hk : kindK K t = 1
      · have hx : cleanL foldL (t ++ onxS) = false := by
          cases hx : cleanL foldL (t ++ onxS) with
          | false => rfl
          | true => exact absurd ⟨hk, hx⟩ h
        rw [mv_yes hK h0 hk, if_neg (by simp), mv_tree hK h0 hks]
        show (match layStep (mv4 K dt) nw t (dropK (mv4 K dt) nw) nwo with | none => none | some N' => match layStep (mv4 K dt) nw t N' nwx with | none => none | some N'' => some N'') = none
        cases layStep (mv4 K dt) nw t (dropK (mv4 K dt) nw) nwo with
        | none => rfl
        | some N' =>
          dsimp only
          have : layStep (mv4 K dt) nw t N' nwx = none := by
            unfold layStep
            rw [mv_nwx]
            dsimp only
            rw [if_pos]
            unfold layBad
            rw [show placeL nw t nwx = t ++ onxS from rfl, hx]
            rfl
          rw [this]
      · rw [mv_no hk]; rfl
    unfold pubK
    rw [hl]
theorem up_one (t : List UInt8) : parentL (t ++ oneS) = t ∧ parentL (t ++ onxS) = t ++ oneS := by
  constructor
  · have : parentL (t ++ oneS) = (t ++ oneS).take t.length := parent_at (by simp [oneS]) (fun j hj => by
      rw [List.getElem?_append_right (by omega)]
      obtain ⟨m, hm⟩ : ∃ m, j - t.length = m + 1 := ⟨j - t.length - 1, by omega⟩
      rw [hm]
      show [111, 110, 101][m]? ≠ some 47
      match m with
      | 0 => decide
      | 1 => decide
      | 2 => decide
      | m + 3 => simp)
    rw [this, List.take_left]
  · have : parentL (t ++ onxS) = (t ++ onxS).take (t.length + 4) := parent_at (by rw [List.getElem?_append_right (by omega), Nat.add_sub_cancel_left]; rfl) (fun j hj => by
      rw [List.getElem?_append_right (by omega)]
      obtain ⟨m, hm⟩ : ∃ m, j - t.length = m + 5 := ⟨j - t.length - 5, by omega⟩
      rw [hm]
      show [120][m]? ≠ some 47
      match m with
      | 0 => decide
      | m + 1 => simp)
    rw [this, List.take_append, List.take_of_length_le (by omega), Nat.add_sub_cancel_left]
    rfl
/-- Where it may be: it is there as it was, and nowhere else. -/
theorem mv_good {K : Tree} (hK : MayK K) (h0 : K nw = none) {dt t : List UInt8} {ks : List (List UInt8)} (hks : KeysAre (mv4 K dt) ks) (hk : kindK K t = 1) (hx : cleanL foldL (t ++ onxS) = true) (h1 : K (t ++ oneS) = none) :
    publishK (mv4 K dt) nw t ks = (0, updK (updK K (t ++ oneS) ⟨1, [], []⟩) (t ++ onxS) ⟨2, dt, []⟩) := by
  obtain ⟨tt, ht, -⟩ := kindK_some hk (by decide)
  have hct := (hK t tt ht).1
  have hc1 := clean_one hct hx
  obtain ⟨u1, u2⟩ := up_one t
  have hne : t ++ onxS ≠ t ++ oneS := fun e => by have := congrArg List.length e; simp [onxS, oneS] at this
  have hxn : K (t ++ onxS) = none := by
    refine not_below hK h1 _ _ (Nat.le_refl _) (within_iff.2 ⟨?_, ?_⟩)
    · show (t ++ (oneS ++ [47, 120])).take (t ++ oneS).length = _
      rw [← List.append_assoc, List.take_left]
    · show (t ++ (oneS ++ [47, 120]))[(t ++ oneS).length]? = some 47
      rw [← List.append_assoc, List.getElem?_append_right (Nat.le_refl _), Nat.sub_self]
      rfl
  have l1 : liesK K (t ++ oneS) = true := by
    unfold liesK
    rw [u1, hk]
    simp
  have s1 : layStep (mv4 K dt) nw t K nwo = some (updK K (t ++ oneS) ⟨1, [], []⟩) := by
    unfold layStep
    rw [mv_nwo]
    dsimp only
    rw [show placeL nw t nwo = t ++ oneS from rfl]
    rw [if_neg, if_pos]
    · rw [h1]; rfl
    · unfold layBad
      rw [hc1, h1, l1]
      simp
  have s2 : layStep (mv4 K dt) nw t (updK K (t ++ oneS) ⟨1, [], []⟩) nwx = some (updK (updK K (t ++ oneS) ⟨1, [], []⟩) (t ++ onxS) ⟨2, dt, []⟩) := by
    have e1 : updK K (t ++ oneS) ⟨1, [], []⟩ (t ++ onxS) = none := by unfold updK; rw [if_neg hne]; exact hxn
    have l2 : liesK (updK K (t ++ oneS) ⟨1, [], []⟩) (t ++ onxS) = true := by
      unfold liesK
      rw [u2]
      have : kindK (updK K (t ++ oneS) ⟨1, [], []⟩) (t ++ oneS) = 1 := by unfold kindK updK; simp
      rw [this]
      simp
    unfold layStep
    rw [mv_nwx]
    dsimp only
    rw [show placeL nw t nwx = t ++ onxS from rfl]
    rw [if_neg, if_pos]
    · rfl
    · unfold layBad
      rw [hx, e1, l2]
      simp
  have hl : layK (mv4 K dt) nw t ks = some (updK (updK K (t ++ oneS) ⟨1, [], []⟩) (t ++ onxS) ⟨2, dt, []⟩) := by
    unfold layK
    rw [mv_yes hK h0 hk, if_neg (by simp), mv_tree hK h0 hks, mv_drop hK h0]
    show (match layStep (mv4 K dt) nw t K nwo with | none => none | some N' => match layStep (mv4 K dt) nw t N' nwx with | none => none | some N'' => some N'') = _
    rw [s1]
    dsimp only
    rw [s2]
  unfold publishK
  rw [if_pos (by rw [show cleanL foldL nw = true by decide, hct]; rfl)]
  unfold pubK
  rw [hl]
end Go.Proofs.YtjeblccboeljnaaDoor
