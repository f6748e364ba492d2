/- What a tree laid over a directory comes to: it may be; how much it holds. No condition. -/
import Derived.Test.YtjeblccboeljnaaGreatDoorYLay
namespace Go.Proofs.YtjeblccboeljnaaGreatDoor

theorem up_within {q top : List UInt8} (hd : deepL q = true) (h : parentL q = top ∨ withinB (parentL q) top = true) : withinB q top = true := by
  unfold deepL at hd
  obtain ⟨i, hi⟩ := Option.isSome_iff_exists.1 hd
  obtain ⟨e1, e2, e3⟩ := parentL_len hi
  have q1 := (lastS_some hi).1
  rcases h with h | h
  · refine within_iff.2 ⟨?_, ?_⟩
    · rw [← h, e1, ← e3]
    · rw [← h, e1]; exact q1
  · obtain ⟨h1, h2⟩ := within_iff.1 h
    have hl : top.length < i := by
      have := (List.getElem?_eq_some_iff.1 h2).1
      omega
    rw [e3] at h1 h2
    rw [List.take_take, Nat.min_eq_left (by omega)] at h1
    rw [List.getElem?_take_of_lt hl] at h2
    exact within_iff.2 ⟨h1, h2⟩
theorem within_no {top : List UInt8} : withinB top top = false := by
  cases h : withinB top top with
  | false => rfl
  | true =>
    have := (within_iff.1 h).2
    have := (List.getElem?_eq_some_iff.1 this).1
    omega
theorem kind_of {K : Tree} {p : List UInt8} {t : Tv} (h : K p = some t) : kindK K p = t.kind := by unfold kindK; rw [h]; rfl
theorem may_drop {K : Tree} (hK : MayK K) (top : List UInt8) : MayK (dropK K top) := by
  intro q t h
  unfold dropK at h
  by_cases hq : q = top ∨ withinB q top = true
  · rw [if_pos hq] at h; cases h
  · rw [if_neg hq] at h
    obtain ⟨h1, h2, h3⟩ := hK q t h
    refine ⟨h1, h2, ?_⟩
    unfold liesK at h3 ⊢
    cases hd : deepL q with
    | false => rfl
    | true =>
      rw [hd] at h3
      have hn : ¬ (parentL q = top ∨ withinB (parentL q) top = true) := fun hh => hq (.inr (up_within hd hh))
      have e : kindK (dropK K top) (parentL q) = kindK K (parentL q) := by
        unfold kindK dropK
        rw [if_neg hn]
      rw [e]
      exact h3
theorem may_upd {N : Tree} (hN : MayK N) {p : List UInt8} {t : Tv} (hc : cleanL foldL p = true) (ht : tvMay t = true) (hl : liesK N p = true) (hk : ∀ u, N p = some u → u.kind = t.kind) : MayK (updK N p t) := by
  have hlies : ∀ q, liesK N q = true → liesK (updK N p t) q = true := by
    intro q h
    unfold liesK at h ⊢
    cases hd : deepL q with
    | false => rfl
    | true =>
      rw [hd] at h
      have h' : kindK N (parentL q) = 1 := by simpa using h
      by_cases hp : parentL q = p
      · obtain ⟨u, hu, hu1⟩ := kindK_some h' (by decide)
        have : kindK (updK N p t) (parentL q) = t.kind := kind_of (by unfold updK; rw [if_pos hp])
        rw [hp] at hu
        rw [this, ← hk u hu, hu1]
        rfl
      · have : kindK (updK N p t) (parentL q) = kindK N (parentL q) := by unfold kindK updK; rw [if_neg hp]
        rw [this, h']
        rfl
  intro q u h
  unfold updK at h
  by_cases hq : q = p
  · rw [if_pos hq] at h
    injection h with h
    subst h
    subst hq
    exact ⟨hc, ht, hlies q hl⟩
  · rw [if_neg hq] at h
    obtain ⟨h1, h2, h3⟩ := hN q u h
    exact ⟨h1, h2, hlies q h3⟩
/-- What a step of laying does, where it does something. -/
theorem step_out {K : Tree} {fr to_ : List UInt8} {N N' : Tree} {p : List UInt8} (h : layStep K fr to_ N p = some N') :
    ∃ t, K p = some t ∧ cleanL foldL (placeL fr to_ p) = true ∧ (∀ u, N (placeL fr to_ p) = some u → u.kind = t.kind) ∧ (t.kind = 3 → N (placeL fr to_ p) = none) ∧ liesK N (placeL fr to_ p) = true ∧ (N' = updK N (placeL fr to_ p) t ∨ (N' = N ∧ (N (placeL fr to_ p)).isSome = true ∧ t.kind = 1)) := by
  unfold layStep at h
  cases hK : K p with
  | none => rw [hK] at h; cases h
  | some t =>
    rw [hK] at h
    dsimp only at h
    cases hb : layBad N t (placeL fr to_ p) with
    | true => rw [hb] at h; cases h
    | false =>
      rw [hb] at h
      unfold layBad at hb
      simp only [Bool.or_eq_false_iff] at hb
      obtain ⟨⟨⟨b1, b2⟩, b3⟩, b4⟩ := hb
      refine ⟨t, rfl, by simpa using b1, fun u hu => ?_, fun h3 => ?_, by simpa using b4, ?_⟩
      · rw [hu, kind_of hu] at b2
        simpa using b2
      · rw [h3] at b3
        cases hn : N (placeL fr to_ p) with
        | none => rfl
        | some u => rw [hn] at b3; simp at b3
      · simp only [Bool.false_eq_true, if_false] at h
        split at h
        · exact .inl (by injection h with h; exact h.symm)
        · rename_i hh
          simp at hh
          refine .inr ⟨by injection h with h; exact h.symm, ?_, hh.1⟩
          cases hn : N (placeL fr to_ p) with
          | none => rw [hn] at hh; simp at hh
          | some u => rfl
theorem may_go {K : Tree} (hK : MayK K) (fr to_ : List UInt8) : ∀ (ps : List (List UInt8)) (N N' : Tree), MayK N → layGo K fr to_ ps N = some N' → MayK N'
  | [], N, N', hN, h => by injection h with h; exact h ▸ hN
  | p :: r, N, N', hN, h => by
    have h' : (match layStep K fr to_ N p with | none => none | some M => layGo K fr to_ r M) = some N' := h
    cases hs : layStep K fr to_ N p with
    | none => rw [hs] at h'; cases h'
    | some M =>
      rw [hs] at h'
      obtain ⟨t, k1, k2, k3, k4, k5, k6⟩ := step_out hs
      refine may_go hK fr to_ r M N' ?_ h'
      rcases k6 with rfl | ⟨rfl, -⟩
      · exact may_upd hN k2 (hK p t k1).2.1 k5 k3
      · exact hN
theorem may_lay {K : Tree} (hK : MayK K) {fr to_ : List UInt8} {ks : List (List UInt8)} {N : Tree} (h : layK K fr to_ ks = some N) : MayK N := by
  unfold layK at h
  split at h
  · cases h
  · exact may_go hK fr to_ _ _ _ (may_drop hK fr) h
/-- How long files are. -/
def DatK (K : Tree) (D : Nat) : Prop := ∀ p t, K p = some t → t.data.length ≤ D ∧ t.ln.length ≤ D
theorem DatK.drop {K : Tree} {D : Nat} (h : DatK K D) (top : List UInt8) : DatK (dropK K top) D := by
  intro p t e
  unfold dropK at e
  split at e
  · cases e
  · exact h p t e
theorem DatK.upd {N : Tree} {D : Nat} (h : DatK N D) (p : List UInt8) {t : Tv} (ht : t.data.length ≤ D ∧ t.ln.length ≤ D) : DatK (updK N p t) D := by
  intro q u e
  unfold updK at e
  split at e
  · injection e with e
    exact e ▸ ht
  · exact h q u e
theorem dat_go {K : Tree} {D : Nat} (hK : DatK K D) (fr to_ : List UInt8) : ∀ (ps : List (List UInt8)) (N N' : Tree), DatK N D → layGo K fr to_ ps N = some N' → DatK N' D
  | [], N, N', hN, h => by injection h with h; exact h ▸ hN
  | p :: r, N, N', hN, h => by
    have h' : (match layStep K fr to_ N p with | none => none | some M => layGo K fr to_ r M) = some N' := h
    cases hs : layStep K fr to_ N p with
    | none => rw [hs] at h'; cases h'
    | some M =>
      rw [hs] at h'
      obtain ⟨t, k1, -, -, -, -, k6⟩ := step_out hs
      refine dat_go hK fr to_ r M N' ?_ h'
      rcases k6 with rfl | ⟨rfl, -⟩
      · exact hN.upd _ (hK p t k1)
      · exact hN
theorem DatK.lay {K : Tree} {D : Nat} (hK : DatK K D) {fr to_ : List UInt8} {ks : List (List UInt8)} {N : Tree} (h : layK K fr to_ ks = some N) : DatK N D := by
  unfold layK at h
  split at h
  · cases h
  · exact dat_go hK fr to_ _ _ _ (hK.drop fr) h
/-- A list that holds each path. -/
def In (K : Tree) (l : List (List UInt8)) : Prop := ∀ p, (K p).isSome = true → p ∈ l
theorem in_go {K : Tree} (fr to_ : List UInt8) : ∀ (ps : List (List UInt8)) (N N' : Tree) (l : List (List UInt8)), In N l → layGo K fr to_ ps N = some N' → In N' (l ++ ps.map (placeL fr to_))
  | [], N, N', l, hN, h => by
    injection h with h
    rw [List.map_nil, List.append_nil]
    exact h ▸ hN
  | p :: r, N, N', l, hN, h => by
    have h' : (match layStep K fr to_ N p with | none => none | some M => layGo K fr to_ r M) = some N' := h
    cases hs : layStep K fr to_ N p with
    | none => rw [hs] at h'; cases h'
    | some M =>
      rw [hs] at h'
      obtain ⟨t, k1, -, -, -, -, k6⟩ := step_out hs
      have hM : In M (l ++ [placeL fr to_ p]) := by
        intro q hq
        rcases k6 with rfl | ⟨rfl, -⟩
        · unfold updK at hq
          split at hq
          · rename_i e; simp [e]
          · exact List.mem_append_left _ (hN q hq)
        · exact List.mem_append_left _ (hN q hq)
      have := in_go fr to_ r M N' _ hM h'
      rw [List.append_assoc] at this
      exact this
theorem filter_two {α : Type} (f g : α → Bool) (h : ∀ x, f x = true → g x = false) : ∀ l : List α, (l.filter f).length + (l.filter g).length ≤ l.length
  | [] => by simp
  | a :: r => by
    have ih := filter_two f g h r
    by_cases h1 : f a = true
    · rw [List.filter_cons, if_pos h1, List.filter_cons, if_neg (by rw [h a h1]; simp)]
      simp only [List.length_cons]
      omega
    · rw [List.filter_cons, if_neg h1, List.filter_cons]
      split <;> simp only [List.length_cons] <;> omega
theorem lay_in {K : Tree} {fr to_ : List UInt8} {ks : List (List UInt8)} (hm : ∀ p, p ∈ ks ↔ (K p).isSome = true) {N : Tree} (h : layK K fr to_ ks = some N) : ∃ l, In N l ∧ l.length ≤ ks.length := by
  unfold layK at h
  split at h
  · cases h
  · refine ⟨_, in_go fr to_ _ _ _ (ks.filter fun p => !withinB p fr) ?_ h, ?_⟩
    · intro q hq
      unfold dropK at hq
      split at hq
      · cases hq
      · rename_i hn
        refine List.mem_filter.2 ⟨(hm q).2 hq, ?_⟩
        cases hw : withinB q fr with
        | false => rfl
        | true => exact absurd (.inr hw) hn
    · rw [List.length_append, List.length_map]
      exact filter_two _ _ (fun x hx => by cases hw : withinB x fr <;> simp_all) ks
/-- A place lies in the tree that is laid over. -/
theorem place_within {fr to_ p : List UInt8} (h : withinB p fr = true) : withinB (placeL fr to_ p) to_ = true := by
  obtain ⟨h1, h2⟩ := within_iff.1 h
  have hl : fr.length < p.length := (List.getElem?_eq_some_iff.1 h2).1
  refine within_iff.2 ⟨by unfold placeL; simp, ?_⟩
  unfold placeL
  rw [List.getElem?_append_right (Nat.le_refl _), Nat.sub_self, List.getElem?_drop, Nat.add_zero]
  exact h2
/-- Outside of both trees all is as it was. -/
theorem go_out {K : Tree} (fr to_ q : List UInt8) (hq : withinB q to_ = false) : ∀ (ps : List (List UInt8)) (N N' : Tree), (∀ p ∈ ps, withinB p fr = true) → layGo K fr to_ ps N = some N' → N' q = N q
  | [], N, N', _, h => by injection h with h; rw [h]
  | p :: r, N, N', hp, h => by
    have h' : (match layStep K fr to_ N p with | none => none | some M => layGo K fr to_ r M) = some N' := h
    cases hs : layStep K fr to_ N p with
    | none => rw [hs] at h'; cases h'
    | some M =>
      rw [hs] at h'
      obtain ⟨t, k1, -, -, -, -, k6⟩ := step_out hs
      rw [go_out fr to_ q hq r M N' (fun x hx => hp x (by simp [hx])) h']
      rcases k6 with rfl | ⟨rfl, -⟩
      · unfold updK
        rw [if_neg]
        intro e
        rw [e, place_within (hp p (by simp))] at hq
        cases hq
      · rfl
theorem lay_out {K : Tree} {fr to_ : List UInt8} {ks : List (List UInt8)} {N : Tree} (h : layK K fr to_ ks = some N) (q : List UInt8) (h1 : q ≠ fr) (h2 : withinB q fr = false) (h3 : withinB q to_ = false) : N q = K q := by
  unfold layK at h
  split at h
  · cases h
  · rw [go_out fr to_ q h3 _ _ _ (fun p hp => (List.mem_filter.1 hp).2) h]
    unfold dropK
    rw [if_neg]
    rintro (h | h)
    · exact h1 h
    · rw [h2] at h; cases h
/-- All links are in the list. -/
def LinkIn (N : Tree) (l : List (List UInt8)) : Prop := ∀ p, kindK N p = 3 → p ∈ l
def linksK (K : Tree) (ks : List (List UInt8)) : List (List UInt8) := ks.filter fun p => decide (kindK K p = 3)
theorem LinkIn.upd {N : Tree} {l : List (List UInt8)} (h : LinkIn N l) (p : List UInt8) (t : Tv) (ht : t.kind ≠ 3) : LinkIn (updK N p t) l := by
  intro q hq
  apply h
  unfold kindK updK at hq
  unfold kindK
  split at hq
  · exact absurd hq ht
  · exact hq
theorem LinkIn.drop {N : Tree} {l : List (List UInt8)} (h : LinkIn N l) (top : List UInt8) : LinkIn (dropK N top) l := by
  intro q hq
  apply h
  unfold kindK dropK at hq
  unfold kindK
  split at hq
  · exact absurd hq (by decide)
  · exact hq
theorem link_go {K : Tree} (fr to_ : List UInt8) : ∀ (ps : List (List UInt8)) (N N' : Tree) (l : List (List UInt8)), LinkIn N l → layGo K fr to_ ps N = some N' → LinkIn N' (l ++ (linksK K ps).map (placeL fr to_))
  | [], N, N', l, hN, h => by
    injection h with h
    show LinkIn N' (l ++ [])
    rw [List.append_nil]
    exact h ▸ hN
  | p :: r, N, N', l, hN, h => by
    have h' : (match layStep K fr to_ N p with | none => none | some M => layGo K fr to_ r M) = some N' := h
    cases hs : layStep K fr to_ N p with
    | none => rw [hs] at h'; cases h'
    | some M =>
      rw [hs] at h'
      obtain ⟨t, k1, -, -, -, -, k6⟩ := step_out hs
      have kk : kindK K p = t.kind := kind_of k1
      by_cases h3 : t.kind = 3
      · have e : linksK K (p :: r) = p :: linksK K r := by
          unfold linksK
          rw [List.filter_cons, if_pos (by rw [kk, h3]; rfl)]
        rw [e, List.map_cons]
        have hM : LinkIn M (l ++ [placeL fr to_ p]) := by
          intro q hq
          rcases k6 with rfl | ⟨rfl, -⟩
          · by_cases e : q = placeL fr to_ p
            · simp [e]
            · refine List.mem_append_left _ (hN q ?_)
              unfold kindK updK at hq
              rw [if_neg e] at hq
              exact hq
          · exact List.mem_append_left _ (hN q hq)
        have := link_go fr to_ r M N' _ hM h'
        rw [List.append_assoc] at this
        exact this
      · have e : linksK K (p :: r) = linksK K r := by
          unfold linksK
          rw [List.filter_cons, if_neg (by rw [kk]; simpa using h3)]
        rw [e]
        refine link_go fr to_ r M N' l ?_ h'
        rcases k6 with rfl | ⟨rfl, -⟩
        · exact hN.upd _ _ h3
        · exact hN
/-- No link is made. -/
theorem lay_links {K : Tree} {fr to_ : List UInt8} {ks : List (List UInt8)} (hm : ∀ p, p ∈ ks ↔ (K p).isSome = true) {N : Tree} (h : layK K fr to_ ks = some N) : ∃ l, LinkIn N l ∧ l.length ≤ (linksK K ks).length := by
  unfold layK at h
  split at h
  · cases h
  · refine ⟨_, link_go fr to_ _ _ _ ((linksK K ks).filter fun p => !withinB p fr) ?_ h, ?_⟩
    · intro q hq
      obtain ⟨t, ht, h3⟩ := kindK_some hq (by decide)
      unfold dropK at ht
      split at ht
      · cases ht
      · rename_i hn
        refine List.mem_filter.2 ⟨List.mem_filter.2 ⟨(hm q).2 (by rw [ht]; rfl), by rw [kind_of ht, h3]; rfl⟩, ?_⟩
        cases hw : withinB q fr with
        | false => rfl
        | true => exact absurd (.inr hw) hn
    · rw [List.length_append, List.length_map]
      have e : linksK K (treeL ks fr) = (linksK K ks).filter fun p => withinB p fr := by
        unfold linksK treeL
        rw [List.filter_filter, List.filter_filter]
        exact List.filter_congr fun x _ => Bool.and_comm _ _
      rw [e]
      exact filter_two _ _ (fun x hx => by cases hw : withinB x fr <;> simp_all) _
theorem link_count {N : Tree} {l ks : List (List UInt8)} (h : LinkIn N l) (hn : ks.Nodup) : (linksK N ks).length ≤ l.length := by
  refine nodup_le (hn.sublist List.filter_sublist) fun p hp => ?_
  have := (List.mem_filter.1 hp).2
  exact h p (by simpa using this)
where
  nodup_le : ∀ {a b : List (List UInt8)}, a.Nodup → (∀ p ∈ a, p ∈ b) → a.length ≤ b.length
  | [], b, _, _ => by simp
  | x :: r, b, ha, hb => by
    rw [List.nodup_cons] at ha
    have hx := hb x (by simp)
    have := nodup_le (a := r) (b := b.erase x) ha.2 (fun p hp => (List.mem_erase_of_ne (fun e : p = x => ha.1 (by rw [← e]; exact hp))).2 (hb p (by simp [hp])))
    rw [List.length_erase_of_mem hx] at this
    have h0 : 0 < b.length := List.length_pos_of_mem hx
    simp only [List.length_cons]
    omega
end Go.Proofs.YtjeblccboeljnaaGreatDoor
