/- Plain laws on folders that hang together. No condition. -/
import Derived.Test.YtfnblemlcjdnhaaGreatGHangs
import Derived.Test.YtfnblemlcjdnhaaGreatGCheckA
namespace Go.Proofs.YtfnblemlcjdnhaaGreat

theorem first_mono (f : Folder) (a b : Nat) (h : a ≤ b) : f.first a ≤ f.first b := by
  induction b with
  | zero => have : a = 0 := by omega
            subst this; exact Nat.le_refl _
  | succ b ih =>
    by_cases e : a = b + 1
    · subst e; exact Nat.le_refl _
    · refine Nat.le_trans (ih (by omega)) ?_
      cases hx : f.coders[b]? with
      | none =>
        have : f.coders.take (b + 1) = f.coders.take b := by simp [List.take_add_one, hx]
        unfold Folder.first; rw [this]; exact Nat.le_refl _
      | some x => rw [f.first_succ b x hx]; omega

/-- A list of all different numbers below n, of length n, holds each. -/
theorem nodup_cover (n : Nat) (l : List Nat) (hn : l.Nodup) (hl : ∀ x ∈ l, x < n) (he : l.length = n) (i : Nat) (hi : i < n) : i ∈ l := by
  apply Classical.byContradiction
  intro h
  have := nodup_le n (i :: l) (List.nodup_cons.2 ⟨h, hn⟩) (fun x hx => by
    rcases List.mem_cons.1 hx with rfl | hx
    · exact hi
    · exact hl x hx)
  simp at this
  omega

theorem Named.cover {f : Folder} {all : Nat} (N : Named f all) (i : Nat) (hi : i < all) : (i : Int) ∈ f.binds.map (·.1) ++ f.packs := by
  have hb : ∀ x ∈ f.binds.map (·.1) ++ f.packs, 0 ≤ x ∧ x < (all : Int) := by
    intro x hx
    rcases List.mem_append.1 hx with hx | hx
    · obtain ⟨b, hb, rfl⟩ := List.mem_map.1 hx
      exact (N.binds b hb).1
    · exact N.packs x hx
  have h := nodup_cover all ((f.binds.map (·.1) ++ f.packs).map Int.toNat) ?_ ?_ ?_ i hi
  · obtain ⟨x, hx, e⟩ := List.mem_map.1 h
    have := hb x hx
    have : x = (i : Int) := by omega
    rw [← this]; exact hx
  · rw [List.nodup_iff_pairwise_ne, List.pairwise_map]
    refine List.Pairwise.imp_of_mem ?_ (List.nodup_iff_pairwise_ne.1 N.ins)
    intro a b ha hb' hne
    have := hb a ha
    have := hb b hb'
    omega
  · intro x hx
    obtain ⟨y, hy, rfl⟩ := List.mem_map.1 hx
    have := hb y hy
    omega
  · have := N.all
    simp
    omega

theorem from_cases {f : Folder} {all : Nat} (N : Named f all) (i : Nat) (hi : i < all) :
    (∃ c : Nat, ∃ r2, f.from_ (i : Int) = ((c : Int), r2) ∧ c < f.coders.length) ∨ ∃ c : Nat, f.from_ (i : Int) = (-1, (c : Int)) ∧ c < f.packs.length := by
  cases hf : f.binds.find? (fun b => b.1 == (i : Int)) with
  | some b =>
    left
    have hb := (N.binds b (List.mem_of_find?_eq_some hf)).2
    refine ⟨b.2.toNat, -1, ?_, by omega⟩
    simp [Folder.from_, Folder.fromB, hf]
    omega
  | none =>
    right
    have hm : (i : Int) ∈ f.packs := by
      rcases List.mem_append.1 (N.cover i hi) with h | h
      · obtain ⟨b, hb, e⟩ := List.mem_map.1 h
        have := List.find?_eq_none.1 hf b hb
        simp [e] at this
      · exact h
    cases hx : f.packs.findIdx? (· == (i : Int)) with
    | none =>
      have := List.findIdx?_eq_none_iff.1 hx _ hm
      simp at this
    | some k =>
      refine ⟨k, ?_, ?_⟩
      · simp [Folder.from_, Folder.fromB, hf, Folder.fromP, fidx, hx]
      · have := (List.findIdx?_eq_some_iff_findIdx_eq.1 hx).1
        exact this

theorem Hangs.fed {f : Folder} {np : Nat} (H : Hangs f np) (k : Nat) (hk : k < f.coders.length) : Fed f np k := by
  obtain ⟨x, hx⟩ : ∃ x, f.coders[k]? = some x := ⟨f.coders[k], by simp [hk]⟩
  have hi : f.first k < f.first f.coders.length := by
    have h1 := first_mono f (k + 1) f.coders.length (by omega)
    rw [f.first_succ k x hx] at h1
    have := H.ins x (List.mem_of_getElem? hx)
    omega
  refine ⟨by rw [H.si]; exact hk, ?_⟩
  rcases from_cases H.named (f.first k) hi with ⟨c, r2, h1, h2⟩ | ⟨c, h1, h2⟩
  · exact .inl ⟨c, r2, h1, by rw [H.si]; exact h2⟩
  · exact .inr ⟨c, h1, by rw [H.pa]; exact h2⟩

/-- The code that is told of a folder and the sizes of what is packed. -/
noncomputable def codeP (f : Folder) (np : List UInt64) : Int :=
  open Classical in
  if Hangs f np.length then
    if (f.sizes ++ np).any (fun s => decide (1099511627776 < s.toNat)) then 7
    else if f.coders.any (fun c => !propsOk c.method c.props) then 11
    else if (List.range f.coders.length).any (fun k => !f.evenAt np k (f.coders.getD k ⟨0, []⟩).method) then 13
    else 0
  else 10
end Go.Proofs.YtfnblemlcjdnhaaGreat
