/- Plain laws: orders of coders; the one coder that a coder feeds; the main coder. No condition. -/
import Derived.Test.YtfnblemlcjdnhaaGreatGCheck
import Derived.Test.YtfnblemlcjdnhaaGreatGMain
namespace Go.Proofs.YtfnblemlcjdnhaaGreat

theorem nodup_sub : ∀ (a b : List Nat), a.Nodup → (∀ x ∈ a, x ∈ b) → a.length ≤ b.length
  | [], _, _, _ => by simp
  | x :: t, b, hn, h => by
    have hx := h x (by simp)
    rw [List.nodup_cons] at hn
    have := nodup_sub t (b.erase x) hn.2 (fun y hy => (List.mem_erase_of_ne (fun (e : y = x) => hn.1 (by rw [← e]; exact hy))).2 (h y (by simp [hy])))
    rw [List.length_erase_of_mem hx] at this
    have := List.length_pos_of_mem hx
    simp
    omega

/-- No circle: each coder comes to an end. -/
theorem acc_all {fd : Nat → List Nat} {n : Nat} (hfit : ∀ c, c < n → ∀ x ∈ fd c, x < n) (h : ¬ Circle fd n) : ∀ c, c < n → Acc (fun x y => x ∈ fd y) c := by
  have hi : Inv fd n (List.replicate n 0) [] := by
    refine ⟨by simp, by simp, by simp, fun x => ?_, fun x => ?_⟩
    · rw [List.getElem?_replicate]; split <;> simp
    · rw [List.getElem?_replicate]; split <;> simp
  obtain ⟨r, st', _, ho⟩ := go_out (visit fd (n + 1)) (List.range n) _ hi (fun st x h hx =>
    visit_out hfit (n + 1) [] st x h trivial (by simpa using hx) (by simp))
  cases r with
  | true => exact absurd (ho.yes rfl) h
  | false => exact fun c hc => (ho.no rfl).2 c (by simpa using hc)

theorem fd_fit {f : Folder} {np : Nat} (H : Hangs f np) : ∀ c, c < f.coders.length → ∀ x ∈ fdOf f c, x < f.coders.length := fun c hc x hx => by
  obtain ⟨y, hy, rfl⟩ := List.mem_map.1 hx
  have := feeders_fit _ _ H.named c hc y hy
  omega

/-- Coders, each behind those that feed it. -/
structure Ord (f : Folder) (out : List Nat) : Prop where
  nodup : out.Nodup
  ok : ∀ i c, out[i]? = some c → c < f.coders.length ∧ ∀ x ∈ fdOf f c, x ∈ out.take i

theorem Ord.nil (f : Folder) : Ord f [] := ⟨by simp, by simp⟩
theorem Ord.lt {f : Folder} {out : List Nat} (h : Ord f out) : ∀ x ∈ out, x < f.coders.length := fun x hx => by
  obtain ⟨i, hi⟩ := List.getElem?_of_mem hx
  exact (h.ok i x hi).1
theorem Ord.le {f : Folder} {out : List Nat} (h : Ord f out) : out.length ≤ f.coders.length := nodup_le _ _ h.nodup h.lt

theorem Ord.snoc {f : Folder} {out : List Nat} (h : Ord f out) (c : Nat) (hc : c < f.coders.length) (hn : c ∉ out) (hx : ∀ x ∈ fdOf f c, x ∈ out) : Ord f (out ++ [c]) := by
  refine ⟨List.nodup_append.2 ⟨h.nodup, by simp, fun a ha b hb => ?_⟩, fun i d hd => ?_⟩
  · simp at hb
    subst hb
    rintro rfl
    exact hn ha
  · by_cases hi : i < out.length
    · rw [List.getElem?_append_left hi] at hd
      have := h.ok i d hd
      refine ⟨this.1, fun x hx => ?_⟩
      rw [List.take_append_of_le_length (by omega)]
      exact this.2 x hx
    · have hil : i < (out ++ [c]).length := (List.getElem?_eq_some_iff.1 hd).1
      have hie : i = out.length := by simp at hil; omega
      subst hie
      simp at hd
      subst hd
      refine ⟨hc, fun x hx' => ?_⟩
      simpa using hx x hx'

/-- Where none is ready all are there. -/
theorem Ord.stuck {f : Folder} {np : Nat} {out : List Nat} (H : Hangs f np) (h : Ord f out) (hs : ∀ c, c < f.coders.length → c ∈ out ∨ ∃ x ∈ fdOf f c, x ∉ out) : out.length = f.coders.length := by
  have hall : ∀ c, c < f.coders.length → c ∈ out := by
    intro c hc
    have ha := acc_all (fd_fit H) H.round c hc
    induction ha with
    | intro c _ ih =>
      rcases hs c hc with h1 | ⟨x, hx, hn⟩
      · exact h1
      · exact absurd (ih x hx (fd_fit H c hc x hx)) hn
  have h1 := h.le
  have h2 : (List.range f.coders.length).length ≤ out.length := by
    have hsub : ∀ x ∈ List.range f.coders.length, x ∈ out := fun x hx => hall x (by simpa using hx)
    exact nodup_sub _ _ List.nodup_range hsub
  simp at h2
  omega

theorem fd_mem {f : Folder} {c j x : Nat} (hj : j < f.insOf c) (h : (f.from_ ((f.first c + j : Nat) : Int)).1 = (x : Int)) : x ∈ fdOf f c := by
  unfold fdOf Folder.feeders Folder.feedersTo
  refine List.mem_map.2 ⟨(x : Int), List.mem_filter.2 ⟨List.mem_map.2 ⟨j, by simpa using hj, h⟩, by simp⟩, by simp⟩

/-- The stream's coder. -/
theorem locate (f : Folder) (q : Nat) : ∀ n, n ≤ f.coders.length → q < f.first n → ∃ u, u < n ∧ f.first u ≤ q ∧ q < f.first u + f.insOf u
  | 0, _, h => by simp [Folder.first] at h
  | n + 1, hn, h => by
    by_cases h1 : q < f.first n
    · obtain ⟨u, hu, h2, h3⟩ := locate f q n (by omega) h1
      exact ⟨u, by omega, h2, h3⟩
    · obtain ⟨x, hx⟩ : ∃ x, f.coders[n]? = some x := ⟨f.coders[n], by simp [show n < f.coders.length from hn]⟩
      rw [f.first_succ n x hx] at h
      exact ⟨n, by omega, by omega, by unfold Folder.insOf; rw [hx]; exact h⟩

theorem pair_of_snd {l : List (Int × Int)} (h : (l.map (·.2)).Nodup) {a b : Int × Int} (ha : a ∈ l) (hb : b ∈ l) (e : a.2 = b.2) : a = b := by
  induction l with
  | nil => simp at ha
  | cons y t ih =>
    simp only [List.map_cons, List.nodup_cons] at h
    rcases List.mem_cons.1 ha with h1 | h1 <;> rcases List.mem_cons.1 hb with h2 | h2
    · rw [h1, h2]
    · exact absurd (List.mem_map.2 ⟨b, h2, by rw [← e, h1]⟩) h.1
    · exact absurd (List.mem_map.2 ⟨a, h1, by rw [e, h2]⟩) h.1
    · exact ih h.2 h1 h2

theorem pair_of_fst {l : List (Int × Int)} (h : (l.map (·.1)).Nodup) {a b : Int × Int} (ha : a ∈ l) (hb : b ∈ l) (e : a.1 = b.1) : a = b := by
  induction l with
  | nil => simp at ha
  | cons y t ih =>
    simp only [List.map_cons, List.nodup_cons] at h
    rcases List.mem_cons.1 ha with h1 | h1 <;> rcases List.mem_cons.1 hb with h2 | h2
    · rw [h1, h2]
    · exact absurd (List.mem_map.2 ⟨b, h2, by rw [← e, h1]⟩) h.1
    · exact absurd (List.mem_map.2 ⟨a, h1, by rw [e, h2]⟩) h.1
    · exact ih h.2 h1 h2

theorem from_of {f : Folder} (h : (f.binds.map (·.1)).Nodup) {b : Int × Int} (hb : b ∈ f.binds) : (f.from_ b.1).1 = b.2 := by
  unfold Folder.from_ Folder.fromB
  cases hf : f.binds.find? (fun y => y.1 == b.1) with
  | none => have := List.find?_eq_none.1 hf b hb; simp at this
  | some c =>
    have h1 := List.find?_some hf
    have := pair_of_fst h (List.mem_of_find?_eq_some hf) hb (by simpa using h1)
    subst this
    rfl

/-- The main coder: the one that nothing is bound to. -/
theorem main_is {f : Folder} {np : Nat} (H : Hangs f np) : ∃ m : Nat, m < f.coders.length ∧ mainOf f = (m : Int) ∧ ∀ c, c < f.coders.length → c ≠ m → ∃ b ∈ f.binds, b.2 = (c : Int) := by
  have hb := H.bi
  have hlt : ∀ x ∈ (f.binds.map (·.2)).map Int.toNat, x < f.coders.length := fun x hx => by
    obtain ⟨y, hy, rfl⟩ := List.mem_map.1 hx
    obtain ⟨b, hb, rfl⟩ := List.mem_map.1 hy
    have := (H.named.binds b hb).2
    omega
  have hnd : ((f.binds.map (·.2)).map Int.toNat).Nodup := by
    rw [List.nodup_iff_pairwise_ne, List.pairwise_map]
    refine List.Pairwise.imp_of_mem ?_ (List.nodup_iff_pairwise_ne.1 H.named.outs)
    intro a b ha hb' hne
    obtain ⟨c, hc, rfl⟩ := List.mem_map.1 ha
    obtain ⟨d, hd, rfl⟩ := List.mem_map.1 hb'
    have := (H.named.binds c hc).2
    have := (H.named.binds d hd).2
    omega
  have hex : ∃ m, mainIdx f = some m := by
    cases hm : mainIdx f with
    | some m => exact ⟨m, rfl⟩
    | none =>
      unfold mainIdx at hm
      rw [List.find?_eq_none] at hm
      exfalso
      have h2 : (List.range f.coders.length).length ≤ ((f.binds.map (·.2)).map Int.toNat).length := by
        refine nodup_sub _ _ List.nodup_range (fun x hx => ?_)
        have := hm x hx
        simp only [decide_eq_true_eq, Decidable.not_not] at this
        exact List.mem_map.2 ⟨(x : Int), this, by simp⟩
      simp at h2
      omega
  obtain ⟨m, hm⟩ := hex
  have hm0 := hm
  unfold mainIdx at hm
  have hml : m < f.coders.length := by simpa using List.mem_of_find?_eq_some hm
  have hmo : (m : Int) ∉ f.binds.map (·.2) := by simpa using List.find?_some hm
  refine ⟨m, hml, by unfold mainOf; rw [hm0], fun c hc hne => ?_⟩
  have h1 := nodup_cover f.coders.length (m :: (f.binds.map (·.2)).map Int.toNat) (List.nodup_cons.2 ⟨fun h => by
    obtain ⟨y, hy, e⟩ := List.mem_map.1 h
    obtain ⟨b, hb, rfl⟩ := List.mem_map.1 hy
    have := (H.named.binds b hb).2
    exact hmo (List.mem_map.2 ⟨b, hb, by omega⟩), hnd⟩) (fun x hx => by
    rcases List.mem_cons.1 hx with rfl | hx
    · exact hml
    · exact hlt x hx) (by simp; omega) c hc
  rcases List.mem_cons.1 h1 with h1 | h1
  · exact absurd h1 hne
  · obtain ⟨y, hy, e⟩ := List.mem_map.1 h1
    obtain ⟨b, hb, rfl⟩ := List.mem_map.1 hy
    have := (H.named.binds b hb).2
    exact ⟨b, hb, by omega⟩

/-- The one coder u that a coder feeds, by its one stream q. -/
structure Up (f : Folder) (a u q : Nat) : Prop where
  lt : u < f.coders.length
  lo : f.first u ≤ q
  hi : q < f.first u + f.insOf u
  yes : (f.from_ (q : Int)).1 = (a : Int)
  no : ∀ i : Nat, i ≠ q → (f.from_ (i : Int)).1 ≠ (a : Int)

theorem up_of {f : Folder} {np : Nat} (H : Hangs f np) {a : Nat} (h : ∃ b ∈ f.binds, b.2 = (a : Int)) : ∃ u q, Up f a u q := by
  obtain ⟨b, hb, e⟩ := h
  have hr := (H.named.binds b hb).1
  obtain ⟨u, hu, h1, h2⟩ := locate f b.1.toNat f.coders.length (Nat.le_refl _) (by omega)
  have eq : ((b.1.toNat : Nat) : Int) = b.1 := by omega
  refine ⟨u, b.1.toNat, hu, h1, h2, by rw [eq, from_of (List.nodup_append.1 H.named.ins).1 hb, e], fun i hi hf => hi ?_⟩
  obtain ⟨b', hb', e1, e2⟩ := from_out f i (by rw [hf]; omega)
  have := pair_of_snd H.named.outs hb' hb (by rw [e1, hf, e])
  subst this
  omega

theorem Up.only {f : Folder} {a u q c : Nat} (h : Up f a u q) (hc : c < f.coders.length) (h1 : f.first c ≤ q) (h2 : q < f.first c + f.insOf c) : c = u := by
  have key : ∀ x y, x < y → y < f.coders.length → f.first x + f.insOf x ≤ f.first y := fun x y hxy hy => by
    obtain ⟨z, hz⟩ : ∃ z, f.coders[x]? = some z := ⟨f.coders[x], by simp [show x < f.coders.length by omega]⟩
    have := first_mono f (x + 1) y hxy
    rw [f.first_succ x z hz] at this
    unfold Folder.insOf
    rw [hz]
    exact this
  rcases Nat.lt_trichotomy c u with hl | hl | hl
  · have := key c u hl h.lt
    have := h.lo
    omega
  · exact hl
  · have := key u c hl hc
    have := h.hi
    omega

/-- What a coder feeds stands behind it. -/
theorem Ord.up {f : Folder} {out : List Nat} (h : Ord f out) (hl : out.length = f.coders.length) {a u q j : Nat} (U : Up f a u q) (hj : out[j]? = some a) : ∃ j', j < j' ∧ out[j']? = some u := by
  have hu := nodup_cover _ out h.nodup h.lt hl u U.lt
  obtain ⟨j', hj'⟩ := List.getElem?_of_mem hu
  refine ⟨j', ?_, hj'⟩
  have h1 : a ∈ fdOf f u := fd_mem (j := q - f.first u) (by have := U.hi; have := U.lo; omega) (by rw [show f.first u + (q - f.first u) = q from by have := U.lo; omega]; exact U.yes)
  have h2 := (h.ok j' u hj').2 a h1
  obtain ⟨i, hi⟩ := List.getElem?_of_mem h2
  have hil : i < (out.take j').length := (List.getElem?_eq_some_iff.1 hi).1
  have hij : i < j' := by simp at hil; omega
  rw [List.getElem?_take_of_lt hij] at hi
  have e : i = j := (List.getElem?_inj (List.getElem?_eq_some_iff.1 hi).1 h.nodup).1 (hi.trans hj.symm)
  omega
end Go.Proofs.YtfnblemlcjdnhaaGreat
