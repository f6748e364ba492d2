/- The plain law: the reference's test of a graph is the program's. No condition. -/
import Derived.Test.YtakpeffpocjgoaaGPlain
namespace Go.Proofs.Ytakpeffpocjgoaa

/-- The coders that feed a coder, by the reference. -/
def fdR (f : Folder) (b : Nat) : List Nat := (List.range f.coders.length).filter fun a => f.feeds a b

/-- How often a stream is named. -/
def named1 (f : Folder) (i : Nat) : Nat := f.binds.countP (fun b => b.1 == (i : Int)) + f.packs.countP (fun p => p == (i : Int))

/-- Coders hang together, by the reference. -/
structure RHangs (f : Folder) (np : Nat) : Prop where
  least : 1 ≤ f.coders.length
  most : f.coders.length ≤ 8
  bi : f.binds.length + 1 = f.coders.length
  si : f.sizes.length = f.coders.length
  pa : np = f.packs.length
  ins : ∀ c ∈ f.coders, ins c.method ≠ 0
  all : f.packs.length + f.binds.length = f.first f.coders.length
  cnt : ∀ i, i < f.first f.coders.length → named1 f i = 1
  outs : ∀ b ∈ f.binds, 0 ≤ b.2 ∧ b.2 < f.coders.length
  outd : (f.binds.map (·.2)).Nodup
  round : ¬ Circle (fdR f) f.coders.length

theorem perm_of : ∀ (R L : List Int), R.Nodup → (∀ x ∈ R, x ∈ L) → L.length ≤ R.length → L.Perm R
  | [], L, _, _, h => by
    have : L = [] := List.eq_nil_of_length_eq_zero (by simpa using h)
    subst this
    exact .nil
  | r :: R, L, hn, hs, h => by
    have hr : r ∈ L := hs r (by simp)
    have hn2 := List.nodup_cons.1 hn
    have ih := perm_of R (L.erase r) hn2.2 (fun x hx => (List.mem_erase_of_ne (fun e => hn2.1 (by rw [← e]; exact hx))).2 (hs x (by simp [hx]))) (by
      rw [List.length_erase_of_mem hr]; simp at h; omega)
    exact (List.perm_cons_erase hr).trans (ih.cons r)

theorem nodup_count : ∀ (l : List Int) (x : Int), l.Nodup → x ∈ l → l.countP (fun p => p == x) = 1
  | y :: t, x, hn, hx => by
    have hn2 := List.nodup_cons.1 hn
    by_cases e : y = x
    · subst e
      rw [List.countP_cons_of_pos (by simp), List.countP_eq_zero.2 (fun a ha => by simp; rintro rfl; exact hn2.1 ha)]
    · rw [List.countP_cons_of_neg (by simpa using e)]
      exact nodup_count t x hn2.2 (by rcases List.mem_cons.1 hx with h | h; exact absurd h.symm e; exact h)

theorem named1_eq (f : Folder) (i : Nat) : named1 f i = (f.binds.map (·.1) ++ f.packs).countP (fun p => p == (i : Int)) := by
  unfold named1
  rw [List.countP_append, List.countP_map]
  rfl

theorem RHangs.named {f : Folder} {np : Nat} (H : RHangs f np) : Named f (f.first f.coders.length) := by
  have hall := H.all
  have hcnt := H.cnt
  generalize f.first f.coders.length = all at hall hcnt ⊢
  have hp : (f.binds.map (·.1) ++ f.packs).Perm ((List.range all).map fun (i : Nat) => (i : Int)) := by
    refine perm_of _ _ ?_ (fun x hx => ?_) (by simp; omega)
    · rw [List.nodup_iff_pairwise_ne, List.pairwise_map]
      refine List.Pairwise.imp ?_ (List.nodup_iff_pairwise_ne.1 List.nodup_range)
      intro a b h
      omega
    · simp only [List.mem_map, List.mem_range] at hx
      obtain ⟨i, hi, rfl⟩ := hx
      have := hcnt i hi
      rw [named1_eq] at this
      have h2 : 0 < (f.binds.map (·.1) ++ f.packs).countP (fun p => p == (i : Int)) := by omega
      obtain ⟨y, hy, e⟩ := List.countP_pos_iff.1 h2
      have : y = (i : Int) := by simpa using e
      rw [← this]; exact hy
  have hin : ∀ x ∈ f.binds.map (·.1) ++ f.packs, 0 ≤ x ∧ x < (all : Int) := by
    intro x hx
    have := hp.mem_iff.1 hx
    simp only [List.mem_map, List.mem_range] at this
    obtain ⟨i, hi, rfl⟩ := this
    omega
  refine ⟨fun b hb => ⟨hin b.1 (List.mem_append.2 (.inl (List.mem_map.2 ⟨b, hb, rfl⟩))), H.outs b hb⟩, fun p hp' => hin p (List.mem_append.2 (.inr hp')), ?_, H.outd, by omega⟩
  refine hp.nodup_iff.2 ?_
  rw [List.nodup_iff_pairwise_ne, List.pairwise_map]
  refine List.Pairwise.imp ?_ (List.nodup_iff_pairwise_ne.1 List.nodup_range)
  intro a b h
  omega

theorem inj_of_nodup : ∀ (l : List (Int × Int)), (l.map (·.1)).Nodup → ∀ a ∈ l, ∀ b ∈ l, a.1 = b.1 → a = b
  | y :: t, hn, a, ha, b, hb, e => by
    rw [List.map_cons] at hn
    have hn2 := List.nodup_cons.1 hn
    rcases List.mem_cons.1 ha with h1 | h1
    · rcases List.mem_cons.1 hb with h2 | h2
      · rw [h1, h2]
      · exact (hn2.1 (List.mem_map.2 ⟨b, h2, by rw [← e, h1]⟩)).elim
    · rcases List.mem_cons.1 hb with h2 | h2
      · exact (hn2.1 (List.mem_map.2 ⟨a, h1, by rw [e, h2]⟩)).elim
      · exact inj_of_nodup t hn2.2 a h1 b h2 e

theorem feeds_iff {f : Folder} {all : Nat} (N : Named f all) (c x : Nat) : x ∈ fdR f c ↔ x ∈ fdOf f c := by
  unfold fdR fdOf Folder.feeders Folder.feedersTo
  rw [List.mem_filter, List.mem_range, List.mem_map]
  unfold Folder.feeds
  rw [List.any_eq_true]
  constructor
  · rintro ⟨hx, ⟨i, o⟩, hb, hc⟩
    simp only [Bool.and_eq_true, decide_eq_true_eq] at hc
    obtain ⟨⟨h1, h2⟩, h3⟩ := hc
    subst h1
    refine ⟨(x : Int), ?_, by simp⟩
    rw [List.mem_filter, List.mem_map]
    refine ⟨⟨(i - f.first c).toNat, by rw [List.mem_range]; omega, ?_⟩, by simp⟩
    have ei : ((f.first c + (i - f.first c).toNat : Nat) : Int) = i := by omega
    rw [ei]
    cases hf : f.binds.find? (fun b => b.1 == i) with
    | none =>
      have := List.find?_eq_none.1 hf _ hb
      simp at this
    | some b =>
      have e1 := List.mem_of_find?_eq_some hf
      have e2 : b.1 = i := by simpa using List.find?_some hf
      have := inj_of_nodup f.binds (List.nodup_append.1 N.ins).1 b e1 (i, x) hb e2
      subst this
      simp [Folder.from_, Folder.fromB, hf]
  · rintro ⟨y, hy, rfl⟩
    rw [List.mem_filter, List.mem_map] at hy
    obtain ⟨⟨j, hj, rfl⟩, h0⟩ := hy
    rw [List.mem_range] at hj
    have h0' : 0 ≤ (f.from_ ((f.first c + j : Nat) : Int)).1 := by simpa using h0
    obtain ⟨b, hb, e1, e2⟩ := from_out f _ h0'
    have hlt := (N.binds b hb).2
    refine ⟨by omega, b, hb, ?_⟩
    simp only [Bool.and_eq_true, decide_eq_true_eq]
    omega

theorem way_mono {fd1 fd2 : Nat → List Nat} {n : Nat} (h : ∀ c, c < n → ∀ x ∈ fd1 c, x ∈ fd2 c ∧ x < n) {k a b : Nat} (hw : Way fd1 k a b) : a < n → Way fd2 k a b := by
  induction hw with
  | one h1 => intro ha; exact .one (h _ ha _ h1).1
  | cons h1 _ ih => intro ha; exact .cons (h _ ha _ h1).1 (ih (h _ ha _ h1).2)

theorem fdR_lt {f : Folder} {c x : Nat} (hx : x ∈ fdR f c) : x < f.coders.length := by
  unfold fdR at hx
  rw [List.mem_filter, List.mem_range] at hx
  exact hx.1

theorem fdR_iff {f : Folder} (x y : Nat) (hx : x < f.coders.length) : f.feeds x y = true ↔ x ∈ fdR f y := by
  unfold fdR
  rw [List.mem_filter, List.mem_range]
  simp [hx]

theorem circle_iff {f : Folder} {all : Nat} (N : Named f all) : Circle (fdR f) f.coders.length ↔ Circle (fdOf f) f.coders.length := by
  have hfit : ∀ c, ∀ x ∈ fdR f c, x < f.coders.length := fun c x hx => by
    unfold fdR at hx
    rw [List.mem_filter, List.mem_range] at hx
    exact hx.1
  constructor
  · rintro ⟨k, a, hk, ha, hw⟩
    exact ⟨k, a, hk, ha, way_mono (fun c _ x hx => ⟨(feeds_iff N c x).1 hx, hfit c x hx⟩) hw ha⟩
  · rintro ⟨k, a, hk, ha, hw⟩
    exact ⟨k, a, hk, ha, way_mono (fun c _ x hx => ⟨(feeds_iff N c x).2 hx, hfit c x ((feeds_iff N c x).2 hx)⟩) hw ha⟩

theorem rhangs_iff (f : Folder) (np : Nat) : RHangs f np ↔ Hangs f np := by
  constructor
  · intro H
    exact ⟨H.least, H.most, H.bi, H.si, H.pa, H.ins, H.named, fun hc => H.round ((circle_iff H.named).2 hc)⟩
  · intro H
    refine ⟨H.least, H.most, H.bi, H.si, H.pa, H.ins, by have := H.named.all; omega, fun i hi => ?_, fun b hb => (H.named.binds b hb).2, H.named.outs, fun hc => H.round ((circle_iff H.named).1 hc)⟩
    rw [named1_eq]
    exact nodup_count _ _ H.named.ins (H.named.cover i hi)

/-! ### reach, by as many steps as there are coders -/

structure Sound (fd : Nat → List Nat) (n : Nat) (R : Nat → Nat → Bool) : Prop where
  of : ∀ a b, a < n → b < n → R a b = true → ∃ k, Way fd k b a

/-- Whoever is reached by at most s steps is told. -/
def Full (fd : Nat → List Nat) (n s : Nat) (R : Nat → Nat → Bool) : Prop := ∀ a b, a < n → b < n → ∀ k, k ≤ s → Way fd k b a → R a b = true

/-- .. of one pair. -/
def Got (fd : Nat → List Nat) (s : Nat) (R : Nat → Nat → Bool) (a b : Nat) : Prop := ∀ k, k ≤ s → Way fd k b a → R a b = true

structure P1 (fd : Nat → List Nat) (n s : Nat) (R : Nat → Nat → Bool) : Prop where
  sound : Sound fd n R
  full : Full fd n s R
structure P2 (fd : Nat → List Nat) (n s a : Nat) (R : Nat → Nat → Bool) : Prop where
  p : P1 fd n s R
  got : ∀ a', a' < a → ∀ b, b < n → Got fd (s + 1) R a' b
structure P3 (fd : Nat → List Nat) (n s a b : Nat) (R : Nat → Nat → Bool) : Prop where
  p : P2 fd n s a R
  got : ∀ b', b' < b → Got fd (s + 1) R a b'
structure P4 (fd : Nat → List Nat) (n s a b c : Nat) (R : Nat → Nat → Bool) : Prop where
  p : P3 fd n s a b R
  one : 0 < c → a ∈ fd b → R a b = true
  via : ∀ c', c' < c → ∀ k, k ≤ s → Way fd k c' a → c' ∈ fd b → R a b = true

theorem way_pos {fd : Nat → List Nat} {k a b : Nat} (h : Way fd k a b) : 1 ≤ k := by
  cases h <;> omega

theorem P1.zero (fd : Nat → List Nat) (n : Nat) : P1 fd n 0 (fun _ _ => false) :=
  ⟨⟨fun _ _ _ _ h => by cases h⟩, fun _ _ _ _ k hk hw => by have := way_pos hw; omega⟩
theorem P1.next {fd : Nat → List Nat} {n s : Nat} {R : Nat → Nat → Bool} (h : P2 fd n s n R) : P1 fd n (s + 1) R :=
  ⟨h.p.sound, fun a b ha hb k hk hw => h.got a ha b hb k hk hw⟩
theorem P2.zero {fd : Nat → List Nat} {n s : Nat} {R : Nat → Nat → Bool} (h : P1 fd n s R) : P2 fd n s 0 R := ⟨h, fun _ h => by omega⟩
theorem P2.next {fd : Nat → List Nat} {n s a : Nat} {R : Nat → Nat → Bool} (h : P3 fd n s a n R) : P2 fd n s (a + 1) R :=
  ⟨h.p.p, fun a' ha' b hb => by
    by_cases e : a' = a
    · subst e; exact h.got b hb
    · exact h.p.got a' (by omega) b hb⟩
theorem P3.zero {fd : Nat → List Nat} {n s a : Nat} {R : Nat → Nat → Bool} (h : P2 fd n s a R) : P3 fd n s a 0 R := ⟨h, fun _ h => by omega⟩
theorem P3.next {fd : Nat → List Nat} {n s a b : Nat} {R : Nat → Nat → Bool} (hfit : ∀ x ∈ fd b, x < n) (ha : a < n) (h : P4 fd n s a b n R) : P3 fd n s a (b + 1) R :=
  ⟨h.p.p, fun b' hb' => by
    by_cases e : b' = b
    · subst e
      intro k hk hw
      cases hw with
      | one h1 => exact h.one (by omega) h1
      | cons h1 h2 => exact h.via _ (hfit _ h1) _ (by omega) h2 h1
    · exact h.p.got b' (by omega)⟩
theorem P4.zero {fd : Nat → List Nat} {n s a b : Nat} {R : Nat → Nat → Bool} (h : P3 fd n s a b R) : P4 fd n s a b 0 R := ⟨h, fun h => by omega, fun _ h => by omega⟩

/-- One more is told of a and b. -/
def upd (R : Nat → Nat → Bool) (a b : Nat) (x : Bool) : Nat → Nat → Bool := fun a' b' => if a' = a ∧ b' = b then x else R a' b'

theorem upd_ge {R : Nat → Nat → Bool} {a b : Nat} {x : Bool} (hx : R a b = true → x = true) (a' b' : Nat) (h : R a' b' = true) : upd R a b x a' b' = true := by
  unfold upd
  split
  · rename_i e; obtain ⟨rfl, rfl⟩ := e; exact hx h
  · exact h

theorem P4.next {fd : Nat → List Nat} {n s a b c : Nat} {R : Nat → Nat → Bool} (ha : a < n) (hb : b < n) (hc : c < n) (fe : Nat → Nat → Bool) (hfe : ∀ x y, x < n → y < n → (fe x y = true ↔ x ∈ fd y)) (h : P4 fd n s a b c R) :
    P4 fd n s a b (c + 1) (upd R a b (R a b || fe a b || (R a c && fe c b))) := by
  have hge := upd_ge (R := R) (a := a) (b := b) (x := R a b || fe a b || (R a c && fe c b)) (fun h => by simp [h])
  have hself : upd R a b (R a b || fe a b || (R a c && fe c b)) a b = (R a b || fe a b || (R a c && fe c b)) := by simp [upd]
  have g : ∀ {s' a' b'}, Got fd s' R a' b' → Got fd s' (upd R a b (R a b || fe a b || (R a c && fe c b))) a' b' := fun h k hk hw => hge _ _ (h k hk hw)
  have hs1 := h.p.p.p.sound
  refine ⟨⟨⟨⟨⟨fun a' b' ha' hb' hr => ?_⟩, fun a' b' ha' hb' k hk hw => hge _ _ (h.p.p.p.full a' b' ha' hb' k hk hw)⟩, fun a' ha' b' hb' => g (h.p.p.got a' ha' b' hb')⟩, fun b' hb' => g (h.p.got b' hb')⟩, fun _ hm => ?_, fun c' hc' k hk hw hm => ?_⟩
  · unfold upd at hr
    split at hr
    · rename_i e
      obtain ⟨rfl, rfl⟩ := e
      simp only [Bool.or_eq_true, Bool.and_eq_true] at hr
      rcases hr with (hr | hr) | ⟨hr1, hr2⟩
      · exact hs1.of _ _ ha' hb' hr
      · exact ⟨1, .one ((hfe _ _ ha' hb').1 hr)⟩
      · obtain ⟨k, hw⟩ := hs1.of _ _ ha' hc hr1
        exact ⟨k + 1, .cons ((hfe _ _ hc hb').1 hr2) hw⟩
    · exact hs1.of _ _ ha' hb' hr
  · rw [hself, (hfe a b ha hb).2 hm]; simp
  · by_cases e : c' = c
    · subst e
      rw [hself, h.p.p.p.full a c' ha hc k hk hw, (hfe c' b hc hb).2 hm]; simp
    · exact hge _ _ (h.via c' (by omega) k hk hw hm)

/-- After n rounds: a circle is told just if there is one. -/
theorem P1.circle {fd : Nat → List Nat} {n : Nat} {R : Nat → Nat → Bool} (h : P1 fd n n R) (hyes : ∃ a, a < n ∧ R a a = true) (hfit : ∀ c, c < n → ∀ x ∈ fd c, x < n) : Circle fd n := by
  obtain ⟨a, ha, hr⟩ := hyes
  obtain ⟨k, hw⟩ := h.sound.of a a ha ha hr
  have hi : Inv fd n (List.replicate n 0) [] := by
    refine ⟨by simp, by simp, by simp, fun x => ?_, fun x => ?_⟩
    · rw [List.getElem?_replicate]; split <;> simp
    · rw [List.getElem?_replicate]; split <;> simp
  obtain ⟨r, st', he, ho⟩ := go_out (visit fd (n + 1)) (List.range n) _ hi (fun st x h hx =>
    visit_out hfit (n + 1) [] st x h trivial (by simpa using hx) (by simp))
  cases r with
  | true => exact ho.yes rfl
  | false => exact absurd hw (acc_no_way ((ho.no rfl).2 a (by simpa using ha)) k)

theorem P1.none {fd : Nat → List Nat} {n : Nat} {R : Nat → Nat → Bool} (h : P1 fd n n R) (hno : ∀ a, a < n → R a a = false) : ¬ Circle fd n := by
  rintro ⟨k, a, hk, ha, hw⟩
  have := h.full a a ha ha k hk hw
  rw [hno a ha] at this
  cases this
end Go.Proofs.Ytakpeffpocjgoaa
