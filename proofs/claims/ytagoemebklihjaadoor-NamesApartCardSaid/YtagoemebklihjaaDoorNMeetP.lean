/- Apart in plain Lean: the program's answer is the reference's, and no order matters. No condition. -/
import Derived.Test.YtagoemebklihjaaDoorNJoin
namespace Go.Proofs.YtagoemebklihjaaDoor
open Go.RowKit

/-- The reference's look at the parts, part after part. -/
def goM (x y : List (List UInt8)) (fin : Bool) : Nat → Nat → Bool
  | 0, _ => fin
  | r + 1, k => if (foldL (joinL (x.take k)) != foldL (joinL (y.take k))) = true then false else if (joinL (x.take k) != joinL (y.take k)) = true then true else goM x y fin r (k + 1)
/-- Do two entries meet, as the reference says? -/
def meetN (a b : Nm) : Bool :=
  (foldL a.path == foldL b.path) || goM (splitL a.path) (splitL b.path)
    (((splitL a.path).length == min (splitL a.path).length (splitL b.path).length) && !a.dir || ((splitL b.path).length == min (splitL a.path).length (splitL b.path).length) && !b.dir)
    (min (splitL a.path).length (splitL b.path).length) 1

def NoSl (x : List (List UInt8)) : Prop := ∀ p ∈ x, ∀ c ∈ p, c ≠ 47

theorem low47 (c : UInt8) (h : c ≠ 47) : lowB c ≠ 47 := by
  unfold lowB
  split
  · intro e
    have := congrArg UInt8.toNat e
    rename_i hc
    simp at this
    omega
  · exact h
theorem low_47 : lowB 47 = 47 := by decide
theorem foldL_no {p : List UInt8} (h : ∀ c ∈ p, c ≠ 47) : ∀ c ∈ foldL p, c ≠ 47 := by
  intro c hc
  simp only [foldL, List.mem_map] at hc
  obtain ⟨d, hd, rfl⟩ := hc
  exact low47 d (h d hd)
theorem foldL_join : ∀ ps : List (List UInt8), foldL (joinL ps) = joinL (ps.map foldL)
  | [] => by simp [joinL_nil, foldL]
  | [p] => by simp [joinL_one]
  | p :: q :: t => by
    have ih := foldL_join (q :: t)
    rw [joinL_cons p (q :: t) (by simp), List.map_cons, joinL_cons (foldL p) _ (by simp), ← ih]
    simp [foldL, low_47]
theorem join_inj {x y : List (List UInt8)} (hx : x ≠ []) (hy : y ≠ []) (nx : NoSl x) (ny : NoSl y) (h : joinL x = joinL y) : x = y := by
  rw [← splitL_join x hx nx, h, splitL_join y hy ny]
theorem NoSl.take {x : List (List UInt8)} (h : NoSl x) (k : Nat) : NoSl (x.take k) := fun p hp => h p (List.mem_of_mem_take hp)
theorem NoSl.fold {x : List (List UInt8)} (h : NoSl x) : NoSl (x.map foldL) := by
  intro p hp
  obtain ⟨q, hq, rfl⟩ := List.mem_map.1 hp
  exact foldL_no (h q hq)
theorem fold_iff {x y : List (List UInt8)} (hx : x ≠ []) (hy : y ≠ []) (nx : NoSl x) (ny : NoSl y) : foldL (joinL x) = foldL (joinL y) ↔ x.map foldL = y.map foldL := by
  rw [foldL_join, foldL_join]
  exact ⟨fun h => join_inj (by simpa using hx) (by simpa using hy) nx.fold ny.fold h, fun h => by rw [h]⟩
theorem take_ne {x : List (List UInt8)} {k : Nat} (hx : x ≠ []) (hk : 1 ≤ k) : x.take k ≠ [] := by
  cases x with
  | nil => exact absurd rfl hx
  | cons a t => obtain ⟨m, rfl⟩ : ∃ m, k = m + 1 := ⟨k - 1, by omega⟩; simp
theorem splitL_noSl (l : List UInt8) : NoSl (splitL l) := splitL_no l

/-- The folds of the first k parts are alike. -/
def FF (x y : List (List UInt8)) (k : Nat) : Prop := (x.take k).map foldL = (y.take k).map foldL
theorem FF.down {x y : List (List UInt8)} {j k : Nat} (h : FF x y k) (hj : j ≤ k) : FF x y j := by
  have := congrArg (List.take j) h
  simp only [← List.map_take, List.take_take] at this
  rwa [Nat.min_eq_left hj] at this

theorem goM_iff (x y : List (List UInt8)) (fin : Bool) (hx : x ≠ []) (hy : y ≠ []) (nx : NoSl x) (ny : NoSl y) (n : Nat) : ∀ (r k : Nat), 1 ≤ k → k + r = n + 1 → (∀ j, j < k → FF x y j) →
    (goM x y fin r k = true ↔ (∃ j, k ≤ j ∧ j ≤ n ∧ FF x y j ∧ x.take j ≠ y.take j) ∨ (FF x y n ∧ fin = true))
  | 0, k, hk, hs, hf => by
    have h0 : FF x y n := hf n (by omega)
    simp only [goM]
    constructor
    · exact fun h => .inr ⟨h0, h⟩
    · rintro (⟨j, h1, h2, -⟩ | h)
      · omega
      · exact h.2
  | r + 1, k, hk, hs, hf => by
    have hff : foldL (joinL (x.take k)) = foldL (joinL (y.take k)) ↔ FF x y k := fold_iff (take_ne hx hk) (take_ne hy hk) (nx.take k) (ny.take k)
    have hpp : joinL (x.take k) = joinL (y.take k) ↔ x.take k = y.take k := ⟨join_inj (take_ne hx hk) (take_ne hy hk) (nx.take k) (ny.take k), fun h => by rw [h]⟩
    unfold goM
    by_cases h1 : FF x y k
    · rw [if_neg (by simp [hff.2 h1])]
      by_cases h2 : x.take k = y.take k
      · rw [if_neg (by simp [hpp.2 h2])]
        rw [goM_iff x y fin hx hy nx ny n r (k + 1) (by omega) (by omega) (fun j hj => by by_cases e : j = k; exact e ▸ h1; exact hf j (by omega))]
        constructor
        · rintro (⟨j, a, b⟩ | h)
          · exact .inl ⟨j, by omega, b⟩
          · exact .inr h
        · rintro (⟨j, a, b, c, d⟩ | h)
          · by_cases e : j = k
            · subst e; exact absurd h2 d
            · exact .inl ⟨j, by omega, b, c, d⟩
          · exact .inr h
      · rw [if_pos (by simpa using fun e => h2 (hpp.1 e))]
        exact ⟨fun _ => .inl ⟨k, Nat.le_refl _, by omega, h1, h2⟩, fun _ => rfl⟩
    · rw [if_pos (by simpa using fun e => h1 (hff.1 e))]
      constructor
      · intro h; cases h
      · rintro (⟨j, a, b, c, d⟩ | h)
        · exact absurd (c.down a) h1
        · exact absurd (h.1.down (by omega)) h1

/-- Two events meet. -/
def cfl (x y : Sn) : Prop := foldL x.path = foldL y.path ∧ meetS x y = true
theorem cfl_symm {x y : Sn} (h : cfl x y) : cfl y x := by
  refine ⟨h.1.symm, ?_⟩
  have := h.2
  unfold meetS at this ⊢
  simp only [Bool.or_eq_true, bne_iff_ne, ne_eq, Bool.and_eq_true] at this ⊢
  rcases this with ((h | h) | h) | h
  · exact .inl (.inl (.inl fun e => h e.symm))
  · exact .inl (.inl (.inr ⟨h.2, h.1⟩))
  · exact .inr h
  · exact .inl (.inr h)

theorem evs_mem {a : Nm} {s : Sn} : s ∈ evs a ↔ ∃ k, k < (splitL a.path).length ∧ s = nowS (splitL a.path) a.dir k := by
  simp [evs, eq_comm]

theorem fold_take_len {x y : List (List UInt8)} {j k : Nat} (hj : j ≤ x.length) (hk : k ≤ y.length) (h : (x.take j).map foldL = (y.take k).map foldL) : j = k := by
  have := congrArg List.length h
  simp at this
  omega

theorem ev_cfl {x y : List (List UInt8)} {da db : Bool} {k k' : Nat} (nx : NoSl x) (ny : NoSl y) (hk : k < x.length) (hk' : k' < y.length) :
    cfl (nowS x da k) (nowS y db k') ↔ k = k' ∧ FF x y (k + 1) ∧ (x.take (k + 1) ≠ y.take (k + 1) ∨ (k + 1 = x.length ∧ k + 1 = y.length) ∨ (k + 1 = x.length ∧ da = false) ∨ (k + 1 = y.length ∧ db = false)) := by
  have hx : x ≠ [] := by intro e; subst e; simp at hk
  have hy : y ≠ [] := by intro e; subst e; simp at hk'
  have hff : foldL (joinL (x.take (k + 1))) = foldL (joinL (y.take (k' + 1))) ↔ (x.take (k + 1)).map foldL = (y.take (k' + 1)).map foldL := fold_iff (take_ne hx (by omega)) (take_ne hy (by omega)) (nx.take _) (ny.take _)
  have hpp : joinL (x.take (k + 1)) = joinL (y.take (k' + 1)) ↔ x.take (k + 1) = y.take (k' + 1) := ⟨join_inj (take_ne hx (by omega)) (take_ne hy (by omega)) (nx.take _) (ny.take _), fun h => by rw [h]⟩
  unfold cfl meetS nowS
  simp only [Bool.or_eq_true, Bool.and_eq_true, bne_iff_ne, ne_eq, decide_eq_true_eq, Bool.not_eq_true']
  rw [hff, hpp]
  constructor
  · rintro ⟨h1, h2⟩
    have e := fold_take_len (by omega) (by omega) h1
    obtain rfl : k = k' := by omega
    refine ⟨rfl, h1, ?_⟩
    rcases h2 with ((h | h) | h) | h
    · exact .inl h
    · exact .inr (.inl h)
    · exact .inr (.inr (.inl h))
    · exact .inr (.inr (.inr h))
  · rintro ⟨rfl, h1, h2⟩
    refine ⟨h1, ?_⟩
    rcases h2 with h | h | h | h
    · exact .inl (.inl (.inl h))
    · exact .inl (.inl (.inr h))
    · exact .inl (.inr h)
    · exact .inr h

theorem take_map_full {x y : List (List UInt8)} (h : x.map foldL = y.map foldL) (n : Nat) : FF x y n := by
  unfold FF
  rw [List.map_take, List.map_take, h]

theorem meetN_iff (a b : Nm) : meetN a b = true ↔ ∃ s ∈ evs a, ∃ t ∈ evs b, cfl s t := by
  have hx := splitL_ne a.path
  have hy := splitL_ne b.path
  have nx := splitL_noSl a.path
  have ny := splitL_noSl b.path
  have hxl : 1 ≤ (splitL a.path).length := by have := List.length_pos_iff.2 hx; omega
  have hyl : 1 ≤ (splitL b.path).length := by have := List.length_pos_iff.2 hy; omega
  have hfull : foldL a.path = foldL b.path ↔ (splitL a.path).map foldL = (splitL b.path).map foldL := by
    have := fold_iff hx hy nx ny
    rwa [joinL_split, joinL_split] at this
  unfold meetN
  simp only [evs_mem]
  generalize splitL a.path = x at *
  generalize splitL b.path = y at *
  obtain ⟨n, hn⟩ : ∃ n, n = min x.length y.length := ⟨_, rfl⟩
  rw [← hn]
  rw [Bool.or_eq_true, beq_iff_eq, hfull, goM_iff x y _ hx hy nx ny n n 1 (by omega) (by omega) (fun j hj => by obtain rfl : j = 0 := by omega
                                                                                                                simp [FF])]
  constructor
  · rintro (h | ⟨j, h1, h2, h3, h4⟩ | ⟨h1, h2⟩)
    · have hl := congrArg List.length h
      simp at hl
      exact ⟨_, ⟨x.length - 1, by omega, rfl⟩, _, ⟨x.length - 1, by omega, rfl⟩, (ev_cfl nx ny (by omega) (by omega)).2 ⟨rfl, take_map_full h _, .inr (.inl ⟨by omega, by omega⟩)⟩⟩
    · exact ⟨_, ⟨j - 1, by omega, rfl⟩, _, ⟨j - 1, by omega, rfl⟩, (ev_cfl nx ny (by omega) (by omega)).2 ⟨rfl, by rw [Nat.sub_add_cancel h1]; exact h3, .inl (by rw [Nat.sub_add_cancel h1]; exact h4)⟩⟩
    · simp only [Bool.or_eq_true, Bool.and_eq_true, beq_iff_eq, Bool.not_eq_true'] at h2
      have e : n - 1 + 1 = n := by omega
      refine ⟨_, ⟨n - 1, by omega, rfl⟩, _, ⟨n - 1, by omega, rfl⟩, (ev_cfl nx ny (by omega) (by omega)).2 ⟨rfl, by rw [e]; exact h1, ?_⟩⟩
      rcases h2 with ⟨h2, h3⟩ | ⟨h2, h3⟩
      · exact .inr (.inr (.inl ⟨by omega, h3⟩))
      · exact .inr (.inr (.inr ⟨by omega, h3⟩))
  · rintro ⟨_, ⟨k, hk, rfl⟩, _, ⟨k', hk', rfl⟩, h⟩
    obtain ⟨rfl, h1, h2⟩ := (ev_cfl nx ny hk hk').1 h
    rcases h2 with h2 | ⟨h2, h3⟩ | ⟨h2, h3⟩ | ⟨h2, h3⟩
    · exact .inr (.inl ⟨k + 1, by omega, by omega, h1, h2⟩)
    · left
      have h4 : (x.take (k + 1)).map foldL = (y.take (k + 1)).map foldL := h1
      rwa [List.take_of_length_le (by omega), List.take_of_length_le (by omega)] at h4
    · refine .inr (.inr ⟨by rw [show n = k + 1 by omega]; exact h1, ?_⟩)
      simp only [Bool.or_eq_true, Bool.and_eq_true, beq_iff_eq, Bool.not_eq_true']
      exact .inl ⟨by omega, h3⟩
    · refine .inr (.inr ⟨by rw [show n = k + 1 by omega]; exact h1, ?_⟩)
      simp only [Bool.or_eq_true, Bool.and_eq_true, beq_iff_eq, Bool.not_eq_true']
      exact .inr ⟨by omega, h3⟩

theorem meetN_symm (a b : Nm) : meetN a b = meetN b a := by
  rw [Bool.eq_iff_iff, meetN_iff, meetN_iff]
  constructor
  · rintro ⟨s, hs, t, ht, h⟩; exact ⟨t, ht, s, hs, cfl_symm h⟩
  · rintro ⟨s, hs, t, ht, h⟩; exact ⟨t, ht, s, hs, cfl_symm h⟩

theorem evs_pair (a : Nm) : (evs a).Pairwise fun x y => ¬ cfl x y := by
  unfold evs
  rw [List.pairwise_map]
  have h0 := List.nodup_range (n := (splitL a.path).length)
  refine (List.pairwise_iff_forall_sublist.2 ?_)
  intro i j hs h
  have hi : i ∈ List.range (splitL a.path).length := hs.subset (by simp)
  have hj : j ∈ List.range (splitL a.path).length := hs.subset (by simp)
  have hne : i ≠ j := List.pairwise_iff_forall_sublist.1 h0 hs
  exact hne ((ev_cfl (splitL_noSl _) (splitL_noSl _) (by simpa using hi) (by simpa using hj)).1 h).1

/-- What is known tells of the events so far. -/
def Tells (P : List Sn) (K : List UInt8 → Option Sn) : Prop := ∀ key, match K key with
  | none => ∀ x ∈ P, foldL x.path ≠ key
  | some s => (∃ x ∈ P, foldL x.path = key) ∧ (∀ x ∈ P, foldL x.path = key → x.path = s.path) ∧ (s.entry = true ↔ ∃ x ∈ P, foldL x.path = key ∧ x.entry = true) ∧ (s.file = true ↔ ∃ x ∈ P, foldL x.path = key ∧ x.file = true)

theorem tells_more {P : List Sn} {K : List UInt8 → Option Sn} (h : Tells P K) (now was : Sn) (hw : (K (foldL now.path)).getD Sn.zero = was)
    (hno : ∀ x ∈ P, foldL x.path = foldL now.path → x.path = now.path) : Tells (P ++ [now]) (upd K (foldL now.path) (mix was now)) := by
  intro key
  have hk := h key
  unfold upd
  by_cases e : key = foldL now.path
  · subst e
    rw [if_pos rfl]
    dsimp only
    refine ⟨⟨now, by simp, rfl⟩, ?_, ?_, ?_⟩
    · intro x hx hf
      rcases List.mem_append.1 hx with hx | hx
      · exact hno x hx hf
      · simp at hx; rw [hx]; rfl
    · cases hkk : K (foldL now.path) with
      | none =>
        rw [hkk] at hw hk
        subst hw
        simp only [mix, Sn.zero, Option.getD_none, Bool.false_or, List.mem_append, List.mem_singleton]
        constructor
        · exact fun h1 => ⟨now, .inr rfl, rfl, h1⟩
        · rintro ⟨x, hx | rfl, h1, h2⟩
          · exact absurd h1 (hk x hx)
          · exact h2
      | some s =>
        rw [hkk] at hw hk
        simp only [Option.getD_some] at hw
        subst hw
        simp only [mix, Bool.or_eq_true, List.mem_append, List.mem_singleton]
        constructor
        · rintro (h1 | h1)
          · obtain ⟨x, hx, h2⟩ := hk.2.2.1.1 h1
            exact ⟨x, .inl hx, h2⟩
          · exact ⟨now, .inr rfl, rfl, h1⟩
        · rintro ⟨x, hx | rfl, h1, h2⟩
          · exact .inl (hk.2.2.1.2 ⟨x, hx, h1, h2⟩)
          · exact .inr h2
    · cases hkk : K (foldL now.path) with
      | none =>
        rw [hkk] at hw hk
        subst hw
        simp only [mix, Sn.zero, Option.getD_none, Bool.false_or, List.mem_append, List.mem_singleton]
        constructor
        · exact fun h1 => ⟨now, .inr rfl, rfl, h1⟩
        · rintro ⟨x, hx | rfl, h1, h2⟩
          · exact absurd h1 (hk x hx)
          · exact h2
      | some s =>
        rw [hkk] at hw hk
        simp only [Option.getD_some] at hw
        subst hw
        simp only [mix, Bool.or_eq_true, List.mem_append, List.mem_singleton]
        constructor
        · rintro (h1 | h1)
          · obtain ⟨x, hx, h2⟩ := hk.2.2.2.1 h1
            exact ⟨x, .inl hx, h2⟩
          · exact ⟨now, .inr rfl, rfl, h1⟩
        · rintro ⟨x, hx | rfl, h1, h2⟩
          · exact .inl (hk.2.2.2.2 ⟨x, hx, h1, h2⟩)
          · exact .inr h2
  · rw [if_neg e]
    cases hkk : K key with
    | none =>
      rw [hkk] at hk
      intro x hx
      rcases List.mem_append.1 hx with hx | hx
      · exact hk x hx
      · simp at hx; rw [hx]; exact fun e2 => e e2.symm
    | some s =>
      rw [hkk] at hk
      obtain ⟨⟨x0, hx0, hf0⟩, h1, h2, h3⟩ := hk
      have hn : ∀ x ∈ P ++ [now], foldL x.path = key → x ∈ P := by
        intro x hx hf
        rcases List.mem_append.1 hx with hx | hx
        · exact hx
        · simp at hx; subst hx; exact absurd hf.symm e
      refine ⟨⟨x0, by simp [hx0], hf0⟩, fun x hx hf => h1 x (hn x hx hf) hf, h2.trans ⟨?_, ?_⟩, h3.trans ⟨?_, ?_⟩⟩
      · rintro ⟨x, hx, q⟩; exact ⟨x, by simp [hx], q⟩
      · rintro ⟨x, hx, q⟩; exact ⟨x, hn x hx q.1, q⟩
      · rintro ⟨x, hx, q⟩; exact ⟨x, by simp [hx], q⟩
      · rintro ⟨x, hx, q⟩; exact ⟨x, hn x hx q.1, q⟩

theorem meet_parts {x y : Sn} : meetS x y = true ↔ x.path ≠ y.path ∨ (x.entry = true ∧ y.entry = true) ∨ x.file = true ∨ y.file = true := by
  unfold meetS
  simp only [Bool.or_eq_true, bne_iff_ne, ne_eq, Bool.and_eq_true]
  constructor
  · rintro (((h | h) | h) | h)
    · exact .inl h
    · exact .inr (.inl h)
    · exact .inr (.inr (.inl h))
    · exact .inr (.inr (.inr h))
  · rintro (h | h | h | h)
    · exact .inl (.inl (.inl h))
    · exact .inl (.inl (.inr h))
    · exact .inl (.inr h)
    · exact .inr h

/-- What is known meets an event as soon as one event so far does. -/
theorem tells_meet {P : List Sn} {K : List UInt8 → Option Sn} (h : Tells P K) (now was : Sn) (hw : K (foldL now.path) = some was) : meetS was now = true ↔ ∃ x ∈ P, cfl x now := by
  have hk := h (foldL now.path)
  rw [hw] at hk
  obtain ⟨⟨x0, hx0, hf0⟩, h1, h2, h3⟩ := hk
  rw [meet_parts]
  constructor
  · rintro (h | ⟨h, h'⟩ | h | h)
    · exact ⟨x0, hx0, hf0, meet_parts.2 (.inl (by rw [h1 x0 hx0 hf0]; exact h))⟩
    · obtain ⟨x, hx, hf, he⟩ := h2.1 h
      exact ⟨x, hx, hf, meet_parts.2 (.inr (.inl ⟨he, h'⟩))⟩
    · obtain ⟨x, hx, hf, he⟩ := h3.1 h
      exact ⟨x, hx, hf, meet_parts.2 (.inr (.inr (.inl he)))⟩
    · exact ⟨x0, hx0, hf0, meet_parts.2 (.inr (.inr (.inr h)))⟩
  · rintro ⟨x, hx, hf, hm⟩
    rcases meet_parts.1 hm with h | ⟨h, h'⟩ | h | h
    · exact .inl (by rw [← h1 x hx hf]; exact h)
    · exact .inr (.inl ⟨h2.2 ⟨x, hx, hf, h⟩, h'⟩)
    · exact .inr (.inr (.inl (h3.2 ⟨x, hx, hf, h⟩)))
    · exact .inr (.inr (.inr h))

theorem runS_iff : ∀ (L P : List Sn) (K : List UInt8 → Option Sn), Tells P K → (runS K L = true ↔ (∀ x ∈ P, ∀ y ∈ L, ¬ cfl x y) ∧ L.Pairwise fun x y => ¬ cfl x y)
  | [], P, K, _ => by simp [runS]
  | now :: t, P, K, h => by
    have step : (∀ x ∈ P, ¬ cfl x now) → (runS (upd K (foldL now.path) (mix ((K (foldL now.path)).getD Sn.zero) now)) t = true ↔ (∀ x ∈ P, ∀ y ∈ now :: t, ¬ cfl x y) ∧ (now :: t).Pairwise fun x y => ¬ cfl x y) := by
      intro hno
      have ht := tells_more h now _ rfl (fun x hx hf => Classical.byContradiction fun hp => hno x hx ⟨hf, meet_parts.2 (.inl hp)⟩)
      rw [runS_iff t _ _ ht, List.pairwise_cons]
      constructor
      · rintro ⟨h1, h2⟩
        refine ⟨fun x hx y hy => ?_, fun y hy => h1 now (by simp) y hy, h2⟩
        rcases List.mem_cons.1 hy with rfl | hy
        · exact hno x hx
        · exact h1 x (by simp [hx]) y hy
      · rintro ⟨h1, h2, h3⟩
        refine ⟨fun x hx y hy => ?_, h3⟩
        rcases List.mem_append.1 hx with hx | hx
        · exact h1 x hx y (by simp [hy])
        · simp at hx; subst hx; exact h2 y hy
    unfold runS
    cases hk : K (foldL now.path) with
    | none =>
      rw [hk] at step
      have hk2 := h (foldL now.path)
      rw [hk] at hk2
      exact step (fun x hx hc => hk2 x hx hc.1)
    | some was =>
      rw [hk] at step
      dsimp only
      by_cases hm : meetS was now = true
      · rw [if_pos hm]
        obtain ⟨x, hx, hc⟩ := (tells_meet h now was hk).1 hm
        constructor
        · intro h; cases h
        · rintro ⟨h1, -⟩; exact absurd hc (h1 x hx now (by simp))
      · rw [if_neg hm]
        exact step (fun x hx hc => hm ((tells_meet h now was hk).2 ⟨x, hx, hc⟩))

/-- What the reference answers of a list. -/
def apartN (l : List Nm) : Int := if l.any (fun n => !cleanL foldL n.path) then 15 else if l.Pairwise (fun a b => meetN b a = false) then 0 else 16
instance (l : List Nm) : Decidable (l.Pairwise (fun a b => meetN b a = false)) := inferInstance

theorem apart_eq (l : List Nm) : apartL l = apartN l := by
  unfold apartL apartN
  have h : runS (fun _ => none) (l.flatMap evs) = true ↔ l.Pairwise (fun a b => meetN b a = false) := by
    rw [runS_iff (l.flatMap evs) [] (fun _ => none) (fun key x hx => by cases hx), List.pairwise_flatMap]
    constructor
    · rintro ⟨-, -, h2⟩
      refine h2.imp ?_
      intro a b hab
      rw [Bool.eq_false_iff, ne_eq, meetN_iff]
      rintro ⟨s, hs, t, ht, hc⟩
      exact hab t ht s hs (cfl_symm hc)
    · intro h2
      refine ⟨by simp, fun a _ => evs_pair a, h2.imp ?_⟩
      intro a b hab x hx y hy hc
      rw [Bool.eq_false_iff, ne_eq, meetN_iff] at hab
      exact hab ⟨y, hy, x, hx, cfl_symm hc⟩
  by_cases hr : runS (fun _ => none) (l.flatMap evs) = true
  · rw [if_pos hr, if_pos (h.1 hr)]
  · rw [if_neg hr, if_neg (fun e => hr (h.2 e))]

theorem apartN_rev (l : List Nm) : apartN l.reverse = apartN l := by
  unfold apartN
  rw [List.any_reverse]
  have h : l.reverse.Pairwise (fun a b => meetN b a = false) ↔ l.Pairwise (fun a b => meetN b a = false) := by
    rw [List.pairwise_reverse]
    constructor
    · exact fun h => h.imp fun {a b} h => by rw [meetN_symm]; exact h
    · exact fun h => h.imp fun {a b} h => by rw [meetN_symm]; exact h
  simp only [h]
end Go.Proofs.YtagoemebklihjaaDoor
