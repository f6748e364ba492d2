/- A sandbox's things: the plain law. No condition. -/
import Derived.Test.YtjeblccboeljnaaGreatDoorNBase
import Derived.Test.YtjeblccboeljnaaGreatDoorNSpec
namespace Go.Proofs.YtjeblccboeljnaaGreatDoor

/-- What is at a path; a thing. -/
structure Tv where
  kind : Int
  data : List UInt8
  ln : List UInt8
deriving DecidableEq
structure Th where
  path : List UInt8
  tv : Tv
deriving DecidableEq

/-- What lies at a path. -/
abbrev Tree := List UInt8 → Option Tv
def lookL (L : List Th) : Tree := fun p => (L.find? fun t => t.path == p).map (·.tv)
def kindK (K : Tree) (p : List UInt8) : Int := ((K p).map (·.kind)).getD 0
/-- The last slash. -/
def lastS : List UInt8 → Option Nat
  | [] => none
  | c :: t => match lastS t with
    | some i => some (i + 1)
    | none => if c = 47 then some 0 else none
def parentL (p : List UInt8) : List UInt8 := match lastS p with
  | some i => p.take i
  | none => []
def deepL (p : List UInt8) : Bool := (lastS p).isSome
def liesK (K : Tree) (p : List UInt8) : Bool := !deepL p || decide (kindK K (parentL p) = 1)
def withinB (p top : List UInt8) : Bool := (top ++ [47]).isPrefixOf p
def tvMay (t : Tv) : Bool := (decide (t.kind = 1) && decide (t.data = []) && decide (t.ln = [])) || (decide (t.kind = 2) && decide (t.ln = [])) || (decide (t.kind = 3) && decide (t.data = []))
/-- A tree that may be. -/
def MayK (K : Tree) : Prop := ∀ p t, K p = some t → cleanL foldL p = true ∧ tvMay t = true ∧ liesK K p = true
def MayT (L : List Th) : Prop := (L.map (·.path)).Nodup ∧ MayK (lookL L)
def updK (K : Tree) (p : List UInt8) (t : Tv) : Tree := fun q => if q = p then some t else K q
def delK (K : Tree) (p : List UInt8) : Tree := fun q => if q = p then none else K q
def dropK (K : Tree) (top : List UInt8) : Tree := fun q => if q = top ∨ withinB q top = true then none else K q

theorem lastS_some : ∀ {p : List UInt8} {i : Nat}, lastS p = some i → p[i]? = some 47 ∧ ∀ j, i < j → p[j]? ≠ some 47
  | [], i, h => by simp [lastS] at h
  | c :: t, i, h => by
    unfold lastS at h
    cases ht : lastS t with
    | some k =>
      rw [ht] at h
      obtain rfl : k + 1 = i := by simpa using h
      obtain ⟨h1, h2⟩ := lastS_some ht
      refine ⟨by simpa using h1, fun j hj => ?_⟩
      obtain ⟨j, rfl⟩ : ∃ m, j = m + 1 := ⟨j - 1, by omega⟩
      simpa using h2 j (by omega)
    | none =>
      rw [ht] at h
      by_cases hc : c = 47
      · simp [hc] at h
        subst h hc
        refine ⟨rfl, fun j hj => ?_⟩
        obtain ⟨j, rfl⟩ : ∃ m, j = m + 1 := ⟨j - 1, by omega⟩
        intro hh
        have hm : (47 : UInt8) ∈ t := List.mem_of_getElem? (by simpa using hh)
        exact lastS_none ht hm
      · simp [hc] at h
where
  lastS_none : ∀ {p : List UInt8}, lastS p = none → (47 : UInt8) ∉ p
  | [], _ => by simp
  | c :: t, h => by
    unfold lastS at h
    cases ht : lastS t with
    | some k => rw [ht] at h; simp at h
    | none =>
      rw [ht] at h
      by_cases hc : c = 47
      · simp [hc] at h
      · intro hm
        rcases List.mem_cons.1 hm with rfl | hm
        · exact hc rfl
        · exact lastS_none ht hm
theorem lastS_none {p : List UInt8} (h : lastS p = none) : (47 : UInt8) ∉ p := lastS_some.lastS_none h
theorem parentL_len {p : List UInt8} {i : Nat} (h : lastS p = some i) : (parentL p).length = i ∧ i < p.length ∧ parentL p = p.take i := by
  have h1 := (lastS_some h).1
  have hi : i < p.length := (List.getElem?_eq_some_iff.1 h1).1
  have e : parentL p = p.take i := by unfold parentL; rw [h]
  exact ⟨by rw [e, List.length_take]; omega, hi, e⟩
theorem within_iff {p top : List UInt8} : withinB p top = true ↔ p.take top.length = top ∧ p[top.length]? = some 47 := by
  unfold withinB
  rw [List.isPrefixOf_iff_prefix]
  constructor
  · rintro ⟨r, rfl⟩
    simp
  · rintro ⟨h1, h2⟩
    have hl : top.length < p.length := (List.getElem?_eq_some_iff.1 h2).1
    refine ⟨p.drop (top.length + 1), ?_⟩
    have e1 : p = p.take (top.length + 1) ++ p.drop (top.length + 1) := (List.take_append_drop _ p).symm
    have e2 : p.take (top.length + 1) = top ++ [47] := by rw [List.take_add_one, h1, h2]; rfl
    rw [← e2]
    exact e1.symm
/-- What lies in a tree lies in its top, or in what lies in it. -/
theorem within_up {p top : List UInt8} (h : withinB p top = true) : deepL p = true ∧ (parentL p = top ∨ (withinB (parentL p) top = true)) ∧ (parentL p).length < p.length := by
  obtain ⟨h1, h2⟩ := within_iff.1 h
  cases hl : lastS p with
  | none => exact absurd (List.mem_of_getElem? h2) (lastS_none hl)
  | some i =>
    obtain ⟨e1, e2, e3⟩ := parentL_len hl
    obtain ⟨q1, q2⟩ := lastS_some hl
    refine ⟨by unfold deepL; rw [hl]; rfl, ?_, by omega⟩
    have hle : top.length ≤ i := by
      apply Classical.byContradiction
      intro hn
      exact q2 _ (by omega) h2
    rcases Nat.lt_or_eq_of_le hle with hlt | heq
    · right
      refine within_iff.2 ⟨?_, ?_⟩
      · rw [e3, List.take_take, Nat.min_eq_left hle, h1]
      · rw [e3, List.getElem?_take_of_lt hlt, h2]
    · left
      rw [e3, ← heq, h1]
theorem kindK_some {K : Tree} {p : List UInt8} {k : Int} (h : kindK K p = k) (hk : k ≠ 0) : ∃ t, K p = some t ∧ t.kind = k := by
  unfold kindK at h
  cases hp : K p with
  | none => rw [hp] at h; exact absurd h.symm hk
  | some t => rw [hp] at h; exact ⟨t, rfl, h⟩
theorem not_below {K : Tree} (hK : MayK K) {top : List UInt8} (ht : K top = none) : ∀ (n : Nat) (p : List UInt8), p.length ≤ n → withinB p top = true → K p = none
  | 0, p, hn, h => by
    have := (within_up h).2.2
    omega
  | n + 1, p, hn, h => by
    obtain ⟨h1, h2, h3⟩ := within_up h
    cases hp : K p with
    | none => rfl
    | some t =>
      have hl := (hK p t hp).2.2
      unfold liesK at hl
      rw [h1] at hl
      obtain ⟨u, hu, -⟩ := kindK_some (of_decide_eq_true (by simpa using hl)) (by decide)
      rcases h2 with h2 | h2
      · rw [h2, ht] at hu; exact absurd hu (by simp)
      · rw [not_below hK ht n (parentL p) (by omega) h2] at hu
        exact absurd hu (by simp)
/-- What is made new and dropped leaves all as it was. -/
theorem drop_upd {K : Tree} (hK : MayK K) {top : List UInt8} (ht : K top = none) (t : Tv) : dropK (updK K top t) top = K := by
  funext q
  unfold dropK updK
  by_cases h1 : q = top
  · subst h1
    simp [ht]
  · by_cases h2 : withinB q top = true
    · simp [h2, not_below hK ht q.length q (Nat.le_refl _) h2]
    · simp [h1, h2]
theorem upd_upd (K : Tree) (p : List UInt8) (s t : Tv) : updK (updK K p s) p t = updK K p t := by
  funext q
  unfold updK
  split <;> rfl
/-- Lists that say the same have as many things. -/
theorem look_mem {L : List Th} {p : List UInt8} : (lookL L p).isSome = true ↔ p ∈ L.map (·.path) := by
  unfold lookL
  rw [Option.isSome_map, List.find?_isSome]
  simp only [List.mem_map, beq_iff_eq]
theorem look_len {X L : List Th} (hX : (X.map (·.path)).Nodup) (hL : (L.map (·.path)).Nodup) (h : lookL X = lookL L) : X.length = L.length := by
  have hp : (X.map (·.path)).Perm (L.map (·.path)) := (List.perm_ext_iff_of_nodup hX hL).2 fun p => by rw [← look_mem, ← look_mem, h]
  simpa using hp.length_eq
theorem look_at {L : List Th} (hL : (L.map (·.path)).Nodup) {i : Nat} {t : Th} (h : L[i]? = some t) : lookL L t.path = some t.tv := by
  induction L generalizing i with
  | nil => simp at h
  | cons a r ih =>
    rw [List.map_cons, List.nodup_cons] at hL
    unfold lookL
    rw [List.find?_cons]
    by_cases ha : a.path = t.path
    · cases i with
      | zero =>
        have : a = t := by simpa using h
        subst this
        simp
      | succ i =>
        exfalso
        apply hL.1
        rw [ha]
        exact List.mem_map_of_mem (List.mem_of_getElem? (by simpa using h))
    · have e : (a.path == t.path) = false := by simpa using ha
      rw [e]
      cases i with
      | zero => exact absurd (by simpa using h) (fun hh : a = t => ha (by rw [hh]))
      | succ i => exact ih hL.2 (by simpa using h)
end Go.Proofs.YtjeblccboeljnaaGreatDoor
