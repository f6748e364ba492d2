/- A sandbox in memory. No condition. -/
import Derived.Test.YtjeblccboeljnaaGreatDoorHSm
import Derived.Test.YtjeblccboeljnaaGreatDoorYSorted
namespace Go.Proofs.YtjeblccboeljnaaGreatDoor
open Go.RowKit Go.Maps

/-- What the call owns, kept where blocks of other types change. -/
theorem own_frT {w w' : World} {base e sz : Nat} {v : Value} {n : Nat} {xs : List Value} {S : List Nat} (h : w.ownsRow base e sz v n xs) (F : Fr S w w') (hS : ∀ i ∈ S, i < base ∨ ∀ cs z, w.heap[i]? ≠ some (.cells cs e z)) : w'.ownsRow base e sz v n xs := by
  refine own_frS h F fun k hk hm => ?_
  rcases hS k hm with h1 | h1
  · have := (own_ltS h k hk).1; omega
  · rcases h.2 with ⟨rfl, -⟩ | ⟨g, cap, cur, rfl, hb, hg, -⟩
    · simp [Value.ownBlock] at hk
    · simp [Value.ownBlock] at hk
      subst hk
      exact h1 _ _ hg
/-- A row's block bears its type. -/
theorem own_type {w : World} {base e sz : Nat} {v : Value} {n : Nat} {xs : List Value} (h : w.ownsRow base e sz v n xs) (k : Nat) (hk : v.ownBlock = some k) (e' : Nat) (he : e' ≠ e) : ∀ cs z, w.heap[k]? ≠ some (.cells cs e' z) := by
  rcases h.2 with ⟨rfl, -⟩ | ⟨g, cap, cur, rfl, hb, hg, -⟩
  · simp [Value.ownBlock] at hk
  · simp [Value.ownBlock] at hk
    subst hk
    intro cs z hc
    rw [hg] at hc
    injection hc with hc
    injection hc with _ h2 _
    exact he h2.symm

/-- What lies at a path, in memory: a file's bytes are the sandbox's own. -/
def ThV (w : World) (lo : Nat) (v : Value) (t : Tv) : Prop := ∃ dv, v = .agg #[.int .i64 t.kind, dv, .string ⟨t.ln.toArray⟩] ∧ w.ownsRow lo 5 1 dv t.data.length (bv t.data)
/-- The map's elements read as the tree. -/
structure Reads (w : World) (lo : Nat) (KV : List UInt8 → Option Value) (K : Tree) : Prop where
  no : ∀ q, KV q = none ↔ K q = none
  at_ : ∀ q v t, KV q = some v → K q = some t → ThV w lo v t
theorem Reads.get {w : World} {lo : Nat} {KV : List UInt8 → Option Value} {K : Tree} (h : Reads w lo KV K) {q : List UInt8} {t : Tv} (e : K q = some t) : ∃ v, KV q = some v ∧ ThV w lo v t := by
  cases hv : KV q with
  | none => rw [(h.no q).1 hv] at e; cases e
  | some v => exact ⟨v, rfl, h.at_ q v t hv e⟩
theorem Reads.is {w : World} {lo : Nat} {KV : List UInt8 → Option Value} {K : Tree} (h : Reads w lo KV K) (q : List UInt8) : (KV q).isSome = (K q).isSome := by
  cases hv : KV q with
  | none => rw [(h.no q).1 hv]; rfl
  | some v =>
    cases hk : K q with
    | none => rw [(h.no q).2 hk] at hv; cases hv
    | some t => rfl
/-- Blocks of another type than bytes may change. -/
def NoBytes (w : World) (lo : Nat) (S : List Nat) : Prop := ∀ i ∈ S, i < lo ∨ ∀ cs z, w.heap[i]? ≠ some (.cells cs 5 z)
theorem ThV.fr {w w' : World} {lo : Nat} {v : Value} {t : Tv} {S : List Nat} (h : ThV w lo v t) (F : Fr S w w') (hS : NoBytes w lo S) : ThV w' lo v t := by
  obtain ⟨dv, e, h1⟩ := h
  exact ⟨dv, e, own_frT h1 F hS⟩
theorem Reads.fr {w w' : World} {lo : Nat} {KV : List UInt8 → Option Value} {K : Tree} {S : List Nat} (h : Reads w lo KV K) (F : Fr S w w') (hS : NoBytes w lo S) : Reads w' lo KV K :=
  ⟨h.no, fun q v t h1 h2 => (h.at_ q v t h1 h2).fr F hS⟩
theorem Reads.put {w : World} {lo : Nat} {KV : List UInt8 → Option Value} {K : Tree} (h : Reads w lo KV K) (p : List UInt8) {v : Value} {t : Tv} (hv : ThV w lo v t) : Reads w lo (fun q => if q = p then some v else KV q) (updK K p t) := by
  refine ⟨fun q => ?_, fun q v' t' => ?_⟩
  · unfold updK
    split
    · simp
    · exact h.no q
  · unfold updK
    split
    · intro h1 h2
      simp at h1 h2
      subst h1 h2
      exact hv
    · exact h.at_ q v' t'
theorem Reads.del {w : World} {lo : Nat} {KV : List UInt8 → Option Value} {K : Tree} (h : Reads w lo KV K) (p : List UInt8) : Reads w lo (fun q => if q = p then none else KV q) (delK K p) := by
  refine ⟨fun q => ?_, fun q v' t' => ?_⟩
  · unfold delK
    split
    · simp
    · exact h.no q
  · unfold delK
    split
    · intro h1; cases h1
    · exact h.at_ q v' t'
/-- A sandbox: block p holds the map's block b, the failures, the calls. -/
structure SandIn (w : World) (lo p b : Nat) (fv cv : Value) (n nc : Nat) (fl : List Bool) (KV : List UInt8 → Option Value) (K : Tree) : Prop where
  blk : w.heap[p]? = some (.cells #[.map (some b), fv, cv] 58 (0, 0))
  mp : MTh w b n KV
  rd : Reads w lo KV K
  fa : w.ownsRow lo 4 1 fv fl.length (tv fl)
  ca : ∃ xs, w.ownsRow lo 72 4 cv nc xs
  lp : lo ≤ p
  lb : lo ≤ b
theorem SandIn.ltp {w : World} {lo p b : Nat} {fv cv : Value} {n nc : Nat} {fl : List Bool} {KV : List UInt8 → Option Value} {K : Tree} (h : SandIn w lo p b fv cv n nc fl KV K) : p < w.heap.size := (Array.getElem?_eq_some_iff.1 h.blk).1
/-- New memory, and what lies below, leaves a sandbox as it is. -/
theorem SandIn.fr {w w' : World} {lo p b : Nat} {fv cv : Value} {n nc : Nat} {fl : List Bool} {KV : List UInt8 → Option Value} {K : Tree} {S : List Nat} (h : SandIn w lo p b fv cv n nc fl KV K) (F : Fr S w w') (hS : ∀ i ∈ S, i < lo) : SandIn w' lo p b fv cv n nc fl KV K := by
  have hp : p ∉ S := fun hm => by have := hS p hm; have := h.lp; omega
  have hb : b ∉ S := fun hm => by have := hS b hm; have := h.lb; omega
  obtain ⟨xs, hc⟩ := h.ca
  exact ⟨(F.block p h.ltp hp).trans h.blk, h.mp.fr F hb, h.rd.fr F (fun i hi => .inl (hS i hi)), own_frB h.fa F hS, ⟨xs, own_frB hc F hS⟩, h.lp, h.lb⟩
theorem SandIn.fr0 {w w' : World} {lo p b : Nat} {fv cv : Value} {n nc : Nat} {fl : List Bool} {KV : List UInt8 → Option Value} {K : Tree} (h : SandIn w lo p b fv cv n nc fl KV K) (F : Fr [] w w') : SandIn w' lo p b fv cv n nc fl KV K := h.fr F (by simp)
/-- The sandbox's three cells. -/
theorem SandIn.cells {w : World} {lo p b : Nat} {fv cv : Value} {n nc : Nat} {fl : List Bool} {KV : List UInt8 → Option Value} {K : Tree} (h : SandIn w lo p b fv cv n nc fl KV K) :
    w.cell? ⟨p, 0, none⟩ = some (.map (some b)) ∧ w.cell? ⟨p, 1, none⟩ = some fv ∧ w.cell? ⟨p, 2, none⟩ = some cv := by
  have key : ∀ i : Nat, w.cell? ⟨p, i, none⟩ = (#[.map (some b), fv, cv] : Array Value)[i]? := Go.Joins.cell_of_block h.blk
  exact ⟨by rw [key]; rfl, by rw [key]; rfl, by rw [key]; rfl⟩
theorem SandIn.ne {w : World} {lo p b : Nat} {fv cv : Value} {n nc : Nat} {fl : List Bool} {KV : List UInt8 → Option Value} {K : Tree} (h : SandIn w lo p b fv cv n nc fl KV K) : p ≠ b := by
  rintro rfl
  obtain ⟨D, ⟨es, clock, h1, -⟩, -⟩ := h.mp
  have := h.blk
  rw [h1] at this
  cases this
end Go.Proofs.YtjeblccboeljnaaGreatDoor
