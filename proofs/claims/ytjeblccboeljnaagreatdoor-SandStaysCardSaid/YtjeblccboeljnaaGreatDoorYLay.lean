/- A tree laid over a directory, and dropped: the plain law. No condition. -/
import Derived.Test.YtjeblccboeljnaaGreatDoorYP
namespace Go.Proofs.YtjeblccboeljnaaGreatDoor

def treeL (ks : List (List UInt8)) (top : List UInt8) : List (List UInt8) := ks.filter fun p => withinB p top
theorem treeL_snoc {ks : List (List UInt8)} {k : Nat} {x top : List UInt8} (h : ks[k]? = some x) : treeL (ks.take (k + 1)) top = treeL (ks.take k) top ++ (if withinB x top then [x] else []) := by
  unfold treeL
  rw [List.take_add_one, h, List.filter_append]
  simp [List.filter_cons]
/-- Where a path of a tree is laid. -/
def placeL (fr to_ p : List UInt8) : List UInt8 := to_ ++ p.drop fr.length
/-- May a thing be laid there? -/
def layBad (N : Tree) (t : Tv) (pl : List UInt8) : Bool := !cleanL foldL pl || ((N pl).isSome && decide (kindK N pl ≠ t.kind)) || (decide (t.kind = 3) && (N pl).isSome) || !liesK N pl
def layStep (K : Tree) (fr to_ : List UInt8) (N : Tree) (p : List UInt8) : Option Tree := match K p with
  | none => none
  | some t => if layBad N t (placeL fr to_ p) then none else some (if decide (t.kind ≠ 1) || !(N (placeL fr to_ p)).isSome then updK N (placeL fr to_ p) t else N)
def layGo (K : Tree) (fr to_ : List UInt8) : List (List UInt8) → Tree → Option Tree
  | [], N => some N
  | p :: r, N => match layStep K fr to_ N p with
    | none => none
    | some N' => layGo K fr to_ r N'
def layNo (K : Tree) (fr to_ : List UInt8) : Bool := decide (kindK K fr ≠ 1) || decide (kindK K to_ ≠ 1) || (fr == to_) || withinB to_ fr
def layK (K : Tree) (fr to_ : List UInt8) (ks : List (List UInt8)) : Option Tree := if layNo K fr to_ then none else layGo K fr to_ (treeL ks fr) (dropK K fr)

theorem layGo_snoc (K : Tree) (fr to_ : List UInt8) (p : List UInt8) : ∀ (r : List (List UInt8)) (N : Tree), layGo K fr to_ (r ++ [p]) N = (layGo K fr to_ r N).bind fun N' => layStep K fr to_ N' p
  | [], N => by
    show (match layStep K fr to_ N p with | none => none | some N' => some N') = layStep K fr to_ N p
    cases layStep K fr to_ N p <;> rfl
  | a :: r, N => by
    show (match layStep K fr to_ N a with | none => none | some N' => layGo K fr to_ (r ++ [p]) N') = (match layStep K fr to_ N a with | none => none | some N' => layGo K fr to_ r N').bind _
    cases layStep K fr to_ N a with
    | none => rfl
    | some N' => exact layGo_snoc K fr to_ p r N'
theorem layGo_none {K : Tree} {fr to_ : List UInt8} {p : List UInt8} {ks : List (List UInt8)} {k : Nat} {N N' : Tree} (hk : ks[k]? = some p) (h : layGo K fr to_ (ks.take k) N = some N') (hs : layStep K fr to_ N' p = none) : layGo K fr to_ ks N = none := by
  have h1 : layGo K fr to_ (ks.take (k + 1)) N = none := by
    rw [List.take_add_one, hk]
    show layGo K fr to_ (_ ++ [p]) N = none
    rw [layGo_snoc, h]
    exact hs
  have key : ∀ (a r : List (List UInt8)) (M : Tree), layGo K fr to_ a M = none → layGo K fr to_ (a ++ r) M = none := by
    intro a
    induction a with
    | nil => intro r M h; cases h
    | cons x a ih =>
      intro r M h
      show (match layStep K fr to_ M x with | none => none | some N' => layGo K fr to_ (a ++ r) N') = none
      have h' : (match layStep K fr to_ M x with | none => none | some N' => layGo K fr to_ a N') = none := h
      cases hx : layStep K fr to_ M x with
      | none => rfl
      | some M' =>
        rw [hx] at h'
        exact ih r M' h'
  have := key _ (ks.drop (k + 1)) N h1
  rwa [List.take_append_drop] at this
/-- Dropped path by path. -/
def delsK (N : Tree) (ps : List (List UInt8)) : Tree := ps.foldl delK N
theorem dels_at (ps : List (List UInt8)) : ∀ (N : Tree) (q : List UInt8), delsK N ps q = if q ∈ ps then none else N q := by
  induction ps with
  | nil => intro N q; simp [delsK]
  | cons p r ih =>
    intro N q
    show delsK (delK N p) r q = _
    rw [ih]
    unfold delK
    by_cases h1 : q ∈ r
    · simp [h1]
    · by_cases h2 : q = p
      · simp [h2]
      · simp [h1, h2]
theorem dels_snoc (N : Tree) (ps : List (List UInt8)) (p : List UInt8) : delsK N (ps ++ [p]) = delK (delsK N ps) p := by simp [delsK, List.foldl_append]
/-- All paths of the tree, and its top: the tree is dropped. -/
theorem dels_drop {K : Tree} {ks : List (List UInt8)} (hm : ∀ p, p ∈ ks ↔ (K p).isSome = true) (top : List UInt8) : delsK K (treeL ks top ++ [top]) = dropK K top := by
  funext q
  rw [dels_at]
  unfold dropK treeL
  by_cases h1 : q = top
  · simp [h1]
  · by_cases h2 : withinB q top = true
    · simp only [List.mem_append, List.mem_filter, List.mem_singleton, h1, h2, and_true, or_false]
      split
      · rfl
      · rename_i hn
        rw [hm] at hn
        cases hq : K q with
        | none => rfl
        | some t => rw [hq] at hn; exact absurd rfl hn
    · simp [h1, h2]
/-- Rising lists without twins that hold the same are the same. -/
theorem sorted_eq : ∀ {a b : List (List UInt8)}, a.Nodup → b.Nodup → a.Pairwise (fun x y => x ≤ y) → b.Pairwise (fun x y => x ≤ y) → (∀ p, p ∈ a ↔ p ∈ b) → a = b := by
  intro a b ha hb sa sb hm
  have hp : a.Perm b := (List.perm_ext_iff_of_nodup ha hb).2 hm
  exact hp.eq_of_pairwise (le := fun x y => x ≤ y) (fun x y _ _ h1 h2 => List.le_antisymm h1 h2) sa sb
end Go.Proofs.YtjeblccboeljnaaGreatDoor
