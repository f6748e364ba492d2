/- The map of what has been seen. No condition but that lengths fit. -/
import Derived.Test.YtagoemebklihjaaDoorNClean
import Derived.Maps.OwnSet
import Derived.Maps.OwnOps
import Derived.StringKeys
namespace Go.Proofs.YtagoemebklihjaaDoor
open Go.RowKit Go.Maps Go.WideMaps

/-- What is known of a folded path. -/
structure Sn where
  path : List UInt8
  entry : Bool
  file : Bool
deriving DecidableEq

def Sn.zero : Sn := ⟨[], false, false⟩
def snv (x : Sn) : Value := .agg #[.string ⟨x.path.toArray⟩, .bool x.entry, .bool x.file]
def snD (x : Sn) : DataW Unit := .agg [.lit (.string x.path), .lit (.bool x.entry), .lit (.bool x.file)]
def seenR (v : Value) : Option (DataW Unit × List MemPlace) :=
  match v with
  | .agg cs => match cs.toList with
    | [.string s, .bool e, .bool f] => some (.agg [.lit (.string s.data.toList), .lit (.bool e), .lit (.bool f)], [])
    | _ => none
  | _ => none

theorem seenR_mk (x : Sn) : seenR (snv x) = some (snD x, []) := rfl
theorem seenR_inv {v : Value} {x : Sn} {ps : List MemPlace} (h : seenR v = some (snD x, ps)) : v = snv x := by
  unfold seenR at h
  split at h
  · rename_i cs
    split at h
    · rename_i s e f hcs
      simp [snD] at h
      obtain ⟨⟨h1, h2, h3⟩, -⟩ := h
      have : cs = #[.string s, .bool e, .bool f] := by
        rw [← Array.toList_inj]
        exact hcs
      subst this
      subst h2 h3
      unfold snv
      rw [← h1]
    · simp at h
  · simp at h

theorem law_string : Keyed Tryd.prog 9 := string_keyed Tryd.underlying9
theorem zeroSn (w : World) : (zeroValue 52).run Tryd.prog w = .ok (snv Sn.zero) w := by kernel_rfl

/-- Block b is a map that knows just what K tells. -/
def MSn (w : World) (b n : Nat) (K : List UInt8 → Option Sn) : Prop :=
  ∃ D : DataW Unit, w.ownsMap Tryd.prog 9 seenR b n D ∧ ∀ key : List UInt8, Maps.has D (.string key) = (K key).isSome ∧ D.atKey (.string key) (snD Sn.zero) = snD ((K key).getD Sn.zero)

theorem MSn.made (w : World) : MSn (w.alloc (.map #[] 0)) w.heap.size 0 (fun _ => none) := ⟨_, World.ownsMap_made w _ _ _, fun _ => ⟨rfl, rfl⟩⟩
theorem MSn.kept {w w' : World} {b n : Nat} {K : List UInt8 → Option Sn} {row : Option Nat} (h : MSn w b n K) (hg : w.grownBy w' row) (hne : some b ≠ row) : MSn w' b n K := by
  obtain ⟨D, h1, h2⟩ := h
  exact ⟨D, h1.kept hg hne, h2⟩
theorem MSn.fr {w w' : World} {b n : Nat} {K : List UInt8 → Option Sn} (h : MSn w b n K) (F : Fr [] w w') : MSn w' b n K := by
  obtain ⟨D, ⟨es, clock, h1, h2⟩, h3⟩ := h
  exact ⟨D, ⟨es, clock, (F.block b (Array.getElem?_eq_some_iff.1 h1).1 (by simp)).trans h1, h2⟩, h3⟩
theorem MSn.lt {w : World} {b n : Nat} {K : List UInt8 → Option Sn} (h : MSn w b n K) : b < w.heap.size := by
  obtain ⟨D, h1, _⟩ := h
  exact h1.lt
theorem MSn.look {w : World} {b n : Nat} {K : List UInt8 → Option Sn} (h : MSn w b n K) (key : List UInt8) (hk : key.length ≤ 100000) :
    (Instr.lookup 49 (.map (some b)) (.string ⟨key.toArray⟩) true).run Tryd.prog w = .ok (.tuple #[snv ((K key).getD Sn.zero), .bool (K key).isSome]) w := by
  obtain ⟨D, hD, hK⟩ := h
  have hs : (⟨key.toArray⟩ : ByteArray).size ≤ maxLen := by simp [ByteArray.size]; unfold maxLen; omega
  obtain ⟨v, ps, hrun, hv⟩ := hD.look_ok law_string Tryd.underlying49 (zeroSn w) (seenR_mk Sn.zero) (keyOf_string_mk Tryd.underlying9 hs)
  rw [hrun]
  have e : (⟨key.toArray⟩ : ByteArray).data.toList = key := by simp
  rw [e, (hK key).2] at hv
  rw [e, (hK key).1, seenR_inv hv]

/-- One more is known. -/
theorem MSn.put {w : World} {b n : Nat} {K : List UInt8 → Option Sn} (h : MSn w b n K) (hn : n ≤ 100000000) (key : List UInt8) (hk : key.length ≤ 100000) (x : Sn) :
    ∃ w', (Instr.mapUpdate 49 (.map (some b)) (.string ⟨key.toArray⟩) (snv x)).run Tryd.prog w = .ok () w' ∧ MSn w' b (n + 1) (fun y => if y = key then some x else K y) ∧ w.grownBy w' (some b) := by
  obtain ⟨D, hD, hK⟩ := h
  have hs : (⟨key.toArray⟩ : ByteArray).size ≤ maxLen := by simp [ByteArray.size]; unfold maxLen; omega
  obtain ⟨w', hr, h1, h2⟩ := hD.update law_string Tryd.underlying49 (by unfold maxLen; omega) (keyOf_string_mk Tryd.underlying9 hs) (seenR_mk x)
  have e : (⟨key.toArray⟩ : ByteArray).data.toList = key := by simp
  rw [e] at h1
  refine ⟨w', hr, ⟨_, h1, fun y => ?_⟩, h2⟩
  have ht := hD.tidy law_string
  by_cases hy : y = key
  · subst hy
    rw [has_put_same (k := .string y) ht.isMap (by exact True.intro), atKey_put_same (k := .string y) ht.isMap (by exact True.intro)]
    simp
  · rw [has_put_other (by simpa using hy), atKey_put_other (by simpa using hy), (hK y).1, (hK y).2]
    simp [hy]
end Go.Proofs.YtagoemebklihjaaDoor
