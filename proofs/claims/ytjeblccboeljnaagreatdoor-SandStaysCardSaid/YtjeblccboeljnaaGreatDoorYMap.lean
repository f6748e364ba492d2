/- The map of a sandbox's things, as the model keeps it. No condition but that lengths fit. -/
import Derived.Test.YtjeblccboeljnaaGreatDoorNBase
import Derived.Test.YtjeblccboeljnaaGreatDoorYP
import Derived.Maps.OwnSet
import Derived.Maps.OwnOps
import Derived.Maps.RangeWalk
import Derived.StringKeys
namespace Go.Proofs.YtjeblccboeljnaaGreatDoor
open Go.RowKit Go.Maps Go.WideMaps

/-- An element, as it lies in the map. -/
def zeroT : Value := .agg #[.int .i64 0, .slice none 0 0, .string ⟨#[]⟩]
def rawR (v : Value) : Option (DataW Value × List MemPlace) := some (.held v, [])
theorem law_str : Keyed Tryz.prog 9 := string_keyed Tryz.underlying9
theorem zero_thing (w : World) : (zeroValue 60).run Tryz.prog w = .ok zeroT w := by kernel_rfl

/-- The datum D says at each path just what K tells. -/
def Says (D : DataW Value) (K : List UInt8 → Option Value) : Prop := ∀ key : List UInt8, Maps.has D (.string key) = (K key).isSome ∧ D.atKey (.string key) (.held zeroT) = .held ((K key).getD zeroT)
/-- Block b is a map that holds just what K tells. -/
def MTh (w : World) (b n : Nat) (K : List UInt8 → Option Value) : Prop := ∃ D : DataW Value, w.ownsMap Tryz.prog 9 rawR b n D ∧ Says D K

theorem MTh.made (w : World) : MTh (w.alloc (.map #[] 0)) w.heap.size 0 (fun _ => none) := ⟨_, World.ownsMap_made w _ _ _, fun _ => ⟨rfl, rfl⟩⟩
theorem owns_fr {w w' : World} {b n : Nat} {D : DataW Value} {S : List Nat} (h : w.ownsMap Tryz.prog 9 rawR b n D) (F : Fr S w w') (hS : b ∉ S) : w'.ownsMap Tryz.prog 9 rawR b n D := by
  obtain ⟨es, clock, h1, h2⟩ := h
  exact ⟨es, clock, (F.block b (Array.getElem?_eq_some_iff.1 h1).1 hS).trans h1, h2⟩
theorem MTh.fr {w w' : World} {b n : Nat} {K : List UInt8 → Option Value} {S : List Nat} (h : MTh w b n K) (F : Fr S w w') (hS : b ∉ S) : MTh w' b n K := by
  obtain ⟨D, h1, h2⟩ := h
  exact ⟨D, owns_fr h1 F hS, h2⟩
theorem MTh.mono {w : World} {b n m : Nat} {K : List UInt8 → Option Value} (h : MTh w b n K) (hn : n ≤ m) : MTh w b m K := by
  obtain ⟨D, h1, h2⟩ := h
  exact ⟨D, h1.mono hn, h2⟩
theorem MTh.lt {w : World} {b n : Nat} {K : List UInt8 → Option Value} (h : MTh w b n K) : b < w.heap.size := by
  obtain ⟨D, h1, _⟩ := h
  exact h1.lt
theorem key_lit {key : List UInt8} (hk : key.length ≤ 100000) : keyOf Tryz.prog 9 (.string ⟨key.toArray⟩) = some (.string key) := by
  have hs : (⟨key.toArray⟩ : ByteArray).size ≤ maxLen := by simp [ByteArray.size]; unfold maxLen; omega
  have := keyOf_string_mk Tryz.underlying9 hs
  rw [this]
theorem raw_inv {v : Value} {d : Value} {ps : List MemPlace} (h : rawR v = some (.held d, ps)) : v = d := by
  unfold rawR at h
  simp at h
  exact h.1
theorem MTh.look {w : World} {b n : Nat} {K : List UInt8 → Option Value} (h : MTh w b n K) (key : List UInt8) (hk : key.length ≤ 100000) :
    (Instr.lookup 55 (.map (some b)) (.string ⟨key.toArray⟩) true).run Tryz.prog w = .ok (.tuple #[(K key).getD zeroT, .bool (K key).isSome]) w := by
  obtain ⟨D, hD, hK⟩ := h
  obtain ⟨v, ps, hrun, hv⟩ := hD.look_ok law_str Tryz.underlying55 (zero_thing w) (show rawR zeroT = some (.held zeroT, []) from rfl) (key_lit hk)
  rw [hrun]
  rw [(hK key).2] at hv
  rw [(hK key).1, raw_inv hv]
theorem MTh.get {w : World} {b n : Nat} {K : List UInt8 → Option Value} (h : MTh w b n K) (key : List UInt8) (hk : key.length ≤ 100000) :
    (Instr.lookup 55 (.map (some b)) (.string ⟨key.toArray⟩) false).run Tryz.prog w = .ok ((K key).getD zeroT) w := by
  obtain ⟨D, hD, hK⟩ := h
  obtain ⟨v, ps, hrun, hv⟩ := hD.lookup law_str Tryz.underlying55 (zero_thing w) (show rawR zeroT = some (.held zeroT, []) from rfl) (key_lit hk)
  rw [hrun]
  rw [(hK key).2] at hv
  rw [raw_inv hv]
/-- One more is there, or another one. -/
theorem Says.put {D : DataW Value} {K : List UInt8 → Option Value} (h : Says D K) (hm : IsMap D) (key : List UInt8) (x : Value) : Says (D.put (.string key) (.held x)) (fun y => if y = key then some x else K y) := by
  intro y
  by_cases hy : y = key
  · subst hy
    rw [has_put_same (k := .string y) hm (by exact True.intro), atKey_put_same (k := .string y) hm (by exact True.intro)]
    simp
  · rw [has_put_other (by simpa using hy), atKey_put_other (by simpa using hy), (h y).1, (h y).2]
    simp [hy]
theorem Says.del {D : DataW Value} {K : List UInt8 → Option Value} (h : Says D K) (key : List UInt8) : Says (D.del (.string key)) (fun y => if y = key then none else K y) := by
  intro y
  by_cases hy : y = key
  · subst hy
    rw [has_del_same, atKey_del_same]
    simp
  · rw [has_del_other (by simpa using hy), atKey_del_other (by simpa using hy), (h y).1, (h y).2]
    simp [hy]
theorem fr_turned {w w' : World} {b : Nat} (h : w.grownBy w' (some b)) : Fr [b] w w' := (Fr.refl [b] w).grown h (fun k e => .inl (by cases e; simp))
theorem MTh.put {w : World} {b n : Nat} {K : List UInt8 → Option Value} (h : MTh w b n K) (hn : n ≤ 100000000) (key : List UInt8) (hk : key.length ≤ 100000) (x : Value) :
    ∃ w', (Instr.mapUpdate 55 (.map (some b)) (.string ⟨key.toArray⟩) x).run Tryz.prog w = .ok () w' ∧ MTh w' b (n + 1) (fun y => if y = key then some x else K y) ∧ w.grownBy w' (some b) := by
  obtain ⟨D, hD, hK⟩ := h
  obtain ⟨w', hr, h1, h2⟩ := hD.update law_str Tryz.underlying55 (by unfold maxLen; omega) (key_lit hk) (show rawR x = some (.held x, []) from rfl)
  exact ⟨w', hr, ⟨_, h1, hK.put (hD.tidy law_str).isMap key x⟩, h2⟩
theorem MTh.del {w : World} {b n : Nat} {K : List UInt8 → Option Value} (h : MTh w b n K) (key : List UInt8) (hk : key.length ≤ 100000) (ty : TypeId) :
    ∃ w', (Builtin.delete_ #[55, 9] ty #[.map (some b), .string ⟨key.toArray⟩]).run Tryz.prog w = .ok (.tuple #[]) w' ∧ MTh w' b n (fun y => if y = key then none else K y) ∧ w.grownBy w' (some b) := by
  obtain ⟨D, hD, hK⟩ := h
  obtain ⟨w', hr, h1, h2⟩ := hD.drop law_str Tryz.underlying55 (key_lit hk) ty
  exact ⟨w', hr, ⟨_, h1, hK.del key⟩, h2.grown⟩
end Go.Proofs.YtjeblccboeljnaaGreatDoor
