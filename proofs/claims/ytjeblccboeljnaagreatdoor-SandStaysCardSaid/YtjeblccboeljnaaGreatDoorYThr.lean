/- Rows of things in memory, as lists. No condition. -/
import Derived.Test.YtjeblccboeljnaaGreatDoorHSm
import Derived.Test.YtjeblccboeljnaaGreatDoorYP
namespace Go.Proofs.YtjeblccboeljnaaGreatDoor
open Go.RowKit

/-- A slice without room is kept by whatever happens. -/
theorem Sl.frC {w w' : World} {ao : Option Addr} {n cap : Nat} {xs : List Value} {S : List Nat} (h : Sl w (.slice ao n cap) xs) (hf : Fr S w w') (hv : 0 < cap → ∀ k, (Value.slice ao n cap).ownBlock = some k → k ∉ S) : Sl w' (.slice ao n cap) xs := by
  by_cases h0 : 0 < cap
  · exact h.fr hf (hv h0)
  · obtain ⟨ao', cap', e, h1, h2, h3, h4⟩ := h
    injection e with e1 e2 e3
    subst e1 e3
    exact ⟨ao, cap, by rw [e2], h1, h2, h3, fun a ha hc => absurd hc h0⟩
/-- A row of things, whose blocks are below hi. -/
def ThAt (w : World) (hi : Nat) (v : Value) (L : List Th) : Prop :=
  ∃ ao cap, v = .slice ao L.length cap ∧ L.length ≤ cap ∧ cap ≤ 9223372036854775807 ∧ ∀ j t, L[j]? = some t → ∃ b o dao dcap, ao = some ⟨b, o, none⟩ ∧ b < w.heap.size ∧ b < hi ∧
    w.cell? ⟨b, o + j * 4, none⟩ = some (.string ⟨t.path.toArray⟩) ∧ w.cell? ⟨b, o + j * 4 + 1, none⟩ = some (.int .i64 t.tv.kind) ∧ w.cell? ⟨b, o + j * 4 + 2, none⟩ = some (.slice dao t.tv.data.length dcap) ∧ w.cell? ⟨b, o + j * 4 + 3, none⟩ = some (.string ⟨t.tv.ln.toArray⟩) ∧
    Sl w (.slice dao t.tv.data.length dcap) (bv t.tv.data) ∧ (0 < dcap → ∀ k, (Value.slice dao t.tv.data.length dcap).ownBlock = some k → k < hi)
theorem ThAt.nil (w : World) (hi : Nat) : ThAt w hi (.slice none 0 0) [] := ⟨none, 0, rfl, by simp, by simp, fun j t h => by simp at h⟩
theorem ThAt.fr {w w' : World} {hi : Nat} {v : Value} {L : List Th} {S : List Nat} (h : ThAt w hi v L) (F : Fr S w w') (hS : ∀ i ∈ S, hi ≤ i) : ThAt w' hi v L := by
  obtain ⟨ao, cap, e, h1, h2, h3⟩ := h
  refine ⟨ao, cap, e, h1, h2, fun j t hj => ?_⟩
  obtain ⟨b, o, da, dc, q1, q2, q3, c0, c1, c2, c3, hs, hk⟩ := h3 j t hj
  have hb : b ∉ S := fun hm => by have := hS b hm; omega
  exact ⟨b, o, da, dc, q1, Nat.lt_of_lt_of_le q2 F.size, q3, (F.cell (p := ⟨b, _, none⟩) q2 hb).trans c0, (F.cell (p := ⟨b, _, none⟩) q2 hb).trans c1, (F.cell (p := ⟨b, _, none⟩) q2 hb).trans c2, (F.cell (p := ⟨b, _, none⟩) q2 hb).trans c3, hs.frC F (fun h0 k e hm => by have := hk h0 k e; have := hS k hm; omega), hk⟩
theorem ThAt.fr0 {w w' : World} {hi : Nat} {v : Value} {L : List Th} (h : ThAt w hi v L) (F : Fr [] w w') : ThAt w' hi v L := h.fr F (by simp)
theorem ThAt.mono {w : World} {hi hi' : Nat} {v : Value} {L : List Th} (h : ThAt w hi v L) (hh : hi ≤ hi') : ThAt w hi' v L := by
  obtain ⟨ao, cap, e, h1, h2, h3⟩ := h
  refine ⟨ao, cap, e, h1, h2, fun j t hj => ?_⟩
  obtain ⟨b, o, da, dc, q1, q2, q3, c0, c1, c2, c3, hs, hk⟩ := h3 j t hj
  exact ⟨b, o, da, dc, q1, q2, by omega, c0, c1, c2, c3, hs, fun h0 k e => by have := hk h0 k e; omega⟩
/-- One thing of a row, at its place. -/
theorem ThAt.get {w : World} {hi : Nat} {ao : Option Addr} {n cap : Nat} {L : List Th} (h : ThAt w hi (.slice ao n cap) L) {j : Nat} {t : Th} (hj : L[j]? = some t) : ∃ b o dao dcap, ao = some ⟨b, o, none⟩ ∧ b < w.heap.size ∧ b < hi ∧
    w.cell? ⟨b, o + j * 4, none⟩ = some (.string ⟨t.path.toArray⟩) ∧ w.cell? ⟨b, o + j * 4 + 1, none⟩ = some (.int .i64 t.tv.kind) ∧ w.cell? ⟨b, o + j * 4 + 2, none⟩ = some (.slice dao t.tv.data.length dcap) ∧ w.cell? ⟨b, o + j * 4 + 3, none⟩ = some (.string ⟨t.tv.ln.toArray⟩) ∧
    Sl w (.slice dao t.tv.data.length dcap) (bv t.tv.data) ∧ (0 < dcap → ∀ k, (Value.slice dao t.tv.data.length dcap).ownBlock = some k → k < hi) := by
  obtain ⟨ao', cap', e, h1, h2, h3⟩ := h
  injection e with e1 e2 e3
  subst e1
  exact h3 j t hj
theorem ThAt.out {w : World} {hi : Nat} {v : Value} {L : List Th} (h : ThAt w hi v L) : ∃ ao cap, v = .slice ao L.length cap ∧ L.length ≤ cap ∧ cap ≤ 9223372036854775807 := by
  obtain ⟨ao, cap, e, h1, h2, -⟩ := h
  exact ⟨ao, cap, e, h1, h2⟩

/-- Where a path's thing stands. -/
def atL (L : List Th) (q : List UInt8) : Int := match L.findIdx? (·.path == q) with
  | some i => (i : Int)
  | none => -1
theorem atL_some {L : List Th} {q : List UInt8} {i : Nat} {t : Th} (hi : L[i]? = some t) (ht : t.path = q) (hn : ∀ (j : Nat) (s : Th), j < i → L[j]? = some s → s.path ≠ q) : atL L q = i ∧ lookL L q = some t.tv := by
  have e : L.findIdx? (·.path == q) = some i := by
    rw [List.findIdx?_eq_some_iff_getElem]
    obtain ⟨h1, h2⟩ := List.getElem?_eq_some_iff.1 hi
    refine ⟨h1, by rw [h2, ht]; simp, fun j hj => ?_⟩
    have := hn j (L[j]'(by omega)) hj (by simp)
    simpa using this
  refine ⟨by unfold atL; rw [e], ?_⟩
  unfold lookL
  rw [List.find?_eq_some_iff_getElem.2 ⟨by rw [ht]; simp, i, (List.getElem?_eq_some_iff.1 hi).1, (List.getElem?_eq_some_iff.1 hi).2, fun j hj => by
    have := hn j (L[j]'(by have := (List.getElem?_eq_some_iff.1 hi).1; omega)) hj (by simp)
    simpa using this⟩]
  rfl
theorem atL_none {L : List Th} {q : List UInt8} (hn : ∀ (j : Nat) (s : Th), L[j]? = some s → s.path ≠ q) : atL L q = -1 ∧ lookL L q = none := by
  have h0 : ∀ s ∈ L, s.path ≠ q := fun s hs => by
    obtain ⟨j, hj⟩ := List.getElem?_of_mem hs
    exact hn j s hj
  refine ⟨?_, ?_⟩
  · have e : L.findIdx? (·.path == q) = none := by
      rw [List.findIdx?_eq_none_iff]
      intro s hs
      simpa using h0 s hs
    unfold atL
    rw [e]
  · unfold lookL
    rw [List.find?_eq_none.2 fun s hs => by simpa using h0 s hs]
    rfl
/-- Either it is there or not. -/
theorem atL_cases (L : List Th) (q : List UInt8) : (∃ (i : Nat) (t : Th), L[i]? = some t ∧ t.path = q ∧ atL L q = (i : Int) ∧ lookL L q = some t.tv) ∨ (atL L q = -1 ∧ lookL L q = none) := by
  cases h : L.findIdx? (·.path == q) with
  | none =>
    right
    rw [List.findIdx?_eq_none_iff] at h
    exact atL_none fun j s hj => by simpa using h s (List.mem_of_getElem? hj)
  | some i =>
    left
    rw [List.findIdx?_eq_some_iff_getElem] at h
    obtain ⟨h1, h2, h3⟩ := h
    have hp : L[i].path = q := by simpa using h2
    have := atL_some (L := L) (q := q) (i := i) (t := L[i]) (by simp) hp (fun j s hj hs => by
      obtain ⟨e1, e2⟩ := List.getElem?_eq_some_iff.1 hs
      subst e2
      simpa using h3 j hj)
    exact ⟨i, L[i], by simp, hp, this.1, this.2⟩
end Go.Proofs.YtjeblccboeljnaaGreatDoor
