/- Arguments that came in: rows of texts, of units, of named entries. No condition. -/
import Derived.Test.YtagoemebklihjaaDoorNApart
import Derived.Test.YtagoemebklihjaaDoorNUnitA
import Derived.ProofKit
import Derived.OpenShut
import Derived.ShutString
import Derived.ChangeOld
import Derived.Deep.Grids
import Derived.Deep.SlicePairs
namespace Go.Proofs.YtagoemebklihjaaDoor
open Go.RowKit Go.Deep Go.ChangeShapes Go.WideShapes Go.ChangeAt

theorem sl_of_cells {w : World} {x : Addr} {len cap : Nat} {vs : List Value} (hl : len ≤ cap) (hm : cap ≤ maxLen) (hz : vs.length = cap)
    (hcell : ∀ i, i < vs.length → w.cell? (x.add i) = vs[i]?) : Sl w (.slice (some x) len cap) (vs.take len) := by
  have hlen : (vs.take len).length = len := by simp; omega
  refine ⟨some x, cap, by rw [hlen], by omega, by unfold maxLen at hm; omega, by simp, fun a ha hc => ?_⟩
  obtain rfl := Option.some.inj ha
  have h0 := hcell 0 (by omega)
  obtain ⟨b, o, s⟩ := x
  have e0 : (⟨b, o, s⟩ : Addr).add 0 = ⟨b, o, s⟩ := by simp [Addr.add]
  rw [e0] at h0
  have hv : vs[0]? = some vs[0] := by simp
  rw [hv] at h0
  have hsp := World.cell?_spot h0
  dsimp only at hsp
  subst hsp
  refine ⟨rfl, World.block_lt_of_cell? _ _ h0, fun j hj => ?_⟩
  rw [hlen] at hj
  have hadd : (⟨b, o, none⟩ : Addr).add j = ⟨b, o + j, none⟩ := by unfold Addr.add; split <;> simp_all
  dsimp only
  rw [← hadd, hcell j (by omega), List.getElem?_take, if_pos hj]

theorem addr_out {w : World} {a : Addr} {v : Value} (h : w.cell? (a.add 0) = some v) : ∃ b o, a = ⟨b, o, none⟩ ∧ b < w.heap.size := by
  obtain ⟨b, o, s⟩ := a
  have e0 : (⟨b, o, s⟩ : Addr).add 0 = ⟨b, o, s⟩ := by simp [Addr.add]
  rw [e0] at h
  have hsp := World.cell?_spot h
  dsimp only at hsp
  subst hsp
  exact ⟨b, o, rfl, World.block_lt_of_cell? _ _ h⟩
theorem add_out (b o k : Nat) : (⟨b, o, none⟩ : Addr).add k = ⟨b, o + k, none⟩ := by unfold Addr.add; split <;> simp_all

variable {H : Type} {enc : TypeId × Value → H} {w : World} {base : Nat} {held : Bool} {fuel : Nat} {cs : List Value} {x : DataW H × List MemPlace}

theorem strings_of (h : DataW.trod enc Tryd.prog w base (fun _ => true) held fuel 23 cs = some x) : ∃ v ps, cs = [v] ∧ Sl w v (stv ps) := by
  rcases open_strs Tryd.underlying23 Tryd.underlying9 (by kernel_rfl) h with ⟨hcs, _⟩ | ⟨a, len, cap, m, Sx, hcs, _, hl, hm, hmm, _, hx⟩
  · exact ⟨_, [], hcs, Sl.nil w⟩
  · have hmc : m = cap := by rw [hmm]; rfl
    refine ⟨_, ((List.range cap).map fun i => (Sx i).data.toList).take len, hcs, ?_⟩
    have e : stv (((List.range cap).map fun i => (Sx i).data.toList).take len) = ((List.range cap).map fun i => Value.string (Sx i)).take len := by
      unfold stv
      rw [List.map_take, List.map_map]
      congr 1
    rw [e]
    refine sl_of_cells hl hm (by simp) (fun i hi => ?_)
    simp at hi
    rw [(hx i (by omega)).1]
    simp [hi]

theorem u16s_of (h : DataW.trod enc Tryd.prog w base (fun _ => true) held fuel 35 cs = some x) : ∃ v us, cs = [v] ∧ Sl w v (hv us) ∧ ∀ u ∈ us, u < 65536 := by
  rcases open_ints Tryd.underlying35 Tryd.underlying42 (by kernel_rfl) h with ⟨hcs, _⟩ | ⟨x, l, c, zs, hcs, _, hl, hm, hz, _, hcell, hwz⟩
  · exact ⟨_, [], hcs, Sl.nil w, by simp⟩
  · have hz' : zs.length = c := by simpa using hz
    have hb : ∀ z ∈ zs, 0 ≤ z ∧ z < 65536 := fun z hzm => by
      have := bounds_u16 (hwz z hzm)
      omega
    refine ⟨_, (zs.map Int.toNat).take l, hcs, ?_, fun u hu => ?_⟩
    · unfold hv
      rw [List.map_take, List.map_map]
      refine sl_of_cells hl hm (by simpa using hz') (fun i hi => ?_)
      simp at hi
      rw [hcell i hi]
      have hmem : zs[i] ∈ zs := List.getElem_mem hi
      have := hb _ hmem
      simp [hi]
      omega
    · have hu2 := List.mem_of_mem_take hu
      obtain ⟨z, hzm, rfl⟩ := List.mem_map.1 hu2
      have := hb z hzm
      omega

theorem nms_of (h : DataW.trod enc Tryd.prog w base (fun _ => true) held fuel 29 cs = some x) : ∃ v l, cs = [v] ∧ Nms w v l := by
  rcases open_slice_pairs Tryd.underlying29 Tryd.underlying31 (by kernel_rfl) rfl rfl (by kernel_rfl) (by kernel_rfl) h with ⟨hcs, _⟩ | ⟨a, len, cap, m, n, V0, V1, D0, D1, P0, P1, hcs, _, hl, hm, hmm, _, hx⟩
  · exact ⟨_, [], hcs, ⟨none, 0, rfl, by simp, fun j x hx => by simp at hx⟩⟩
  · have each : ∀ i, i < len → ∃ q : Nm, w.cell? (a.add (i * 2)) = some (.string ⟨q.path.toArray⟩) ∧ w.cell? (a.add (i * 2 + 1)) = some (.bool q.dir) := by
      intro i hi
      obtain ⟨g0, g1, t0, t1⟩ := hx i (by rw [hmm]; split <;> omega)
      obtain ⟨s, e0, _, _⟩ := DataW.trod_string Tryd.underlying9 t0
      obtain ⟨d, e1, _⟩ := DataW.trod_bool Tryd.underlying4 t1
      injection e0 with e0
      injection e1 with e1
      rw [e0] at g0
      rw [e1] at g1
      exact ⟨⟨s.data.toList, d⟩, by rw [g0], g1⟩
    haveI : Inhabited Nm := ⟨⟨[], false⟩⟩
    obtain ⟨q, hq⟩ := choose_lt each
    refine ⟨_, (List.range len).map q, hcs, ⟨some a, cap, by simp, by simpa using hl, fun j y hy => ?_⟩⟩
    have hj : j < len := by have := (List.getElem?_eq_some_iff.1 hy).1; simpa using this
    have hyq : y = q j := by simp [hj] at hy; exact hy.symm
    subst hyq
    obtain ⟨b, o, rfl, hb⟩ := addr_out (by simpa using (hq 0 (by omega)).1)
    obtain ⟨h1, h2⟩ := hq j hj
    rw [add_out] at h1 h2
    exact ⟨b, o, rfl, hb, h1, h2⟩
end Go.Proofs.YtagoemebklihjaaDoor
