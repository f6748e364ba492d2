/- Arguments that came in: rows of texts. No condition. -/
import Derived.Test.YtkodindajfdagaaGreatDoorJA
import Derived.ProofKit
import Derived.OpenShut
import Derived.ShutString
import Derived.ChangeOld
import Derived.Deep.Grids
import Derived.Deep.SlicePairs
namespace Go.Proofs.YtkodindajfdagaaGreatDoor
open Go.RowKit Go.Deep Go.ChangeShapes Go.WideShapes Go.ChangeAt

def stv (ps : List (List UInt8)) : List Value := ps.map fun p => .string ⟨p.toArray⟩
theorem stv_len (ps : List (List UInt8)) : (stv ps).length = ps.length := by simp [stv]
theorem stv_get {ps : List (List UInt8)} {j : Nat} {x : List UInt8} (h : ps[j]? = some x) : (stv ps)[j]? = some (.string ⟨x.toArray⟩) := by simp [stv, h]

theorem sl_of_cells {w : World} {x : Addr} {len cap : Nat} {vs : List Value} (hl : len ≤ cap) (hm : cap ≤ maxLen) (hz : vs.length = cap)
    (hcell : ∀ i, i < vs.length → w.cell? (x.add i) = vs[i]?) : Sl w (.slice (some x) len cap) (vs.take len) := by
  have hlen : (vs.take len).length = len := by simp; omega
  refine ⟨some x, cap, by rw [hlen], by omega, by unfold maxLen at hm; omega, by simp, fun a ha hc => ?_⟩
  obtain rfl := Option.some.inj ha
  have h0 := hcell 0 (by omega)
  obtain ⟨b, o, s⟩ := x
  have e0 : (⟨b, o, s⟩ : Addr).add 0 = ⟨b, o, s⟩ := by simp [Addr.add]
  rw [e0] at h0
  have hv : vs[0]? = some vs[0] := by simp
  rw [hv] at h0
  have hsp := World.cell?_spot h0
  dsimp only at hsp
  subst hsp
  refine ⟨rfl, World.block_lt_of_cell? _ _ h0, fun j hj => ?_⟩
  rw [hlen] at hj
  have hadd : (⟨b, o, none⟩ : Addr).add j = ⟨b, o + j, none⟩ := by unfold Addr.add; split <;> simp_all
  dsimp only
  rw [← hadd, hcell j (by omega), List.getElem?_take, if_pos hj]

variable {H : Type} {enc : TypeId × Value → H} {w : World} {base : Nat} {held : Bool} {fuel : Nat} {cs : List Value} {x : DataW H × List MemPlace}

theorem strings_of (h : DataW.trod enc Tryz.prog w base (fun _ => true) held fuel 46 cs = some x) : ∃ v ps, cs = [v] ∧ Sl w v (stv ps) := by
  rcases open_strs Tryz.underlying46 Tryz.underlying9 (by kernel_rfl) h with ⟨hcs, _⟩ | ⟨a, len, cap, m, Sx, hcs, _, hl, hm, hmm, _, hx⟩
  · exact ⟨_, [], hcs, Sl.nil w⟩
  · have hmc : m = cap := by rw [hmm]; rfl
    refine ⟨_, ((List.range cap).map fun i => (Sx i).data.toList).take len, hcs, ?_⟩
    have e : stv (((List.range cap).map fun i => (Sx i).data.toList).take len) = ((List.range cap).map fun i => Value.string (Sx i)).take len := by
      unfold stv
      rw [List.map_take, List.map_map]
      congr 1
    rw [e]
    refine sl_of_cells hl hm (by simp) (fun i hi => ?_)
    simp at hi
    rw [(hx i (by omega)).1]
    simp [hi]
end Go.Proofs.YtkodindajfdagaaGreatDoor
