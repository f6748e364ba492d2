/- Arguments that came in, read as lists. No condition. -/
import Derived.Test.YtjfoccbbjhigbaaGreatBase
import Derived.ProofKit
import Derived.OpenShut
import Derived.ShutString
import Derived.ChangeOld
import Derived.Deep.Grids
namespace Go.Proofs.YtjfoccbbjhigbaaGreat
open Go.RowKit Go.ChangeShapes Go.WideShapes Go.ChangeAt

theorem sl_of_cells {w : World} {x : Addr} {len cap : Nat} {vs : List Value} (hl : len ≤ cap) (hm : cap ≤ maxLen) (hz : vs.length = cap)
    (hcell : ∀ i, i < vs.length → w.cell? (x.add i) = vs[i]?) : Sl w (.slice (some x) len cap) (vs.take len) := by
  have hlen : (vs.take len).length = len := by simp; omega
  refine ⟨some x, cap, by rw [hlen], by omega, by unfold maxLen at hm; omega, by simp, fun a ha hc => ?_⟩
  obtain rfl := Option.some.inj ha
  have h0 := hcell 0 (by omega)
  obtain ⟨b, o, s⟩ := x
  have e0 : (⟨b, o, s⟩ : Addr).add 0 = ⟨b, o, s⟩ := by simp [Addr.add]
  rw [e0] at h0
  have hv : vs[0]? = some vs[0] := by simp
  rw [hv] at h0
  have hsp := World.cell?_spot h0
  dsimp only at hsp
  subst hsp
  refine ⟨rfl, World.block_lt_of_cell? _ _ h0, fun j hj => ?_⟩
  rw [hlen] at hj
  have hadd : (⟨b, o, none⟩ : Addr).add j = ⟨b, o + j, none⟩ := by unfold Addr.add; split <;> simp_all
  dsimp only
  rw [← hadd, hcell j (by omega), List.getElem?_take, if_pos hj]

theorem bytes_of_ints (zs : List Int) (h : ∀ n ∈ zs, (Lit.int .u8 n).wf = true) : ∃ bs : List UInt8, zs.map (Value.int .u8) = bv bs := by
  refine ⟨zs.map fun z => UInt8.ofNat z.toNat, ?_⟩
  simp only [bv, List.map_map]
  apply List.map_congr_left
  intro n hn
  have := bounds_u8 (h n hn)
  simp
  omega

/-- A slice of bytes that came in. -/
theorem open_bytes {w : World} {a : Option Addr} {len cap : Nat} {zs : List Int}
    (h : (a = none ∧ len = 0 ∧ cap = 0 ∧ zs = []) ∨ ∃ x, a = some x ∧ len ≤ cap ∧ cap ≤ maxLen ∧ zs.length = cap ∧ (∀ i, i < zs.length → w.cell? (x.add i) = some (.int .u8 (zs.getD i 0))) ∧ ∀ n ∈ zs, (Lit.int .u8 n).wf = true) :
    ∃ bs, Sl w (.slice a len cap) (bv bs) := by
  rcases h with ⟨rfl, rfl, rfl, rfl⟩ | ⟨x, rfl, hl, hm, hz, hcell, hwf⟩
  · exact ⟨[], Sl.nil w⟩
  · obtain ⟨bs, hbs⟩ := bytes_of_ints (zs.take len) (fun n hn => hwf n (List.mem_of_mem_take hn))
    refine ⟨bs, ?_⟩
    rw [← hbs, List.map_take]
    refine sl_of_cells hl hm (by simpa using hz) (fun i hi => ?_)
    simp at hi
    rw [hcell i hi]
    simp [hi]

/-- A slice of bits that came in. -/
theorem open_bools' {H : Type} {enc : TypeId × Value → H} {P : Program} {w : World} {base : Nat} {held : Bool} {t e : TypeId} {fuel : Nat} {a : Option Addr} {len cap : Nat} {x : DataW H × List MemPlace}
    (ht : P.underlying t = some (.slice e)) (he : P.underlying e = some .bool) (hc : P.cellsOf e = 1)
    (h : DataW.trod enc P w base (fun _ => true) held fuel t (Value.slice a len cap).cells.toList = some x) : ∃ bs, Sl w (.slice a len cap) (tv bs) := by
  rcases Go.Deep.open_bools ht he hc h with ⟨hcs, _⟩ | ⟨x, l, c, B, hcs, _, hl, hm, _, hcell⟩
  · simp [Value.cells] at hcs
    obtain ⟨rfl, rfl, rfl⟩ := hcs
    exact ⟨[], Sl.nil w⟩
  · simp [Value.cells] at hcs
    obtain ⟨rfl, rfl, rfl⟩ := hcs
    have hs := sl_of_cells (w := w) (x := x) (vs := (List.range cap).map fun i => Value.bool (B i)) hl hm (by simp) (fun i hi => by
      simp at hi
      rw [hcell i hi]
      simp [hi])
    exact ⟨((List.range cap).map B).take len, by unfold tv; rw [List.map_take, List.map_map]; exact hs⟩

theorem words_of_ints (zs : List Int) (h : ∀ n ∈ zs, (Lit.int .u64 n).wf = true) : ∃ ws : List UInt64, zs.map (Value.int .u64) = u64v ws := by
  refine ⟨zs.map fun z => UInt64.ofNat z.toNat, ?_⟩
  simp only [u64v, List.map_map]
  apply List.map_congr_left
  intro n hn
  have := bounds_u64 (h n hn)
  simp
  omega

/-- A slice of words that came in. -/
theorem open_list_u64 {w : World} {a : Option Addr} {len cap : Nat} {zs : List Int}
    (h : (a = none ∧ len = 0 ∧ cap = 0 ∧ zs = []) ∨ ∃ x, a = some x ∧ len ≤ cap ∧ cap ≤ maxLen ∧ zs.length = cap ∧ (∀ i, i < zs.length → w.cell? (x.add i) = some (.int .u64 (zs.getD i 0))) ∧ ∀ n ∈ zs, (Lit.int .u64 n).wf = true) :
    ∃ ws, Sl w (.slice a len cap) (u64v ws) := by
  rcases h with ⟨rfl, rfl, rfl, rfl⟩ | ⟨x, rfl, hl, hm, hz, hcell, hwf⟩
  · exact ⟨[], Sl.nil w⟩
  · obtain ⟨ws, hws⟩ := words_of_ints (zs.take len) (fun n hn => hwf n (List.mem_of_mem_take hn))
    refine ⟨ws, ?_⟩
    rw [← hws, List.map_take]
    refine sl_of_cells hl hm (by simpa using hz) (fun i hi => ?_)
    simp at hi
    rw [hcell i hi]
    simp [hi]

/-- The block of a slice that came in lies in the memory. -/
theorem slice_block_lt {P : Program} {w : World} {r : Reach} {base : Nat} {t e : TypeId} {a : Option Addr} {len cap : Nat} (ht : P.underlying t = some (.slice e)) (h : Value.okWide P w r base t (.slice a len cap)) :
    ∀ k, (Value.slice a len cap).ownBlock = some k → k < w.heap.size := by
  intro k hk
  cases a with
  | none => simp [Value.ownBlock] at hk
  | some x =>
    simp only [Value.okWide, ht, Cell.okWide, Cell.ok] at h
    obtain ⟨_, _, _, _, row, cells, hs, _⟩ := h
    simp [Value.ownBlock] at hk
    subst hk
    unfold World.shape? at hs
    cases hx : w.heap[x.block]? with
    | none => simp [hx] at hs
    | some o => exact (Array.getElem?_eq_some_iff.1 hx).1
end Go.Proofs.YtjfoccbbjhigbaaGreat
