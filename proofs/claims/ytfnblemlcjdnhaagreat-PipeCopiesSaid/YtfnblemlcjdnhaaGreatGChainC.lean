/- The coders of GraphChains; a coder's properties in a block of their own. No condition. -/
import Derived.Test.YtfnblemlcjdnhaaGreatGChainP
import Derived.Test.YtfnblemlcjdnhaaGreatGPair
namespace Go.Proofs.YtfnblemlcjdnhaaGreat
open Go.RowKit

/-- The coder that a byte stands for. -/
def coderOf (x : UInt8) : Coder :=
  if x.toNat % 6 = 0 then ⟨1, []⟩ else if x.toNat % 6 = 1 then ⟨2, [x]⟩ else if x.toNat % 6 = 2 then ⟨3, []⟩
  else if x.toNat % 6 = 3 then ⟨4, [93, 0, 0, 1, 0]⟩ else if x.toNat % 6 = 4 then ⟨5, [UInt8.ofNat (x.toNat % 41)]⟩ else ⟨7, [6, 0, 0, 1, 0]⟩

theorem coderOf_ins (x : UInt8) : ins (coderOf x).method = 1 := by
  unfold coderOf
  repeat' split
  all_goals simp [ins]

theorem coderOf_ok (x : UInt8) : propsOk (coderOf x).method (coderOf x).props = true := by
  unfold coderOf
  repeat' split
  · decide
  · simp [propsOk]
  · decide
  · decide
  · have : x.toNat % 41 < 41 := Nat.mod_lt _ (by decide)
    generalize x.toNat % 41 = y at this ⊢
    have e : (UInt8.ofNat y).toNat = y := by simp; omega
    simp only [propsOk]
    simp [e]
    omega
  · decide

theorem coderOf_len (x : UInt8) : (coderOf x).props.length ≤ 5 := by
  unfold coderOf
  repeat' split
  all_goals simp

/-- Bytes in a block of their own, or none. -/
def PB (w : World) (v : Value) (b : List UInt8) : Prop :=
  (v = .slice none 0 0 ∧ b = []) ∨ ∃ g, v = .slice (some ⟨g, 0, none⟩) b.length b.length ∧ b.length ≤ 1000 ∧ w.heap[g]? = some (.cells (bv b).toArray 5)

theorem PB.fr {w w' : World} {v : Value} {b : List UInt8} {S : List Nat} (h : PB w v b) (F : Fr S w w') (hS : ∀ k ∈ S, ∀ c, w.heap[k]? ≠ some (.cells c 5)) : PB w' v b := by
  rcases h with h | ⟨g, e, hl, hg⟩
  · exact .inl h
  · exact .inr ⟨g, e, hl, (F.block g (Array.getElem?_eq_some_iff.1 hg).1 (fun hm => hS g hm _ hg)).trans hg⟩

theorem PB.sl {w : World} {v : Value} {b : List UInt8} (h : PB w v b) : Sl w v (bv b) := by
  rcases h with ⟨rfl, rfl⟩ | ⟨g, rfl, hl, hg⟩
  · exact Sl.nil w
  · refine ⟨_, b.length, by rw [bv_length], by rw [bv_length]; exact Nat.le_refl _, by omega, by simp, fun a ha _ => ?_⟩
    obtain rfl := (Option.some.inj ha).symm
    exact ⟨rfl, (Array.getElem?_eq_some_iff.1 hg).1, fun j _ => by rw [Go.Joins.cell_of_block hg]; simp⟩

/-- A folder two of whose streams are one. -/
theorem dup_code (f : Folder) (np : List UInt64) (p o : Int) (h0 : f.binds[0]? = some (p, o)) (hp : f.packs = [p]) : codeP f np = 10 := by
  refine codeP_graph (fun H => ?_)
  have hn := H.named.ins
  have h1 : p ∈ f.binds.map (·.1) := List.mem_map.2 ⟨_, List.mem_of_getElem? h0, rfl⟩
  exact (List.nodup_append.1 hn).2.2 p h1 p (by rw [hp]; simp) rfl
end Go.Proofs.YtfnblemlcjdnhaaGreat
