/- Opener: two bytes. No condition. -/
import Derived.Test.YtkodindajfdagaaGreatDoorOpenM
import Derived.Deep.SlicePairs
namespace Go.Proofs.YtkodindajfdagaaGreatDoor
open Go.RowKit Go.Deep Go.ChangeShapes Go.WideShapes Go.ChangeAt

variable {H : Type} {enc : TypeId × Value → H} {w : World} {base : Nat} {held : Bool} {fuel : Nat} {cs : List Value} {x : DataW H × List MemPlace}

theorem okWide_arr {P : Program} {w : World} {r : Reach} {base : Nat} {t e : TypeId} {n : Nat} {v : Value} (ht : P.underlying t = some (.array n e)) (h : Value.okWide P w r base t v) : ∃ cs, v = .agg cs := by
  simp only [Value.okWide, ht] at h
  obtain ⟨cs, h1, _⟩ := h
  exact ⟨cs, h1⟩

set_option maxRecDepth 100000 in
/-- Two bytes, by value. -/
theorem arr2_of (h : DataW.trod enc Tryz.prog w base (fun _ => true) held fuel 23 cs = some x) : ∃ a0 a1 : UInt8, cs = [.int .u8 a0.toNat, .int .u8 a1.toNat] := by
  obtain ⟨xs, n, _, _, hl, hlen, hf⟩ := DataW.trod_array Tryz.underlying23 h
  have ce : Tryz.prog.cellsOf 23 = 2 := by kernel_rfl
  have c0 : Tryz.prog.cellsOf 5 = 1 := by kernel_rfl
  rw [ce] at hl
  have one : ∀ (v : Value) y, DataW.trod enc Tryz.prog w base (fun _ => true) held n 5 [v] = some y → ∃ a : UInt8, v = .int .u8 a.toNat := by
    intro v y hy
    obtain ⟨kk, e0, _, wf0⟩ := DataW.trod_int Tryz.underlying5 hy
    injection e0 with e0
    obtain ⟨bs, hb⟩ := bytes_of_ints [kk] (by intro n hn; simp at hn; subst hn; exact wf0)
    match bs, hb with
    | [a], hb => exact ⟨a, by simp [bv] at hb; rw [e0, hb]⟩
  match cs, hl, xs, hlen with
  | [b0, b1], _, [y0, y1], _ =>
    have g0 := hf 0 (by omega)
    have g1 := hf 1 (by omega)
    simp [c0] at g0 g1
    obtain ⟨a0, rfl⟩ := one _ _ g0
    obtain ⟨a1, rfl⟩ := one _ _ g1
    exact ⟨a0, a1, rfl⟩
end Go.Proofs.YtkodindajfdagaaGreatDoor
