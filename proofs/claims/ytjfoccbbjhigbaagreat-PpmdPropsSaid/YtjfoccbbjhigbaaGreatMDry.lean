/- The first share of a model that begins lies behind the end of five bytes 0 (layers 17, 6): plain. -/
import Derived.Test.YtjfoccbbjhigbaaGreatARd
namespace Go.Proofs.YtjfoccbbjhigbaaGreat
section
attribute [local irreducible] Ar.words
theorem rootA_is {a : Ar} (hB : a.Byt) (hs : 2048 ≤ a.size) (hs2 : a.size ≤ 65536) (hl : a.len = a.size + 13) {A : Ar} {c s : Nat} (hA : A = Mo.rootA a) (hc : c = a.restart.high - 12) (hss : s = a.restart.low) :
    A.Byt ∧ A.num c 2 = 256 ∧ A.num (c + 2) 2 = 257 ∧ A.num (c + 4) 4 = s ∧ A.num (c + 8) 4 = 0 ∧ c ≤ 70000 ∧ s ≤ 70000 ∧ (∀ i, i < 256 → A.byte (s + i * 6) = i ∧ A.byte (s + i * 6 + 1) = 1) :=
  root_is hB hs hs2 hl 256 rfl _ c s A rfl hc hss (by rw [hA, hc, hss]; rfl)
theorem restart_a (m : Mo) : m.restart.a = Mo.rootA m.a := rfl
theorem blank_a (order size : Nat) : (Mo.blank order size).a = (Ar.fresh size).restart := rfl
end
theorem fresh_is (order size : Nat) (h1 : 2048 ≤ size) (h2 : size ≤ 65536) {m : Mo} (hm : m = Mo.fresh order size) :
    m.a.Byt ∧ m.least ≤ 70000 ∧ m.states m.least = 256 ∧ m.sum m.least = 257 ∧ m.suffix m.least = 0 ∧ ∃ s, s ≤ 70000 ∧ (∀ i, m.state m.least i = s + i * 6) ∧ ∀ i, i < 256 → m.sym (s + i * 6) = i ∧ m.freq (s + i * 6) = 1 := by
  obtain ⟨A, hA⟩ : ∃ A, A = Mo.rootA (Ar.fresh size).restart := ⟨_, rfl⟩
  obtain ⟨c, hc⟩ : ∃ c, c = (Ar.fresh size).restart.restart.high - 12 := ⟨_, rfl⟩
  obtain ⟨s, hs⟩ : ∃ s, s = (Ar.fresh size).restart.restart.low := ⟨_, rfl⟩
  have ha : m.a = A := by rw [hm, hA, ← blank_a order size]; exact restart_a _
  have hl : m.least = c := by rw [hm, hc]; rfl
  obtain ⟨b1, b2, b3, b4, b5, b6, b7, b8⟩ := rootA_is (a := (Ar.fresh size).restart) (fun _ => by show (0 : Nat) < 256; decide) h1 h2 rfl hA hc hs
  have g : m.states m.least = 256 := by unfold Mo.states; rw [ha, hl]; exact b2
  refine ⟨by rw [ha]; exact b1, by rw [hl]; exact b6, g, by unfold Mo.sum; rw [ha, hl]; exact b3, by unfold Mo.suffix; rw [ha, hl]; exact b5, s, b7, fun i => ?_, fun i hi => ?_⟩
  · unfold Mo.state
    rw [if_neg (by rw [g]; decide), ha, hl, b4]
  · unfold Mo.sym Mo.freq
    rw [ha]
    exact b8 i hi
def five : List UInt8 := [0, 0, 0, 0, 0]
theorem dry5 (order size : Nat) (h1 : 2048 ≤ size) (h2 : size ≤ 65536) {m : Mo} (hm : m = Mo.fresh order size) : ∃ s, Dry m five (Rd.fresh five) 256 257 s 1 := by
  obtain ⟨b1, b2, b3, b4, -, s, b5, b6, b7⟩ := fresh_is order size h1 h2 hm
  have h0 := b6 0
  have h7 := b7 0 (by decide)
  rw [Nat.zero_mul, Nat.add_zero] at h0 h7
  exact ⟨s, b1, by omega, b3, by decide, by decide, b4, h0, by omega, h7.2, by decide, by decide, by decide, by decide, by decide +kernel, by decide +kernel, by decide +kernel, by decide +kernel, by decide +kernel⟩
end Go.Proofs.YtjfoccbbjhigbaaGreat
