/- What the calls keep: plain laws. No condition. -/
import Derived.Test.YtjeblccboeljnaaGreatDoorYAt
import Derived.Test.YtjeblccboeljnaaGreatDoorYRSame
import Derived.Test.YtjeblccboeljnaaGreatDoorYRMay
namespace Go.Proofs.YtjeblccboeljnaaGreatDoor
open Go.RowKit

theorem mk_may {K : Tree} (hK : MayK K) (q : List UInt8) {kd : Int} (hk : kd = 1 ∨ kd = 2) : MayK (mkK K q kd).2 := by
  unfold mkK
  split
  · exact hK
  · split
    · exact hK
    · rename_i h1 h2
      simp only [Bool.or_eq_true, Bool.not_eq_true', not_or, Bool.not_eq_true, Bool.not_eq_false] at h1 h2
      refine may_upd hK h1 ?_ h2.2 (fun u hu => by rw [hu] at h2; simp at h2)
      rcases hk with rfl | rfl <;> rfl
theorem DatK.mk {K : Tree} {D : Nat} (h : DatK K D) (q : List UInt8) (kd : Int) : DatK (mkK K q kd).2 D := by
  unfold mkK
  split
  · exact h
  · split
    · exact h
    · exact h.upd _ ⟨Nat.zero_le _, Nat.zero_le _⟩
theorem pub_may {K : Tree} (hK : MayK K) (q to_ : List UInt8) (ks : List (List UInt8)) : MayK (publishK K q to_ ks).2 := by
  unfold publishK
  split
  · unfold pubK
    split
    · rename_i N h; exact may_lay hK h
    · exact hK
  · exact hK
theorem DatK.pub {K : Tree} {D : Nat} (h : DatK K D) (q to_ : List UInt8) (ks : List (List UInt8)) : DatK (publishK K q to_ ks).2 D := by
  unfold publishK
  split
  · unfold pubK
    split
    · rename_i N hN; exact h.lay hN
    · exact h
  · exact h
theorem app_may {K : Tree} (hK : MayK K) (q bs : List UInt8) : MayK (appendK K q bs).2 := by
  unfold appendK
  split
  · unfold appK
    split
    · rename_i hc t ht
      split
      · rename_i h2
        obtain ⟨m1, m2, m3⟩ := hK q t ht
        refine may_upd hK m1 ?_ m3 (fun u hu => by rw [ht] at hu; injection hu with hu; rw [← hu, h2])
        unfold tvMay at m2 ⊢
        rw [h2] at m2
        simpa using m2
      · exact hK
    · exact hK
  · exact hK
theorem DatK.app {K : Tree} {D : Nat} (h : DatK K D) (q : List UInt8) {bs : List UInt8} {E : Nat} (hb : bs.length ≤ E) : DatK (appendK K q bs).2 (D + E) := by
  have hw : DatK K (D + E) := fun p t e => by have := h p t e; omega
  unfold appendK
  split
  · unfold appK
    split
    · rename_i t ht
      split
      · have := h q t ht
        exact hw.upd _ ⟨by rw [List.length_append]; omega, by show t.ln.length ≤ _; omega⟩
      · exact hw
    · exact hw
  · exact hw
theorem drop_mayA {K : Tree} (hK : MayK K) (q : List UInt8) : MayK (dropA K q).2 := by
  unfold dropA
  split
  · unfold drpK
    split
    · exact may_drop hK q
    · exact hK
  · exact hK
theorem DatK.dropA {K : Tree} {D : Nat} (h : DatK K D) (q : List UInt8) : DatK (dropA K q).2 D := by
  unfold Go.Proofs.YtjeblccboeljnaaGreatDoor.dropA
  split
  · unfold drpK
    split
    · exact h.drop q
    · exact h
  · exact h
theorem may_nil : MayK (lookL []) := fun p t h => by cases h
theorem dat_nil (D : Nat) : DatK (lookL []) D := fun p t h => by cases h
/-- A tree of one thing more: its sorted paths. -/
theorem dat_of {L : List Th} (h : SmL L) : DatK (lookL L) 5000 := by
  intro p t e
  unfold lookL at e
  obtain ⟨s, hs, rfl⟩ := Option.map_eq_some_iff.1 e
  have := h.2 s (List.mem_of_find?_eq_some hs)
  exact ⟨this.2.1, this.2.2⟩

/- awake's trees -/
def kA1 : Tree := updK (lookL []) [97] ⟨1, [], []⟩
def kA3 : Tree := updK kA1 [97, 47, 120] ⟨2, [], []⟩
def kA4 : Tree := updK kA3 [114] ⟨1, [], []⟩
def kA5 : Tree := updK (dropK kA4 [97]) [114, 47, 120] ⟨2, [], []⟩
theorem a1 : mkK (lookL []) [97] 1 = (0, kA1) := by kernel_rfl
theorem a2 : mkK kA1 [98, 47, 99] 1 = (202, kA1) := by kernel_rfl
theorem a3 : mkK kA1 [97, 47, 120] 2 = (0, kA3) := by kernel_rfl
theorem a4 : mkK kA3 [114] 1 = (0, kA4) := by kernel_rfl
theorem k4 : KeysAre kA4 [[97], [97, 47, 120], [114]] := by
  refine ⟨by decide, fun p => ?_, by decide⟩
  unfold kA4 kA3 kA1 updK
  by_cases h1 : p = [114]
  · simp [h1]
  · by_cases h2 : p = [97, 47, 120]
    · simp [h2]
    · by_cases h3 : p = [97]
      · simp [h3]
      · simp [h1, h2, h3, lookL]
theorem a5 : publishK kA4 [97] [114] [[97], [97, 47, 120], [114]] = (0, kA5) := by kernel_rfl
theorem k5 : KeysAre kA5 [[114], [114, 47, 120]] := by
  refine ⟨by decide, fun p => ?_, by decide⟩
  unfold kA5 dropK kA4 kA3 kA1 updK
  by_cases h1 : p = [114, 47, 120]
  · simp [h1]
  · by_cases h2 : p = [114]
    · subst h2; simp; decide
    · by_cases h3 : p = [97, 47, 120]
      · subst h3; simp; decide
      · by_cases h4 : p = [97]
        · simp [h4]
        · simp [h1, h2, h3, h4, lookL]
end Go.Proofs.YtjeblccboeljnaaGreatDoor
