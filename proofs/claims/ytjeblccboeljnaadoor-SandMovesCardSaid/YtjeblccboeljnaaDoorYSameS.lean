/- State and the reference's Same. No condition. -/
import Derived.Test.YtjeblccboeljnaaDoorYAwake
namespace Go.Proofs.YtjeblccboeljnaaDoor
open Go.RowKit Go.Maps

theorem same_list {L : List Th} {ks : List (List UInt8)} (hn : (L.map (·.path)).Nodup) (h : KeysAre (lookL L) ks) : ks.length = L.length ∧ ∀ t ∈ listK (lookL L) ks, lookL L t.path = some t.tv := by
  have e := listK_look h
  have hp : ((listK (lookL L) ks).map (·.path)).Nodup := by rw [listK_paths]; exact h.nd
  refine ⟨?_, fun t ht => ?_⟩
  · have := look_len hp hn e
    unfold listK at this
    simpa using this
  · obtain ⟨i, hi⟩ := List.getElem?_of_mem ht
    have := look_at hp hi
    rw [e] at this
    exact this
/-- The frame of what lies below. -/
theorem Lo.fr {w0 w w' : World} (F : Fr [] w0 w) (h : Lo w.heap.size w w') : Fr [] w0 w' := by
  obtain ⟨S, G, hS⟩ := h
  exact F.trans G (fun i hi => .inr (Nat.le_trans F.size (hS i hi)))
/-- State and the reference's Same: the same things. -/
theorem state_same {w : World} {lo p n nc : Nat} {fl : List Bool} {L : List Th} (h : SandAt w lo p n nc fl (lookL L)) (hM : MayT L) (hS : SmL L) (hn : n ≤ 100000) :
    Calls Tryd.prog 16 #[.pointer (some ⟨p, 0, none⟩)] w fun e w' => ∃ ao cap ks, e = .returned (.slice ao L.length cap) ∧ KeysAre (lookL L) ks ∧ ThAt w' w'.heap.size (.slice ao L.length cap) (listK (lookL L) ks) ∧ Fr [] w w' := by
  refine (state_at h hM.2 (dat_of hS) (by decide) hn).mono ?_
  rintro e w' ⟨ao, cap, ks, rfl, hk, -, ht, F⟩
  have e1 := (same_list hM.1 hk).1
  rw [e1] at ht ⊢
  exact ⟨ao, cap, ks, rfl, hk, ht, F⟩
theorem same_same {w : World} {hi hj : Nat} {ao bo : Option Addr} {cap bap : Nat} {L : List Th} {ks : List (List UInt8)} (hM : MayT L) (hS : SmL L) (hk : KeysAre (lookL L) ks) (h : ThAt w hi (.slice ao L.length cap) (listK (lookL L) ks)) (g : ThAt w hj (.slice bo L.length bap) L) :
    Calls Tryd.prog 15 #[.slice ao L.length cap, .slice bo L.length bap] w fun e w' => e = .returned (.bool true) ∧ Same w w' := by
  obtain ⟨h1, h2⟩ := same_list hM.1 hk
  exact rsame_any h g (by have := hS.1; omega) (by unfold listK; rw [List.length_map]; exact h1) h2

theorem mk_zero {K : Tree} {q : List UInt8} {kd : Int} (h : (mkK K q kd).1 = 0) : cleanL foldL q = true ∧ K q = none ∧ mkK K q kd = (0, updK K q ⟨kd, [], []⟩) := by
  unfold mkK at h ⊢
  split at h
  · cases h
  · split at h
    · cases h
    · rename_i h1 h2
      simp only [Bool.or_eq_true, Bool.not_eq_true', not_or, Bool.not_eq_true, Bool.not_eq_false] at h1 h2
      refine ⟨h1, ?_, ?_⟩
      · cases hk : K q with
        | none => rfl
        | some t => rw [hk] at h2; simp at h2
      · rw [if_neg (by rw [h1]; simp), if_neg (by rw [h2.1, h2.2]; simp)]
theorem mk_lies {K : Tree} {q : List UInt8} {kd : Int} (h : mkK K q kd = (0, updK K q ⟨kd, [], []⟩)) : liesK K q = true := by
  unfold mkK at h
  split at h
  · cases h
  · split at h
    · cases h
    · rename_i h1 h2
      simp only [Bool.or_eq_true, Bool.not_eq_true', not_or, Bool.not_eq_true, Bool.not_eq_false] at h2
      exact h2.2
theorem mk_else {K : Tree} {q : List UInt8} {kd : Int} (h : ¬ (mkK K q kd).1 = 0) : (mkK K q kd).2 = K := by
  unfold mkK at h ⊢
  split
  · rfl
  · split
    · rfl
    · rename_i h1 h2
      exact absurd (by rw [if_neg h1, if_neg h2]) h
theorem app_new {K : Tree} {q : List UInt8} (hc : cleanL foldL q = true) (bs : List UInt8) : appendK (updK K q ⟨2, [], []⟩) q bs = (0, updK K q ⟨2, bs, []⟩) := by
  unfold appendK
  rw [if_pos hc]
  unfold appK
  have : updK K q ⟨2, [], []⟩ q = some ⟨2, [], []⟩ := by unfold updK; simp
  rw [this]
  dsimp only
  rw [if_pos rfl, upd_upd]
  rfl
end Go.Proofs.YtjeblccboeljnaaDoor
