/- Contracts: clean, parent, within. No condition but that lengths fit. -/
import Derived.Test.YtjeblccboeljnaaGreatDoorYP
import Derived.Test.YtjeblccboeljnaaGreatDoorNClean
import Derived.Test.YtjeblccboeljnaaGreatDoorNRefS
namespace Go.Proofs.YtjeblccboeljnaaGreatDoor
open Go.RowKit

theorem clean_tot (w : World) (l : List UInt8) (hG : Gl w) (hl : l.length ≤ 100000) : Calls Tryz.prog 59 #[.string ⟨l.toArray⟩] w fun e w' => (∃ v, e = .returned (.tuple #[v, .int .i64 (if cleanL foldL l then 0 else 15)])) ∧ Fr [] w w' := by
  refine (clean_any w l hG hl).mono ?_
  rintro e w' (⟨ao, h2, rfl, -, F⟩ | ⟨h2, rfl, F⟩)
  · rw [h2]; exact ⟨⟨_, rfl⟩, F⟩
  · rw [h2]; exact ⟨⟨_, rfl⟩, F⟩
theorem sclean_any (w : World) (l : List UInt8) (hG : Gl w) (hl : l.length ≤ 100000) : Calls Tryz.prog 48 #[.string ⟨l.toArray⟩] w fun e w' => e = .returned (.bool (cleanL foldL l)) ∧ Fr [] w w' := by
  have HC := Lib.hid (clean_tot w l hG hl)
  clear hG hl
  cases h : cleanL foldL l
  all_goals
    rw [h] at HC
    clear h
    go_enter Tryz.func48, Tryz.ntmps48
    go_wp2_with (go_at_call 59; refine HC.out.mono ?_; rintro e w1 ⟨⟨v, rfl⟩, F1⟩)
    go_ret
    exact ⟨rfl, F1⟩
theorem last_eq (p : List UInt8) : Lib.lastIndexByte ⟨p.toArray⟩ 47 = match lastS p with | some i => (i : Int) | none => -1 := by
  have hj : ∀ j, j < p.length → (⟨p.toArray⟩ : ByteArray).data[j]! = p.getD j 0 := fun j hj => by simp [hj, List.getD]
  have hz : (⟨p.toArray⟩ : ByteArray).size = p.length := by simp [ByteArray.size]
  unfold Lib.lastIndexByte
  rw [hz]
  have e47 : ∀ c : UInt8, ((c.toNat : Int) = 47) ↔ c = 47 := fun c => by
    constructor
    · intro h
      have : c.toNat = (47 : UInt8).toNat := by show c.toNat = 47; omega
      exact UInt8.toNat_inj.1 this
    · rintro rfl; rfl
  have hg : ∀ j, j < p.length → p[j]? = some (p.getD j 0) := fun j hj => by simp [hj, List.getD]
  rcases Lib.lastIdx_spec ⟨p.toArray⟩ 47 p.length with ⟨h1, h2⟩ | ⟨i, hi, h1, h2, h3⟩
  · rw [h1]
    cases hl : lastS p with
    | none => rfl
    | some i =>
      have q := (lastS_some hl).1
      have hi := (List.getElem?_eq_some_iff.1 q).1
      have := h2 i hi
      rw [hj i hi] at this
      rw [hg i hi] at q
      exact absurd ((e47 _).2 (by simpa using q)) this
  · rw [h1]
    rw [hj i hi, e47] at h2
    cases hl : lastS p with
    | none => exact absurd (List.mem_of_getElem? (by rw [hg i hi, h2])) (lastS_none hl)
    | some k =>
      obtain ⟨q1, q2⟩ := lastS_some hl
      have hk := (List.getElem?_eq_some_iff.1 q1).1
      show (i : Int) = (k : Int)
      rcases Nat.lt_trichotomy i k with h | h | h
      · have := h3 k h hk
        rw [hj k hk] at this
        rw [hg k hk] at q1
        exact absurd ((e47 _).2 (by simpa using q1)) this
      · rw [h]
      · exact absurd (by rw [hg i hi, h2]) (q2 i h)
theorem parent_any (w : World) (p : List UInt8) (hp : p.length ≤ 100000) : Calls Tryz.prog 49 #[.string ⟨p.toArray⟩] w fun e w' => e = .returned (.tuple #[.string ⟨(parentL p).toArray⟩, .bool (deepL p)]) ∧ w' = w := by
  have hz : (⟨p.toArray⟩ : ByteArray).size = p.length := by simp [ByteArray.size]
  have HL := Lib.hid (Tryz.strings_LastIndexByte ⟨p.toArray⟩ 47 (by rw [hz]; omega) w)
  rw [last_eq] at HL
  cases hl : lastS p with
  | none =>
    have e1 : parentL p = [] := by unfold parentL; rw [hl]
    have e2 : deepL p = false := by unfold deepL; rw [hl]; rfl
    rw [hl] at HL
    dsimp only at HL
    rw [e1, e2]
    clear e1 e2 hl hz
    go_enter Tryz.func49, Tryz.ntmps49
    go_wp2_with (go_at_call 60; refine HL.out.mono ?_; rintro e w1 ⟨rfl, rfl⟩)
    go_ret2
    exact ⟨rfl, rfl⟩
  | some i =>
    obtain ⟨-, hi, e1⟩ := parentL_len hl
    have e2 : deepL p = true := by unfold deepL; rw [hl]; rfl
    rw [hl] at HL
    dsimp only at HL
    have HE := Lib.hid (show (⟨p.toArray⟩ : ByteArray).extract 0 i = ⟨(parentL p).toArray⟩ by rw [extract_ba, e1]; simp)
    rw [e2]
    have hiI : ¬ (i : Int) < 0 := by omega
    have hsz : (i : Int) ≤ ((⟨p.toArray⟩ : ByteArray).size : Int) := by rw [hz]; omega
    clear e1 e2 hl
    go_enter Tryz.func49, Tryz.ntmps49
    go_wp2_with (go_at_call 60; refine HL.out.mono ?_; rintro e w1 ⟨rfl, rfl⟩)
    go_ret2
    exact ⟨by rw [← HE.out]; simp, rfl⟩
theorem cat_ba (a b : List UInt8) : (⟨a.toArray⟩ : ByteArray) ++ ⟨b.toArray⟩ = ⟨(a ++ b).toArray⟩ := by
  apply ByteArray.ext
  simp
theorem within_any (w : World) (p top : List UInt8) (h2 : top.length ≤ 100000) : Calls Tryz.prog 54 #[.string ⟨p.toArray⟩, .string ⟨top.toArray⟩] w fun e w' => e = .returned (.bool (withinB p top)) ∧ w' = w := by
  have HH := Lib.hid (Tryz.strings_HasPrefix ⟨p.toArray⟩ ⟨(top ++ [47]).toArray⟩ w)
  have HB := Lib.hid (show Lib.hasPrefix (⟨p.toArray⟩ : ByteArray).data.toList (⟨(top ++ [47]).toArray⟩ : ByteArray).data.toList = withinB p top from rfl)
  have HE := cat_ba top [47]
  have z1 : (⟨top.toArray⟩ : ByteArray).size = top.length := by simp [ByteArray.size]
  have hn : ¬ 9223372036854775807 < (⟨top.toArray⟩ : ByteArray).size + (⟨[(47 : UInt8)].toArray⟩ : ByteArray).size := by rw [z1]; have : (⟨[(47 : UInt8)].toArray⟩ : ByteArray).size = 1 := rfl; omega
  clear h2 z1
  go_enter Tryz.func54, Tryz.ntmps54
  go_wp2_with (go_at_call 64; refine HH.out.mono ?_; rintro e w1 ⟨rfl, rfl⟩)
  go_ret
  exact ⟨by rw [← HB.out]; rfl, rfl⟩
end Go.Proofs.YtjeblccboeljnaaGreatDoor
