/- Parts joined are let in, in plain Lean; contract: Clean of a text of any length. No condition. -/
import Derived.Test.YtagoemebklihjaaDoorNJoin
import Derived.Test.YtagoemebklihjaaDoorNRuneC
import Derived.Test.YtagoemebklihjaaDoorNCleansW
namespace Go.Proofs.YtagoemebklihjaaDoor
open Go.RowKit

/-- A text that is one part, and is let in. -/
structure OneOk (p : List UInt8) : Prop where
  part : partL foldL p = true
  runes : (runesL p).isSome = true
  no : ∀ x ∈ p, x ≠ 47
theorem one_ok {p : List UInt8} (h : cleanL foldL p = true) (h1 : (splitL p).length = 1) : OneOk p := by
  have hs : splitL p = [p] := by
    have hj := joinL_split p
    match hq : splitL p, h1 with
    | [q], _ =>
      rw [hq, joinL_one] at hj
      rw [hj]
  refine ⟨clean_part h (by rw [hs]; simp), ?_, splitL_no p p (by rw [hs]; simp)⟩
  unfold cleanL at h
  simp only [Bool.and_eq_true] at h
  exact h.1.1.1

theorem runes_join : ∀ ps : List (List UInt8), (∀ p ∈ ps, (runesL p).isSome = true) → (runesL (joinL ps)).isSome = true
  | [], _ => by rw [joinL_nil]; rfl
  | [p], h => by rw [joinL_one]; exact h p (by simp)
  | p :: q :: t, h => by
    rw [joinL_cons _ _ (by simp)]
    refine runes_ok_app _ _ (h p (by simp)) ?_
    exact runes_ok_app [47] _ (by decide) (runes_join (q :: t) (fun r hr => h r (by simp [hr])))

theorem clean_join (ps : List (List UInt8)) (h0 : ps ≠ []) (h : ∀ p ∈ ps, OneOk p) : cleanL foldL (joinL ps) = (decide ((joinL ps).length ≤ 1024) && decide (ps.length ≤ 32)) := by
  unfold cleanL
  rw [splitL_join ps h0 (fun p hp => (h p hp).no), runes_join ps (fun p hp => (h p hp).runes), show ps.all (partL foldL) = true from List.all_eq_true.2 (fun p hp => (h p hp).part)]
  simp

theorem join_ok_len (ps : List (List UInt8)) (h : ∀ p ∈ ps, OneOk p) (hl : ps.length ≤ 40) : (joinL ps).length ≤ 20000 := by
  have h1 := join_len 255 ps (fun p hp => (part_ok (h p hp).part).len)
  have : ps.length * 256 ≤ 40 * 256 := Nat.mul_le_mul_right _ hl
  omega

theorem clean_all (w : World) (l : List UInt8) (hG : Gl w) : Calls Tryd.prog 10 #[.string ⟨l.toArray⟩] w (CleanR l w) := by
  by_cases h1 : l.length ≤ 100000
  · exact clean_any w l hG h1
  have HC := Lib.hid (show cleanL foldL l = false by unfold cleanL; rw [show decide (l.length ≤ 1024) = false from by simp; omega]; simp)
  have a1 : (1024 : Int) < (l.length : Int) := by omega
  clear h1
  go_enter Tryd.func10, Tryd.ntmps10
  go_wp2_with fail
  go_ret2
  exact .inr ⟨HC.out, rfl, Fr.refl _ _⟩
theorem clean_all_yes (w : World) (l : List UInt8) (hG : Gl w) (h : cleanL foldL l = true) : Calls Tryd.prog 10 #[.string ⟨l.toArray⟩] w fun e w' => (∃ ao, e = .returned (.tuple #[.slice ao (splitL l).length (splitL l).length, .int .i64 0]) ∧ Sl w' (.slice ao (splitL l).length (splitL l).length) (stv (splitL l))) ∧ Fr [] w w' := by
  refine (clean_all w l hG).mono ?_
  rintro e w' (⟨ao, -, rfl, hS, F⟩ | ⟨h2, -⟩)
  · exact ⟨⟨_, rfl, hS⟩, F⟩
  · rw [h] at h2; cases h2
theorem clean_all_no (w : World) (l : List UInt8) (hG : Gl w) (h : cleanL foldL l = false) : Calls Tryd.prog 10 #[.string ⟨l.toArray⟩] w fun e w' => e = .returned (.tuple #[.slice none 0 0, .int .i64 15]) ∧ Fr [] w w' := by
  refine (clean_all w l hG).mono ?_
  rintro e w' (⟨ao, h2, -⟩ | ⟨-, rfl, F⟩)
  · rw [h] at h2; cases h2
  · exact ⟨rfl, F⟩
end Go.Proofs.YtagoemebklihjaaDoor
