/- Contract: awake. No condition. -/
import Derived.Test.YtagoemebklihjaaDoorNApart
import Derived.Test.YtagoemebklihjaaDoorNRefC
import Derived.Test.YtagoemebklihjaaDoorNUnitA
namespace Go.Proofs.YtagoemebklihjaaDoor
open Go.RowKit

theorem clean_ab : cleanL foldL [97, 47, 98] = true := by decide
theorem split_ab : splitL [97, 47, 98] = [[97], [98]] := by decide
theorem clean_nul : cleanL foldL [78, 85, 76, 46, 116, 120, 116] = false := by decide

def CleanAB (w : World) (e : Ending) (w' : World) : Prop := (∃ ao, e = .returned (.tuple #[.slice ao 2 2, .int .i64 0]) ∧ Sl w' (.slice ao 2 2) (stv [[97], [98]])) ∧ Fr [] w w'
theorem clean_ab_any (w : World) (hG : Gl w) : Calls Tryd.prog 10 #[.string ⟨#[97, 47, 98]⟩] w (CleanAB w) := by
  refine (clean_any w [97, 47, 98] hG (by decide)).mono ?_
  rintro e w' (⟨ao, -, rfl, h, F⟩ | ⟨h, -⟩)
  · rw [split_ab] at h ⊢
    exact ⟨⟨ao, rfl, h⟩, F⟩
  · rw [clean_ab] at h; cases h

theorem nms_two (w : World) (g : Nat) (h : w.heap[g]? = some (.cells #[.string ⟨#[97]⟩, .bool false, .string ⟨#[65, 47, 98]⟩, .bool false] 31)) : Nms w (.slice (some ⟨g, 0, none⟩) 2 2) [⟨[97], false⟩, ⟨[65, 47, 98], false⟩] := by
  refine ⟨_, 2, rfl, Nat.le_refl _, fun j n hj => ?_⟩
  have hlt : j < 2 := by have := (List.getElem?_eq_some_iff.1 hj).1; simpa using this
  refine ⟨g, 0, rfl, (Array.getElem?_eq_some_iff.1 h).1, ?_⟩
  rcases (show j = 0 ∨ j = 1 by omega) with rfl | rfl
  · simp at hj
    subst hj
    exact ⟨by rw [Go.Joins.cell_of_block h]; rfl, by rw [Go.Joins.cell_of_block h]; rfl⟩
  · simp at hj
    subst hj
    exact ⟨by rw [Go.Joins.cell_of_block h]; rfl, by rw [Go.Joins.cell_of_block h]; rfl⟩

set_option maxRecDepth 100000 in
set_option maxHeartbeats 400000 in
theorem awake_any (w : World) (hG : Gl w) : Calls Tryd.prog 9 #[] w fun e w' => e = .returned (.bool true) ∧ Fr [] w w' := by
  have HG := Lib.hid hG
  clear hG
  have HT := Lib.hid (show ([[97], [98]] == ([[97], [98]] : List (List UInt8))) = true by decide)
  have HS := Lib.hid (show ([97] == ([97] : List Nat)) = true by decide)
  go_enter Tryd.func9, Tryd.ntmps9
  go_wp2_with fail
  refine (clean_ab_any w HG.out).mono ?_
  rintro e w1 ⟨⟨ao, rfl, hSl⟩, F1⟩
  go_wp2_with fail
  refine (clean_no w1 [78, 85, 76, 46, 116, 120, 116] (HG.out.fr F1) (by decide) clean_nul).mono ?_
  rintro e w2 ⟨rfl, F2⟩
  have F12 := F1.trans0 F2
  go_wp2_with (first
    | (go_at_call 15; refine (units_a w2 (HG.out.fr F12)).mono ?_; rintro e w3 ⟨u, rfl, hU, F3⟩; have F13 := F12.trans0 F3; have hSl3 := (hSl.fr0 (F2.trans0 F3)).fr0 ((Fr.refl [] w3).alloc (.cells #[.string ⟨#[97]⟩, .string ⟨#[98]⟩] 9)))
    | (go_at_call 12; refine (texts_any _ _ _ [[97], [98]] [[97], [98]] hSl3 (sl_lit w3 9 (stv [[97], [98]]) 2 rfl (by decide)) (by decide)).mono ?_; rw [HT.out]; rintro e w4 ⟨rfl, S4⟩; have F34 : Fr [] w3 w4 := ((Fr.refl _ _).alloc _).trans0 (S4.fr (S := [])); have F14 := F13.trans0 F34; have hU4 := (hU.fr0 F34).fr0 ((Fr.refl [] w4).alloc (.cells #[.int .u16 97] 42)))
    | (go_at_call 19; refine (same_any _ _ _ [97] [97] hU4 (sl_lit w4 42 (hv [97]) 1 rfl (by decide)) (by decide)).mono ?_; rw [HS.out]; rintro e w5 ⟨rfl, S5⟩; have F15 := F14.trans0 (((Fr.refl _ _).alloc _).trans0 (S5.fr (S := []))))
    | (go_at_call 14; refine (apart_any _ _ [⟨[97], false⟩, ⟨[65, 47, 98], false⟩] (HG.out.fr (F15.alloc _)) (nms_two _ _ (heap_alloc_new w5 _)) (by decide) (by decide)).mono ?_; rw [apart_awake]; rintro e w6 ⟨rfl, F6⟩))
  go_ret
  exact ⟨rfl, (F15.alloc _).trans0 F6⟩
end Go.Proofs.YtagoemebklihjaaDoor
