/- Contract: law 20's awake. No condition. -/
import Derived.Test.YthdfjbliafdchaaHParseS
import Derived.Test.YthdfjbliafdchaaHOpenS
import Derived.Lib.SlBytesConst
namespace Go.Proofs.Ythdfjbliafdchaa
open Go.RowKit

/-- A text's bytes, just laid. -/
theorem sl_mark (w : World) (e : TypeId) (l : List Value) (fr : Nat × Nat) (n : Nat) (hn : n = l.length) (hm : n ≤ 9223372036854775807) : Sl (w.alloc (.cells l.toArray e fr)) (.slice (some ⟨w.heap.size, 0, none⟩) n n) l :=
  ⟨_, n, by rw [hn], by omega, by omega, by simp, fun a ha _ => by
    obtain rfl := (Option.some.inj ha).symm
    exact ⟨rfl, by simp, fun j hj => by rw [Nat.zero_add, World.cell?_alloc_mark]; simp⟩⟩

set_option maxRecDepth 100000 in
set_option maxHeartbeats 2000000 in
theorem awake_any (w : World) : Calls Try.prog 8 #[] w fun e w' => e = .returned (.bool true) ∧ Fr [] w w' := by
  go_enter Try.func8, Try.ntmps8
  go_upto_region 1 with fail
  go_upto_region 2 with (go_at_call 12; refine (parse_a _ _ (sl_lit w _ _ 2 (by rfl) (by decide))).mono ?_; rintro e w1 ⟨rfl, F1⟩; have F1w := ((Fr.refl [] w).alloc _).trans0 F1; clear F1)
  obtain ⟨w2, hw2⟩ : ∃ w2, w2 = w1.alloc (Obj.cells #[.bool false, .int .u64 0, .slice none 0 0, .slice none 0 0, .slice none 0 0, .slice none 0 0, .slice none 0 0] 36) := ⟨_, rfl⟩
  rw [← hw2]
  have F2 : Fr [] w w2 := hw2 ▸ F1w.alloc _
  have B2 : w2.heap[w1.heap.size]? = some (.cells #[.bool false, .int .u64 0, .slice none 0 0, .slice none 0 0, .slice none 0 0, .slice none 0 0, .slice none 0 0] 36 (0, 0)) := hw2 ▸ heap_alloc_new w1 _
  have hg := Lib.hid (Array.getElem?_eq_some_iff.1 B2).1
  obtain ⟨g, hgg⟩ : ∃ g, w1.heap.size = g := ⟨_, rfl⟩
  rw [hgg] at B2 hg ⊢
  clear hw2 hgg F1w
  go_upto_region 3 with (go_at_call 12; refine (parse_b _ _ (sl_lit w2 _ _ 5 (by rfl) (by decide))).mono ?_; rintro e w3 ⟨rfl, F3⟩; have F23 := ((Fr.refl [] w2).alloc _).trans0 F3; clear F3)
  obtain ⟨w4, hw4⟩ : ∃ w4, w4 = w3.alloc (Obj.cells #[.bool false, .int .u64 0, .slice none 0 0, .slice none 0 0, .slice none 0 0, .slice none 0 0, .slice none 0 0] 36) := ⟨_, rfl⟩
  rw [← hw4]
  have F24 : Fr [] w2 w4 := hw4 ▸ F23.alloc _
  clear hw4 F23
  have kc := fun (w : World) (C : Array Value) (n c : Nat) => Lib.run_convert_bytes_const (P := Try.prog) w 22 5 C n c Try.underlying22 Try.underlying5
  go_upto_region 4 with (go_at_call 9; refine (open_7z _ _ (sl_mark w4 _ _ _ 2 (by rfl) (by decide))).mono ?_; rintro e w5 ⟨rfl, F5⟩; have F25 := F24.trans0 (((Fr.refl [] w4).alloc _).trans0 F5); clear F5)
  obtain ⟨i0, i1, i2, i3, i4, i5, i6, iz⟩ := cells7 ((F25.block _ hg.out (by simp)).trans B2)
  go_wp2_with fail
  go_ret
  exact ⟨rfl, F2.trans0 F25⟩
end Go.Proofs.Ythdfjbliafdchaa
