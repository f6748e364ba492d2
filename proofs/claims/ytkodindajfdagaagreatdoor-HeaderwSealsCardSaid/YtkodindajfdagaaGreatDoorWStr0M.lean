/- Contracts: the writer's streams where there are none. No condition. -/
import Derived.Test.YtkodindajfdagaaGreatDoorWNumM
import Derived.LoopN
namespace Go.Proofs.YtkodindajfdagaaGreatDoor
open Go.RowKit

/-- A description without packs, folders, subs. -/
def d0 (pk cs es : Value) : DW := ⟨pk, .int .u64 0, .slice none 0 0, cs, .slice none 0 0, .slice none 0 0, es⟩

set_option maxRecDepth 100000 in
theorem packs0_any (wx : World) (lo p : Nat) (v : Value) (bs : List UInt8) (pk cs es : Value) (h : WrAt wx lo p v bs (d0 pk cs es)) :
    Calls Tryz.prog 61 #[.pointer (some ⟨p, 0, none⟩)] wx fun e w' => e = .returned (.bool false) ∧ wx = w' := by
  obtain ⟨c0, c1, c2, c3, c4, c5, c6, c7, cz⟩ := cells8 h.blk
  dsimp only [d0] at c1 c2 c3 c4 c5 c6 c7
  clear h
  go_enter Tryz.func61, Tryz.ntmps61
  go_wp2_with fail
  go_ret
  exact ⟨rfl, rfl⟩
set_option maxRecDepth 100000 in
theorem folders0_any (wx : World) (lo p : Nat) (v : Value) (bs : List UInt8) (pk cs es : Value) (h : WrAt wx lo p v bs (d0 pk cs es)) :
    Calls Tryz.prog 62 #[.pointer (some ⟨p, 0, none⟩)] wx fun e w' => e = .returned (.bool false) ∧ wx = w' := by
  obtain ⟨c0, c1, c2, c3, c4, c5, c6, c7, cz⟩ := cells8 h.blk
  dsimp only [d0] at c1 c2 c3 c4 c5 c6 c7
  clear h
  go_enter Tryz.func62, Tryz.ntmps62
  go_wp2_with fail
  go_ret
  exact ⟨rfl, rfl⟩
set_option maxRecDepth 100000 in
theorem cfs0_any (w : World) (fv : Value) : Calls Tryz.prog 90 #[.slice none 0 0, fv] w fun e w' => e = .returned (.bool false) ∧ w = w' := by
  go_enter Tryz.func90, Tryz.ntmps90
  go_wp2
  refine wp_loop_rounds 1 ?_
  rw [rounds_succ]
  go_wp2
  go_ret
  exact ⟨rfl, rfl⟩
set_option maxRecDepth 100000 in
theorem cfc0_any (w : World) (fv : Value) : Calls Tryz.prog 93 #[.slice none 0 0, fv] w fun e w' => e = .returned (.bool false) ∧ w = w' := by
  go_enter Tryz.func93, Tryz.ntmps93
  go_wp2
  refine wp_loop_rounds 1 ?_
  rw [rounds_succ]
  go_wp2
  go_ret
  exact ⟨rfl, rfl⟩
set_option maxRecDepth 100000 in
theorem unknown0_any (w : World) (pk cs es : Value) : Calls Tryz.prog 92 #[.agg #[pk, .int .u64 0, .slice none 0 0, cs, .slice none 0 0, .slice none 0 0, es]] w fun e w' => e = .returned (.slice none 0 0) ∧ Fr [] w w' := by
  go_enter Tryz.func92, Tryz.ntmps92
  go_wp2_with fail
  refine wp_loop_rounds 1 ?_
  rw [rounds_succ]
  go_wp2_with fail
  go_ret
  exact ⟨rfl, (Fr.refl _ _).alloc _⟩
set_option maxRecDepth 100000 in
theorem subs0_any (wx : World) (lo p : Nat) (v : Value) (bs : List UInt8) (pk cs es : Value) (h : WrAt wx lo p v bs (d0 pk cs es)) :
    Calls Tryz.prog 63 #[.pointer (some ⟨p, 0, none⟩)] wx fun e w' => e = .returned (.bool false) ∧ Fr [] wx w' := by
  obtain ⟨c0, c1, c2, c3, c4, c5, c6, c7, cz⟩ := cells8 h.blk
  dsimp only [d0] at c1 c2 c3 c4 c5 c6 c7
  clear h
  go_enter Tryz.func63, Tryz.ntmps63
  go_wp2_with (first
    | (go_at_call 90; refine (cfs0_any wx _).mono ?_; rintro e w1 ⟨rfl, rfl⟩)
    | (go_at_call 92; refine (unknown0_any wx _ _ _).mono ?_; rintro e w2 ⟨rfl, F2⟩)
    | (go_at_call 93; refine (cfc0_any w2 _).mono ?_; rintro e w3 ⟨rfl, rfl⟩))
  go_ret
  exact ⟨rfl, F2⟩

set_option maxRecDepth 100000 in
set_option maxHeartbeats 2000000 in
theorem streams0_any {w wx : World} {lo p : Nat} {v : Value} {bs : List UInt8} {pk cs es : Value} (T : WrTo w lo p v bs (d0 pk cs es) wx) (hb : bs.length ≤ 1000000) :
    Calls Tryz.prog 32 #[.pointer (some ⟨p, 0, none⟩)] wx fun e w' => e = .returned (.bool false) ∧ WrTo w lo p v (bs ++ [0]) (d0 pk cs es) w' := by
  have hmf : ∀ (fn : Fn) (first cap : Array Value) (w : World), (Instr.makeFunc fn first cap).run Tryz.prog w = .ok (.func fn first cap) w := fun _ _ _ _ => rfl
  obtain ⟨wA, hwA⟩ : ∃ wA, wA = wx.alloc (.cells #[.func (.func 61) #[.pointer (some ⟨p, 0, none⟩)] #[], .func (.func 62) #[.pointer (some ⟨p, 0, none⟩)] #[], .func (.func 63) #[.pointer (some ⟨p, 0, none⟩)] #[]] 24) := ⟨_, rfl⟩
  have FA : Fr [] wx wA := hwA ▸ (Fr.refl _ _).alloc _
  have T1 := T.then0 FA
  have HK := Lib.hid (fun w2 (F : Fr [] wA w2) => show w2.cell? ⟨wx.heap.size, 0, none⟩ = some (.func (.func 61) #[.pointer (some ⟨p, 0, none⟩)] #[]) ∧ w2.cell? ⟨wx.heap.size, 1, none⟩ = some (.func (.func 62) #[.pointer (some ⟨p, 0, none⟩)] #[]) ∧ w2.cell? ⟨wx.heap.size, 2, none⟩ = some (.func (.func 63) #[.pointer (some ⟨p, 0, none⟩)] #[]) from by
    have hs : wx.heap.size < wA.heap.size := by rw [hwA]; simp
    have key : ∀ i, w2.cell? ⟨wx.heap.size, i, none⟩ = _ := fun i => (F.cell (p := ⟨wx.heap.size, i, none⟩) hs (by simp)).trans (by rw [hwA, Go.Joins.cell_of_block (heap_alloc_new wx _)])
    exact ⟨by rw [key]; rfl, by rw [key]; rfl, by rw [key]; rfl⟩)
  obtain ⟨k0, k1, k2⟩ := HK.out wA (Fr.refl _ _)
  go_enter Tryz.func32, Tryz.ntmps32
  go_wp2_with fail
  rw [← hwA]
  clear hwA
  refine wp_loop_rounds 4 ?_
  rw [rounds_succ]
  obtain ⟨v1, W1, -, -⟩ := T1.out
  go_wp2_with (go_at_call 61; refine (packs0_any wA lo p v1 bs pk cs es W1).mono ?_; rintro e w2 ⟨rfl, rfl⟩)
  rw [rounds_succ]
  go_wp2_with (go_at_call 62; refine (folders0_any wA lo p v1 bs pk cs es W1).mono ?_; rintro e w2 ⟨rfl, rfl⟩)
  rw [rounds_succ]
  go_wp2_with (go_at_call 63; refine (subs0_any wA lo p v1 bs pk cs es W1).mono ?_; rintro e w2 ⟨rfl, F2⟩)
  have T2 := T1.then0 F2
  rw [rounds_succ]
  go_wp2_with (go_at_call 31; refine (wput_any (T2.then0 ((Fr.refl _ _).alloc _)) _ [0] (sl_one _ _ _) (by simp; omega)).mono ?_; rintro e w7 ⟨rfl, T7⟩)
  go_ret
  exact ⟨rfl, T7⟩
end Go.Proofs.YtkodindajfdagaaGreatDoor
