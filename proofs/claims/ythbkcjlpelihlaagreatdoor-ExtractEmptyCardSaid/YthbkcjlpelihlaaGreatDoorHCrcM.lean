/- Contracts: the sums of layer 2: the table, made once. No condition. -/
import Derived.Test.YthbkcjlpelihlaaGreatDoorHCrcPM
import Derived.Test.YthbkcjlpelihlaaGreatDoorGAB
import Derived.Defers
import Derived.Laws.Pointers
import Derived.Laws.LoneSync
import Derived.RegionTactic
import Derived.RegionCalls
import Derived.Lib.SmallJoins
namespace Go.Proofs.YthbkcjlpelihlaaGreatDoor
open Go.RowKit

/-- A sum in block p: whether the table is made; the lock; what it is now; k entries of the table are made. -/
def SumC (C : Array Value) (dn lk now k : Nat) : Prop :=
  C.size = 261 ∧ C[0]? = some (.int .u32 (dn : Int)) ∧ C[1]? = some (.int .i32 (lk : Int)) ∧ (∀ j, j < 256 → ∃ x : Int, C[3 + j]? = some (.int .u32 x)) ∧ (∀ j, j < k → C[3 + j]? = some (.int .u32 (bitN 8 j : Int))) ∧ C[259]? = some (.int .u32 (now : Int)) ∧ ∃ c : Int, C[260]? = some (.int .i64 c)
def SumAt (w : World) (p dn lk now k : Nat) : Prop := ∃ C : Array Value, w.heap[p]? = some (.cells C 167 (0, 0)) ∧ SumC C dn lk now k

theorem SumAt.lt {w : World} {p dn lk now k : Nat} (h : SumAt w p dn lk now k) : p < w.heap.size := by obtain ⟨C, h1, -⟩ := h; exact (Array.getElem?_eq_some_iff.1 h1).1
theorem SumAt.fr {w w' : World} {p dn lk now k : Nat} {S : List Nat} (h : SumAt w p dn lk now k) (F : Fr S w w') (hS : p ∉ S) : SumAt w' p dn lk now k := by
  obtain ⟨C, h1, h2⟩ := h
  exact ⟨C, (F.block p (Array.getElem?_eq_some_iff.1 h1).1 hS).trans h1, h2⟩
theorem SumAt.cells {w : World} {p dn lk now k : Nat} (h : SumAt w p dn lk now k) :
    w.cell? ⟨p, 0, none⟩ = some (.int .u32 (dn : Int)) ∧ w.cell? ⟨p, 1, none⟩ = some (.int .i32 (lk : Int)) ∧ w.cell? ⟨p, 259, none⟩ = some (.int .u32 (now : Int)) ∧ (∃ c : Int, w.cell? ⟨p, 260, none⟩ = some (.int .i64 c)) ∧ (∀ j, w.frozen? ⟨p, j, none⟩ = false) ∧ (∀ j, j < 256 → ∃ x : Int, w.cell? ⟨p, 3 + j, none⟩ = some (.int .u32 x)) ∧ (∀ j, j < k → w.cell? ⟨p, 3 + j, none⟩ = some (.int .u32 (bitN 8 j : Int))) := by
  obtain ⟨C, h1, h2, h3, h4, h5, h6, h7, c, h8⟩ := h
  refine ⟨by rw [Go.Joins.cell_of_block h1]; exact h3, by rw [Go.Joins.cell_of_block h1]; exact h4, by rw [Go.Joins.cell_of_block h1]; exact h7, ⟨c, by rw [Go.Joins.cell_of_block h1]; exact h8⟩, fun j => Go.Joins.unfrozen_of_block h1 j, fun j hj => ?_, fun j hj => ?_⟩
  · rw [Go.Joins.cell_of_block h1]; exact h5 j hj
  · rw [Go.Joins.cell_of_block h1]; exact h6 j hj
theorem SumAt.lock {w : World} {p dn lk now k : Nat} (h : SumAt w p dn lk now k) (lk2 : Nat) : SumAt (w.setCell ⟨p, 1, none⟩ (.int .i32 (lk2 : Int))) p dn lk2 now k := by
  obtain ⟨C, h1, h2, h3, h4, h5, h6, h7, c, h8⟩ := h
  refine ⟨_, Go.Joins.block_setCell h1 _, by simp [h2], by simp [h3], by simp [h2], fun j hj => ?_, fun j hj => ?_, by simp [h7], c, by simp [h8]⟩
  · rw [Array.getElem?_setIfInBounds_ne (by omega)]; exact h5 j hj
  · rw [Array.getElem?_setIfInBounds_ne (by omega)]; exact h6 j hj
theorem SumAt.did {w : World} {p dn lk now k : Nat} (h : SumAt w p dn lk now k) (dn2 : Nat) : SumAt (w.setCell ⟨p, 0, none⟩ (.int .u32 (dn2 : Int))) p dn2 lk now k := by
  obtain ⟨C, h1, h2, h3, h4, h5, h6, h7, c, h8⟩ := h
  refine ⟨_, Go.Joins.block_setCell h1 _, by simp [h2], by simp [h2], by simp [h4], fun j hj => ?_, fun j hj => ?_, by simp [h7], c, by simp [h8]⟩
  · rw [Array.getElem?_setIfInBounds_ne (by omega)]; exact h5 j hj
  · rw [Array.getElem?_setIfInBounds_ne (by omega)]; exact h6 j hj
theorem SumAt.now' {w : World} {p dn lk now k : Nat} (h : SumAt w p dn lk now k) (hk : k ≤ 256) (n2 : Nat) : SumAt (w.setCell ⟨p, 259, none⟩ (.int .u32 (n2 : Int))) p dn lk n2 k := by
  obtain ⟨C, h1, h2, h3, h4, h5, h6, h7, c, h8⟩ := h
  refine ⟨_, Go.Joins.block_setCell h1 _, by simp [h2], by simp [h3], by simp [h4], fun j hj => ?_, fun j hj => ?_, by simp [h2], c, by simp [h8]⟩
  · rw [Array.getElem?_setIfInBounds_ne (by omega)]; exact h5 j hj
  · rw [Array.getElem?_setIfInBounds_ne (by omega)]; exact h6 j hj
theorem SumAt.count {w : World} {p dn lk now k : Nat} (h : SumAt w p dn lk now k) (hk : k ≤ 256) (c2 : Int) : SumAt (w.setCell ⟨p, 260, none⟩ (.int .i64 c2)) p dn lk now k := by
  obtain ⟨C, h1, h2, h3, h4, h5, h6, h7, c, h8⟩ := h
  refine ⟨_, Go.Joins.block_setCell h1 _, by simp [h2], by simp [h3], by simp [h4], fun j hj => ?_, fun j hj => ?_, by simp [h7], c2, by simp [h2]⟩
  · rw [Array.getElem?_setIfInBounds_ne (by omega)]; exact h5 j hj
  · rw [Array.getElem?_setIfInBounds_ne (by omega)]; exact h6 j hj
theorem SumAt.entry {w : World} {p dn lk now k : Nat} (h : SumAt w p dn lk now k) (hk : k < 256) : SumAt (w.setCell ⟨p, 3 + k, none⟩ (.int .u32 (bitN 8 k : Int))) p dn lk now (k + 1) := by
  obtain ⟨C, h1, h2, h3, h4, h5, h6, h7, c, h8⟩ := h
  refine ⟨_, Go.Joins.block_setCell h1 _, by simp [h2], by rw [Array.getElem?_setIfInBounds_ne (by omega)]; exact h3, by rw [Array.getElem?_setIfInBounds_ne (by omega)]; exact h4, fun j hj => ?_, fun j hj => ?_, by rw [Array.getElem?_setIfInBounds_ne (by omega)]; exact h7, c, by rw [Array.getElem?_setIfInBounds_ne (by omega)]; exact h8⟩
  · by_cases e : j = k
    · subst e; exact ⟨_, by rw [Array.getElem?_setIfInBounds_self_of_lt (by omega)]⟩
    · rw [Array.getElem?_setIfInBounds_ne (by omega)]; exact h5 j hj
  · by_cases e : j = k
    · subst e; rw [Array.getElem?_setIfInBounds_self_of_lt (by omega)]
    · rw [Array.getElem?_setIfInBounds_ne (by omega)]; exact h6 j (by omega)

def isU32 : Value → Bool
  | .int .u32 _ => true
  | _ => false
set_option maxRecDepth 100000 in
theorem crcnew_any (w : World) : Calls Tryz.prog 49 #[] w fun e w' => e = .returned (.pointer (some ⟨w.heap.size, 0, none⟩)) ∧ SumAt w' w.heap.size 0 0 4294967295 0 ∧ Fr [] w w' := by
  go_enter Tryz.func49, Tryz.ntmps49
  go_wp2_with fail
  go_ret
  refine ⟨rfl, ⟨_, heap_alloc_new w _, ?_⟩, (Fr.refl _ _).alloc _⟩
  refine ⟨by kernel_rfl, by kernel_rfl, by kernel_rfl, fun j hj => ?_, fun j hj => absurd hj (Nat.not_lt_zero _), by kernel_rfl, 0, by kernel_rfl⟩
  have key : ∀ i : Fin 256, ((Tryz.zeroCells167.setIfInBounds 259 (Value.int IntKind.u32 4294967295))[3 + i.val]?).map isU32 = some true := by decide +kernel
  have := key ⟨j, hj⟩
  revert this
  dsimp only
  cases h : (Tryz.zeroCells167.setIfInBounds 259 (Value.int IntKind.u32 4294967295))[3 + j]? with
  | none => intro h2; cases h2
  | some v =>
    intro h2
    cases v with
    | int k n =>
      cases k
      case u32 => exact ⟨n, rfl⟩
      all_goals simp [isU32] at h2
    | _ => simp [isU32] at h2

theorem poly_step (y : Nat) (hy : y < 4294967296) : bits .xor .u32 ((y : Int) / 2) (bits .and .u32 3988292384 (-bits .and .u32 (y : Int) 1 % 4294967296)) = ((bit1 y : Nat) : Int) := by
  have h1 : bits .and .u32 (y : Int) 1 = ((y % 2 : Nat) : Int) := by
    have := and_u32_nat y 1 hy (by omega)
    rw [Nat.and_one_is_mod] at this
    exact this
  have h2 : ((y : Int) / 2) = ((y / 2 : Nat) : Int) := by omega
  rw [h1, h2]
  rcases Nat.mod_two_eq_zero_or_one y with h | h
  · rw [h]
    have e : bits .and .u32 3988292384 (-((0 : Nat) : Int) % 4294967296) = ((0 : Nat) : Int) := by decide +kernel
    rw [e, xor_u32_nat _ _ (by omega) (by omega), Nat.xor_zero, bit1_even h]
  · rw [h]
    have e : bits .and .u32 3988292384 (-((1 : Nat) : Int) % 4294967296) = ((3988292384 : Nat) : Int) := by decide +kernel
    rw [e, xor_u32_nat _ _ (by omega) (by omega)]
    unfold bit1
    rw [if_pos h]

set_option maxRecDepth 100000 in
set_option maxHeartbeats 1000000 in
theorem fill_any (w : World) (p dn lk now : Nat) (h : SumAt w p dn lk now 0) :
    Calls Tryz.prog 113 #[.pointer (some ⟨p, 0, none⟩)] w fun e w' => e = .returned (.tuple #[]) ∧ SumAt w' p dn lk now 256 ∧ Fr [p] w w' := by
  have HS := Lib.hid h
  clear h
  go_enter Tryz.func113, Tryz.ntmps113
  go_wp2_with fail
  go_loopw [2, 3, 4] (fun _ _ i wr => ∃ (j : Nat), j ≤ 256 ∧ i = .int .i64 (j : Int) ∧ SumAt wr p dn lk now j ∧ Fr [p] w wr) (fun _ _ i _ => 256 - (intOf i).toNat)
  case atStart => exact ⟨0, by omega, rfl, HS.out, Fr.refl _ _⟩
  case round =>
    obtain ⟨j, hj, rfl, S, F⟩ := hrel
    by_cases hlt : j < 256
    · have hltI : (j : Int) < 256 := by omega
      go_wp2_with fail
      go_loopw [3, 9] (fun x i wq => ∃ (k : Nat), k ≤ 8 ∧ x = .int .u32 (bitN k j : Int) ∧ i = .int .i64 (k : Int) ∧ wq = wr) (fun _ i _ => 8 - (intOf i).toNat)
      case atStart => exact ⟨0, by omega, rfl, rfl, rfl⟩
      case round =>
        obtain ⟨k, hk, rfl, rfl, rfl⟩ := hrel
        by_cases hlk : k < 8
        · have hlkI : (k : Int) < 8 := by omega
          have HP := Lib.hid (poly_step (bitN k j) (bitN_lt (by omega) k))
          clear S
          go_wp2_with fail
          go_roundw
          case rel => exact ⟨k + 1, by omega, by rw [HP.out]; rfl, by go_num, by trivial⟩
          case measure => simp [intOf]; omega
        · obtain rfl : k = 8 := by omega
          have S2 := S.entry hlt
          have F2 : Fr [p] w (wr.setCell ⟨p, 3 + j, none⟩ (.int .u32 (bitN 8 j : Int))) := F.setCell (.inl (by simp)) _
          obtain ⟨c0, c1, cn, -, cf, ct, -⟩ := S.cells
          obtain ⟨x, hx⟩ := ct j hlt
          clear c0 c1 cn ct S F hlk hk
          go_wp2_with fail
          go_roundw
          case rel => exact ⟨j + 1, by omega, by go_num, S2, F2⟩
          case measure => simp [intOf]; omega
    · obtain rfl : j = 256 := by omega
      go_wp2_with fail
      go_end0
      exact ⟨rfl, S, F⟩

theorem o_disable (w : World) : (callFunc 310 #[]).run Tryz.prog w = .ok (.value (.tuple #[])) w := run_call_mark0 Tryz.func310 (by kernel_rfl) (by kernel_rfl) (by kernel_rfl) .disable (by kernel_rfl) w
theorem o_enable (w : World) : (callFunc 312 #[]).run Tryz.prog w = .ok (.value (.tuple #[])) w := run_call_mark0 Tryz.func312 (by kernel_rfl) (by kernel_rfl) (by kernel_rfl) .enable (by kernel_rfl) w
theorem o_acquire (a : Addr) (w : World) : (callFunc 313 #[.pointer (some a)]).run Tryz.prog w = .ok (.value (.tuple #[])) w := run_call_marked Tryz.func313 (by kernel_rfl) (by kernel_rfl) (by kernel_rfl) .acquire (by kernel_rfl) a w
theorem o_releaseMerge (a : Addr) (w : World) : (callFunc 315 #[.pointer (some a)]).run Tryz.prog w = .ok (.value (.tuple #[])) w := run_call_marked Tryz.func315 (by kernel_rfl) (by kernel_rfl) (by kernel_rfl) .releaseMerge (by kernel_rfl) a w

theorem store_deferred (a : Addr) (x : Value) (u : FrameMode) (w : World) (hc : w.cell? a = some x) (hz : w.frozen? a = false) :
    CallsD Tryz.prog 212 #[.pointer (some a), .bool true] u w fun e u' w' => u' = u ∧ (e = .returned (.tuple #[]) ∧ w' = w.drew.setCell a (.int .u32 1)) := by
  have hc' : w.drew.cell? a = some x := by go_simp
  have hz' : w.drew.frozen? a = false := by go_simp
  have hst := run_call_store (P := Tryz.prog) Tryz.func261 (by kernel_rfl) (by kernel_rfl) (by kernel_rfl) (by kernel_rfl) (k := .u32) (y := 1) hc' hz'
  go_enter_d Tryz.func212, Tryz.ntmps212
  go_wp2
  go_region_calls
  all_goals (go_end0; exact ⟨rfl, rfl⟩)

set_option maxRecDepth 100000 in
theorem unlock_deferred (a : Addr) (u : FrameMode) (w : World) (hc : w.cell? a = some (.int .i32 1)) (hz : w.frozen? a = false) :
    CallsD Tryz.prog 211 #[.pointer (some a)] u w fun e u' w' => u' = u ∧ (e = .returned (.tuple #[]) ∧ w' = w.setCell a (.int .i32 0)) := by
  have hd := o_disable
  have he := o_enable
  have hr := o_releaseMerge
  have hadd := run_call_add (P := Tryz.prog) Tryz.func316 (by kernel_rfl) (by kernel_rfl) (by kernel_rfl) .i32 (by kernel_rfl) (y := -1) (s := 0) hc hz (by simp [go_sem]; rfl)
  have hcv := run_convert_to_unsafe (P := Tryz.prog) (src := 418) (dst := 374) Tryz.underlying418 Tryz.underlying374 (by kernel_rfl) hc
  go_enter_d Tryz.func211, Tryz.ntmps211
  go_wp2
  go_end0
  go_wp2
  go_end0
  exact ⟨rfl, rfl⟩

set_option maxRecDepth 100000 in
theorem lock_free (a : Addr) (w : World) (hc : w.cell? a = some (.int .i32 0)) (hz : w.frozen? a = false) :
    Calls Tryz.prog 210 #[.pointer (some a)] w fun e w' => e = .returned (.tuple #[]) ∧ w' = w.setCell a (.int .i32 1) := by
  have hd := o_disable
  have he := o_enable
  have ha := o_acquire
  have hcas := run_call_cas_hit (P := Tryz.prog) Tryz.func311 (by kernel_rfl) (by kernel_rfl) (by kernel_rfl) .i32 (by kernel_rfl) (y := 1) hc hz
  have hc' : (w.setCell a (.int .i32 1)).cell? a = some (.int .i32 1) := World.cell?_setCell_same w a _ hc
  have hcv := run_convert_to_unsafe (P := Tryz.prog) (src := 418) (dst := 374) Tryz.underlying418 Tryz.underlying374 (by kernel_rfl) hc'
  go_enter Tryz.func210, Tryz.ntmps210
  go_wp2
  first | go_end0 | (simp only [Exit.inBlock, Exit.then]; refine bodyPost_ret (results_none rfl _ _ _) rfl ?_) | refine bodyPost_ret (results_none rfl _ _ _) rfl ?_
  go_wp2
  go_end0
  exact ⟨rfl, rfl⟩
end Go.Proofs.YthbkcjlpelihlaaGreatDoor
