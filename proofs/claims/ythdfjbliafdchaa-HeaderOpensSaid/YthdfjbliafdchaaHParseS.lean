/- Contracts: Parse of two headers that the document fixes. No condition. -/
import Derived.Test.YthdfjbliafdchaaHAwake
namespace Go.Proofs.Ythdfjbliafdchaa
open Go.RowKit

theorem bby1 (w : World) (p cp : Nat) (q : Option Nat) (d : DV) (h : RdAt w p cp q (bB 1 0) d) :
    Calls Try.prog 28 #[.pointer (some ⟨p, 0, none⟩)] w fun r w' => r = .returned (.int .i64 5) ∧ RdAt w' p cp q (bB 2 0) d ∧ Fr [cp] w w' := by
  have := byte_any w p cp q (bB 1 0) d h (bB_len _ _)
  rw [show (bB 1 0).byte = (5, bB 2 0) by kernel_rfl] at this
  exact this
theorem bby0 (w : World) (p cp : Nat) (q : Option Nat) (d : DV) (h : RdAt w p cp q (bB 0 0) d) :
    Calls Try.prog 28 #[.pointer (some ⟨p, 0, none⟩)] w fun r w' => r = .returned (.int .i64 1) ∧ RdAt w' p cp q (bB 1 0) d ∧ Fr [cp] w w' := by
  have := byte_any w p cp q (bB 0 0) d h (bB_len _ _)
  rw [show (bB 0 0).byte = (1, bB 1 0) by kernel_rfl] at this
  exact this
theorem bend (w : World) (p cp : Nat) (q : Option Nat) (d : DV) (h : RdAt w p cp q (bB 5 5) d) :
    Calls Try.prog 50 #[.pointer (some ⟨p, 0, none⟩), .int .i64 0] w fun e w' => e = .returned (.tuple #[]) ∧ RdAt w' p cp q (bB 5 5) d ∧ Fr [p, cp] w w' := end_any w p cp q (bB 5 5) d 0 h
theorem bnok (w : World) (p cp : Nat) (q : Option Nat) (d : DV) (h : RdAt w p cp q (bB 5 5) d) :
    Calls Try.prog 31 #[.pointer (some ⟨p, 0, none⟩)] w fun r w' => r = .returned (.bool false) ∧ RdAt w' p cp q (bB 5 5) d ∧ Fr [p] w w' := ok_any w p cp q (bB 5 5) d h

set_option maxRecDepth 100000 in
set_option maxHeartbeats 1000000 in
theorem all_b (w : World) (p cp : Nat) (q : Option Nat) (d : DV) (h : RdAt w p cp q (bB 1 0) d) :
    Calls Try.prog 29 #[.pointer (some ⟨p, 0, none⟩)] w fun e w' => e = .returned (.tuple #[]) ∧ (∃ es, RdAt w' p cp q (bB 5 5) { d with es := es }) ∧ Fr [p, cp] w w' := by
  have HR0 := Lib.hid h
  clear h
  go_enter Try.func29, Try.ntmps29
  go_wp2_with (first
    | (have hq := R4; go_at_call 50; refine (bend _ p cp q _ R4).mono ?_; rintro e w5 ⟨rfl, R5, F5⟩)
    | (have hq := R3; go_at_call 28; refine (bby4 _ p cp q _ R3).mono ?_; rintro e w4 ⟨rfl, R4, F4⟩)
    | (have hq := R2; go_at_call 49; refine (files_b _ p cp q _ R2).mono ?_; rintro e w3 ⟨rfl, ⟨es, R3⟩, F3⟩)
    | (have hq := R1; go_at_call 31; refine (bok 2 _ p cp q _ R1).mono ?_; rintro e w2 ⟨rfl, R2, F2⟩)
    | (go_at_call 28; refine (bby1 _ p cp q _ HR0.out).mono ?_; rintro e w1 ⟨rfl, R1, F1⟩))
  go_end0
  exact ⟨rfl, ⟨_, R5⟩, (((F1.two2.tr2 F2.two1).tr2 F3).tr2 F4.two2).tr2 F5⟩

def bA (n : Nat) : Rs := ⟨⟨[1, 0], n, 0⟩, 0⟩
theorem bA_len (n : Nat) : (bA n).c.b.length ≤ 10000000 := by show 2 ≤ 10000000; decide
theorem aby0 (w : World) (p cp : Nat) (q : Option Nat) (d : DV) (h : RdAt w p cp q (bA 0) d) :
    Calls Try.prog 28 #[.pointer (some ⟨p, 0, none⟩)] w fun r w' => r = .returned (.int .i64 1) ∧ RdAt w' p cp q (bA 1) d ∧ Fr [cp] w w' := by
  have := byte_any w p cp q (bA 0) d h (bA_len _)
  rw [show (bA 0).byte = (1, bA 1) by kernel_rfl] at this
  exact this
theorem aby1 (w : World) (p cp : Nat) (q : Option Nat) (d : DV) (h : RdAt w p cp q (bA 1) d) :
    Calls Try.prog 28 #[.pointer (some ⟨p, 0, none⟩)] w fun r w' => r = .returned (.int .i64 0) ∧ RdAt w' p cp q (bA 2) d ∧ Fr [cp] w w' := by
  have := byte_any w p cp q (bA 1) d h (bA_len _)
  rw [show (bA 1).byte = (0, bA 2) by kernel_rfl] at this
  exact this
theorem aend (w : World) (p cp : Nat) (q : Option Nat) (d : DV) (h : RdAt w p cp q (bA 2) d) :
    Calls Try.prog 50 #[.pointer (some ⟨p, 0, none⟩), .int .i64 0] w fun e w' => e = .returned (.tuple #[]) ∧ RdAt w' p cp q (bA 2) d ∧ Fr [p, cp] w w' := end_any w p cp q (bA 2) d 0 h
theorem aok (w : World) (p cp : Nat) (q : Option Nat) (d : DV) (h : RdAt w p cp q (bA 2) d) :
    Calls Try.prog 31 #[.pointer (some ⟨p, 0, none⟩)] w fun r w' => r = .returned (.bool true) ∧ RdAt w' p cp q (bA 2) d ∧ Fr [p] w w' := ok_any w p cp q (bA 2) d h
theorem aleft (w : World) (p cp : Nat) (q : Option Nat) (d : DV) (h : RdAt w p cp q (bA 2) d) :
    Calls Try.prog 33 #[.pointer (some ⟨cp, 0, none⟩)] w fun e w' => e = .returned (.int .i64 0) ∧ Same w w' := left_any w cp q (bA 2).c h.cur

set_option maxRecDepth 100000 in
set_option maxHeartbeats 1000000 in
theorem all_a (w : World) (p cp : Nat) (q : Option Nat) (d : DV) (h : RdAt w p cp q (bA 1) d) :
    Calls Try.prog 29 #[.pointer (some ⟨p, 0, none⟩)] w fun e w' => e = .returned (.tuple #[]) ∧ RdAt w' p cp q (bA 2) d ∧ Fr [p, cp] w w' := by
  have HR0 := Lib.hid h
  clear h
  go_enter Try.func29, Try.ntmps29
  go_wp2_with (first
    | (have hq := R1; go_at_call 50; refine (aend _ p cp q _ R1).mono ?_; rintro e w5 ⟨rfl, R5, F5⟩)
    | (go_at_call 28; refine (aby1 _ p cp q _ HR0.out).mono ?_; rintro e w1 ⟨rfl, R1, F1⟩))
  go_end0
  exact ⟨rfl, R5, F1.two2.tr2 F5⟩

/-- No files, no streams. -/
def D0 : DV := ⟨.bool false, .int .u64 0, .slice none 0 0, .slice none 0 0, .slice none 0 0, .slice none 0 0, .slice none 0 0⟩

set_option maxRecDepth 100000 in
set_option maxHeartbeats 1000000 in
theorem count_a (w : World) (p cp : Nat) (q : Option Nat) (h : RdAt w p cp q (bA 2) D0) :
    Calls Try.prog 34 #[.pointer (some ⟨p, 0, none⟩)] w fun e w' => e = .returned (.tuple #[]) ∧ Fr [] w w' := by
  obtain ⟨-, -, -, -, -, -, -, c7, c8, cf⟩ := cells9 h.blk
  have c7' : w.cell? ⟨p, 7, none⟩ = some (.slice none 0 0) := c7
  have c8' : w.cell? ⟨p, 8, none⟩ = some (.slice none 0 0) := c8
  clear h c7 c8
  go_enter Try.func34, Try.ntmps34
  go_wp2_with fail
  go_loopw [2, 13] (fun n i wr => n = .int .i64 0 ∧ i = .int .i64 0 ∧ wr = w) (fun _ _ _ => 0)
  case atStart => exact ⟨rfl, rfl, rfl⟩
  case round =>
    obtain ⟨rfl, rfl, rfl⟩ := hrel
    go_wp2_with fail
    go_loopw [2, 28] (fun n i wq => n = .int .i64 0 ∧ i = .int .i64 0 ∧ wq = wr) (fun _ _ _ => 0)
    case atStart => exact ⟨rfl, rfl, rfl⟩
    case round =>
      obtain ⟨rfl, rfl, rfl⟩ := hrel
      go_wp2_with fail
      go_end0
      exact ⟨rfl, Fr.refl _ _⟩

/-- What is handed back lies in a block of seven cells. -/
theorem cells7 {w : World} {g : Nat} {t : TypeId} {a0 a1 a2 a3 a4 a5 a6 : Value} (h : w.heap[g]? = some (.cells #[a0, a1, a2, a3, a4, a5, a6] t (0, 0))) :
    w.cell? ⟨g, 0, none⟩ = some a0 ∧ w.cell? ⟨g, 1, none⟩ = some a1 ∧ w.cell? ⟨g, 2, none⟩ = some a2 ∧ w.cell? ⟨g, 3, none⟩ = some a3 ∧ w.cell? ⟨g, 4, none⟩ = some a4 ∧ w.cell? ⟨g, 5, none⟩ = some a5 ∧ w.cell? ⟨g, 6, none⟩ = some a6 ∧ (∀ j, w.frozen? ⟨g, j, none⟩ = false) :=
  ⟨by simp [Go.Joins.cell_of_block h], by simp [Go.Joins.cell_of_block h], by simp [Go.Joins.cell_of_block h], by simp [Go.Joins.cell_of_block h], by simp [Go.Joins.cell_of_block h], by simp [Go.Joins.cell_of_block h], by simp [Go.Joins.cell_of_block h], fun j => Go.Joins.unfrozen_of_block h j⟩

def zD : Array Value := #[.bool false, .int .u64 0, .slice none 0 0, .slice none 0 0, .slice none 0 0, .slice none 0 0, .slice none 0 0]

/-- The block of what is handed back is written with zeros. -/
def zF (w : World) (g : Nat) : World := ((((((w.setCell ⟨g, 0, none⟩ (.bool false)).setCell ⟨g, 1, none⟩ (.int .u64 0)).setCell ⟨g, 2, none⟩ (.slice none 0 0)).setCell ⟨g, 3, none⟩ (.slice none 0 0)).setCell ⟨g, 4, none⟩ (.slice none 0 0)).setCell ⟨g, 5, none⟩ (.slice none 0 0)).setCell ⟨g, 6, none⟩ (.slice none 0 0)
set_option maxRecDepth 100000 in
set_option maxHeartbeats 2000000 in
theorem zF_cells {w : World} {g : Nat} {t : TypeId} {a0 a1 a2 a3 a4 a5 a6 : Value} (h : w.heap[g]? = some (.cells #[a0, a1, a2, a3, a4, a5, a6] t (0, 0))) :
    (zF w g).cell? ⟨g, 0, none⟩ = some (.bool false) ∧ (zF w g).cell? ⟨g, 1, none⟩ = some (.int .u64 0) ∧ (zF w g).cell? ⟨g, 2, none⟩ = some (.slice none 0 0) ∧ (zF w g).cell? ⟨g, 3, none⟩ = some (.slice none 0 0) ∧ (zF w g).cell? ⟨g, 4, none⟩ = some (.slice none 0 0) ∧ (zF w g).cell? ⟨g, 5, none⟩ = some (.slice none 0 0) ∧ (zF w g).cell? ⟨g, 6, none⟩ = some (.slice none 0 0) ∧ Fr [g] w (zF w g) := by
  have hb : (zF w g).heap[g]? = some (.cells #[.bool false, .int .u64 0, .slice none 0 0, .slice none 0 0, .slice none 0 0, .slice none 0 0, .slice none 0 0] t (0, 0)) :=
    Go.Joins.block_setCell (Go.Joins.block_setCell (Go.Joins.block_setCell (Go.Joins.block_setCell (Go.Joins.block_setCell (Go.Joins.block_setCell (Go.Joins.block_setCell h _) _) _) _) _) _) _
  obtain ⟨r0, r1, r2, r3, r4, r5, r6, -⟩ := cells7 hb
  exact ⟨r0, r1, r2, r3, r4, r5, r6, (((((((Fr.refl _ _).setCell (by simp) _).setCell (by simp) _).setCell (by simp) _).setCell (by simp) _).setCell (by simp) _).setCell (by simp) _).setCell (by simp) _⟩

set_option maxRecDepth 100000 in
set_option maxHeartbeats 2000000 in
theorem parse_a (w : World) (v : Value) (h : Sl w v (bv [1, 0])) :
    Calls Try.prog 12 #[v] w fun e w' => e = .returned (.tuple #[.agg #[.bool false, .int .u64 0, .slice none 0 0, .slice none 0 0, .slice none 0 0, .slice none 0 0, .slice none 0 0], .int .i64 0]) ∧ Fr [] w w' := by
  have HV := Lib.hid h
  obtain ⟨ao, cap, rfl, -⟩ := h.out
  clear h
  rw [show (bv [1, 0]).length = 2 from rfl] at HV ⊢
  go_enter Try.func12, Try.ntmps12
  go_upto_region 3 with fail
  obtain ⟨w1, hw1⟩ : ∃ w1, w1 = w.alloc (Obj.cells #[.bool false, .int .u64 0, .slice none 0 0, .slice none 0 0, .slice none 0 0, .slice none 0 0, .slice none 0 0] 36) := ⟨_, rfl⟩
  rw [← hw1]
  have F1 : Fr [] w w1 := hw1 ▸ (Fr.refl _ _).alloc _
  have B1 : w1.heap[w.heap.size]? = some (.cells #[.bool false, .int .u64 0, .slice none 0 0, .slice none 0 0, .slice none 0 0, .slice none 0 0, .slice none 0 0] 36 (0, 0)) := hw1 ▸ heap_alloc_new w _
  have s1 : w1.heap.size = w.heap.size + 1 := by rw [hw1]; simp
  clear hw1
  go_upto_region 4 with (go_at_call 22; refine (new_any w1 _ [1, 0] (HV.out.fr0 F1) (by decide)).mono ?_; rintro e w2 ⟨cp, q, rfl, hcp, hq, hC, F2⟩)
  obtain ⟨w3, hw3⟩ : ∃ w3, w3 = w2.alloc (Obj.cells #[.pointer (some ⟨cp, 0, none⟩), .int .i64 0, .bool false, .int .u64 0, .slice none 0 0, .slice none 0 0, .slice none 0 0, .slice none 0 0, .slice none 0 0] 72) := ⟨_, rfl⟩
  rw [← hw3]
  have F3 : Fr [] w2 w3 := hw3 ▸ (Fr.refl _ _).alloc _
  have hcl := hC.lt
  have R3 : RdAt w3 w2.heap.size cp q (bA 0) D0 := ⟨hw3 ▸ heap_alloc_new w2 _, hC.fr F3 (by simp) (by simp), by omega, fun e => by have := (hq _ e).2; omega, fun k hk => by have := (hq k hk).2; have := F3.size; omega⟩
  obtain ⟨p, hp⟩ : ∃ p, w2.heap.size = p := ⟨_, rfl⟩
  rw [hp] at R3 hcl ⊢
  have F03 : Fr [] w w3 := (F1.trans0 F2).trans0 F3
  have B3 := (F3.block _ (by have := F2.size; omega) (by simp)).trans ((F2.block _ (by omega) (by simp)).trans B1)
  clear hw3 hp hC F3 F2 B1 F1
  have hgp : w.heap.size < p ∧ w.heap.size < cp := by omega
  go_wp2_with (first
    | (have hq := F9; go_at_call 34; refine (count_a _ p cp q R9).mono ?_; rintro e w10 ⟨rfl, G10⟩; have R10 := R9.fr0 G10; have F10 := F9.trans0 G10; obtain ⟨-, k1, k2, k3, k4, k5, k6, k7, k8, kf⟩ := cells9 R10.blk; simp only [D0, bA] at k1 k2 k3 k4 k5 k6 k7 k8; have B10 := (F10.block _ (Array.getElem?_eq_some_iff.1 B3).1 (by simp; omega)).trans B3; obtain ⟨i0, i1, i2, i3, i4, i5, i6, iz⟩ := cells7 B10)
    | (have hq := F8; go_at_call 31; refine (aok _ p cp q _ R8).mono ?_; rintro e w9 ⟨rfl, R9, G9⟩; have F9 := F8.tr2 G9.two1; have j2 : w9.cell? ⟨p, 2, none⟩ = some (.bool false) := (cells9 R9.blk).2.2.1)
    | (have hq := F7; go_at_call 33; refine (aleft _ p cp q _ R7).mono ?_; rintro e w8 ⟨rfl, G8⟩; have R8 := R7.same G8; have F8 := F7.trans0 G8.fr)
    | (have hq := F6; go_at_call 31; refine (aok _ p cp q _ R6).mono ?_; rintro e w7 ⟨rfl, R7, G7⟩; have F7 := F6.tr2 G7.two1; obtain ⟨j0, -⟩ := cells9 R7.blk)
    | (have hq := F5; go_at_call 29; refine (all_a _ p cp q _ R5).mono ?_; rintro e w6 ⟨rfl, R6, G6⟩; have F6 := F5.tr2 G6)
    | (go_at_call 28; refine (aby0 _ p cp q _ R3).mono ?_; rintro e w5 ⟨rfl, R5, G5⟩; have F5 : Fr [p, cp] w3 w5 := G5.two2))
  obtain ⟨r0, r1, r2, r3, r4, r5, r6, FF⟩ := zF_cells B10
  obtain ⟨wF, hwF⟩ : ∃ wF, wF = zF w10 w.heap.size := ⟨_, rfl⟩
  rw [← hwF] at r0 r1 r2 r3 r4 r5 r6 FF
  rw [zF] at hwF
  rw [← hwF]
  refine bodyPost_ret (v := .tuple #[.agg #[.bool false, .int .u64 0, .slice none 0 0, .slice none 0 0, .slice none 0 0, .slice none 0 0, .slice none 0 0], .int .i64 0]) (by simp [results, Try.results12, go_sem, r0, r1, r2, r3, r4, r5, r6]) rfl ?_
  exact ⟨rfl, (F03.trans F10 (by simp; omega)).trans FF (by simp)⟩
set_option maxRecDepth 100000 in
set_option maxHeartbeats 2000000 in
theorem parse_b (w : World) (v : Value) (h : Sl w v (bv [1, 5, 1, 0, 0])) :
    Calls Try.prog 12 #[v] w fun e w' => e = .returned (.tuple #[.agg #[.bool false, .int .u64 0, .slice none 0 0, .slice none 0 0, .slice none 0 0, .slice none 0 0, .slice none 0 0], .int .i64 5]) ∧ Fr [] w w' := by
  have HV := Lib.hid h
  obtain ⟨ao, cap, rfl, -⟩ := h.out
  clear h
  rw [show (bv [1, 5, 1, 0, 0]).length = 5 from rfl] at HV ⊢
  go_enter Try.func12, Try.ntmps12
  go_upto_region 3 with fail
  obtain ⟨w1, hw1⟩ : ∃ w1, w1 = w.alloc (Obj.cells #[.bool false, .int .u64 0, .slice none 0 0, .slice none 0 0, .slice none 0 0, .slice none 0 0, .slice none 0 0] 36) := ⟨_, rfl⟩
  rw [← hw1]
  have F1 : Fr [] w w1 := hw1 ▸ (Fr.refl _ _).alloc _
  have B1 : w1.heap[w.heap.size]? = some (.cells #[.bool false, .int .u64 0, .slice none 0 0, .slice none 0 0, .slice none 0 0, .slice none 0 0, .slice none 0 0] 36 (0, 0)) := hw1 ▸ heap_alloc_new w _
  have s1 : w1.heap.size = w.heap.size + 1 := by rw [hw1]; simp
  clear hw1
  go_upto_region 4 with (go_at_call 22; refine (new_any w1 _ [1, 5, 1, 0, 0] (HV.out.fr0 F1) (by decide)).mono ?_; rintro e w2 ⟨cp, q, rfl, hcp, hq, hC, F2⟩)
  obtain ⟨w3, hw3⟩ : ∃ w3, w3 = w2.alloc (Obj.cells #[.pointer (some ⟨cp, 0, none⟩), .int .i64 0, .bool false, .int .u64 0, .slice none 0 0, .slice none 0 0, .slice none 0 0, .slice none 0 0, .slice none 0 0] 72) := ⟨_, rfl⟩
  rw [← hw3]
  have F3 : Fr [] w2 w3 := hw3 ▸ (Fr.refl _ _).alloc _
  have hcl := hC.lt
  have R3 : RdAt w3 w2.heap.size cp q (bB 0 0) D0 := ⟨hw3 ▸ heap_alloc_new w2 _, hC.fr F3 (by simp) (by simp), by omega, fun e => by have := (hq _ e).2; omega, fun k hk => by have := (hq k hk).2; have := F3.size; omega⟩
  obtain ⟨p, hp⟩ : ∃ p, w2.heap.size = p := ⟨_, rfl⟩
  rw [hp] at R3 hcl ⊢
  have F03 : Fr [] w w3 := (F1.trans0 F2).trans0 F3
  have B3 := (F3.block _ (by have := F2.size; omega) (by simp)).trans ((F2.block _ (by omega) (by simp)).trans B1)
  clear hw3 hp hC F3 F2 B1 F1
  have hgp : w.heap.size < p ∧ w.heap.size < cp := by omega
  go_wp2_with (first
    | (have hq := F7; go_at_call 31; refine (bnok _ p cp q _ R7).mono ?_; rintro e w8 ⟨rfl, R8, G8⟩; have F8 := F7.tr2 G8.two1; have k1 : w8.cell? ⟨p, 1, none⟩ = some (.int .i64 5) := (cells9 R8.blk).2.1; have B8 := (F8.block _ (Array.getElem?_eq_some_iff.1 B3).1 (by simp; omega)).trans B3; obtain ⟨i0, i1, i2, i3, i4, i5, i6, iz⟩ := cells7 B8)
    | (have hq := F6; go_at_call 31; refine (bnok _ p cp q _ R6).mono ?_; rintro e w7 ⟨rfl, R7, G7⟩; have F7 := F6.tr2 G7.two1)
    | (have hq := F5; go_at_call 29; refine (all_b _ p cp q _ R5).mono ?_; rintro e w6 ⟨rfl, ⟨es, R6⟩, G6⟩; have F6 := F5.tr2 G6)
    | (go_at_call 28; refine (bby0 _ p cp q _ R3).mono ?_; rintro e w5 ⟨rfl, R5, G5⟩; have F5 : Fr [p, cp] w3 w5 := G5.two2))
  have hne : ¬ p = w.heap.size := by omega
  have hne2 : ¬ w.heap.size = p := by omega
  clear R3 R5 R6 R7 R8
  go_region
  all_goals
    go_wp2_with fail
    obtain ⟨r0, r1, r2, r3, r4, r5, r6, FF⟩ := zF_cells B8
    obtain ⟨wF, hwF⟩ : ∃ wF, wF = (zF w8 w.heap.size).drew := ⟨_, rfl⟩
    rw [← World.cell?_drew, ← hwF] at r0 r1 r2 r3 r4 r5 r6
    replace FF : Fr [w.heap.size] w8 wF := hwF ▸ FF.drew
    rw [zF] at hwF
    rw [← hwF]
    refine bodyPost_ret (v := .tuple #[.agg #[.bool false, .int .u64 0, .slice none 0 0, .slice none 0 0, .slice none 0 0, .slice none 0 0, .slice none 0 0], .int .i64 5]) (by simp [results, Try.results12, go_sem, r0, r1, r2, r3, r4, r5, r6]) rfl ?_
    exact ⟨rfl, (F03.trans F8 (by simp; omega)).trans FF (by simp)⟩
end Go.Proofs.Ythdfjbliafdchaa
