/- Contracts: Parse of a header that says nothing. No condition. -/
import Derived.Test.YthbkcjlpelihlaaGreatDoorHRdBM
import Derived.Test.YthbkcjlpelihlaaGreatDoorGAD
import Derived.Deep.DeepCutAuto
namespace Go.Proofs.YthbkcjlpelihlaaGreatDoor
open Go.RowKit

def bA (n : Nat) : Rs := ⟨⟨[1, 0], n, 0⟩, 0⟩
theorem bA_len (n : Nat) : (bA n).c.b.length ≤ 10000000 := by show 2 ≤ 10000000; decide
theorem aby0 (w : World) (p cp : Nat) (q : Option Nat) (d : DV) (h : RdAt w p cp q (bA 0) d) :
    Calls Tryz.prog 175 #[.pointer (some ⟨p, 0, none⟩)] w fun r w' => r = .returned (.int .i64 1) ∧ RdAt w' p cp q (bA 1) d ∧ Fr [cp] w w' := by
  have := byte_any w p cp q (bA 0) d h (bA_len _)
  rw [show (bA 0).byte = (1, bA 1) by kernel_rfl] at this
  exact this
theorem aby1 (w : World) (p cp : Nat) (q : Option Nat) (d : DV) (h : RdAt w p cp q (bA 1) d) :
    Calls Tryz.prog 175 #[.pointer (some ⟨p, 0, none⟩)] w fun r w' => r = .returned (.int .i64 0) ∧ RdAt w' p cp q (bA 2) d ∧ Fr [cp] w w' := by
  have := byte_any w p cp q (bA 1) d h (bA_len _)
  rw [show (bA 1).byte = (0, bA 2) by kernel_rfl] at this
  exact this
theorem aend (w : World) (p cp : Nat) (q : Option Nat) (d : DV) (h : RdAt w p cp q (bA 2) d) :
    Calls Tryz.prog 219 #[.pointer (some ⟨p, 0, none⟩), .int .i64 0] w fun e w' => e = .returned (.tuple #[]) ∧ RdAt w' p cp q (bA 2) d ∧ Fr [p, cp] w w' := end_any w p cp q (bA 2) d 0 h
theorem aok (w : World) (p cp : Nat) (q : Option Nat) (d : DV) (h : RdAt w p cp q (bA 2) d) :
    Calls Tryz.prog 178 #[.pointer (some ⟨p, 0, none⟩)] w fun r w' => r = .returned (.bool true) ∧ RdAt w' p cp q (bA 2) d ∧ Fr [p] w w' := ok_any w p cp q (bA 2) d h
theorem aleft (w : World) (p cp : Nat) (q : Option Nat) (d : DV) (h : RdAt w p cp q (bA 2) d) :
    Calls Tryz.prog 174 #[.pointer (some ⟨cp, 0, none⟩)] w fun e w' => e = .returned (.int .i64 0) ∧ Same w w' := left_any w cp q (bA 2).c h.cur

set_option maxRecDepth 100000 in
set_option maxHeartbeats 1000000 in
theorem all_a (w : World) (p cp : Nat) (q : Option Nat) (d : DV) (h : RdAt w p cp q (bA 1) d) :
    Calls Tryz.prog 176 #[.pointer (some ⟨p, 0, none⟩)] w fun e w' => e = .returned (.tuple #[]) ∧ RdAt w' p cp q (bA 2) d ∧ Fr [p, cp] w w' := by
  have HR0 := Lib.hid h
  clear h
  go_enter Tryz.func176, Tryz.ntmps176
  go_wp2_with (first
    | (have hq := R1; go_at_call 219; refine (aend _ p cp q _ R1).mono ?_; rintro e w5 ⟨rfl, R5, F5⟩)
    | (go_at_call 175; refine (aby1 _ p cp q _ HR0.out).mono ?_; rintro e w1 ⟨rfl, R1, F1⟩))
  go_end0
  exact ⟨rfl, R5, F1.two2.tr2 F5⟩

/-- No files, no streams. -/
def D0 : DV := ⟨.bool false, .int .u64 0, .slice none 0 0, .slice none 0 0, .slice none 0 0, .slice none 0 0, .slice none 0 0⟩

set_option maxRecDepth 100000 in
set_option maxHeartbeats 1000000 in
theorem count_a (w : World) (p cp : Nat) (q : Option Nat) (h : RdAt w p cp q (bA 2) D0) :
    Calls Tryz.prog 180 #[.pointer (some ⟨p, 0, none⟩)] w fun e w' => e = .returned (.tuple #[]) ∧ Fr [] w w' := by
  obtain ⟨-, -, -, -, -, -, -, c7, c8, cf⟩ := cells9 h.blk
  have c7' : w.cell? ⟨p, 7, none⟩ = some (.slice none 0 0) := c7
  have c8' : w.cell? ⟨p, 8, none⟩ = some (.slice none 0 0) := c8
  clear h c7 c8
  go_enter Tryz.func180, Tryz.ntmps180
  go_wp2_with fail
  go_loopw [2, 13] (fun n i wr => n = .int .i64 0 ∧ i = .int .i64 0 ∧ wr = w) (fun _ _ _ => 0)
  case atStart => exact ⟨rfl, rfl, rfl⟩
  case round =>
    obtain ⟨rfl, rfl, rfl⟩ := hrel
    go_wp2_with fail
    go_loopw [2, 28] (fun n i wq => n = .int .i64 0 ∧ i = .int .i64 0 ∧ wq = wr) (fun _ _ _ => 0)
    case atStart => exact ⟨rfl, rfl, rfl⟩
    case round =>
      obtain ⟨rfl, rfl, rfl⟩ := hrel
      go_wp2_with fail
      go_end0
      exact ⟨rfl, Fr.refl _ _⟩

set_option maxRecDepth 100000 in
set_option maxHeartbeats 2000000 in
theorem parse_a (w : World) (v : Value) (h : Sl w v (bv [1, 0])) :
    Calls Tryz.prog 132 #[v] w fun e w' => e = .returned (.tuple #[.agg #[.bool false, .int .u64 0, .slice none 0 0, .slice none 0 0, .slice none 0 0, .slice none 0 0, .slice none 0 0], .int .i64 0]) ∧ Fr [] w w' := by
  have HV := Lib.hid h
  obtain ⟨ao, cap, rfl, -⟩ := h.out
  clear h
  rw [show (bv [1, 0]).length = 2 from rfl] at HV ⊢
  go_enter Tryz.func132, Tryz.ntmps132
  go_upto_region 3 with fail
  obtain ⟨w1, hw1⟩ : ∃ w1, w1 = w.alloc (Obj.cells #[.bool false, .int .u64 0, .slice none 0 0, .slice none 0 0, .slice none 0 0, .slice none 0 0, .slice none 0 0] 113) := ⟨_, rfl⟩
  rw [← hw1]
  have F1 : Fr [] w w1 := hw1 ▸ (Fr.refl _ _).alloc _
  have B1 : w1.heap[w.heap.size]? = some (.cells #[.bool false, .int .u64 0, .slice none 0 0, .slice none 0 0, .slice none 0 0, .slice none 0 0, .slice none 0 0] 113 (0, 0)) := hw1 ▸ heap_alloc_new w _
  have s1 : w1.heap.size = w.heap.size + 1 := by rw [hw1]; simp
  clear hw1
  go_upto_region 4 with (go_at_call 84; refine (new_any w1 _ [1, 0] (HV.out.fr0 F1) (by decide)).mono ?_; rintro e w2 ⟨cp, q, rfl, hcp, hq, hC, F2⟩)
  obtain ⟨w3, hw3⟩ : ∃ w3, w3 = w2.alloc (Obj.cells #[.pointer (some ⟨cp, 0, none⟩), .int .i64 0, .bool false, .int .u64 0, .slice none 0 0, .slice none 0 0, .slice none 0 0, .slice none 0 0, .slice none 0 0] 262) := ⟨_, rfl⟩
  rw [← hw3]
  have F3 : Fr [] w2 w3 := hw3 ▸ (Fr.refl _ _).alloc _
  have hcl := hC.lt
  have R3 : RdAt w3 w2.heap.size cp q (bA 0) D0 := ⟨hw3 ▸ heap_alloc_new w2 _, hC.fr F3 (by simp) (by simp), by omega, fun e => by have := (hq _ e).2; omega, fun k hk => by have := (hq k hk).2; have := F3.size; omega⟩
  obtain ⟨p, hp⟩ : ∃ p, w2.heap.size = p := ⟨_, rfl⟩
  rw [hp] at R3 hcl ⊢
  have F03 : Fr [] w w3 := (F1.trans0 F2).trans0 F3
  have B3 := (F3.block _ (by have := F2.size; omega) (by simp)).trans ((F2.block _ (by omega) (by simp)).trans B1)
  clear hw3 hp hC F3 F2 B1 F1
  have hgp : w.heap.size < p ∧ w.heap.size < cp := by omega
  go_wp2_with (first
    | (have hq := F9; go_at_call 180; refine (count_a _ p cp q R9).mono ?_; rintro e w10 ⟨rfl, G10⟩; have R10 := R9.fr0 G10; have F10 := F9.trans0 G10; obtain ⟨-, k1, k2, k3, k4, k5, k6, k7, k8, kf⟩ := cells9 R10.blk; simp only [D0, bA] at k1 k2 k3 k4 k5 k6 k7 k8; have B10 := (F10.block _ (Array.getElem?_eq_some_iff.1 B3).1 (by simp; omega)).trans B3; obtain ⟨i0, i1, i2, i3, i4, i5, i6, iz⟩ := cells7 B10)
    | (have hq := F8; go_at_call 178; refine (aok _ p cp q _ R8).mono ?_; rintro e w9 ⟨rfl, R9, G9⟩; have F9 := F8.tr2 G9.two1; have j2 : w9.cell? ⟨p, 2, none⟩ = some (.bool false) := (cells9 R9.blk).2.2.1)
    | (have hq := F7; go_at_call 174; refine (aleft _ p cp q _ R7).mono ?_; rintro e w8 ⟨rfl, G8⟩; have R8 := R7.same G8; have F8 := F7.trans0 G8.fr)
    | (have hq := F6; go_at_call 178; refine (aok _ p cp q _ R6).mono ?_; rintro e w7 ⟨rfl, R7, G7⟩; have F7 := F6.tr2 G7.two1; obtain ⟨j0, -⟩ := cells9 R7.blk)
    | (have hq := F5; go_at_call 176; refine (all_a _ p cp q _ R5).mono ?_; rintro e w6 ⟨rfl, R6, G6⟩; have F6 := F5.tr2 G6)
    | (go_at_call 175; refine (aby0 _ p cp q _ R3).mono ?_; rintro e w5 ⟨rfl, R5, G5⟩; have F5 : Fr [p, cp] w3 w5 := G5.two2))
  obtain ⟨r0, r1, r2, r3, r4, r5, r6, FF⟩ := zF_cells B10
  obtain ⟨wF, hwF⟩ : ∃ wF, wF = zF w10 w.heap.size := ⟨_, rfl⟩
  rw [← hwF] at r0 r1 r2 r3 r4 r5 r6 FF
  rw [zF] at hwF
  rw [← hwF]
  refine bodyPost_ret (v := .tuple #[.agg #[.bool false, .int .u64 0, .slice none 0 0, .slice none 0 0, .slice none 0 0, .slice none 0 0, .slice none 0 0], .int .i64 0]) (by simp [results, Tryz.results132, go_sem, r0, r1, r2, r3, r4, r5, r6]) rfl ?_
  exact ⟨rfl, (F03.trans F10 (by simp; omega)).trans FF (by simp)⟩

end Go.Proofs.YthbkcjlpelihlaaGreatDoor
/- Contracts: Desc of a book that says nothing; the deferred Free. No condition. -/
namespace Go.Proofs.YthbkcjlpelihlaaGreatDoor
open Go.RowKit

/-- What says nothing: five empty rows. -/
def NilRow (_ : World) (_ : Nat) (v : Value) : Prop := v = .agg #[.slice none 0 0, .slice none 0 0, .slice none 0 0, .slice none 0 0, .slice none 0 0]
theorem filesP_nil0 : FilesP [] 0 NilRow := fun w v h => (parse_nil w v h).mono fun e w' he => by
  obtain ⟨rfl, F⟩ := he
  exact ⟨_, _, _, _, _, _, _, _, _, _, rfl, rfl, F⟩
theorem filesP_a0 : FilesP [1, 0] 0 NilRow := fun w v h => (parse_a w v h).mono fun e w' he => by
  obtain ⟨rfl, F⟩ := he
  exact ⟨_, _, _, _, _, _, _, _, _, _, rfl, rfl, F⟩
/-- Nothing is put behind nothing. -/
theorem run_append_00 {P : Program} (w : World) (t ty e : TypeId) (i : TypeInfo) (ht : P.underlying t = some (.slice e)) (hi : P.info? e = some i) :
    (Builtin.append_ #[t, t] ty #[.slice none 0 0, .slice none 0 0]).run P w = .ok (.slice none 0 0) w := by
  simp [Builtin.append_, run_underlying ht, sizeOf, typeInfo, hi, Builtin.lenOf, Builtin.firstCells]
theorem info_u64E : (Tryz.prog.info? 69).map (fun i => (i.zero, i.size, i.bytes)) = some (some (.int .u64 0), 1, 8) := by kernel_rfl
theorem info_ckE : (Tryz.prog.info? 145).map (fun i => (i.zero, i.size, i.bytes)) = some (some (.agg #[.bool false, .int .u32 0]), 2, 8) := by kernel_rfl
theorem info_fiE : (Tryz.prog.info? 181).map (fun i => (i.zero, i.size, i.bytes)) = some (some (.agg #[.string ⟨#[]⟩, .bool false, .bool false, .bool false, .int .u32 0, .bool false, .int .u64 0]), 7, 40) := by kernel_rfl
set_option maxRecDepth 100000 in
set_option maxHeartbeats 4000000 in
theorem desc0_any {w : World} {g mp : Nat} {av x9 x10 : Value} (B : BkAt w g mp av (.slice none 0 0) (.slice none 0 0) (.slice none 0 0) (.slice none 0 0) (.slice none 0 0) x9 x10) :
    Calls Tryz.prog 44 #[.pointer (some ⟨g, 0, none⟩)] w fun e w' => e = .returned (.agg #[.bool false, .int .u64 0, .slice none 0 0, .slice none 0 0, .slice none 0 0, .slice none 0 0, .slice none 0 0]) ∧ Fr [] w w' := by
  obtain ⟨c0, c1, c2, c3, c4, c5, c6, c7, c8, c9, c10, cf⟩ := cells11 B.blk
  have hgl := B.lt
  have HB := Lib.hid B
  clear B
  obtain ⟨i1, hi1⟩ : ∃ i, Tryz.prog.info? 69 = some i := by obtain ⟨i, h, -⟩ := info_parts info_u64E; exact ⟨i, h⟩
  obtain ⟨i2, hi2⟩ : ∃ i, Tryz.prog.info? 145 = some i := by obtain ⟨i, h, -⟩ := info_parts info_ckE; exact ⟨i, h⟩
  obtain ⟨i3, hi3⟩ : ∃ i, Tryz.prog.info? 181 = some i := by obtain ⟨i, h, -⟩ := info_parts info_fiE; exact ⟨i, h⟩
  go_enter Tryz.func44, Tryz.ntmps44
  have ha1 := fun (w : World) (ty : TypeId) => run_append_00 (P := Tryz.prog) w 107 ty 69 i1 Tryz.underlying107 hi1
  have ha2 := fun (w : World) (ty : TypeId) => run_append_00 (P := Tryz.prog) w 108 ty 145 i2 Tryz.underlying108 hi2
  have ha3 := fun (w : World) (ty : TypeId) => run_append_00 (P := Tryz.prog) w 111 ty 181 i3 Tryz.underlying111 hi3
  go_upto_region 2 with fail
  go_region
  obtain ⟨w1, hw1⟩ : ∃ w1, w1 = ((w.alloc (.cells #[.bool false, .int .u64 0, .slice none 0 0, .slice none 0 0, .slice none 0 0, .slice none 0 0, .slice none 0 0] 113)).alloc (.cells #[.bool false, .int .u64 0, .slice none 0 0, .slice none 0 0, .slice none 0 0, .slice none 0 0, .slice none 0 0] 113)).drew := ⟨_, rfl⟩
  have F1 : Fr [] w w1 := hw1 ▸ (((Fr.refl _ _).alloc _).alloc _).drew
  have b1 : w1.heap[w.heap.size + 1]? = some (.cells #[.bool false, .int .u64 0, .slice none 0 0, .slice none 0 0, .slice none 0 0, .slice none 0 0, .slice none 0 0] 113 (0, 0)) := by
    have := heap_alloc_new (w.alloc (.cells #[.bool false, .int .u64 0, .slice none 0 0, .slice none 0 0, .slice none 0 0, .slice none 0 0, .slice none 0 0] 113)) (.cells #[.bool false, .int .u64 0, .slice none 0 0, .slice none 0 0, .slice none 0 0, .slice none 0 0, .slice none 0 0] 113)
    rw [World.size_alloc] at this
    rw [hw1]
    exact this
  have b0 : w1.heap[w.heap.size]? = some (.cells #[.bool false, .int .u64 0, .slice none 0 0, .slice none 0 0, .slice none 0 0, .slice none 0 0, .slice none 0 0] 113 (0, 0)) := by
    have F : Fr [] (w.alloc (.cells #[.bool false, .int .u64 0, .slice none 0 0, .slice none 0 0, .slice none 0 0, .slice none 0 0, .slice none 0 0] 113)) w1 := hw1 ▸ (((Fr.refl _ _).alloc _)).drew
    exact (F.block _ (by rw [World.size_alloc]; omega) (by simp)).trans (heap_alloc_new w _)
  have B1 := HB.out.fr F1 (by simp)
  rw [← hw1]
  clear hw1 c0 c1 c2 c3 c4 c5 c6 c7 c8 c9 c10 cf
  obtain ⟨c0, c1, c2, c3, c4, c5, c6, c7, c8, c9, c10, cf⟩ := cells11 B1.blk
  obtain ⟨d0, d1, d2, d3, d4, d5, d6, df⟩ := cells7 b1
  obtain ⟨f0, f1, f2, f3, f4, f5, f6, ff⟩ := cells7 b0
  go_wp2_with fail
  obtain ⟨w2, hw2⟩ : ∃ w2, w2 = (w1.setCell ⟨w.heap.size + 1, 4, none⟩ (.slice none 0 0)).setCell ⟨w.heap.size + 1, 5, none⟩ (.slice none 0 0) := ⟨_, rfl⟩
  rw [← hw2]
  have F2 : Fr [w.heap.size + 1] w1 w2 := hw2 ▸ ((Fr.refl _ _).setCell (by simp) _).setCell (by simp) _
  have b2 : w2.heap[w.heap.size + 1]? = some (.cells #[.bool false, .int .u64 0, .slice none 0 0, .slice none 0 0, .slice none 0 0, .slice none 0 0, .slice none 0 0] 113 (0, 0)) := hw2 ▸ Go.Joins.block_setCell (i := 5) (Go.Joins.block_setCell (i := 4) b1 _) _
  have B2 := B1.fr F2 (by simp; omega)
  have q0 := (F2.block _ (Array.getElem?_eq_some_iff.1 b0).1 (by simp)).trans b0
  clear hw2 c0 c1 c2 c3 c4 c5 c6 c7 c8 c9 c10 cf d0 d1 d2 d3 d4 d5 d6 df f0 f1 f2 f3 f4 f5 f6 ff
  obtain ⟨c0, c1, c2, c3, c4, c5, c6, c7, c8, c9, c10, cf⟩ := cells11 B2.blk
  obtain ⟨d0, d1, d2, d3, d4, d5, d6, df⟩ := cells7 b2
  obtain ⟨f0, f1, f2, f3, f4, f5, f6, ff⟩ := cells7 q0
  go_loopw [35] (fun i wq => i = .int .i64 0 ∧ wq = w2) (fun _ _ => 0)
  case atStart => exact ⟨rfl, rfl⟩
  case round =>
    obtain ⟨rfl, hwr⟩ := hrel
    subst hwr
    go_wp2_with fail
    go_loopw [84] (fun i wq => i = .int .i64 0 ∧ wq = wr) (fun _ _ => 0)
    case atStart => exact ⟨rfl, rfl⟩
    case round =>
      obtain ⟨rfl, hwr⟩ := hrel
      subst hwr
      go_wp2_with fail
      obtain ⟨r0, r1, r2, r3, r4, r5, r6, FF⟩ := zF_cells q0
      obtain ⟨wF, hwF⟩ : ∃ wF, wF = zF wr w.heap.size := ⟨_, rfl⟩
      rw [← hwF] at r0 r1 r2 r3 r4 r5 r6 FF
      rw [zF] at hwF
      rw [← hwF]
      refine bodyPost_ret (v := .agg #[.bool false, .int .u64 0, .slice none 0 0, .slice none 0 0, .slice none 0 0, .slice none 0 0, .slice none 0 0]) (by simp [results, Tryz.results44, go_sem, r0, r1, r2, r3, r4, r5, r6]) rfl ?_
      exact ⟨rfl, (F1.trans F2 (by simp)).trans FF (by simp)⟩
/-- The deferred call of Free. -/
theorem free_d {w : World} {p : Nat} {a o f d s k : Int} (h : MtN w p a o f d s k) (n : Int) (hn : 0 ≤ n) (hm : n ≤ a) (ha : a ≤ 1099511627776) (u : FrameMode) :
    CallsD Tryz.prog 43 #[.pointer (some ⟨p, 0, none⟩), .int .i64 n] u w fun e u' w' => u' = u ∧ (e = .returned (.tuple #[]) ∧ MtN w' p (a - n) o f d s k ∧ Fr [p] w w') := by
  have HG := Lib.hid (give_m h n hn hm ha)
  have hmx : max n 0 = n := by omega
  clear h hm
  go_enter_d Tryz.func43, Tryz.ntmps43
  go_wp2_with (go_at_call 68; refine HG.out.mono ?_; rintro e w1 ⟨rfl, M1, F1⟩)
  go_end0
  exact ⟨rfl, M1, F1⟩
end Go.Proofs.YthbkcjlpelihlaaGreatDoor
