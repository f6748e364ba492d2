/- Contracts: book.Open of bytes that are no archive, and of an archive whose header tells of files without bytes. No condition but that lengths fit. -/
import Derived.Test.YthbkcjlpelihlaaGreatDoorGAA
import Derived.Test.YthbkcjlpelihlaaGreatDoorHOpenAM
import Derived.Deep.DeepCutAuto
import Derived.Test.YthbkcjlpelihlaaGreatDoorBaseM
namespace Go.Proofs.YthbkcjlpelihlaaGreatDoor
open Go.RowKit

/-- A book's eleven cells. -/
theorem cells11 {w : World} {g : Nat} {t : TypeId} {a0 a1 a2 a3 a4 a5 a6 a7 a8 a9 a10 : Value} (h : w.heap[g]? = some (.cells #[a0, a1, a2, a3, a4, a5, a6, a7, a8, a9, a10] t (0, 0))) :
    w.cell? ⟨g, 0, none⟩ = some a0 ∧ w.cell? ⟨g, 1, none⟩ = some a1 ∧ w.cell? ⟨g, 2, none⟩ = some a2 ∧ w.cell? ⟨g, 3, none⟩ = some a3 ∧ w.cell? ⟨g, 4, none⟩ = some a4 ∧ w.cell? ⟨g, 5, none⟩ = some a5 ∧ w.cell? ⟨g, 6, none⟩ = some a6 ∧ w.cell? ⟨g, 7, none⟩ = some a7 ∧ w.cell? ⟨g, 8, none⟩ = some a8 ∧ w.cell? ⟨g, 9, none⟩ = some a9 ∧ w.cell? ⟨g, 10, none⟩ = some a10 ∧ (∀ j, w.frozen? ⟨g, j, none⟩ = false) :=
  ⟨by simp [Go.Joins.cell_of_block h], by simp [Go.Joins.cell_of_block h], by simp [Go.Joins.cell_of_block h], by simp [Go.Joins.cell_of_block h], by simp [Go.Joins.cell_of_block h], by simp [Go.Joins.cell_of_block h], by simp [Go.Joins.cell_of_block h], by simp [Go.Joins.cell_of_block h], by simp [Go.Joins.cell_of_block h], by simp [Go.Joins.cell_of_block h], by simp [Go.Joins.cell_of_block h], fun j => Go.Joins.unfrozen_of_block h j⟩

/-- Bytes lie in no meter. -/
theorem Sl.mt {w w' : World} {v : Value} {b : List UInt8} {p : Nat} {l : List Int} (h : Sl w v (bv b)) (M : MtAt w p l) (F : Fr [p] w w') : Sl w' v (bv b) := by
  obtain ⟨ao, cap, rfl, h1, h2, h3, h4⟩ := h
  refine ⟨ao, cap, rfl, h1, h2, h3, fun a ha hc => ?_⟩
  obtain ⟨q1, q2, q3⟩ := h4 a ha hc
  refine ⟨q1, Nat.lt_of_lt_of_le q2 F.size, fun j hj => ?_⟩
  by_cases hp : a.block = p
  · exfalso
    have q := q3 j hj
    have key : ∀ i : Nat, w.cell? ⟨p, i, none⟩ = (mtC l)[i]? := Go.Joins.cell_of_block M.blk
    rw [hp, key] at q
    rw [bv_length] at hj
    obtain ⟨x, hx⟩ := some_get b j hj
    rw [bv_get _ _ _ hx] at q
    unfold mtC at q
    rw [List.getElem?_toArray, List.getElem?_map] at q
    cases hl : l[a.off + j]? with
    | none => rw [hl] at q; cases q
    | some y =>
      rw [hl] at q
      simp at q
  · rw [F.cell (p := ⟨a.block, a.off + j, none⟩) q2 (by simpa using hp)]
    exact q3 j hj

/-- Bytes that are no archive are refused. -/
def BadR (w : World) (p : Nat) (b : List UInt8) (a o f d s k : Int) (e : Ending) (w' : World) : Prop :=
  e = .returned (.tuple #[.pointer none, .int .i64 (opCode b : Int)]) ∧ MtN w' p a o f d (s + (b.length : Int)) k ∧ Fr [p] w w'
set_option maxRecDepth 100000 in
set_option maxHeartbeats 1000000 in
theorem bopen_bad {w : World} {p : Nat} {a o f d s k : Int} (M : MtN w p a o f d s k) (hs : 0 ≤ s) (hs2 : s ≤ 1000000) (v : Value) (b : List UInt8) (h : Sl w v (bv b)) (hb : b.length ≤ 40000) (hc : opCode b ≠ 0) :
    Calls Tryz.prog 40 #[v, .pointer (some ⟨p, 0, none⟩)] w (BadR w p b a o f d s k) := by
  have HV := Lib.hid h
  obtain ⟨ao, cap, rfl, -⟩ := h.out
  rw [bv_length] at HV ⊢
  have HS := Lib.hid (step_m M (b.length : Int) (by omega) hs (by omega))
  have HO := Lib.hid (fun (wx : World) (F : Fr [p] w wx) => open_any wx _ b (HV.out.mt M F) hb)
  have t1 : ((opCode b : Int) != 0) = true := by simp; omega
  have t2 : ((opCode b : Int) == 0) = false := by simp; omega
  clear h M hb hc
  go_enter Tryz.func40, Tryz.ntmps40
  generalize hcd : opCode b = cd at *
  go_wp2_with (first
    | (have hq := F1; go_at_call 62; refine (HO.out _ F1).mono ?_; rintro e w2 ⟨v1, v2, rfl, -, -, F2⟩; rw [hcd])
    | (go_at_call 61; refine HS.out.mono ?_; rintro e w1 ⟨rfl, M1, F1⟩))
  go_ret2
  exact ⟨by rw [hcd]; rfl, M1.fr F2 (by simp), F1.trans0 F2⟩
end Go.Proofs.YthbkcjlpelihlaaGreatDoor
/- Contract: Parse of no bytes. No condition. -/
namespace Go.Proofs.YthbkcjlpelihlaaGreatDoor
open Go.RowKit

/-- What is handed back lies in a block of seven cells. -/
theorem cells7 {w : World} {g : Nat} {t : TypeId} {a0 a1 a2 a3 a4 a5 a6 : Value} (h : w.heap[g]? = some (.cells #[a0, a1, a2, a3, a4, a5, a6] t (0, 0))) :
    w.cell? ⟨g, 0, none⟩ = some a0 ∧ w.cell? ⟨g, 1, none⟩ = some a1 ∧ w.cell? ⟨g, 2, none⟩ = some a2 ∧ w.cell? ⟨g, 3, none⟩ = some a3 ∧ w.cell? ⟨g, 4, none⟩ = some a4 ∧ w.cell? ⟨g, 5, none⟩ = some a5 ∧ w.cell? ⟨g, 6, none⟩ = some a6 ∧ (∀ j, w.frozen? ⟨g, j, none⟩ = false) :=
  ⟨by simp [Go.Joins.cell_of_block h], by simp [Go.Joins.cell_of_block h], by simp [Go.Joins.cell_of_block h], by simp [Go.Joins.cell_of_block h], by simp [Go.Joins.cell_of_block h], by simp [Go.Joins.cell_of_block h], by simp [Go.Joins.cell_of_block h], fun j => Go.Joins.unfrozen_of_block h j⟩

def zD : Array Value := #[.bool false, .int .u64 0, .slice none 0 0, .slice none 0 0, .slice none 0 0, .slice none 0 0, .slice none 0 0]

/-- The block of what is handed back is written with zeros. -/
def zF (w : World) (g : Nat) : World := ((((((w.setCell ⟨g, 0, none⟩ (.bool false)).setCell ⟨g, 1, none⟩ (.int .u64 0)).setCell ⟨g, 2, none⟩ (.slice none 0 0)).setCell ⟨g, 3, none⟩ (.slice none 0 0)).setCell ⟨g, 4, none⟩ (.slice none 0 0)).setCell ⟨g, 5, none⟩ (.slice none 0 0)).setCell ⟨g, 6, none⟩ (.slice none 0 0)
set_option maxRecDepth 100000 in
set_option maxHeartbeats 2000000 in
theorem zF_cells {w : World} {g : Nat} {t : TypeId} {a0 a1 a2 a3 a4 a5 a6 : Value} (h : w.heap[g]? = some (.cells #[a0, a1, a2, a3, a4, a5, a6] t (0, 0))) :
    (zF w g).cell? ⟨g, 0, none⟩ = some (.bool false) ∧ (zF w g).cell? ⟨g, 1, none⟩ = some (.int .u64 0) ∧ (zF w g).cell? ⟨g, 2, none⟩ = some (.slice none 0 0) ∧ (zF w g).cell? ⟨g, 3, none⟩ = some (.slice none 0 0) ∧ (zF w g).cell? ⟨g, 4, none⟩ = some (.slice none 0 0) ∧ (zF w g).cell? ⟨g, 5, none⟩ = some (.slice none 0 0) ∧ (zF w g).cell? ⟨g, 6, none⟩ = some (.slice none 0 0) ∧ Fr [g] w (zF w g) := by
  have hb : (zF w g).heap[g]? = some (.cells #[.bool false, .int .u64 0, .slice none 0 0, .slice none 0 0, .slice none 0 0, .slice none 0 0, .slice none 0 0] t (0, 0)) :=
    Go.Joins.block_setCell (Go.Joins.block_setCell (Go.Joins.block_setCell (Go.Joins.block_setCell (Go.Joins.block_setCell (Go.Joins.block_setCell (Go.Joins.block_setCell h _) _) _) _) _) _) _
  obtain ⟨r0, r1, r2, r3, r4, r5, r6, -⟩ := cells7 hb
  exact ⟨r0, r1, r2, r3, r4, r5, r6, (((((((Fr.refl _ _).setCell (by simp) _).setCell (by simp) _).setCell (by simp) _).setCell (by simp) _).setCell (by simp) _).setCell (by simp) _).setCell (by simp) _⟩

set_option maxRecDepth 100000 in
set_option maxHeartbeats 4000000 in
theorem parse_nil (w : World) (v : Value) (h : Sl w v (bv [])) :
    Calls Tryz.prog 132 #[v] w fun e w' => e = .returned (.tuple #[.agg #[.bool false, .int .u64 0, .slice none 0 0, .slice none 0 0, .slice none 0 0, .slice none 0 0, .slice none 0 0], .int .i64 0]) ∧ Fr [] w w' := by
  obtain ⟨ao, cap, rfl, -⟩ := h.out
  rw [show (bv []).length = 0 from rfl]
  clear h
  go_enter Tryz.func132, Tryz.ntmps132
  refine wp_seq_k fun K0 hK0 => ?_
  go_cut [2, 3] (fun v2 v3 wx => v2 = .pointer (some ⟨w.heap.size, 0, none⟩) ∧ v3 = .int .i64 0 ∧ wx.heap[w.heap.size]? = some (.cells #[.bool false, .int .u64 0, .slice none 0 0, .slice none 0 0, .slice none 0 0, .slice none 0 0, .slice none 0 0] 113 (0, 0)) ∧ Fr [] w wx)
  case first =>
    clear hK0
    go_wp2_with fail
    go_meet
    case rel => exact ⟨rfl, rfl, heap_alloc_new w _, (Fr.refl _ _).alloc _⟩
  case rest =>
  obtain ⟨rfl, rfl, B1, F1⟩ := hcut
  obtain ⟨i0, i1, i2, i3, i4, i5, i6, iz⟩ := cells7 B1
  go_wp2_with fail
  obtain ⟨r0, r1, r2, r3, r4, r5, r6, FF⟩ := zF_cells B1
  obtain ⟨wF, hwF⟩ : ∃ wF, wF = zF wc w.heap.size := ⟨_, rfl⟩
  rw [← hwF] at r0 r1 r2 r3 r4 r5 r6 FF
  rw [zF] at hwF
  rw [← hwF]
  refine bodyPost_ret (v := .tuple #[.agg #[.bool false, .int .u64 0, .slice none 0 0, .slice none 0 0, .slice none 0 0, .slice none 0 0, .slice none 0 0], .int .i64 0]) (by simp [results, Tryz.results132, go_sem, r0, r1, r2, r3, r4, r5, r6]) rfl ?_
  exact ⟨rfl, F1.trans FF (by simp)⟩
end Go.Proofs.YthbkcjlpelihlaaGreatDoor
/- Contracts: a book whose header tells of files alone: lay, sound, look, heads. No condition but that lengths fit. -/
namespace Go.Proofs.YthbkcjlpelihlaaGreatDoor
open Go.RowKit

/-- What Parse hands back of a header that tells of n files and of no streams; es: the row of files. -/
def FilesP (head : List UInt8) (n : Nat) (R : World → Nat → Value → Prop) : Prop := ∀ (w : World) (v : Value), Sl w v (bv head) → Calls Tryz.prog 132 #[v] w fun e w' => ∃ pao pc cao cc fao fc sao sc eao ec,
  e = .returned (.tuple #[.agg #[.bool false, .int .u64 0, .slice pao 0 pc, .slice cao 0 cc, .slice fao 0 fc, .slice sao 0 sc, .slice eao n ec], .int .i64 0]) ∧ R w' w.heap.size (.agg #[.slice pao 0 pc, .slice cao 0 cc, .slice fao 0 fc, .slice sao 0 sc, .slice eao n ec]) ∧ Fr [] w w'
def NoRow (_ : World) (_ : Nat) (_ : Value) : Prop := True
theorem filesP_nil : FilesP [] 0 NoRow := fun w v h => (parse_nil w v h).mono fun e w' he => by
  obtain ⟨rfl, F⟩ := he
  exact ⟨_, _, _, _, _, _, _, _, _, _, rfl, trivial, F⟩

/-- A book's block: the area, what the header says (no streams), the meter. -/
structure BkAt (w : World) (g mp : Nat) (av pv cv fv sv ev x9 x10 : Value) : Prop where
  blk : w.heap[g]? = some (.cells #[av, .bool false, .int .u64 0, pv, cv, fv, sv, ev, .pointer (some ⟨mp, 0, none⟩), x9, x10] 135 (0, 0))
theorem BkAt.lt {w : World} {g mp : Nat} {av pv cv fv sv ev x9 x10 : Value} (h : BkAt w g mp av pv cv fv sv ev x9 x10) : g < w.heap.size := (Array.getElem?_eq_some_iff.1 h.blk).1
theorem BkAt.fr {w w' : World} {g mp : Nat} {av pv cv fv sv ev x9 x10 : Value} {S : List Nat} (h : BkAt w g mp av pv cv fv sv ev x9 x10) (F : Fr S w w') (hg : g ∉ S) : BkAt w' g mp av pv cv fv sv ev x9 x10 := ⟨(F.block g h.lt hg).trans h.blk⟩

set_option maxRecDepth 100000 in
set_option maxHeartbeats 2000000 in
theorem lay_f {w : World} {g mp al ac pc fc : Nat} {aao pao fao : Option Addr} {cv sv ev x9 x10 : Value} (h : BkAt w g mp (.slice aao al ac) (.slice pao 0 pc) cv (.slice fao 0 fc) sv ev x9 x10) (hal : al ≤ 100000) :
    Calls Tryz.prog 181 #[.pointer (some ⟨g, 0, none⟩)] w fun e w' => e = .returned (.int .i64 0) ∧ BkAt w' g mp (.slice aao al ac) (.slice pao 0 pc) cv (.slice fao 0 fc) sv ev (.slice none 0 0) (.slice none 0 0) ∧ Fr [g] w w' := by
  obtain ⟨c0, c1, c2, c3, c4, c5, c6, c7, c8, c9, c10, cf⟩ := cells11 h.blk
  have HH := Lib.hid h
  clear h
  go_enter Tryz.func181, Tryz.ntmps181
  go_wp2_with fail
  obtain ⟨w1, hw1⟩ : ∃ w1, w1 = (w.setCell ⟨g, 9, none⟩ (.slice none 0 0)).setCell ⟨g, 10, none⟩ (.slice none 0 0) := ⟨_, rfl⟩
  rw [← hw1]
  have B1 : BkAt w1 g mp (.slice aao al ac) (.slice pao 0 pc) cv (.slice fao 0 fc) sv ev (.slice none 0 0) (.slice none 0 0) := hw1 ▸ ⟨Go.Joins.block_setCell (i := 10) (Go.Joins.block_setCell (i := 9) HH.out.blk _) _⟩
  have F1 : Fr [g] w w1 := hw1 ▸ ((Fr.refl _ _).setCell (by simp) _).setCell (by simp) _
  clear c0 c1 c2 c3 c4 c5 c6 c7 c8 c9 c10 cf hw1
  obtain ⟨c0, c1, c2, c3, c4, c5, c6, c7, c8, c9, c10, cf⟩ := cells11 B1.blk
  have halI : ¬ (al : Int) < 0 := by omega
  go_loopw [3, 26] (fun at_ i wx => at_ = .int .u64 0 ∧ i = .int .i64 0 ∧ wx = w1) (fun _ _ _ => 0)
  case atStart => exact ⟨rfl, rfl, rfl⟩
  case round =>
    obtain ⟨rfl, rfl, rfl⟩ := hrel
    go_wp2_with fail
    go_loopw [6, 60] (fun n i wq => n = .int .i64 0 ∧ i = .int .i64 0 ∧ wq = wr) (fun _ _ _ => 0)
    case atStart => exact ⟨rfl, rfl, rfl⟩
    case round =>
      obtain ⟨rfl, rfl, rfl⟩ := hrel
      go_wp2_with fail
      go_ret
      exact ⟨rfl, B1, F1⟩

set_option maxRecDepth 100000 in
set_option maxHeartbeats 2000000 in
theorem sound_f {w : World} {g mp al ac pc cc fc : Nat} {aao pao cao fao : Option Addr} {sv ev x9 x10 : Value} (h : BkAt w g mp (.slice aao al ac) (.slice pao 0 pc) (.slice cao 0 cc) (.slice fao 0 fc) sv ev x9 x10) (hal : al ≤ 100000) :
    Calls Tryz.prog 133 #[.pointer (some ⟨g, 0, none⟩)] w fun e w' => e = .returned (.int .i64 0) ∧ BkAt w' g mp (.slice aao al ac) (.slice pao 0 pc) (.slice cao 0 cc) (.slice fao 0 fc) sv ev (.slice none 0 0) (.slice none 0 0) ∧ Fr [g] w w' := by
  have HL := Lib.hid (lay_f h hal)
  clear h
  go_enter Tryz.func133, Tryz.ntmps133
  go_wp2_with (go_at_call 181; refine HL.out.mono ?_; rintro e w1 ⟨rfl, B1, F1⟩; obtain ⟨c0, c1, c2, c3, c4, c5, c6, c7, c8, c9, c10, cf⟩ := cells11 B1.blk)
  go_loopw [23] (fun i wq => i = .int .i64 0 ∧ wq = w1) (fun _ _ => 0)
  case atStart => exact ⟨rfl, rfl⟩
  case round =>
    obtain ⟨rfl, rfl⟩ := hrel
    go_wp2_with fail
    go_loopw [56] (fun i wq => i = .int .i64 0 ∧ wq = wr) (fun _ _ => 0)
    case atStart => exact ⟨rfl, rfl⟩
    case round =>
      obtain ⟨rfl, rfl⟩ := hrel
      go_wp2_with fail
      go_ret
      exact ⟨rfl, B1, F1⟩

/-- What a book's look leaves. -/
def LookR (w : World) (g mp : Nat) (av : Value) (n : Nat) (R : World → Nat → Value → Prop) (a o f d s k : Int) (e : Ending) (w' : World) : Prop :=
  ∃ pao pc cao cc fao fc sao sc eao ec lo, e = .returned (.int .i64 0) ∧ BkAt w' g mp av (.slice pao 0 pc) (.slice cao 0 cc) (.slice fao 0 fc) (.slice sao 0 sc) (.slice eao n ec) (.slice none 0 0) (.slice none 0 0) ∧ MtN w' mp a o f d s k ∧ R w' lo (.agg #[.slice pao 0 pc, .slice cao 0 cc, .slice fao 0 fc, .slice sao 0 sc, .slice eao n ec]) ∧ g < lo ∧ mp < lo ∧ Fr [g, mp] w w'
/-- What the header says is laid into the book. -/
def dG (w : World) (g : Nat) (a1 a2 a3 a4 a5 a6 a7 : Value) : World := ((((((w.setCell ⟨g, 1, none⟩ a1).setCell ⟨g, 2, none⟩ a2).setCell ⟨g, 3, none⟩ a3).setCell ⟨g, 4, none⟩ a4).setCell ⟨g, 5, none⟩ a5).setCell ⟨g, 6, none⟩ a6).setCell ⟨g, 7, none⟩ a7
set_option maxRecDepth 100000 in
set_option maxHeartbeats 4000000 in
theorem dG_blk {w : World} {g : Nat} {t : TypeId} {b0 b1 b2 b3 b4 b5 b6 b7 b8 b9 b10 : Value} (h : w.heap[g]? = some (.cells #[b0, b1, b2, b3, b4, b5, b6, b7, b8, b9, b10] t (0, 0))) (a1 a2 a3 a4 a5 a6 a7 : Value) :
    (dG w g a1 a2 a3 a4 a5 a6 a7).heap[g]? = some (.cells #[b0, a1, a2, a3, a4, a5, a6, a7, b8, b9, b10] t (0, 0)) ∧ Fr [g] w (dG w g a1 a2 a3 a4 a5 a6 a7) :=
  ⟨Go.Joins.block_setCell (i := 7) (Go.Joins.block_setCell (i := 6) (Go.Joins.block_setCell (i := 5) (Go.Joins.block_setCell (i := 4) (Go.Joins.block_setCell (i := 3) (Go.Joins.block_setCell (i := 2) (Go.Joins.block_setCell (i := 1) h _) _) _) _) _) _) _,
   (((((((Fr.refl _ _).setCell (by simp) _).setCell (by simp) _).setCell (by simp) _).setCell (by simp) _).setCell (by simp) _).setCell (by simp) _).setCell (by simp) _⟩
set_option maxRecDepth 100000 in
set_option maxHeartbeats 2000000 in
theorem look_f {w : World} {g mp al ac n : Nat} {aao : Option Addr} {R : World → Nat → Value → Prop} {a o f d s k : Int} {head : List UInt8} (hP : FilesP head n R) (hRF : ∀ (wa wb : World) (lo : Nat) (v : Value) (S : List Nat), R wa lo v → Fr S wa wb → (∀ i ∈ S, i < lo) → R wb lo v)
    (h : BkAt w g mp (.slice aao al ac) (.slice none 0 0) (.slice none 0 0) (.slice none 0 0) (.slice none 0 0) (.slice none 0 0) (.slice none 0 0) (.slice none 0 0)) (M : MtN w mp a o f d s k) (hne : g ≠ mp) (hal : al ≤ 100000) (v : Value) (hv : Sl w v (bv head)) (hl : head.length ≤ 100000) (hs : 0 ≤ s) (hs2 : s ≤ 1000000) :
    Calls Tryz.prog 88 #[.pointer (some ⟨g, 0, none⟩), v] w (LookR w g mp (.slice aao al ac) n R a o f d (s + (head.length : Int)) k) := by
  have HV := Lib.hid hv
  obtain ⟨ho, hc, rfl, -⟩ := hv.out
  rw [bv_length] at HV ⊢
  obtain ⟨c0, c1, c2, c3, c4, c5, c6, c7, c8, c9, c10, cf⟩ := cells11 h.blk
  have HS := Lib.hid (step_m M (head.length : Int) (by omega) hs (by omega))
  have HH := Lib.hid h
  have HP := Lib.hid (fun (wx : World) (F : Fr [mp] w wx) => hP wx _ (HV.out.mt M F))
  have hne2 : g ∉ [mp] := by simpa using hne
  have hne3 : mp ∉ [g] := by simpa using fun e => hne e.symm
  have hgl := h.lt
  have hml := M.lt
  clear h M hv hP
  go_enter Tryz.func88, Tryz.ntmps88
  go_wp2_with (first
    | (have hq := F1; go_at_call 132; refine (HP.out _ F1).mono ?_; rintro e w2 ⟨pao, pc, cao, cc, fao, fc, sao, sc, eao, ec, rfl, R2, F2⟩; have B2 := (HH.out.fr F1 hne2).fr F2 (by simp); obtain ⟨d0, d1, d2, d3, d4, d5, d6, d7, d8, d9, d10, df⟩ := cells11 B2.blk; have hgl2 := B2.lt; have hgn : ¬ g = w2.heap.size := (by omega); have hgn2 : ¬ w2.heap.size = g := (by omega))
    | (go_at_call 61; refine HS.out.mono ?_; rintro e w1 ⟨rfl, M1, F1⟩))
  obtain ⟨w3, hw3⟩ : ∃ w3, w3 = (dG w2 g (.bool false) (.int .u64 0) (.slice pao 0 pc) (.slice cao 0 cc) (.slice fao 0 fc) (.slice sao 0 sc) (.slice eao n ec)).alloc (.cells #[.bool false, .int .u64 0, .slice pao 0 pc, .slice cao 0 cc, .slice fao 0 fc, .slice sao 0 sc, .slice eao n ec] 113) := ⟨_, rfl⟩
  obtain ⟨q1, q2⟩ := dG_blk B2.blk (.bool false) (.int .u64 0) (.slice pao 0 pc) (.slice cao 0 cc) (.slice fao 0 fc) (.slice sao 0 sc) (.slice eao n ec)
  have F3 : Fr [g] w2 w3 := hw3 ▸ q2.alloc _
  have B3 : BkAt w3 g mp (.slice aao al ac) (.slice pao 0 pc) (.slice cao 0 cc) (.slice fao 0 fc) (.slice sao 0 sc) (.slice eao n ec) (.slice none 0 0) (.slice none 0 0) := ⟨by
    rw [hw3]
    exact (((Fr.refl [] _).alloc _).block g (by have := q2.size; omega) (by simp)).trans q1⟩
  rw [dG] at hw3
  rw [← hw3]
  have HS3 := Lib.hid (sound_f B3 hal)
  clear hw3 q1 q2 d0 d1 d2 d3 d4 d5 d6 d7 d8 d9 d10 df c0 c1 c2 c3 c4 c5 c6 c7 c8 c9 c10 cf
  go_wp2_with (go_at_call 133; refine HS3.out.mono ?_; rintro e w4 ⟨rfl, B4, F4⟩)
  go_ret
  have hs1 := F1.size
  refine ⟨_, _, _, _, _, _, _, _, _, _, w1.heap.size, rfl, B4, ((M1.fr F2 (by simp)).fr F3 hne3).fr F4 hne3, hRF _ _ _ _ _ (hRF _ _ _ _ _ R2 F3 (by simp; omega)) F4 (by simp; omega), by omega, by omega, ?_⟩
  exact ((F1.mono (by simp)).trans0 F2).trans ((F3.trans F4 (by simp)).mono (by simp) : Fr [g, mp] w2 w4) (by simp)
end Go.Proofs.YthbkcjlpelihlaaGreatDoor
/- Contracts: heads, files, Open, Entries of a book whose header tells of no files. No condition but that lengths fit. -/
namespace Go.Proofs.YthbkcjlpelihlaaGreatDoor
open Go.RowKit

set_option maxRecDepth 100000 in
/-- The deferred closure of heads: nothing was unwrapped. -/
theorem ups_none (w : World) (d b : Addr) (g : Nat) (u : FrameMode) (h0 : w.cell? d = some (.int .i64 0)) (h1 : w.cell? b = some (.pointer (some ⟨g, 0, none⟩))) :
    CallsD Tryz.prog 86 #[.pointer (some d), .pointer (some b)] u w fun e u' w' => u' = u ∧ (e = .returned (.tuple #[]) ∧ w' = w) := by
  go_enter_d Tryz.func86, Tryz.ntmps86
  go_wp2_with fail
  go_loopw [3] (fun i wq => i = .int .i64 0 ∧ wq = w) (fun _ _ => 0)
  case atStart => exact ⟨rfl, rfl⟩
  case round =>
    obtain ⟨rfl, rfl⟩ := hrel
    go_wp2_with fail
    go_end0
    exact ⟨rfl, rfl⟩

set_option maxRecDepth 100000 in
set_option maxHeartbeats 2000000 in
theorem heads_f {w : World} {g mp al ac n : Nat} {aao : Option Addr} {R : World → Nat → Value → Prop} {a o f d s k : Int} {head : List UInt8} (hP : FilesP head n R) (hRF : ∀ (wa wb : World) (lo : Nat) (v : Value) (S : List Nat), R wa lo v → Fr S wa wb → (∀ i ∈ S, i < lo) → R wb lo v)
    (h : BkAt w g mp (.slice aao al ac) (.slice none 0 0) (.slice none 0 0) (.slice none 0 0) (.slice none 0 0) (.slice none 0 0) (.slice none 0 0) (.slice none 0 0)) (M : MtN w mp a o f d s k) (hne : g ≠ mp) (hal : al ≤ 100000) (v : Value) (hv : Sl w v (bv head)) (hl : head.length ≤ 100000) (hs : 0 ≤ s) (hs2 : s ≤ 1000000) :
    Calls Tryz.prog 63 #[.pointer (some ⟨g, 0, none⟩), v] w (LookR w g mp (.slice aao al ac) n R a o f d (s + (head.length : Int)) k) := by
  have HLK := Lib.hid (fun (wx : World) (F : Fr [] w wx) => look_f hP hRF (h.fr F (by simp)) (M.fr F (by simp)) hne hal v (hv.fr0 F) hl hs hs2)
  have hgl := h.lt
  have hml := M.lt
  obtain ⟨ho, hc, rfl, -⟩ := hv.out
  clear h M hv hP
  go_enter_defers Tryz.func63, Tryz.ntmps63
  obtain ⟨wA, hwA⟩ : ∃ wA, wA = (w.alloc (.cells #[.pointer (some ⟨g, 0, none⟩)] 100)).alloc (.cells #[.int .i64 0] 3) := ⟨_, rfl⟩
  have FA : Fr [] w wA := hwA ▸ ((Fr.refl _ _).alloc _).alloc _
  have m0 : wA.cell? ⟨w.heap.size, 0, none⟩ = some (.pointer (some ⟨g, 0, none⟩)) := by rw [hwA]; simp
  have m1 : wA.cell? ⟨w.heap.size + 1, 0, none⟩ = some (.int .i64 0) := by rw [hwA]; simp
  have lA : w.heap.size + 1 < wA.heap.size := by rw [hwA]; simp
  go_wp2_with (go_at_call 88; rw [← hwA]; refine (HLK.out _ FA).mono ?_; rintro e w1 ⟨pao, pc, cao, cc, fao, fc, sao, sc, eao, ec, lo, rfl, B1, M1, R1, hg1, hm1, F1⟩; have c1 : w1.cell? ⟨g, 1, none⟩ = some (.bool false) := (cells11 B1.blk).2.1)
  have n0 : w1.cell? ⟨w.heap.size, 0, none⟩ = some (.pointer (some ⟨g, 0, none⟩)) := (F1.cell (p := ⟨w.heap.size, 0, none⟩) (by show w.heap.size < _; omega) (by simp; omega)).trans m0
  have n1 : w1.cell? ⟨w.heap.size + 1, 0, none⟩ = some (.int .i64 0) := (F1.cell (p := ⟨w.heap.size + 1, 0, none⟩) lA (by simp; omega)).trans m1
  go_loopw [6] (fun e wq => e = .int .i64 0 ∧ wq = w1) (fun _ _ => 0)
  case atStart => exact ⟨rfl, rfl⟩
  case round =>
    obtain ⟨rfl, rfl⟩ := hrel
    go_wp2_with fail
    unfold bodyPostD
    refine leaves_cons (f := 86) (args := #[.pointer (some ⟨w.heap.size + 1, 0, none⟩), .pointer (some ⟨w.heap.size, 0, none⟩)]) (by simp) (by simp [go_sem]) ?_
    refine (ups_none _ _ _ g .returning n1 n0).mono ?_
    rintro e u' w2 ⟨rfl, rfl, rfl⟩
    simp [Leaves, settle, results, Tryz.results63]
    exact ⟨pao, pc, cao, cc, fao, fc, sao, sc, eao, ec, lo, rfl, B1, M1, R1, hg1, hm1, (FA.mono (by simp)).trans F1 (by simp)⟩

theorem either_m {w : World} {p : Nat} {a o f d s k : Int} (h : MtN w p a o f d s k) (c : Int) :
    Calls Tryz.prog 65 #[.pointer (some ⟨p, 0, none⟩), .int .i64 c] w fun e w' => e = .returned (.int .i64 c) ∧ w' = w := by
  have HC := Lib.hid (code_m h)
  clear h
  go_enter Tryz.func65, Tryz.ntmps65
  go_wp2_with (go_at_call 42; refine HC.out.mono ?_; rintro e w1 ⟨rfl, rfl⟩)
  go_ret
  exact ⟨rfl, rfl⟩
set_option maxRecDepth 100000 in
theorem apart_none (w : World) (ao : Option Addr) (c : Nat) : Calls Tryz.prog 93 #[.slice ao 0 c] w fun e w' => e = .returned (.int .i64 0) ∧ Fr [] w w' := by
  have hmm := @run_makeMap Tryz.prog
  go_enter Tryz.func93, Tryz.ntmps93
  go_wp2_with fail
  go_loopw [19] (fun i wq => i = .int .i64 0 ∧ wq = w) (fun _ _ => 0)
  case atStart => exact ⟨rfl, rfl⟩
  case round =>
    obtain ⟨rfl, rfl⟩ := hrel
    go_wp2_with fail
    go_loopw [36] (fun i wq => i = .int .i64 0 ∧ wq = wr.alloc (.map #[] 0)) (fun _ _ => 0)
    case atStart => exact ⟨rfl, rfl⟩
    case round =>
      obtain ⟨rfl, rfl⟩ := hrel
      go_wp2_with fail
      go_ret
      exact ⟨rfl, (Fr.refl _ _).alloc _⟩
set_option maxRecDepth 100000 in
theorem files_none {w : World} {g mp ec : Nat} {eao : Option Addr} {av pv cv fv sv x9 x10 : Value} (h : BkAt w g mp av pv cv fv sv (.slice eao 0 ec) x9 x10) :
    Calls Tryz.prog 64 #[.pointer (some ⟨g, 0, none⟩)] w fun e w' => e = .returned (.int .i64 0) ∧ Fr [] w w' := by
  obtain ⟨c0, c1, c2, c3, c4, c5, c6, c7, c8, c9, c10, cf⟩ := cells11 h.blk
  clear h
  go_enter Tryz.func64, Tryz.ntmps64
  go_wp2_with fail
  go_loopw [3, 14] (fun l i wq => l = .slice none 0 0 ∧ i = .int .i64 0 ∧ wq = w) (fun _ _ _ => 0)
  case atStart => exact ⟨rfl, rfl, rfl⟩
  case round =>
    obtain ⟨rfl, rfl, rfl⟩ := hrel
    have HA := Lib.hid (apart_none wr none 0)
    go_wp2_with (go_at_call 93; refine HA.out.mono ?_; rintro e w1 ⟨rfl, F1⟩)
    go_ret
    exact ⟨rfl, F1⟩

/-- What Open hands back of an archive whose header tells of files alone. -/
def OpnR (w : World) (mp : Nat) (n : Nat) (R : World → Nat → Value → Prop) (a o f d s k : Int) (e : Ending) (w' : World) : Prop :=
  ∃ g av pao pc cao cc fao fc sao sc eao ec lo, e = .returned (.tuple #[.pointer (some ⟨g, 0, none⟩), .int .i64 0]) ∧ BkAt w' g mp av (.slice pao 0 pc) (.slice cao 0 cc) (.slice fao 0 fc) (.slice sao 0 sc) (.slice eao n ec) (.slice none 0 0) (.slice none 0 0) ∧ MtN w' mp a o f d s k ∧ R w' lo (.agg #[.slice pao 0 pc, .slice cao 0 cc, .slice fao 0 fc, .slice sao 0 sc, .slice eao n ec]) ∧ g < lo ∧ mp < lo ∧ w.heap.size ≤ g ∧ Fr [mp] w w'
set_option maxRecDepth 100000 in
set_option maxHeartbeats 2000000 in
theorem open_none {w : World} {p : Nat} {R : World → Nat → Value → Prop} {a o f d s k : Int} (M : MtN w p a o f d s k) (hs : 0 ≤ s) (hs2 : s ≤ 900000) (v : Value) (b : List UInt8) (h : Sl w v (bv b)) (hb : b.length ≤ 40000) (hc : opCode b = 0) {head : List UInt8} (hh : opHead b = head) (hP : FilesP head 0 R)
    (hRF : ∀ (wa wb : World) (lo : Nat) (v : Value) (S : List Nat), R wa lo v → Fr S wa wb → (∀ i ∈ S, i < lo) → R wb lo v) :
    Calls Tryz.prog 40 #[v, .pointer (some ⟨p, 0, none⟩)] w (OpnR w p 0 R a o f d (s + (b.length : Int) + (head.length : Int)) k) := by
  have HV := Lib.hid h
  obtain ⟨ao, cap, rfl, -⟩ := h.out
  rw [bv_length] at HV ⊢
  have HS := Lib.hid (step_m M (b.length : Int) (by omega) hs (by omega))
  have HO := Lib.hid (fun (wx : World) (F : Fr [p] w wx) => open_any wx _ b (HV.out.mt M F) hb)
  have hpl := M.lt
  have HBL := Lib.hid hb
  have hal : (opArea b).length ≤ 100000 := by
    unfold opArea
    rw [if_pos hc, List.length_take, List.length_drop]
    omega
  have hhl : head.length ≤ 100000 := by
    rw [← hh]
    unfold opHead
    rw [if_pos hc, List.length_drop]
    omega
  have HAL := Lib.hid hal
  have HHL := Lib.hid hhl
  clear h M hb hal hhl
  go_enter Tryz.func40, Tryz.ntmps40
  unfold OpenR at HO
  rw [hc] at HO
  rw [hh] at HO
  go_wp2_with (first
    | (have hq := F1; go_at_call 62; refine (HO.out _ F1).mono ?_; rintro e w2 ⟨v1, v2, rfl, hv1, hv2, F2⟩; have HV1 := Lib.hid hv1; have HV2 := Lib.hid hv2; obtain ⟨a1, c1, rfl, -⟩ := hv1.out; obtain ⟨a2, c2, rfl, -⟩ := hv2.out; rw [bv_length] at HV1 HV2)
    | (go_at_call 61; refine HS.out.mono ?_; rintro e w1 ⟨rfl, M1, F1⟩))
  rw [bv_length, bv_length]
  obtain ⟨w3, hw3⟩ : ∃ w3, w3 = w2.alloc (.cells #[.slice a1 (opArea b).length c1, .bool false, .int .u64 0, .slice none 0 0, .slice none 0 0, .slice none 0 0, .slice none 0 0, .slice none 0 0, .pointer (some ⟨p, 0, none⟩), .slice none 0 0, .slice none 0 0] 135) := ⟨_, rfl⟩
  rw [← hw3]
  have F3 : Fr [] w2 w3 := hw3 ▸ (Fr.refl _ _).alloc _
  have B3 : BkAt w3 w2.heap.size p (.slice a1 (opArea b).length c1) (.slice none 0 0) (.slice none 0 0) (.slice none 0 0) (.slice none 0 0) (.slice none 0 0) (.slice none 0 0) (.slice none 0 0) := ⟨hw3 ▸ heap_alloc_new w2 _⟩
  have M3 := (M1.fr F2 (by simp)).fr F3 (by simp)
  have hsz := Nat.le_trans F1.size F2.size
  have HH := Lib.hid (heads_f hP hRF B3 M3 (by omega) HAL.out _ (HV2.out.fr0 F3) HHL.out (by omega) (by have := HBL.out; omega))
  clear hw3
  go_wp2_with (first
    | (have hq := M5; go_at_call 65; refine (either_m M5 0).mono ?_; rintro e w6 ⟨rfl, rfl⟩)
    | (have hq := B4; go_at_call 64; refine (files_none B4).mono ?_; rintro e w5 ⟨rfl, F5⟩; have M5 := M4.fr F5 (by simp))
    | (go_at_call 63; refine HH.out.mono ?_; rintro e w4 ⟨pao, pc, cao, cc, fao, fc, sao, sc, eao, ec, lo, rfl, B4, M4, R4, hg4, hm4, F4⟩))
  go_ret2
  exact ⟨_, _, _, _, _, _, _, _, _, _, _, _, lo, rfl, B4.fr F5 (by simp), M5, hRF _ _ _ _ _ R4 F5 (by simp), hg4, hm4, hsz, ((F1.trans0 F2).trans0 F3).trans ((F4.trans0 F5) : Fr [w2.heap.size, p] w3 w6) (by simp; omega)⟩
end Go.Proofs.YthbkcjlpelihlaaGreatDoor
