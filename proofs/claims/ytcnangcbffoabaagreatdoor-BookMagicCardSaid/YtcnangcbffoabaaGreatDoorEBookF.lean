/- Contracts: a book whose header tells of files alone: lay, sound, look, heads. No condition but that lengths fit. -/
import Derived.Test.YtcnangcbffoabaaGreatDoorEBook
import Derived.Test.YtcnangcbffoabaaGreatDoorEParseN
namespace Go.Proofs.YtcnangcbffoabaaGreatDoor
open Go.RowKit

/-- What Parse hands back of a header that tells of n files and of no streams; es: the row of files. -/
def FilesP (head : List UInt8) (n : Nat) (R : World → Nat → Value → Prop) : Prop := ∀ (w : World) (v : Value), Sl w v (bv head) → Calls Tryz.prog 62 #[v] w fun e w' => ∃ pao pc cao cc fao fc sao sc eao ec,
  e = .returned (.tuple #[.agg #[.bool false, .int .u64 0, .slice pao 0 pc, .slice cao 0 cc, .slice fao 0 fc, .slice sao 0 sc, .slice eao n ec], .int .i64 0]) ∧ R w' w.heap.size (.slice eao n ec) ∧ Fr [] w w'
def NoRow (_ : World) (_ : Nat) (_ : Value) : Prop := True
theorem filesP_nil : FilesP [] 0 NoRow := fun w v h => (parse_nil w v h).mono fun e w' he => by
  obtain ⟨rfl, F⟩ := he
  exact ⟨_, _, _, _, _, _, _, _, _, _, rfl, trivial, F⟩

/-- A book's block: the area, what the header says (no streams), the meter. -/
structure BkAt (w : World) (g mp : Nat) (av pv cv fv sv ev x9 x10 : Value) : Prop where
  blk : w.heap[g]? = some (.cells #[av, .bool false, .int .u64 0, pv, cv, fv, sv, ev, .pointer (some ⟨mp, 0, none⟩), x9, x10] 49 (0, 0))
theorem BkAt.lt {w : World} {g mp : Nat} {av pv cv fv sv ev x9 x10 : Value} (h : BkAt w g mp av pv cv fv sv ev x9 x10) : g < w.heap.size := (Array.getElem?_eq_some_iff.1 h.blk).1
theorem BkAt.fr {w w' : World} {g mp : Nat} {av pv cv fv sv ev x9 x10 : Value} {S : List Nat} (h : BkAt w g mp av pv cv fv sv ev x9 x10) (F : Fr S w w') (hg : g ∉ S) : BkAt w' g mp av pv cv fv sv ev x9 x10 := ⟨(F.block g h.lt hg).trans h.blk⟩

set_option maxRecDepth 100000 in
set_option maxHeartbeats 2000000 in
theorem lay_f {w : World} {g mp al ac pc fc : Nat} {aao pao fao : Option Addr} {cv sv ev x9 x10 : Value} (h : BkAt w g mp (.slice aao al ac) (.slice pao 0 pc) cv (.slice fao 0 fc) sv ev x9 x10) (hal : al ≤ 100000) :
    Calls Tryz.prog 94 #[.pointer (some ⟨g, 0, none⟩)] w fun e w' => e = .returned (.int .i64 0) ∧ BkAt w' g mp (.slice aao al ac) (.slice pao 0 pc) cv (.slice fao 0 fc) sv ev (.slice none 0 0) (.slice none 0 0) ∧ Fr [g] w w' := by
  obtain ⟨c0, c1, c2, c3, c4, c5, c6, c7, c8, c9, c10, cf⟩ := cells11 h.blk
  have HH := Lib.hid h
  clear h
  go_enter Tryz.func94, Tryz.ntmps94
  go_wp2_with fail
  obtain ⟨w1, hw1⟩ : ∃ w1, w1 = (w.setCell ⟨g, 9, none⟩ (.slice none 0 0)).setCell ⟨g, 10, none⟩ (.slice none 0 0) := ⟨_, rfl⟩
  rw [← hw1]
  have B1 : BkAt w1 g mp (.slice aao al ac) (.slice pao 0 pc) cv (.slice fao 0 fc) sv ev (.slice none 0 0) (.slice none 0 0) := hw1 ▸ ⟨Go.Joins.block_setCell (i := 10) (Go.Joins.block_setCell (i := 9) HH.out.blk _) _⟩
  have F1 : Fr [g] w w1 := hw1 ▸ ((Fr.refl _ _).setCell (by simp) _).setCell (by simp) _
  clear c0 c1 c2 c3 c4 c5 c6 c7 c8 c9 c10 cf hw1
  obtain ⟨c0, c1, c2, c3, c4, c5, c6, c7, c8, c9, c10, cf⟩ := cells11 B1.blk
  have halI : ¬ (al : Int) < 0 := by omega
  go_loopw [3, 26] (fun at_ i wx => at_ = .int .u64 0 ∧ i = .int .i64 0 ∧ wx = w1) (fun _ _ _ => 0)
  case atStart => exact ⟨rfl, rfl, rfl⟩
  case round =>
    obtain ⟨rfl, rfl, rfl⟩ := hrel
    go_wp2_with fail
    go_loopw [6, 60] (fun n i wq => n = .int .i64 0 ∧ i = .int .i64 0 ∧ wq = wr) (fun _ _ _ => 0)
    case atStart => exact ⟨rfl, rfl, rfl⟩
    case round =>
      obtain ⟨rfl, rfl, rfl⟩ := hrel
      go_wp2_with fail
      go_ret
      exact ⟨rfl, B1, F1⟩

set_option maxRecDepth 100000 in
set_option maxHeartbeats 2000000 in
theorem sound_f {w : World} {g mp al ac pc cc fc : Nat} {aao pao cao fao : Option Addr} {sv ev x9 x10 : Value} (h : BkAt w g mp (.slice aao al ac) (.slice pao 0 pc) (.slice cao 0 cc) (.slice fao 0 fc) sv ev x9 x10) (hal : al ≤ 100000) :
    Calls Tryz.prog 63 #[.pointer (some ⟨g, 0, none⟩)] w fun e w' => e = .returned (.int .i64 0) ∧ BkAt w' g mp (.slice aao al ac) (.slice pao 0 pc) (.slice cao 0 cc) (.slice fao 0 fc) sv ev (.slice none 0 0) (.slice none 0 0) ∧ Fr [g] w w' := by
  have HL := Lib.hid (lay_f h hal)
  clear h
  go_enter Tryz.func63, Tryz.ntmps63
  go_wp2_with (go_at_call 94; refine HL.out.mono ?_; rintro e w1 ⟨rfl, B1, F1⟩; obtain ⟨c0, c1, c2, c3, c4, c5, c6, c7, c8, c9, c10, cf⟩ := cells11 B1.blk)
  go_loopw [23] (fun i wq => i = .int .i64 0 ∧ wq = w1) (fun _ _ => 0)
  case atStart => exact ⟨rfl, rfl⟩
  case round =>
    obtain ⟨rfl, rfl⟩ := hrel
    go_wp2_with fail
    go_loopw [56] (fun i wq => i = .int .i64 0 ∧ wq = wr) (fun _ _ => 0)
    case atStart => exact ⟨rfl, rfl⟩
    case round =>
      obtain ⟨rfl, rfl⟩ := hrel
      go_wp2_with fail
      go_ret
      exact ⟨rfl, B1, F1⟩

/-- What a book's look leaves. -/
def LookR (w : World) (g mp : Nat) (av : Value) (n : Nat) (R : World → Nat → Value → Prop) (a o f d s k : Int) (e : Ending) (w' : World) : Prop :=
  ∃ pao pc cao cc fao fc sao sc eao ec lo, e = .returned (.int .i64 0) ∧ BkAt w' g mp av (.slice pao 0 pc) (.slice cao 0 cc) (.slice fao 0 fc) (.slice sao 0 sc) (.slice eao n ec) (.slice none 0 0) (.slice none 0 0) ∧ MtN w' mp a o f d s k ∧ R w' lo (.slice eao n ec) ∧ g < lo ∧ mp < lo ∧ Fr [g, mp] w w'
/-- What the header says is laid into the book. -/
def dG (w : World) (g : Nat) (a1 a2 a3 a4 a5 a6 a7 : Value) : World := ((((((w.setCell ⟨g, 1, none⟩ a1).setCell ⟨g, 2, none⟩ a2).setCell ⟨g, 3, none⟩ a3).setCell ⟨g, 4, none⟩ a4).setCell ⟨g, 5, none⟩ a5).setCell ⟨g, 6, none⟩ a6).setCell ⟨g, 7, none⟩ a7
set_option maxRecDepth 100000 in
set_option maxHeartbeats 4000000 in
theorem dG_blk {w : World} {g : Nat} {t : TypeId} {b0 b1 b2 b3 b4 b5 b6 b7 b8 b9 b10 : Value} (h : w.heap[g]? = some (.cells #[b0, b1, b2, b3, b4, b5, b6, b7, b8, b9, b10] t (0, 0))) (a1 a2 a3 a4 a5 a6 a7 : Value) :
    (dG w g a1 a2 a3 a4 a5 a6 a7).heap[g]? = some (.cells #[b0, a1, a2, a3, a4, a5, a6, a7, b8, b9, b10] t (0, 0)) ∧ Fr [g] w (dG w g a1 a2 a3 a4 a5 a6 a7) :=
  ⟨Go.Joins.block_setCell (i := 7) (Go.Joins.block_setCell (i := 6) (Go.Joins.block_setCell (i := 5) (Go.Joins.block_setCell (i := 4) (Go.Joins.block_setCell (i := 3) (Go.Joins.block_setCell (i := 2) (Go.Joins.block_setCell (i := 1) h _) _) _) _) _) _) _,
   (((((((Fr.refl _ _).setCell (by simp) _).setCell (by simp) _).setCell (by simp) _).setCell (by simp) _).setCell (by simp) _).setCell (by simp) _).setCell (by simp) _⟩
set_option maxRecDepth 100000 in
set_option maxHeartbeats 2000000 in
theorem look_f {w : World} {g mp al ac n : Nat} {aao : Option Addr} {R : World → Nat → Value → Prop} {a o f d s k : Int} {head : List UInt8} (hP : FilesP head n R) (hRF : ∀ (wa wb : World) (lo : Nat) (v : Value) (S : List Nat), R wa lo v → Fr S wa wb → (∀ i ∈ S, i < lo) → R wb lo v)
    (h : BkAt w g mp (.slice aao al ac) (.slice none 0 0) (.slice none 0 0) (.slice none 0 0) (.slice none 0 0) (.slice none 0 0) (.slice none 0 0) (.slice none 0 0)) (M : MtN w mp a o f d s k) (hne : g ≠ mp) (hal : al ≤ 100000) (v : Value) (hv : Sl w v (bv head)) (hl : head.length ≤ 100000) (hs : 0 ≤ s) (hs2 : s ≤ 1000000) :
    Calls Tryz.prog 34 #[.pointer (some ⟨g, 0, none⟩), v] w (LookR w g mp (.slice aao al ac) n R a o f d (s + (head.length : Int)) k) := by
  have HV := Lib.hid hv
  obtain ⟨ho, hc, rfl, -⟩ := hv.out
  rw [bv_length] at HV ⊢
  obtain ⟨c0, c1, c2, c3, c4, c5, c6, c7, c8, c9, c10, cf⟩ := cells11 h.blk
  have HS := Lib.hid (step_m M (head.length : Int) (by omega) hs (by omega))
  have HH := Lib.hid h
  have HP := Lib.hid (fun (wx : World) (F : Fr [mp] w wx) => hP wx _ (HV.out.mt M F))
  have hne2 : g ∉ [mp] := by simpa using hne
  have hne3 : mp ∉ [g] := by simpa using fun e => hne e.symm
  have hgl := h.lt
  have hml := M.lt
  clear h M hv hP
  go_enter Tryz.func34, Tryz.ntmps34
  go_wp2_with (first
    | (have hq := F1; go_at_call 62; refine (HP.out _ F1).mono ?_; rintro e w2 ⟨pao, pc, cao, cc, fao, fc, sao, sc, eao, ec, rfl, R2, F2⟩; have B2 := (HH.out.fr F1 hne2).fr F2 (by simp); obtain ⟨d0, d1, d2, d3, d4, d5, d6, d7, d8, d9, d10, df⟩ := cells11 B2.blk; have hgl2 := B2.lt; have hgn : ¬ g = w2.heap.size := (by omega); have hgn2 : ¬ w2.heap.size = g := (by omega))
    | (go_at_call 9; refine HS.out.mono ?_; rintro e w1 ⟨rfl, M1, F1⟩))
  obtain ⟨w3, hw3⟩ : ∃ w3, w3 = (dG w2 g (.bool false) (.int .u64 0) (.slice pao 0 pc) (.slice cao 0 cc) (.slice fao 0 fc) (.slice sao 0 sc) (.slice eao n ec)).alloc (.cells #[.bool false, .int .u64 0, .slice pao 0 pc, .slice cao 0 cc, .slice fao 0 fc, .slice sao 0 sc, .slice eao n ec] 46) := ⟨_, rfl⟩
  obtain ⟨q1, q2⟩ := dG_blk B2.blk (.bool false) (.int .u64 0) (.slice pao 0 pc) (.slice cao 0 cc) (.slice fao 0 fc) (.slice sao 0 sc) (.slice eao n ec)
  have F3 : Fr [g] w2 w3 := hw3 ▸ q2.alloc _
  have B3 : BkAt w3 g mp (.slice aao al ac) (.slice pao 0 pc) (.slice cao 0 cc) (.slice fao 0 fc) (.slice sao 0 sc) (.slice eao n ec) (.slice none 0 0) (.slice none 0 0) := ⟨by
    rw [hw3]
    exact (((Fr.refl [] _).alloc _).block g (by have := q2.size; omega) (by simp)).trans q1⟩
  rw [dG] at hw3
  rw [← hw3]
  have HS3 := Lib.hid (sound_f B3 hal)
  clear hw3 q1 q2 d0 d1 d2 d3 d4 d5 d6 d7 d8 d9 d10 df c0 c1 c2 c3 c4 c5 c6 c7 c8 c9 c10 cf
  go_wp2_with (go_at_call 63; refine HS3.out.mono ?_; rintro e w4 ⟨rfl, B4, F4⟩)
  go_ret
  have hs1 := F1.size
  refine ⟨_, _, _, _, _, _, _, _, _, _, w1.heap.size, rfl, B4, ((M1.fr F2 (by simp)).fr F3 hne3).fr F4 hne3, hRF _ _ _ _ _ (hRF _ _ _ _ _ R2 F3 (by simp; omega)) F4 (by simp; omega), by omega, by omega, ?_⟩
  exact ((F1.mono (by simp)).trans0 F2).trans ((F3.trans F4 (by simp)).mono (by simp) : Fr [g, mp] w2 w4) (by simp)
end Go.Proofs.YtcnangcbffoabaaGreatDoor
