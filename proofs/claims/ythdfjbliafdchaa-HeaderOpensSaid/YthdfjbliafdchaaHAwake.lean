/- Contract: law 20's awake: two headers and an archive that the document fixes, step by step. No condition. -/
import Derived.Test.YthdfjbliafdchaaHFolds
namespace Go.Proofs.Ythdfjbliafdchaa
open Go.RowKit

def bB (n k : Nat) : Rs := ⟨⟨[1, 5, 1, 0, 0], n, 0⟩, k⟩
theorem bB_things : (bB 2 0).things = (1, bB 3 0) := by kernel_rfl
theorem bB_byte3 : (bB 3 0).byte = (0, bB 4 0) := by kernel_rfl
theorem bB_byte4 : (bB 4 5).byte = (0, bB 5 5) := by kernel_rfl
theorem bB_ok (n : Nat) : (bB n 0).ok = bB n 0 := rfl
theorem bok (n : Nat) (w : World) (p cp : Nat) (q : Option Nat) (d : DV) (h : RdAt w p cp q (bB n 0) d) :
    Calls Try.prog 31 #[.pointer (some ⟨p, 0, none⟩)] w fun r w' => r = .returned (.bool true) ∧ RdAt w' p cp q (bB n 0) d ∧ Fr [p] w w' := ok_any w p cp q (bB n 0) d h
theorem bB_len (n k : Nat) : (bB n k).c.b.length ≤ 10000000 := by show 5 ≤ 10000000; decide

theorem info_fi : (Try.prog.info? 56).map (fun i => (i.zero, i.size, i.bytes)) = some (some (.agg #[.string .empty, .bool false, .bool false, .bool false, .int .u32 0, .bool false, .int .u64 0]), 7, 40) := by kernel_rfl
theorem sty_fi : SlTyM Try.prog 34 56 (.agg #[.string .empty, .bool false, .bool false, .bool false, .int .u32 0, .bool false, .int .u64 0]) 7 40 := ⟨Try.underlying34, by obtain ⟨i, h⟩ := info_parts info_fi; exact ⟨i, h⟩, rfl, by decide⟩

theorem bby3 (w : World) (p cp : Nat) (q : Option Nat) (d : DV) (h : RdAt w p cp q (bB 3 0) d) :
    Calls Try.prog 28 #[.pointer (some ⟨p, 0, none⟩)] w fun r w' => r = .returned (.int .i64 0) ∧ RdAt w' p cp q (bB 4 0) d ∧ Fr [cp] w w' := by
  have := byte_any w p cp q (bB 3 0) d h (bB_len _ _)
  rw [bB_byte3] at this
  exact this
theorem bby4 (w : World) (p cp : Nat) (q : Option Nat) (d : DV) (h : RdAt w p cp q (bB 4 5) d) :
    Calls Try.prog 28 #[.pointer (some ⟨p, 0, none⟩)] w fun r w' => r = .returned (.int .i64 0) ∧ RdAt w' p cp q (bB 5 5) d ∧ Fr [cp] w w' := by
  have := byte_any w p cp q (bB 4 5) d h (bB_len _ _)
  rw [bB_byte4] at this
  exact this
theorem bfail (w : World) (p cp : Nat) (q : Option Nat) (d : DV) (h : RdAt w p cp q (bB 4 0) d) :
    Calls Try.prog 32 #[.pointer (some ⟨p, 0, none⟩), .int .i64 5] w fun r w' => r = .returned (.tuple #[]) ∧ RdAt w' p cp q (bB 4 5) d ∧ Fr [p] w w' := rfail_any w p cp q (bB 4 0) d 5 h

/-- What is said of files: the reader's block, how many, the map of what was said, who has no stream, the files. -/
def LsAt (w : World) (lp p n mb : Nat) (ev fv : Value) : Prop := w.heap[lp]? = some (.cells #[.pointer (some ⟨p, 0, none⟩), .int .i64 n, .map (some mb), ev, fv] 110 (0, 0))

theorem cells5 {w : World} {g : Nat} {t : TypeId} {a0 a1 a2 a3 a4 : Value} (h : w.heap[g]? = some (.cells #[a0, a1, a2, a3, a4] t (0, 0))) :
    w.cell? ⟨g, 0, none⟩ = some a0 ∧ w.cell? ⟨g, 1, none⟩ = some a1 ∧ w.cell? ⟨g, 2, none⟩ = some a2 ∧ w.cell? ⟨g, 3, none⟩ = some a3 ∧ w.cell? ⟨g, 4, none⟩ = some a4 ∧ (∀ j, w.frozen? ⟨g, j, none⟩ = false) :=
  ⟨by simp [Go.Joins.cell_of_block h], by simp [Go.Joins.cell_of_block h], by simp [Go.Joins.cell_of_block h], by simp [Go.Joins.cell_of_block h], by simp [Go.Joins.cell_of_block h], fun j => Go.Joins.unfrozen_of_block h j⟩

theorem LsAt.fr {w w' : World} {lp p n mb : Nat} {ev fv : Value} {S : List Nat} (h : LsAt w lp p n mb ev fv) (F : Fr S w w') (hS : lp ∉ S) : LsAt w' lp p n mb ev fv :=
  (F.block lp (Array.getElem?_eq_some_iff.1 h).1 hS).trans h
theorem LsAt.lt {w : World} {lp p n mb : Nat} {ev fv : Value} (h : LsAt w lp p n mb ev fv) : lp < w.heap.size := (Array.getElem?_eq_some_iff.1 h).1
theorem LsAt.put3 {w : World} {lp p n mb : Nat} {ev fv : Value} (h : LsAt w lp p n mb ev fv) (v : Value) : LsAt (w.setCell ⟨lp, 3, none⟩ v) lp p n mb v fv := Go.Joins.block_setCell h _
theorem LsAt.put4 {w : World} {lp p n mb : Nat} {ev fv : Value} (h : LsAt w lp p n mb ev fv) (v : Value) : LsAt (w.setCell ⟨lp, 4, none⟩ v) lp p n mb ev v := Go.Joins.block_setCell h _

/-- The list in its block, the map of what was said, the reader: old memory is touched at p and cp alone. -/
structure LsM (w : World) (p cp : Nat) (q : Option Nat) (d : DV) (lp mb n m : Nat) (K : Int → Bool) (ev fv : Value) (s : Rs) (wx : World) : Prop where
  ls : LsAt wx lp p n mb ev fv
  mp : ISet wx mb m K
  rd : RdAt wx p cp q s d
  fr : Fr [p, cp] w wx
  lo : w.heap.size ≤ mb
  ne : mb < lp
  hp : p < w.heap.size
  hc : cp < w.heap.size
theorem LsM.on {w : World} {p cp : Nat} {q : Option Nat} {d : DV} {lp mb n m : Nat} {K : Int → Bool} {ev fv : Value} {s s' : Rs} {wx wy : World} {S : List Nat} (h : LsM w p cp q d lp mb n m K ev fv s wx) (F : Fr S wx wy) (hS : ∀ i ∈ S, i = p ∨ i = cp ∨ lp < i) (R : RdAt wy p cp q s' d) : LsM w p cp q d lp mb n m K ev fv s' wy := by
  obtain ⟨h1, h2, h3, h4, h5, h6, h7, h8⟩ := h
  refine ⟨h1.fr F (fun hm => ?_), h2.frS F (fun hm => ?_), R, h4.trans F (fun i hi => ?_), h5, h6, h7, h8⟩
  · have := hS _ hm; omega
  · have := hS _ hm; omega
  · rcases hS i hi with h | h | h
    · exact .inl (by simp [h])
    · exact .inl (by simp [h])
    · exact .inr (by omega)
theorem LsM.on2 {w : World} {p cp : Nat} {q : Option Nat} {d : DV} {lp mb n m : Nat} {K : Int → Bool} {ev fv : Value} {s s' : Rs} {wx wy : World} (h : LsM w p cp q d lp mb n m K ev fv s wx) (F : Fr [p, cp] wx wy) (R : RdAt wy p cp q s' d) : LsM w p cp q d lp mb n m K ev fv s' wy :=
  h.on F (by simp) R
theorem LsM.fr0 {w : World} {p cp : Nat} {q : Option Nat} {d : DV} {lp mb n m : Nat} {K : Int → Bool} {ev fv : Value} {s : Rs} {wx wy : World} (h : LsM w p cp q d lp mb n m K ev fv s wx) (F : Fr [] wx wy) : LsM w p cp q d lp mb n m K ev fv s wy :=
  h.on F (by simp) (h.rd.fr0 F)
theorem LsM.far {w : World} {p cp : Nat} {q : Option Nat} {d : DV} {lp mb n m : Nat} {K : Int → Bool} {ev fv : Value} {s : Rs} {wx wy : World} {b : Nat} (h : LsM w p cp q d lp mb n m K ev fv s wx) (hq : ∀ k, q = some k → k < w.heap.size) (F : Fr [b] wx wy) (hb : lp < b) : LsM w p cp q d lp mb n m K ev fv s wy :=
  h.on F (by simp; exact .inr (.inr hb)) (h.rd.fr F (by simp; have := h.hp; have := h.lo; have := h.ne; omega) (by simp; have := h.hc; have := h.lo; have := h.ne; omega) (fun k hk => by have := hq k hk; simp; have := h.lo; have := h.ne; omega))
theorem LsM.put4 {w : World} {p cp : Nat} {q : Option Nat} {d : DV} {lp mb n m : Nat} {K : Int → Bool} {ev fv : Value} {s : Rs} {wx : World} (h : LsM w p cp q d lp mb n m K ev fv s wx) (hq : ∀ k, q = some k → k < w.heap.size) (v : Value) : LsM w p cp q d lp mb n m K ev v s (wx.setCell ⟨lp, 4, none⟩ v) := by
  obtain ⟨h1, h2, h3, h4, h5, h6, h7, h8⟩ := h
  have F : Fr [lp] wx (wx.setCell ⟨lp, 4, none⟩ v) := (Fr.refl _ _).setCell (by simp) _
  exact ⟨h1.put4 v, h2.frS F (by simp; omega), h3.fr F (by simp; omega) (by simp; omega) (fun k hk => by have := hq k hk; simp; omega), h4.trans F (by simp; omega), h5, h6, h7, h8⟩

set_option maxRecDepth 100000 in
set_option maxHeartbeats 4000000 in
theorem files_b (w : World) (p cp : Nat) (q : Option Nat) (d : DV) (h : RdAt w p cp q (bB 2 0) d) :
    Calls Try.prog 49 #[.pointer (some ⟨p, 0, none⟩)] w fun e w' => e = .returned (.tuple #[]) ∧ (∃ es, RdAt w' p cp q (bB 4 5) { d with es := es }) ∧ Fr [p, cp] w w' := by
  have HR0 := Lib.hid h
  have HLT := Lib.hid (And.intro h.lt h.cur.lt)
  have HLQ := Lib.hid h.ql
  have HA1 := Lib.hid (fun w d (h : RdAt w p cp q (bB 2 0) d) => things_ok w p cp q (bB 2 0) d h (bB_len _ _))
  rw [bB_things] at HA1
  clear h
  obtain ⟨i0, hi0, hz0, hs0, hb0⟩ := info_parts info_fi
  have hb0' : i0.bytes * 1 ≤ 281474976710656 := by rw [hb0]; decide
  go_enter Try.func49, Try.ntmps49
  have hmm := @run_makeMap Try.prog
  go_upto_region 1 with (go_at_call 58; refine (HA1.out _ _ HR0.out).mono ?_; rintro e w1 ⟨rfl, R1, F1⟩)
  obtain ⟨w2, hw2⟩ : ∃ w2, w2 = (w1.alloc (Obj.map #[] 0)).alloc (Obj.cells #[.pointer (some ⟨p, 0, none⟩), .int .i64 1, .map (some w1.heap.size), .slice none 0 0, .slice none 0 0] 110) := ⟨_, rfl⟩
  rw [← hw2]
  have F12 : Fr [] w1 w2 := hw2 ▸ ((Fr.refl _ _).alloc _).alloc _
  have L2 : LsAt w2 (w1.heap.size + 1) p 1 w1.heap.size (.slice none 0 0) (.slice none 0 0) := by
    have := heap_alloc_new (w1.alloc (Obj.map #[] 0)) (Obj.cells #[.pointer (some ⟨p, 0, none⟩), .int .i64 1, .map (some w1.heap.size), .slice none 0 0, .slice none 0 0] 110)
    rw [World.size_alloc] at this
    rw [hw2]; exact this
  have I2 : ISet w2 w1.heap.size 0 (fun _ => false) := by
    rw [hw2]; exact (ISet.made w1).fr ((Fr.refl _ _).alloc _)
  have R2 : RdAt w2 p cp q (bB 3 0) d := R1.fr0 F12
  have hsz2 : w2.heap.size = w1.heap.size + 2 := by rw [hw2]; simp
  have hs1 : w.heap.size ≤ w1.heap.size := F1.size
  have FW2 : Fr [p, cp] w w2 := F1.trans0 F12
  obtain ⟨lp, hlp⟩ : ∃ lp, w1.heap.size + 1 = lp := ⟨_, rfl⟩
  obtain ⟨mb, hmb⟩ : ∃ mb, w1.heap.size = mb := ⟨_, rfl⟩
  rw [hlp] at L2
  rw [hlp]
  rw [hmb] at L2 I2 hs1 hsz2 hlp
  clear hw2 hmb R1 F1 F12
  obtain ⟨l0, l1, l2, l3, l4, lf⟩ := cells5 L2
  go_upto_region 2 with (at_make; refine wpList_make_full _ rfl _ _ _ rfl w2.heap.size _ i0 _ _ Try.underlying34 hi0 hz0 hs0 _ _ _ _ 1 (by rfl) (by rfl) rfl rfl hb0' (by unfold maxLen; omega) (Nat.le_refl _) ?_; intro w6 own6 g6; have F6 := (Fr.refl [] w2).grown g6 (by simp); have L6 := L2.fr F6 (by simp); obtain ⟨k0, k1, k2, k3, k4, kf⟩ := cells5 L6)
  obtain ⟨fb, hfb⟩ : ∃ fb, w2.heap.size = fb := ⟨_, rfl⟩
  rw [hfb] at own6
  obtain ⟨w7, hw7⟩ : ∃ w7, w7 = w6.setCell ⟨lp, 4, none⟩ (.slice (some ⟨fb, 0, none⟩) 1 1) := ⟨_, rfl⟩
  rw [← hsz2, hfb, ← hw7]
  have L7 : LsAt w7 lp p 1 mb (.slice none 0 0) (.slice (some ⟨fb, 0, none⟩) 1 1) := hw7 ▸ L6.put4 _
  have F67 : Fr [lp] w6 w7 := hw7 ▸ (Fr.refl _ _).setCell (by simp) _
  have hpl : p < mb ∧ cp < mb := by have := HLT.out; omega
  have M7 : LsM w p cp q d lp mb 1 0 (fun _ => false) (.slice none 0 0) (.slice (some ⟨fb, 0, none⟩) 1 1) (bB 3 0) w7 := by
    have M2 : LsM w p cp q d lp mb 1 0 (fun _ => false) (.slice none 0 0) (.slice none 0 0) (bB 3 0) w2 := ⟨L2, I2, R2, FW2, hs1, by omega, HLT.out.1, HLT.out.2⟩
    rw [hw7]
    exact (M2.fr0 F6).put4 HLQ.out _
  have own7 := own_frB own6 F67 (by simp; omega)
  have hlf : lp < fb := by omega
  clear hw7 L7 F67 own6 L6 F6 g6 k0 k1 k2 k3 k4 kf l0 l1 l2 l3 l4 lf L2 I2 R2 FW2 hmm hi0 hz0 hs0 hb0 hb0'
  clear hsz2
  obtain ⟨xs, hxs⟩ : ∃ xs, xs = (madeCells (Value.agg #[Value.string ByteArray.empty, Value.bool false, Value.bool false, Value.bool false, Value.int IntKind.u32 0, Value.bool false, Value.int IntKind.u64 0]).cells (1 * 7)).toList := ⟨_, rfl⟩
  rw [← hxs] at own7
  clear hxs
  obtain ⟨l0, l1, l2, l3, l4, lf⟩ := cells5 M7.ls
  go_wp2_with fail
  go_loopw [25] (fun i wr => ∃ (k : Nat) (ys : List Value), k ≤ 1 ∧ i = .int .i64 (k : Int) ∧ wr.ownsRow fb 56 7 (.slice (some ⟨fb, 0, none⟩) 1 1) 1 ys ∧ LsM w p cp q d lp mb 1 0 (fun _ => false) (.slice none 0 0) (.slice (some ⟨fb, 0, none⟩) 1 1) (bB 3 0) wr) (fun i _ => 1 - (intOf i).toNat)
  case atStart => exact ⟨0, xs, by omega, rfl, own7, M7⟩
  case round =>
    obtain ⟨k, ys, hk, rfl, own, M⟩ := hrel
    obtain ⟨l0, l1, l2, l3, l4, lf⟩ := cells5 M.ls
    have HM := Lib.hid M
    clear M M7 own7
    by_cases hlt : k < 1
    · obtain rfl : k = 0 := by omega
      have hst := (own.stored 1 (.bool true)).1
      have hkc : wr.cell? ⟨fb, 1, none⟩ = ys[1]? := by have := own.cellAt 1 (by omega); simpa using this
      have hkf : wr.frozen? ⟨fb, 1, none⟩ = false := own.frozenAt _
      obtain ⟨y1, hy1⟩ : ∃ y1, ys[1]? = some y1 := some_get ys 1 (by have := own.1; omega)
      rw [hy1] at hkc
      have F8 : Fr [fb] wr (wr.setCell ⟨fb, 1, none⟩ (.bool true)) := (Fr.refl _ _).setCell (by simp) _
      have M8 := HM.out.far HLQ.out F8 hlf
      clear own hy1
      go_wp2_with fail
      go_roundw
      case rel => exact ⟨1, _, by omega, by go_num, hst, M8⟩
      case measure => simp [intOf]
    · obtain rfl : k = 1 := by omega
      clear hk hlt
      go_wp2_with fail
      clear l0 l1 l2 l3 l4 lf own
      go_loopw [4, 5] (fun _ _ wx => LsM w p cp q d lp mb 1 0 (fun _ => false) (.slice none 0 0) (.slice (some ⟨fb, 0, none⟩) 1 1) (bB 3 0) wx) (fun _ _ _ => 0)
      case atStart => exact HM.out
      case round =>
        have HM2 := Lib.hid hrel
        clear hrel HM
        go_wp2_with (first
          | (have hq := M7; go_at_call 32; refine (bfail _ p cp q _ M7.rd).mono ?_; rintro e w8 ⟨rfl, R8, F8⟩; have M8 := M7.on2 F8.two1 R8; obtain ⟨k0, k1, k2, k3, k4, kf⟩ := cells5 M8.ls; obtain ⟨-, -, -, -, -, -, -, -, j8, jf⟩ := cells9 M8.rd.blk)
          | (have hq := M6; go_at_call 31; refine (bok 4 _ p cp q _ M6.rd).mono ?_; rintro e w7 ⟨rfl, R7, F7⟩; have M7 := M6.on2 F7.two1 R7; have lk := M7.mp.look (x := 17) (by decide); obtain ⟨l0, l1, l2, l3, l4, lf⟩ := cells5 M7.ls)
          | (have hq := M5; go_at_call 31; refine (bok 4 _ p cp q _ M5.rd).mono ?_; rintro e w6 ⟨rfl, R6, F6⟩; have M6 := M5.on2 F6.two1 R6)
          | (have hq := M4; go_at_call 28; refine (bby3 _ p cp q _ M4.rd).mono ?_; rintro e w5 ⟨rfl, R5, F5⟩; have M5 := M4.on2 F5.two2 R5)
          | (go_at_call 31; refine (bok 3 _ p cp q _ HM2.out.rd).mono ?_; rintro e w4 ⟨rfl, R4, F4⟩; have M4 := HM2.out.on2 F4.two1 R4))
        go_end0
        exact ⟨rfl, ⟨_, M8.rd.put8 _⟩, M8.fr.setCell (.inl (by simp)) _⟩
end Go.Proofs.Ythdfjbliafdchaa
