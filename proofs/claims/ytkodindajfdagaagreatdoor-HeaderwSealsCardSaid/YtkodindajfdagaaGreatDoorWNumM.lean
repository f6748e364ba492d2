/- Contracts: the writer's put, number, part. No condition but that lengths fit. -/
import Derived.Test.YtkodindajfdagaaGreatDoorWMemM
namespace Go.Proofs.YtkodindajfdagaaGreatDoor
open Go.RowKit

set_option maxRecDepth 100000 in
theorem wput_one (w : World) (lo p : Nat) (v sv : Value) (bs xs : List UInt8) (d : DW) (h : WrAt w lo p v bs d) (hs : Sl w sv (bv xs)) (hb : bs.length + xs.length ≤ 100000000) :
    Calls Tryz.prog 31 #[.pointer (some ⟨p, 0, none⟩), sv] w fun e w' => e = .returned (.tuple #[]) ∧ WrTo w lo p v (bs ++ xs) d w' := by
  obtain ⟨c0, -, -, -, -, -, -, -, cz⟩ := cells8 h.blk
  have HS := Lib.hid hs
  have HW := Lib.hid h
  obtain ⟨vao, vcap, rfl, -⟩ := own_out h.own
  obtain ⟨sao, scap, rfl, -⟩ := hs.out
  rw [bv_length] at HS ⊢
  clear h hs
  go_enter Tryz.func31, Tryz.ntmps31
  go_wp2_with (at_builtin; refine wpList_append_sl_at sty_u8 rfl _ _ (by rfl) lo _ _ _ (by rfl) HW.out.own _ _ (by rfl) HS.out (bv_one _) (by simp [bv_length]; omega) (by simp [bv_length]; omega) HW.out.hl ?_)
  intro v2 w2 own2 g2 at2
  rw [bv_length, ← bv_append, ← List.length_append] at own2
  have HT := Lib.hid (HW.out.grow g2 own2 at2)
  have HC2 := Lib.hid (show w2.heap[p]? = some (.cells #[.slice vao bs.length vcap, d.pk, d.pl, d.ps, d.cs, d.fo, d.su, d.es] 78 (0, 0)) from by
    have hpv : p ∉ (Value.slice vao bs.length vcap).ownBlock.toList := fun hm => by
      have := HW.out.gs p (by simpa using hm)
      have := HW.out.hp
      omega
    have F : Fr (Value.slice vao bs.length vcap).ownBlock.toList w w2 := (Fr.refl _ _).grown g2 (fun k hk => .inl (by simp [hk]))
    exact (F.block p HW.out.lt hpv).trans HW.out.blk)
  obtain ⟨d0, -, -, -, -, -, -, -, dz⟩ := cells8 HC2.out
  obtain ⟨vao2, vcap2, rfl, -⟩ := own_out own2
  clear own2 g2 at2 c0 cz
  go_wp2_with fail
  go_end0
  exact ⟨rfl, by have := HT.out; rw [List.length_append] at this; exact this⟩

set_option maxRecDepth 100000 in
theorem wnumber_one (w : World) (lo p : Nat) (v : Value) (bs : List UInt8) (d : DW) (n : Nat) (h : WrAt w lo p v bs d) (hb : bs.length ≤ 100000000) (hn : n < 18446744073709551616) :
    Calls Tryz.prog 64 #[.pointer (some ⟨p, 0, none⟩), .int .u64 (n : Int)] w fun e w' => e = .returned (.tuple #[]) ∧ WrTo w lo p v (bs ++ shortN n) d w' := by
  obtain ⟨c0, -, -, -, -, -, -, -, cz⟩ := cells8 h.blk
  have HW := Lib.hid h
  have HP := Lib.hid (putnumber_any w v bs n (Sl.of_own h.own) (by omega) hn)
  obtain ⟨vao, vcap, rfl, -⟩ := own_out h.own
  have HZ := Lib.hid (fun (w1 : World) (F : Fr [] w w1) => (cells8 ((F.block p h.lt (by simp)).trans h.blk)))
  clear h hn
  go_enter Tryz.func64, Tryz.ntmps64
  go_wp2_with (go_at_call 95; refine HP.out.mono ?_; rintro e w1 ⟨r, rfl, own1, F1⟩; obtain ⟨rao, rcap, rfl, -⟩ := own_out own1; have d1 := (HZ.out w1 F1).1; have z1 := (HZ.out w1 F1).2.2.2.2.2.2.2.2; have HT := Lib.hid (HW.out.store F1 own1))
  go_end0
  exact ⟨rfl, HT.out⟩

theorem wput_any {w wx : World} {lo p : Nat} {v : Value} {bs : List UInt8} {d : DW} (T : WrTo w lo p v bs d wx) (sv : Value) (xs : List UInt8) (hs : Sl wx sv (bv xs)) (hb : bs.length + xs.length ≤ 100000000) :
    Calls Tryz.prog 31 #[.pointer (some ⟨p, 0, none⟩), sv] wx fun e w' => e = .returned (.tuple #[]) ∧ WrTo w lo p v (bs ++ xs) d w' :=
  T.chain fun v1 W1 => wput_one wx lo p v1 sv bs xs d W1 hs hb
theorem wnumber_any {w wx : World} {lo p : Nat} {v : Value} {bs : List UInt8} {d : DW} (T : WrTo w lo p v bs d wx) (n : Nat) (hb : bs.length ≤ 100000000) (hn : n < 18446744073709551616) :
    Calls Tryz.prog 64 #[.pointer (some ⟨p, 0, none⟩), .int .u64 (n : Int)] wx fun e w' => e = .returned (.tuple #[]) ∧ WrTo w lo p v (bs ++ shortN n) d w' :=
  T.chain fun v1 W1 => wnumber_one wx lo p v1 bs d n W1 hb hn

set_option maxRecDepth 100000 in
theorem wpart_one (w : World) (lo p : Nat) (v xv : Value) (bs xs : List UInt8) (d : DW) (id : UInt8) (h : WrAt w lo p v bs d) (bx : Nat) (hx : w.ownsRow bx 5 1 xv xs.length (bv xs)) (hd : ∀ k, xv.ownBlock = some k → k ≠ p ∧ v.ownBlock ≠ some k) (hb : bs.length + xs.length ≤ 90000000) :
    Calls Tryz.prog 96 #[.pointer (some ⟨p, 0, none⟩), .int .u8 (id.toNat : Int), xv] w fun e w' => e = .returned (.tuple #[]) ∧ WrTo w lo p v (bs ++ partW id xs) d w' := by
  obtain ⟨xao, xcap, rfl, -⟩ := own_out hx
  have hxl : xs.length < 18446744073709551616 := by omega
  have hw1 : IntKind.u64.wrap (xs.length : Int) = (xs.length : Int) := by simp [IntKind.wrap, IntKind.bits, IntKind.signed]; omega
  have HE := Lib.hid (show bs ++ partW id xs = ((bs ++ [id]) ++ shortN xs.length) ++ xs by simp [partW])
  have HB := Lib.hid hb
  obtain ⟨wA, hwA⟩ : ∃ wA, wA = w.alloc (.cells #[.int .u8 (id.toNat : Int)] 5) := ⟨_, rfl⟩
  have FA : Fr [] w wA := hwA ▸ (Fr.refl _ _).alloc _
  have HSA := Lib.hid (show Sl wA (.slice (some ⟨w.heap.size, 0, none⟩) 1 1) (bv [id]) from hwA ▸ sl_one w 5 (.int .u8 (id.toNat : Int)))
  have T0 := WrTo.refl (h.fr0 FA)
  have HXA := Lib.hid (own_frS hx FA (by simp))
  have HX2 := Lib.hid (fun (w2 : World) (bs2 : List UInt8) (T : WrTo wA lo p v bs2 d w2) => Sl.of_own (own_wr HXA.out T.frm hd))
  clear h hd hx
  go_enter Tryz.func96, Tryz.ntmps96
  go_wp2_with (first
    | (have hq := T2; go_at_call 31; refine (wput_any T2 _ xs (HX2.out w2 _ T2) (by have := HB.out; have := shortN_le xs.length; simp; omega)).mono ?_; rintro e w3 ⟨rfl, T3⟩)
    | (have hq := T1; go_at_call 64; refine (wnumber_any T1 xs.length (by have := HB.out; simp; omega) hxl).mono ?_; rintro e w2 ⟨rfl, T2⟩)
    | (go_at_call 31; rw [← hwA]; refine (wput_any T0 _ [id] HSA.out (by have := HB.out; simp; omega)).mono ?_; rintro e w1 ⟨rfl, T1⟩))
  go_end0
  exact ⟨rfl, by rw [HE.out]; exact WrTo.fr0 FA T3⟩
theorem wpart_any {w wx wy : World} {lo p : Nat} {v : Value} {bs : List UInt8} {d : DW} (T : WrTo w lo p v bs d wx) (F : Fr [] wx wy) (xv : Value) (xs : List UInt8) (id : UInt8) (hx : wy.ownsRow wx.heap.size 5 1 xv xs.length (bv xs)) (hb : bs.length + xs.length ≤ 90000000) :
    Calls Tryz.prog 96 #[.pointer (some ⟨p, 0, none⟩), .int .u8 (id.toNat : Int), xv] wy fun e w' => e = .returned (.tuple #[]) ∧ WrTo w lo p v (bs ++ partW id xs) d w' := by
  obtain ⟨v1, W1, F1, hk⟩ := T
  refine (wpart_one wy lo p v1 xv bs xs d id (W1.fr0 F) wx.heap.size hx (fun k hk => ?_) hb).mono ?_
  · have h1 := (own_ltS hx k hk).1
    refine ⟨?_, fun e => ?_⟩
    · have := W1.lt
      omega
    · have := (W1.gs k e).2
      omega
  · rintro e w' ⟨he, T2⟩
    exact ⟨he, WrTo.trans F1 hk (WrTo.fr0 F T2)⟩
end Go.Proofs.YtkodindajfdagaaGreatDoor
