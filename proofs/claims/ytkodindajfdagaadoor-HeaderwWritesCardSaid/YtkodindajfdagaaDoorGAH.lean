/- The writer of headers in memory. No condition. -/
import Derived.Test.YtkodindajfdagaaDoorGAG
import Derived.Maps.AppendAt
namespace Go.Proofs.YtkodindajfdagaaDoor
open Go.RowKit

/-- A description's seven values. -/
structure DW where
  pk : Value
  pl : Value
  ps : Value
  cs : Value
  fo : Value
  su : Value
  es : Value
/-- The writer in block p; its bytes are of the call's own, in blocks from lo on. -/
structure WrAt (w : World) (lo p : Nat) (v : Value) (bs : List UInt8) (d : DW) : Prop where
  blk : w.heap[p]? = some (.cells #[v, d.pk, d.pl, d.ps, d.cs, d.fo, d.su, d.es] 52 (0, 0))
  own : w.ownsRow lo 5 1 v bs.length (bv bs)
  hp : p < lo
  hl : lo ≤ w.heap.size

theorem cells8 {w : World} {g : Nat} {t : TypeId} {a0 a1 a2 a3 a4 a5 a6 a7 : Value} (h : w.heap[g]? = some (.cells #[a0, a1, a2, a3, a4, a5, a6, a7] t (0, 0))) :
    w.cell? ⟨g, 0, none⟩ = some a0 ∧ w.cell? ⟨g, 1, none⟩ = some a1 ∧ w.cell? ⟨g, 2, none⟩ = some a2 ∧ w.cell? ⟨g, 3, none⟩ = some a3 ∧ w.cell? ⟨g, 4, none⟩ = some a4 ∧ w.cell? ⟨g, 5, none⟩ = some a5 ∧ w.cell? ⟨g, 6, none⟩ = some a6 ∧ w.cell? ⟨g, 7, none⟩ = some a7 ∧ (∀ j, w.frozen? ⟨g, j, none⟩ = false) :=
  ⟨by simp [Go.Joins.cell_of_block h], by simp [Go.Joins.cell_of_block h], by simp [Go.Joins.cell_of_block h], by simp [Go.Joins.cell_of_block h], by simp [Go.Joins.cell_of_block h], by simp [Go.Joins.cell_of_block h], by simp [Go.Joins.cell_of_block h], by simp [Go.Joins.cell_of_block h], fun j => Go.Joins.unfrozen_of_block h j⟩

theorem WrAt.lt {w : World} {lo p : Nat} {v : Value} {bs : List UInt8} {d : DW} (h : WrAt w lo p v bs d) : p < w.heap.size := (Array.getElem?_eq_some_iff.1 h.blk).1
theorem WrAt.gs {w : World} {lo p : Nat} {v : Value} {bs : List UInt8} {d : DW} (h : WrAt w lo p v bs d) (k : Nat) (hk : v.ownBlock = some k) : lo ≤ k ∧ k < w.heap.size := own_ltS h.own k hk
theorem WrAt.fr {w w' : World} {lo p : Nat} {v : Value} {bs : List UInt8} {d : DW} {S : List Nat} (h : WrAt w lo p v bs d) (F : Fr S w w') (hp : p ∉ S) (hv : ∀ k, v.ownBlock = some k → k ∉ S) : WrAt w' lo p v bs d :=
  ⟨(F.block p h.lt hp).trans h.blk, own_frS h.own F hv, h.hp, Nat.le_trans h.hl F.size⟩
theorem WrAt.fr0 {w w' : World} {lo p : Nat} {v : Value} {bs : List UInt8} {d : DW} (h : WrAt w lo p v bs d) (F : Fr [] w w') : WrAt w' lo p v bs d := h.fr F (by simp) (by simp)

/-- What a step of the writer leaves: these bytes; nothing else is touched but its block and its bytes. -/
def WrTo (w : World) (lo p : Nat) (v : Value) (bs : List UInt8) (d : DW) (w' : World) : Prop :=
  ∃ v', WrAt w' lo p v' bs d ∧ Fr (p :: v.ownBlock.toList) w w' ∧ ∀ k, v'.ownBlock = some k → v.ownBlock = some k ∨ w.heap.size ≤ k
theorem WrTo.out {w : World} {lo p : Nat} {v : Value} {bs : List UInt8} {d : DW} {w' : World} (h : WrTo w lo p v bs d w') :
    ∃ v', WrAt w' lo p v' bs d ∧ Fr (p :: v.ownBlock.toList) w w' ∧ ∀ k, v'.ownBlock = some k → v.ownBlock = some k ∨ w.heap.size ≤ k := h
/-- Two steps are one. -/
theorem WrTo.trans {w w1 w2 : World} {lo p : Nat} {v v1 : Value} {bs : List UInt8} {d : DW} (F : Fr (p :: v.ownBlock.toList) w w1) (hk : ∀ k, v1.ownBlock = some k → v.ownBlock = some k ∨ w.heap.size ≤ k) (h : WrTo w1 lo p v1 bs d w2) : WrTo w lo p v bs d w2 := by
  obtain ⟨v2, W2, F2, h2⟩ := h
  refine ⟨v2, W2, F.trans F2 (fun i hi => ?_), fun k hk2 => ?_⟩
  · simp only [List.mem_cons, Option.mem_toList] at hi
    rcases hi with rfl | hi
    · exact .inl (by simp)
    · rcases hk i hi with h | h
      · exact .inl (by simp [h])
      · exact .inr h
  · rcases h2 k hk2 with h | h
    · exact hk k h
    · exact .inr (Nat.le_trans F.size h)
theorem WrTo.refl {w : World} {lo p : Nat} {v : Value} {bs : List UInt8} {d : DW} (h : WrAt w lo p v bs d) : WrTo w lo p v bs d w := ⟨v, h, Fr.refl _ _, fun _ h => .inl h⟩
theorem WrTo.fr0 {w w0 w1 : World} {lo p : Nat} {v : Value} {bs : List UInt8} {d : DW} (F : Fr [] w w0) (h : WrTo w0 lo p v bs d w1) : WrTo w lo p v bs d w1 :=
  WrTo.trans (F.mono (by simp)) (fun _ h => .inl h) h
theorem WrTo.then0 {w w0 w1 : World} {lo p : Nat} {v : Value} {bs : List UInt8} {d : DW} (h : WrTo w lo p v bs d w0) (F : Fr [] w0 w1) : WrTo w lo p v bs d w1 := by
  obtain ⟨v', W, F1, hk⟩ := h
  exact ⟨v', W.fr0 F, F1.trans0 F, hk⟩
theorem WrTo.frm {w : World} {lo p : Nat} {v : Value} {bs : List UInt8} {d : DW} {w' : World} (h : WrTo w lo p v bs d w') : Fr (p :: v.ownBlock.toList) w w' := by
  obtain ⟨_, _, F, _⟩ := h
  exact F
/-- A contract of one step, behind other steps. -/
theorem WrTo.chain {w wx : World} {lo p : Nat} {v : Value} {bs cs : List UInt8} {d : DW} {f : Nat} {args : Array Value} {r : Ending} (T : WrTo w lo p v bs d wx)
    (h : ∀ v1, WrAt wx lo p v1 bs d → Calls Tryd.prog f args wx fun e w' => e = r ∧ WrTo wx lo p v1 cs d w') : Calls Tryd.prog f args wx fun e w' => e = r ∧ WrTo w lo p v cs d w' := by
  obtain ⟨v1, W1, F1, hk⟩ := T
  refine (h v1 W1).mono ?_
  rintro e w' ⟨he, T2⟩
  exact ⟨he, WrTo.trans F1 hk T2⟩
/-- Rows of the call's own in other blocks are kept. -/
theorem own_wr {w w' : World} {p base e sz n : Nat} {v u : Value} {xs : List Value} (h : w.ownsRow base e sz u n xs) (F : Fr (p :: v.ownBlock.toList) w w') (h1 : ∀ k, u.ownBlock = some k → k ≠ p ∧ v.ownBlock ≠ some k) : w'.ownsRow base e sz u n xs :=
  own_frS h F fun k hk hm => by
    simp only [List.mem_cons, Option.mem_toList] at hm
    rcases hm with rfl | hm
    · exact (h1 k hk).1 rfl
    · exact (h1 k hk).2 hm
theorem apart_step {w : World} {v v' : Value} {k : Nat} (hk : v'.ownBlock = some k → v.ownBlock = some k ∨ w.heap.size ≤ k) (h1 : v.ownBlock ≠ some k) (h2 : k < w.heap.size) : v'.ownBlock ≠ some k := fun e => by
  rcases hk e with h | h
  · exact h1 h
  · omega

/-- 'append(v, y...)', and where the new slice lies. -/
theorem wpList_append_sl_at {P : Program} {t e : TypeId} {z : Value} {bytes : Nat} (T : SlTy P t e z bytes) {w : World} {ops : Array Oper} {rest : List Oper} {o : Oper} {a : Act} {Q : Exit → Act → World → Prop} (hgd : o.guard = none) (s x : Operand)
    (ho : o.op = .call { callee := .builtin .append, args := #[s, x], argTypes := #[t, t] })
    (base : Nat) (v : Value) (n : Nat) (xs : List Value) (hs : a.eval s = v) (hown : w.ownsRow base e 1 v n xs)
    (y : Value) (ys : List Value) (hx : a.eval x = y) (hy : Sl w y ys) (h1 : ∀ u ∈ ys, u.oneCell' = true)
    (hm : n + ys.length ≤ 9223372036854775807) (hbytes : (n + ys.length) * bytes ≤ 140737488355328) (hbase : base ≤ w.heap.size)
    (h : ∀ v' w', w'.ownsRow base e 1 v' (n + ys.length) (xs ++ ys) → w.grownBy w' v.ownBlock → (v'.ownBlock = v.ownBlock ∨ v'.ownBlock = some w.heap.size) → wpList P ops Q rest (a.put o.dst v') w') : wpList P ops Q (o :: rest) a w := by
  obtain ⟨i, hi, hz, hsz, hby⟩ := T.info
  obtain ⟨ao, cap, rfl, c1, c2, c3, c4⟩ := hy
  cases ao with
  | none =>
    have := c3 rfl
    subst this
    have hys : ys = [] := List.eq_nil_of_length_eq_zero (by omega)
    subst hys
    refine wpList_append_own_none hgd s x t ho base e i 1 T.under (by simpa using hi) v n xs hs hown hx (h v w (by simpa using hown) (World.grownBy.refl w _) (.inl rfl))
  | some ad =>
    refine wpList_append_own_at w hgd s x t ho base e i z 1 bytes T.under hi hz hsz hby T.one (by decide) v n xs hs hown ad ys.length cap ys hx (by simp) ?_ h1 (by unfold maxLen; omega) hbytes hbase (fun v' w' g1 g2 _ g4 => h v' w' g1 g2 g4)
    intro j u hu
    have hj : j < ys.length := (List.getElem?_eq_some_iff.1 hu).1
    obtain ⟨q1, q2, q3⟩ := c4 ad rfl (by omega)
    obtain ⟨b, of, sp⟩ := ad
    dsimp only at q1 q2 q3
    subst q1
    have hadd : (⟨b, of, none⟩ : Addr).add j = ⟨b, of + j, none⟩ := by unfold Addr.add; split <;> simp_all
    rw [hadd, q3 j hj, hu]

/-- New bytes are stored as the writer's. -/
theorem WrAt.store {w w1 : World} {lo p : Nat} {v r : Value} {bs cs : List UInt8} {d : DW} (h : WrAt w lo p v bs d) (F : Fr [] w w1) (own : w1.ownsRow w.heap.size 5 1 r cs.length (bv cs)) : WrTo w lo p v cs d (w1.setCell ⟨p, 0, none⟩ r) := by
  have F2 : Fr [p] w1 (w1.setCell ⟨p, 0, none⟩ r) := (Fr.refl _ _).setCell (by simp) _
  refine ⟨r, ⟨Go.Joins.block_setCell ((F.block p h.lt (by simp)).trans h.blk) _, ?_, h.hp, ?_⟩, (F.mono (by simp)).trans F2 (by simp), fun k hk => .inr (own_ltS own k hk).1⟩
  · exact own_frS (own_mono own h.hl) F2 fun k hk hm => by
      have h1 := (own_ltS own k hk).1
      have h2 := h.lt
      simp at hm
      omega
  · have := F.size
    have := h.hl
    simp
    omega
/-- The writer's bytes have grown where they were, or anew. -/
theorem WrAt.grow {w w1 : World} {lo p : Nat} {v r : Value} {bs cs : List UInt8} {d : DW} (h : WrAt w lo p v bs d) (g : w.grownBy w1 v.ownBlock) (own : w1.ownsRow lo 5 1 r cs.length (bv cs)) (hat : r.ownBlock = v.ownBlock ∨ r.ownBlock = some w.heap.size) : WrTo w lo p v cs d (w1.setCell ⟨p, 0, none⟩ r) := by
  have F2 : Fr [p] w1 (w1.setCell ⟨p, 0, none⟩ r) := (Fr.refl _ _).setCell (by simp) _
  have F1 : Fr (p :: v.ownBlock.toList) w w1 := (Fr.refl _ _).grown g (fun k hk => .inl (by simp [hk]))
  have hpv : p ∉ v.ownBlock.toList := fun hm => by
    have := h.gs p (by simpa using hm)
    have := h.hp
    omega
  have F1' : Fr v.ownBlock.toList w w1 := (Fr.refl _ _).grown g (fun k hk => .inl (by simp [hk]))
  refine ⟨r, ⟨Go.Joins.block_setCell ((F1'.block p h.lt hpv).trans h.blk) _, ?_, h.hp, ?_⟩, F1.trans F2 (by simp), fun k hk => ?_⟩
  · exact own_frS own F2 fun k hk hm => by
      have h1 := (own_ltS own k hk).1
      have h2 := h.hp
      simp at hm
      omega
  · have := F1.size
    have := h.hl
    simp
    omega
  · rcases hat with e | e
    · exact .inl (e ▸ hk)
    · rw [e] at hk
      cases hk
      exact .inr (Nat.le_refl _)
end Go.Proofs.YtkodindajfdagaaDoor
/- Contracts: the writer's put, number, part. No condition but that lengths fit. -/
namespace Go.Proofs.YtkodindajfdagaaDoor
open Go.RowKit

set_option maxRecDepth 100000 in
theorem wput_one (w : World) (lo p : Nat) (v sv : Value) (bs xs : List UInt8) (d : DW) (h : WrAt w lo p v bs d) (hs : Sl w sv (bv xs)) (hb : bs.length + xs.length ≤ 100000000) :
    Calls Tryd.prog 11 #[.pointer (some ⟨p, 0, none⟩), sv] w fun e w' => e = .returned (.tuple #[]) ∧ WrTo w lo p v (bs ++ xs) d w' := by
  obtain ⟨c0, -, -, -, -, -, -, -, cz⟩ := cells8 h.blk
  have HS := Lib.hid hs
  have HW := Lib.hid h
  obtain ⟨vao, vcap, rfl, -⟩ := own_out h.own
  obtain ⟨sao, scap, rfl, -⟩ := hs.out
  rw [bv_length] at HS ⊢
  clear h hs
  go_enter Tryd.func11, Tryd.ntmps11
  go_wp2_with (at_builtin; refine wpList_append_sl_at sty_u8 rfl _ _ (by rfl) lo _ _ _ (by rfl) HW.out.own _ _ (by rfl) HS.out (bv_one _) (by simp [bv_length]; omega) (by simp [bv_length]; omega) HW.out.hl ?_)
  intro v2 w2 own2 g2 at2
  rw [bv_length, ← bv_append, ← List.length_append] at own2
  have HT := Lib.hid (HW.out.grow g2 own2 at2)
  have HC2 := Lib.hid (show w2.heap[p]? = some (.cells #[.slice vao bs.length vcap, d.pk, d.pl, d.ps, d.cs, d.fo, d.su, d.es] 52 (0, 0)) from by
    have hpv : p ∉ (Value.slice vao bs.length vcap).ownBlock.toList := fun hm => by
      have := HW.out.gs p (by simpa using hm)
      have := HW.out.hp
      omega
    have F : Fr (Value.slice vao bs.length vcap).ownBlock.toList w w2 := (Fr.refl _ _).grown g2 (fun k hk => .inl (by simp [hk]))
    exact (F.block p HW.out.lt hpv).trans HW.out.blk)
  obtain ⟨d0, -, -, -, -, -, -, -, dz⟩ := cells8 HC2.out
  obtain ⟨vao2, vcap2, rfl, -⟩ := own_out own2
  clear own2 g2 at2 c0 cz
  go_wp2_with fail
  go_end0
  exact ⟨rfl, by have := HT.out; rw [List.length_append] at this; exact this⟩

set_option maxRecDepth 100000 in
theorem wnumber_one (w : World) (lo p : Nat) (v : Value) (bs : List UInt8) (d : DW) (n : Nat) (h : WrAt w lo p v bs d) (hb : bs.length ≤ 100000000) (hn : n < 18446744073709551616) :
    Calls Tryd.prog 24 #[.pointer (some ⟨p, 0, none⟩), .int .u64 (n : Int)] w fun e w' => e = .returned (.tuple #[]) ∧ WrTo w lo p v (bs ++ shortN n) d w' := by
  obtain ⟨c0, -, -, -, -, -, -, -, cz⟩ := cells8 h.blk
  have HW := Lib.hid h
  have HP := Lib.hid (putnumber_any w v bs n (Sl.of_own h.own) (by omega) hn)
  obtain ⟨vao, vcap, rfl, -⟩ := own_out h.own
  have HZ := Lib.hid (fun (w1 : World) (F : Fr [] w w1) => (cells8 ((F.block p h.lt (by simp)).trans h.blk)))
  clear h hn
  go_enter Tryd.func24, Tryd.ntmps24
  go_wp2_with (go_at_call 54; refine HP.out.mono ?_; rintro e w1 ⟨r, rfl, own1, F1⟩; obtain ⟨rao, rcap, rfl, -⟩ := own_out own1; have d1 := (HZ.out w1 F1).1; have z1 := (HZ.out w1 F1).2.2.2.2.2.2.2.2; have HT := Lib.hid (HW.out.store F1 own1))
  go_end0
  exact ⟨rfl, HT.out⟩

theorem wput_any {w wx : World} {lo p : Nat} {v : Value} {bs : List UInt8} {d : DW} (T : WrTo w lo p v bs d wx) (sv : Value) (xs : List UInt8) (hs : Sl wx sv (bv xs)) (hb : bs.length + xs.length ≤ 100000000) :
    Calls Tryd.prog 11 #[.pointer (some ⟨p, 0, none⟩), sv] wx fun e w' => e = .returned (.tuple #[]) ∧ WrTo w lo p v (bs ++ xs) d w' :=
  T.chain fun v1 W1 => wput_one wx lo p v1 sv bs xs d W1 hs hb
theorem wnumber_any {w wx : World} {lo p : Nat} {v : Value} {bs : List UInt8} {d : DW} (T : WrTo w lo p v bs d wx) (n : Nat) (hb : bs.length ≤ 100000000) (hn : n < 18446744073709551616) :
    Calls Tryd.prog 24 #[.pointer (some ⟨p, 0, none⟩), .int .u64 (n : Int)] wx fun e w' => e = .returned (.tuple #[]) ∧ WrTo w lo p v (bs ++ shortN n) d w' :=
  T.chain fun v1 W1 => wnumber_one wx lo p v1 bs d n W1 hb hn

set_option maxRecDepth 100000 in
theorem wpart_one (w : World) (lo p : Nat) (v xv : Value) (bs xs : List UInt8) (d : DW) (id : UInt8) (h : WrAt w lo p v bs d) (bx : Nat) (hx : w.ownsRow bx 5 1 xv xs.length (bv xs)) (hd : ∀ k, xv.ownBlock = some k → k ≠ p ∧ v.ownBlock ≠ some k) (hb : bs.length + xs.length ≤ 90000000) :
    Calls Tryd.prog 55 #[.pointer (some ⟨p, 0, none⟩), .int .u8 (id.toNat : Int), xv] w fun e w' => e = .returned (.tuple #[]) ∧ WrTo w lo p v (bs ++ partW id xs) d w' := by
  obtain ⟨xao, xcap, rfl, -⟩ := own_out hx
  have hxl : xs.length < 18446744073709551616 := by omega
  have hw1 : IntKind.u64.wrap (xs.length : Int) = (xs.length : Int) := by simp [IntKind.wrap, IntKind.bits, IntKind.signed]; omega
  have HE := Lib.hid (show bs ++ partW id xs = ((bs ++ [id]) ++ shortN xs.length) ++ xs by simp [partW])
  have HB := Lib.hid hb
  obtain ⟨wA, hwA⟩ : ∃ wA, wA = w.alloc (.cells #[.int .u8 (id.toNat : Int)] 5) := ⟨_, rfl⟩
  have FA : Fr [] w wA := hwA ▸ (Fr.refl _ _).alloc _
  have HSA := Lib.hid (show Sl wA (.slice (some ⟨w.heap.size, 0, none⟩) 1 1) (bv [id]) from hwA ▸ sl_one w 5 (.int .u8 (id.toNat : Int)))
  have T0 := WrTo.refl (h.fr0 FA)
  have HXA := Lib.hid (own_frS hx FA (by simp))
  have HX2 := Lib.hid (fun (w2 : World) (bs2 : List UInt8) (T : WrTo wA lo p v bs2 d w2) => Sl.of_own (own_wr HXA.out T.frm hd))
  clear h hd hx
  go_enter Tryd.func55, Tryd.ntmps55
  go_wp2_with (first
    | (have hq := T2; go_at_call 11; refine (wput_any T2 _ xs (HX2.out w2 _ T2) (by have := HB.out; have := shortN_le xs.length; simp; omega)).mono ?_; rintro e w3 ⟨rfl, T3⟩)
    | (have hq := T1; go_at_call 24; refine (wnumber_any T1 xs.length (by have := HB.out; simp; omega) hxl).mono ?_; rintro e w2 ⟨rfl, T2⟩)
    | (go_at_call 11; rw [← hwA]; refine (wput_any T0 _ [id] HSA.out (by have := HB.out; simp; omega)).mono ?_; rintro e w1 ⟨rfl, T1⟩))
  go_end0
  exact ⟨rfl, by rw [HE.out]; exact WrTo.fr0 FA T3⟩
theorem wpart_any {w wx wy : World} {lo p : Nat} {v : Value} {bs : List UInt8} {d : DW} (T : WrTo w lo p v bs d wx) (F : Fr [] wx wy) (xv : Value) (xs : List UInt8) (id : UInt8) (hx : wy.ownsRow wx.heap.size 5 1 xv xs.length (bv xs)) (hb : bs.length + xs.length ≤ 90000000) :
    Calls Tryd.prog 55 #[.pointer (some ⟨p, 0, none⟩), .int .u8 (id.toNat : Int), xv] wy fun e w' => e = .returned (.tuple #[]) ∧ WrTo w lo p v (bs ++ partW id xs) d w' := by
  obtain ⟨v1, W1, F1, hk⟩ := T
  refine (wpart_one wy lo p v1 xv bs xs d id (W1.fr0 F) wx.heap.size hx (fun k hk => ?_) hb).mono ?_
  · have h1 := (own_ltS hx k hk).1
    refine ⟨?_, fun e => ?_⟩
    · have := W1.lt
      omega
    · have := (W1.gs k e).2
      omega
  · rintro e w' ⟨he, T2⟩
    exact ⟨he, WrTo.trans F1 hk (WrTo.fr0 F T2)⟩
end Go.Proofs.YtkodindajfdagaaDoor
/- Rows of structs that the writer reads. No condition. -/
namespace Go.Proofs.YtkodindajfdagaaDoor
open Go.RowKit

/-- A slice of n structs of m cells reads as the cells xs; it lies below hi. -/
def RowAt (w : World) (hi m : Nat) (v : Value) (n : Nat) (xs : List Value) : Prop :=
  ∃ ao cap, v = .slice ao n cap ∧ n ≤ cap ∧ cap ≤ 9223372036854775807 ∧
    ∀ j, j < n → ∃ b o, ao = some ⟨b, o, none⟩ ∧ b < hi ∧ b < w.heap.size ∧ ∀ k, k < m → w.cell? ⟨b, o + j * m + k, none⟩ = xs[j * m + k]?

theorem RowAt.out {w : World} {hi m : Nat} {v : Value} {n : Nat} {xs : List Value} (h : RowAt w hi m v n xs) : ∃ ao cap, v = .slice ao n cap ∧ n ≤ cap ∧ cap ≤ 9223372036854775807 ∧
    ∀ j, j < n → ∃ b o, ao = some ⟨b, o, none⟩ ∧ b < hi ∧ b < w.heap.size ∧ ∀ k, k < m → w.cell? ⟨b, o + j * m + k, none⟩ = xs[j * m + k]? := h
theorem RowAt.nil (w : World) (hi m : Nat) : RowAt w hi m (.slice none 0 0) 0 [] := ⟨none, 0, rfl, by simp, by simp, fun j h => by omega⟩
theorem RowAt.fr {w w' : World} {hi m : Nat} {v : Value} {n : Nat} {xs : List Value} {S : List Nat} (h : RowAt w hi m v n xs) (F : Fr S w w') (hS : ∀ i ∈ S, hi ≤ i) : RowAt w' hi m v n xs := by
  obtain ⟨ao, cap, e, h1, h2, h3⟩ := h
  refine ⟨ao, cap, e, h1, h2, fun j hj => ?_⟩
  obtain ⟨b, o, q1, q2, q3, q4⟩ := h3 j hj
  refine ⟨b, o, q1, q2, Nat.lt_of_lt_of_le q3 F.size, fun k hk => ?_⟩
  rw [F.cell (p := ⟨b, o + j * m + k, none⟩) q3 (fun hm => by have := hS b hm; omega)]
  exact q4 k hk
theorem RowAt.fr0 {w w' : World} {hi m : Nat} {v : Value} {n : Nat} {xs : List Value} (h : RowAt w hi m v n xs) (F : Fr [] w w') : RowAt w' hi m v n xs := h.fr F (by simp)
/-- The writer's steps leave what lies below it. -/
theorem WrAt.above {w : World} {lo p hi : Nat} {v : Value} {bs : List UInt8} {d : DW} (W : WrAt w lo p v bs d) (hp : hi ≤ p) : ∀ i ∈ p :: v.ownBlock.toList, hi ≤ i := fun i hi' => by
  simp only [List.mem_cons, Option.mem_toList] at hi'
  rcases hi' with rfl | h
  · exact hp
  · have := (W.gs i h).1
    have := W.hp
    omega
theorem RowAt.wr {w wx : World} {hi m lo p : Nat} {u v : Value} {n : Nat} {xs : List Value} {bs cs : List UInt8} {d : DW} (h : RowAt w hi m u n xs) (W : WrAt w lo p v bs d) (hp : hi ≤ p) (T : WrTo w lo p v cs d wx) : RowAt wx hi m u n xs :=
  h.fr T.frm (W.above hp)

/-- A file's cells. -/
theorem RowAt.fil {w : World} {hi : Nat} {ao : Option Addr} {n cap : Nat} {F : List Fil} (h : RowAt w hi 7 (.slice ao n cap) n (fiV F)) {k : Nat} {x : Fil} (hx : F[k]? = some x) (hk : k < n) :
    ∃ b o, ao = some ⟨b, o, none⟩ ∧ b < w.heap.size ∧ w.cell? ⟨b, o + k * 7, none⟩ = some (.string ⟨x.name.toArray⟩) ∧ w.cell? ⟨b, o + k * 7 + 1, none⟩ = some (.bool x.stream) ∧ w.cell? ⟨b, o + k * 7 + 2, none⟩ = some (.bool x.dir) ∧ w.cell? ⟨b, o + k * 7 + 3, none⟩ = some (.bool x.hasAttr) ∧
      w.cell? ⟨b, o + k * 7 + 4, none⟩ = some (.int .u32 x.attr.toNat) ∧ w.cell? ⟨b, o + k * 7 + 5, none⟩ = some (.bool x.hasTime) ∧ w.cell? ⟨b, o + k * 7 + 6, none⟩ = some (.int .u64 x.time.toNat) := by
  obtain ⟨ao', cap', e, h1, h2, h3⟩ := h
  injection e with e1 e2 e3
  subst e1 e3
  obtain ⟨b, o, q1, -, q3, q4⟩ := h3 k hk
  have key : ∀ j, j < 7 → w.cell? ⟨b, o + k * 7 + j, none⟩ = x.cells[j]? := fun j hj => (q4 j hj).trans (fiV_get F k x hx j hj)
  exact ⟨b, o, q1, q3, key 0 (by decide), key 1 (by decide), key 2 (by decide), key 3 (by decide), key 4 (by decide), key 5 (by decide), key 6 (by decide)⟩

theorem wbox7 {w wr : World} {t : TypeId} {a0 a1 a2 a3 a4 a5 a6 : Value} {S : List Nat} (F : Fr S (w.alloc (.cells #[a0, a1, a2, a3, a4, a5, a6] t)) wr) (hS : w.heap.size ∉ S) :
    wr.cell? ⟨w.heap.size, 0, none⟩ = some a0 ∧ wr.cell? ⟨w.heap.size, 1, none⟩ = some a1 ∧ wr.cell? ⟨w.heap.size, 2, none⟩ = some a2 ∧ wr.cell? ⟨w.heap.size, 3, none⟩ = some a3 ∧ wr.cell? ⟨w.heap.size, 4, none⟩ = some a4 ∧ wr.cell? ⟨w.heap.size, 5, none⟩ = some a5 ∧ wr.cell? ⟨w.heap.size, 6, none⟩ = some a6 := by
  have key : ∀ (i : Nat), wr.cell? ⟨w.heap.size, i, none⟩ = #[a0, a1, a2, a3, a4, a5, a6][i]? := fun i => by
    rw [F.cell (p := ⟨w.heap.size, i, none⟩) (by simp) hS, Go.Joins.cell_of_block (heap_alloc_new w _)]
  exact ⟨by rw [key]; rfl, by rw [key]; rfl, by rw [key]; rfl, by rw [key]; rfl, by rw [key]; rfl, by rw [key]; rfl, by rw [key]; rfl⟩
end Go.Proofs.YtkodindajfdagaaDoor
