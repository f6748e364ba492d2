/- The writer of headers in memory. No condition. -/
import Derived.Test.YtkodindajfdagaaGreatDoorWSpecM
import Derived.Test.YtkodindajfdagaaGreatDoorSrcEM
import Derived.Maps.AppendAt
namespace Go.Proofs.YtkodindajfdagaaGreatDoor
open Go.RowKit

/-- A description's seven values. -/
structure DW where
  pk : Value
  pl : Value
  ps : Value
  cs : Value
  fo : Value
  su : Value
  es : Value
/-- The writer in block p; its bytes are of the call's own, in blocks from lo on. -/
structure WrAt (w : World) (lo p : Nat) (v : Value) (bs : List UInt8) (d : DW) : Prop where
  blk : w.heap[p]? = some (.cells #[v, d.pk, d.pl, d.ps, d.cs, d.fo, d.su, d.es] 78 (0, 0))
  own : w.ownsRow lo 5 1 v bs.length (bv bs)
  hp : p < lo
  hl : lo ≤ w.heap.size

theorem cells8 {w : World} {g : Nat} {t : TypeId} {a0 a1 a2 a3 a4 a5 a6 a7 : Value} (h : w.heap[g]? = some (.cells #[a0, a1, a2, a3, a4, a5, a6, a7] t (0, 0))) :
    w.cell? ⟨g, 0, none⟩ = some a0 ∧ w.cell? ⟨g, 1, none⟩ = some a1 ∧ w.cell? ⟨g, 2, none⟩ = some a2 ∧ w.cell? ⟨g, 3, none⟩ = some a3 ∧ w.cell? ⟨g, 4, none⟩ = some a4 ∧ w.cell? ⟨g, 5, none⟩ = some a5 ∧ w.cell? ⟨g, 6, none⟩ = some a6 ∧ w.cell? ⟨g, 7, none⟩ = some a7 ∧ (∀ j, w.frozen? ⟨g, j, none⟩ = false) :=
  ⟨by simp [Go.Joins.cell_of_block h], by simp [Go.Joins.cell_of_block h], by simp [Go.Joins.cell_of_block h], by simp [Go.Joins.cell_of_block h], by simp [Go.Joins.cell_of_block h], by simp [Go.Joins.cell_of_block h], by simp [Go.Joins.cell_of_block h], by simp [Go.Joins.cell_of_block h], fun j => Go.Joins.unfrozen_of_block h j⟩

theorem WrAt.lt {w : World} {lo p : Nat} {v : Value} {bs : List UInt8} {d : DW} (h : WrAt w lo p v bs d) : p < w.heap.size := (Array.getElem?_eq_some_iff.1 h.blk).1
theorem WrAt.gs {w : World} {lo p : Nat} {v : Value} {bs : List UInt8} {d : DW} (h : WrAt w lo p v bs d) (k : Nat) (hk : v.ownBlock = some k) : lo ≤ k ∧ k < w.heap.size := own_ltS h.own k hk
theorem WrAt.fr {w w' : World} {lo p : Nat} {v : Value} {bs : List UInt8} {d : DW} {S : List Nat} (h : WrAt w lo p v bs d) (F : Fr S w w') (hp : p ∉ S) (hv : ∀ k, v.ownBlock = some k → k ∉ S) : WrAt w' lo p v bs d :=
  ⟨(F.block p h.lt hp).trans h.blk, own_frS h.own F hv, h.hp, Nat.le_trans h.hl F.size⟩
theorem WrAt.fr0 {w w' : World} {lo p : Nat} {v : Value} {bs : List UInt8} {d : DW} (h : WrAt w lo p v bs d) (F : Fr [] w w') : WrAt w' lo p v bs d := h.fr F (by simp) (by simp)

/-- What a step of the writer leaves: these bytes; nothing else is touched but its block and its bytes. -/
def WrTo (w : World) (lo p : Nat) (v : Value) (bs : List UInt8) (d : DW) (w' : World) : Prop :=
  ∃ v', WrAt w' lo p v' bs d ∧ Fr (p :: v.ownBlock.toList) w w' ∧ ∀ k, v'.ownBlock = some k → v.ownBlock = some k ∨ w.heap.size ≤ k
theorem WrTo.out {w : World} {lo p : Nat} {v : Value} {bs : List UInt8} {d : DW} {w' : World} (h : WrTo w lo p v bs d w') :
    ∃ v', WrAt w' lo p v' bs d ∧ Fr (p :: v.ownBlock.toList) w w' ∧ ∀ k, v'.ownBlock = some k → v.ownBlock = some k ∨ w.heap.size ≤ k := h
/-- Two steps are one. -/
theorem WrTo.trans {w w1 w2 : World} {lo p : Nat} {v v1 : Value} {bs : List UInt8} {d : DW} (F : Fr (p :: v.ownBlock.toList) w w1) (hk : ∀ k, v1.ownBlock = some k → v.ownBlock = some k ∨ w.heap.size ≤ k) (h : WrTo w1 lo p v1 bs d w2) : WrTo w lo p v bs d w2 := by
  obtain ⟨v2, W2, F2, h2⟩ := h
  refine ⟨v2, W2, F.trans F2 (fun i hi => ?_), fun k hk2 => ?_⟩
  · simp only [List.mem_cons, Option.mem_toList] at hi
    rcases hi with rfl | hi
    · exact .inl (by simp)
    · rcases hk i hi with h | h
      · exact .inl (by simp [h])
      · exact .inr h
  · rcases h2 k hk2 with h | h
    · exact hk k h
    · exact .inr (Nat.le_trans F.size h)
theorem WrTo.refl {w : World} {lo p : Nat} {v : Value} {bs : List UInt8} {d : DW} (h : WrAt w lo p v bs d) : WrTo w lo p v bs d w := ⟨v, h, Fr.refl _ _, fun _ h => .inl h⟩
theorem WrTo.fr0 {w w0 w1 : World} {lo p : Nat} {v : Value} {bs : List UInt8} {d : DW} (F : Fr [] w w0) (h : WrTo w0 lo p v bs d w1) : WrTo w lo p v bs d w1 :=
  WrTo.trans (F.mono (by simp)) (fun _ h => .inl h) h
theorem WrTo.then0 {w w0 w1 : World} {lo p : Nat} {v : Value} {bs : List UInt8} {d : DW} (h : WrTo w lo p v bs d w0) (F : Fr [] w0 w1) : WrTo w lo p v bs d w1 := by
  obtain ⟨v', W, F1, hk⟩ := h
  exact ⟨v', W.fr0 F, F1.trans0 F, hk⟩
theorem WrTo.frm {w : World} {lo p : Nat} {v : Value} {bs : List UInt8} {d : DW} {w' : World} (h : WrTo w lo p v bs d w') : Fr (p :: v.ownBlock.toList) w w' := by
  obtain ⟨_, _, F, _⟩ := h
  exact F
/-- A contract of one step, behind other steps. -/
theorem WrTo.chain {w wx : World} {lo p : Nat} {v : Value} {bs cs : List UInt8} {d : DW} {f : Nat} {args : Array Value} {r : Ending} (T : WrTo w lo p v bs d wx)
    (h : ∀ v1, WrAt wx lo p v1 bs d → Calls Tryz.prog f args wx fun e w' => e = r ∧ WrTo wx lo p v1 cs d w') : Calls Tryz.prog f args wx fun e w' => e = r ∧ WrTo w lo p v cs d w' := by
  obtain ⟨v1, W1, F1, hk⟩ := T
  refine (h v1 W1).mono ?_
  rintro e w' ⟨he, T2⟩
  exact ⟨he, WrTo.trans F1 hk T2⟩
/-- Rows of the call's own in other blocks are kept. -/
theorem own_wr {w w' : World} {p base e sz n : Nat} {v u : Value} {xs : List Value} (h : w.ownsRow base e sz u n xs) (F : Fr (p :: v.ownBlock.toList) w w') (h1 : ∀ k, u.ownBlock = some k → k ≠ p ∧ v.ownBlock ≠ some k) : w'.ownsRow base e sz u n xs :=
  own_frS h F fun k hk hm => by
    simp only [List.mem_cons, Option.mem_toList] at hm
    rcases hm with rfl | hm
    · exact (h1 k hk).1 rfl
    · exact (h1 k hk).2 hm
theorem apart_step {w : World} {v v' : Value} {k : Nat} (hk : v'.ownBlock = some k → v.ownBlock = some k ∨ w.heap.size ≤ k) (h1 : v.ownBlock ≠ some k) (h2 : k < w.heap.size) : v'.ownBlock ≠ some k := fun e => by
  rcases hk e with h | h
  · exact h1 h
  · omega

/-- 'append(v, y...)', and where the new slice lies. -/
theorem wpList_append_sl_at {P : Program} {t e : TypeId} {z : Value} {bytes : Nat} (T : SlTy P t e z bytes) {w : World} {ops : Array Oper} {rest : List Oper} {o : Oper} {a : Act} {Q : Exit → Act → World → Prop} (hgd : o.guard = none) (s x : Operand)
    (ho : o.op = .call { callee := .builtin .append, args := #[s, x], argTypes := #[t, t] })
    (base : Nat) (v : Value) (n : Nat) (xs : List Value) (hs : a.eval s = v) (hown : w.ownsRow base e 1 v n xs)
    (y : Value) (ys : List Value) (hx : a.eval x = y) (hy : Sl w y ys) (h1 : ∀ u ∈ ys, u.oneCell' = true)
    (hm : n + ys.length ≤ 9223372036854775807) (hbytes : (n + ys.length) * bytes ≤ 140737488355328) (hbase : base ≤ w.heap.size)
    (h : ∀ v' w', w'.ownsRow base e 1 v' (n + ys.length) (xs ++ ys) → w.grownBy w' v.ownBlock → (v'.ownBlock = v.ownBlock ∨ v'.ownBlock = some w.heap.size) → wpList P ops Q rest (a.put o.dst v') w') : wpList P ops Q (o :: rest) a w := by
  obtain ⟨i, hi, hz, hsz, hby⟩ := T.info
  obtain ⟨ao, cap, rfl, c1, c2, c3, c4⟩ := hy
  cases ao with
  | none =>
    have := c3 rfl
    subst this
    have hys : ys = [] := List.eq_nil_of_length_eq_zero (by omega)
    subst hys
    refine wpList_append_own_none hgd s x t ho base e i 1 T.under (by simpa using hi) v n xs hs hown hx (h v w (by simpa using hown) (World.grownBy.refl w _) (.inl rfl))
  | some ad =>
    refine wpList_append_own_at w hgd s x t ho base e i z 1 bytes T.under hi hz hsz hby T.one (by decide) v n xs hs hown ad ys.length cap ys hx (by simp) ?_ h1 (by unfold maxLen; omega) hbytes hbase (fun v' w' g1 g2 _ g4 => h v' w' g1 g2 g4)
    intro j u hu
    have hj : j < ys.length := (List.getElem?_eq_some_iff.1 hu).1
    obtain ⟨q1, q2, q3⟩ := c4 ad rfl (by omega)
    obtain ⟨b, of, sp⟩ := ad
    dsimp only at q1 q2 q3
    subst q1
    have hadd : (⟨b, of, none⟩ : Addr).add j = ⟨b, of + j, none⟩ := by unfold Addr.add; split <;> simp_all
    rw [hadd, q3 j hj, hu]

/-- New bytes are stored as the writer's. -/
theorem WrAt.store {w w1 : World} {lo p : Nat} {v r : Value} {bs cs : List UInt8} {d : DW} (h : WrAt w lo p v bs d) (F : Fr [] w w1) (own : w1.ownsRow w.heap.size 5 1 r cs.length (bv cs)) : WrTo w lo p v cs d (w1.setCell ⟨p, 0, none⟩ r) := by
  have F2 : Fr [p] w1 (w1.setCell ⟨p, 0, none⟩ r) := (Fr.refl _ _).setCell (by simp) _
  refine ⟨r, ⟨Go.Joins.block_setCell ((F.block p h.lt (by simp)).trans h.blk) _, ?_, h.hp, ?_⟩, (F.mono (by simp)).trans F2 (by simp), fun k hk => .inr (own_ltS own k hk).1⟩
  · exact own_frS (own_mono own h.hl) F2 fun k hk hm => by
      have h1 := (own_ltS own k hk).1
      have h2 := h.lt
      simp at hm
      omega
  · have := F.size
    have := h.hl
    simp
    omega
/-- The writer's bytes have grown where they were, or anew. -/
theorem WrAt.grow {w w1 : World} {lo p : Nat} {v r : Value} {bs cs : List UInt8} {d : DW} (h : WrAt w lo p v bs d) (g : w.grownBy w1 v.ownBlock) (own : w1.ownsRow lo 5 1 r cs.length (bv cs)) (hat : r.ownBlock = v.ownBlock ∨ r.ownBlock = some w.heap.size) : WrTo w lo p v cs d (w1.setCell ⟨p, 0, none⟩ r) := by
  have F2 : Fr [p] w1 (w1.setCell ⟨p, 0, none⟩ r) := (Fr.refl _ _).setCell (by simp) _
  have F1 : Fr (p :: v.ownBlock.toList) w w1 := (Fr.refl _ _).grown g (fun k hk => .inl (by simp [hk]))
  have hpv : p ∉ v.ownBlock.toList := fun hm => by
    have := h.gs p (by simpa using hm)
    have := h.hp
    omega
  have F1' : Fr v.ownBlock.toList w w1 := (Fr.refl _ _).grown g (fun k hk => .inl (by simp [hk]))
  refine ⟨r, ⟨Go.Joins.block_setCell ((F1'.block p h.lt hpv).trans h.blk) _, ?_, h.hp, ?_⟩, F1.trans F2 (by simp), fun k hk => ?_⟩
  · exact own_frS own F2 fun k hk hm => by
      have h1 := (own_ltS own k hk).1
      have h2 := h.hp
      simp at hm
      omega
  · have := F1.size
    have := h.hl
    simp
    omega
  · rcases hat with e | e
    · exact .inl (e ▸ hk)
    · rw [e] at hk
      cases hk
      exact .inr (Nat.le_refl _)
end Go.Proofs.YtkodindajfdagaaGreatDoor
