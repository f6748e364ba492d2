/- GraphChains' folder in memory, for the copies of layer 23: what the loop keeps (a folder's block, three rows that the call owns). No condition. -/
import Derived.Test.YtfnblemlcjdnhaaGreatGChainC
namespace Go.Proofs.YtfnblemlcjdnhaaGreat
open Go.RowKit

theorem sl_block {w : World} {g : Nat} {l : List Value} {t : TypeId} (h : w.heap[g]? = some (.cells l.toArray t)) (n : Nat) (hn : n = l.length) (hm : n ≤ 9223372036854775807) : Sl w (.slice (some ⟨g, 0, none⟩) n n) l :=
  ⟨_, n, by rw [hn], by omega, by omega, by simp, fun a ha _ => by
    obtain rfl := (Option.some.inj ha).symm
    exact ⟨rfl, (Array.getElem?_eq_some_iff.1 h).1, fun j _ => by rw [Go.Joins.cell_of_block h]; simp⟩⟩

/-- One coder in a block of its own. -/
theorem frozen6 {w : World} {g : Nat} {c : Array Value} {t : TypeId} (h : w.heap[g]? = some (.cells c t)) (j : Nat) : w.frozen? ⟨g, j, none⟩ = false := frozen_of_row _ _ _ _ _ h
theorem setCell_block0 {w : World} {g : Nat} {a b c d e f : Value} {t : TypeId} (h : w.heap[g]? = some (.cells #[a, b, c, d, e, f] t)) (u : Value) : (w.setCell ⟨g, 0, none⟩ u).heap[g]? = some (.cells #[u, b, c, d, e, f] t) := by
  have hlt : g < w.heap.size := (Array.getElem?_eq_some_iff.1 h).1
  have h' : w.heap[g] = .cells #[a, b, c, d, e, f] t (0, 0) := by simpa [Array.getElem?_eq_getElem hlt] using h
  show (w.heap.modify g _)[g]? = _
  rw [Array.getElem?_eq_getElem (by simpa using hlt), Array.getElem_modify_self, h']
  rfl
theorem setCell_block1 {w : World} {g : Nat} {a b c d e f : Value} {t : TypeId} (h : w.heap[g]? = some (.cells #[a, b, c, d, e, f] t)) (u : Value) : (w.setCell ⟨g, 1, none⟩ u).heap[g]? = some (.cells #[a, u, c, d, e, f] t) := by
  have hlt : g < w.heap.size := (Array.getElem?_eq_some_iff.1 h).1
  have h' : w.heap[g] = .cells #[a, b, c, d, e, f] t (0, 0) := by simpa [Array.getElem?_eq_getElem hlt] using h
  show (w.heap.modify g _)[g]? = _
  rw [Array.getElem?_eq_getElem (by simpa using hlt), Array.getElem_modify_self, h']
  rfl
theorem setCell_block3 {w : World} {g : Nat} {a b c d e f : Value} {t : TypeId} (h : w.heap[g]? = some (.cells #[a, b, c, d, e, f] t)) (u : Value) : (w.setCell ⟨g, 3, none⟩ u).heap[g]? = some (.cells #[a, b, c, u, e, f] t) := by
  have hlt : g < w.heap.size := (Array.getElem?_eq_some_iff.1 h).1
  have h' : w.heap[g] = .cells #[a, b, c, d, e, f] t (0, 0) := by simpa [Array.getElem?_eq_getElem hlt] using h
  show (w.heap.modify g _)[g]? = _
  rw [Array.getElem?_eq_getElem (by simpa using hlt), Array.getElem_modify_self, h']
  rfl

/-- The type of the block that a row lies in. -/
theorem own_ty {w : World} {b e s : Nat} {v : Value} {n : Nat} {xs : List Value} (h : w.ownsRow b e s v n xs) (k : Nat) (hk : v.ownBlock = some k) : ∃ c, w.heap[k]? = some (.cells c e) := by
  rcases h.2 with ⟨rfl, _⟩ | ⟨g, cap, cur, rfl, _, hg, _⟩
  · simp [Value.ownBlock] at hk
  · simp [Value.ownBlock] at hk
    subst hk
    exact ⟨_, hg⟩

theorem own_apart {w : World} {b e s t : Nat} {v : Value} {n : Nat} {xs : List Value} {g : Nat} {c : Array Value} (h : w.ownsRow b e s v n xs) (hg : w.heap[g]? = some (.cells c t)) (hne : e ≠ t) : v.ownBlock ≠ some g := by
  intro hk
  obtain ⟨c', hc'⟩ := own_ty h g hk
  rw [hc'] at hg
  simp at hg
  exact hne hg.2

theorem own_grown {w w' : World} {b e s b' e' s' : Nat} {v v' : Value} {n n' : Nat} {xs xs' : List Value} (h : w.ownsRow b e s v n xs) (h' : w.ownsRow b' e' s' v' n' xs') (hne : e ≠ e') (g : w.grownBy w' v'.ownBlock) : w'.ownsRow b e s v n xs :=
  own_frS h ((Fr.refl v'.ownBlock.toList _).grown g (fun k hk => .inl (by simp [hk]))) (fun j hj hm => by
    simp at hm
    obtain ⟨c, hc⟩ := own_ty h j hj
    exact own_apart h' hc (fun h => hne h.symm) hm)

theorem PB.grown {w w' : World} {b e s : Nat} {v : Value} {n : Nat} {xs : List Value} {pv : Value} {l : List UInt8} (h : PB w pv l) (h' : w.ownsRow b e s v n xs) (hne : e ≠ 5) (g : w.grownBy w' v.ownBlock) : PB w' pv l :=
  h.fr ((Fr.refl v.ownBlock.toList _).grown g (fun k hk => .inl (by simp [hk]))) (fun j hj c hc => by
    simp at hj
    exact own_apart h' hc hne hj)

/-- What the loop keeps. -/
structure St (w0 : World) (gf : Nat) (w : World) (cv : Value) (nc : Nat) (xc : List Value) (bv' : Value) (nb : Nat) (xb : List Value) (sv : Value) (ns : Nat) (xs : List Value) (pl : List (Coder × Value)) : Prop where
  blk : w.heap[gf]? = some (.cells #[cv, bv', .slice none 0 0, sv, .bool false, .int .u32 0] 37)
  oc : w.ownsRow w0.heap.size 56 2 cv nc xc
  ob : w.ownsRow w0.heap.size 58 2 bv' nb xb
  os : w.ownsRow w0.heap.size 39 1 sv ns xs
  pb : ∀ c ∈ pl, PB w c.2 c.1.props
  fr : Fr [gf] w0 w
  lt : gf < w0.heap.size

section
variable {w0 : World} {gf : Nat} {w w' : World} {cv : Value} {nc : Nat} {xc : List Value} {bv' : Value} {nb : Nat} {xb : List Value} {sv : Value} {ns : Nat} {xs : List Value} {pl : List (Coder × Value)}

theorem St.fresh (h : St w0 gf w cv nc xc bv' nb xb sv ns xs pl) (F : Fr [] w w') : St w0 gf w' cv nc xc bv' nb xb sv ns xs pl :=
  ⟨(F.block gf (Array.getElem?_eq_some_iff.1 h.blk).1 (by simp)).trans h.blk, own_frS h.oc F (by simp), own_frS h.ob F (by simp), own_frS h.os F (by simp), fun c hc => (h.pb c hc).fr F (by simp), h.fr.trans0 F, h.lt⟩

theorem St.local (h : St w0 gf w cv nc xc bv' nb xb sv ns xs pl) {p : Nat} (F : Fr [p] w w') {c : Array Value} {t : TypeId} (hp : w.heap[p]? = some (.cells c t)) (h1 : t ≠ 37) (h2 : 58 ≠ t) (h3 : 39 ≠ t) (h4 : 5 ≠ t) (h5 : cv.ownBlock ≠ some p) (h6 : w0.heap.size ≤ p) : St w0 gf w' cv nc xc bv' nb xb sv ns xs pl :=
  ⟨(F.block gf (Array.getElem?_eq_some_iff.1 h.blk).1 (by simp; rintro rfl; rw [h.blk] at hp; simp at hp; exact h1 hp.2.symm)).trans h.blk, own_frS h.oc F (by rintro k hk hm; simp at hm; subst hm; exact h5 hk), own_frS h.ob F (by rintro k hk hm; simp at hm; subst hm; exact own_apart h.ob hp h2 hk), own_frS h.os F (by rintro k hk hm; simp at hm; subst hm; exact own_apart h.os hp h3 hk), fun c hc => (h.pb c hc).fr F (by intro k hm c hc; simp at hm; subst hm; rw [hc] at hp; simp at hp; exact h4 hp.2), h.fr.trans1 F (.inr h6), h.lt⟩

theorem St.add (h : St w0 gf w cv nc xc bv' nb xb sv ns xs pl) (c : Coder × Value) (hc : PB w c.2 c.1.props) : St w0 gf w cv nc xc bv' nb xb sv ns xs (pl ++ [c]) :=
  ⟨h.blk, h.oc, h.ob, h.os, fun d hd => by
      rcases List.mem_append.1 hd with hd | hd
      · exact h.pb d hd
      · simp at hd
        subst hd
        exact hc, h.fr, h.lt⟩

theorem St.blkC (h : St w0 gf w cv nc xc bv' nb xb sv ns xs pl) (g : w.grownBy w' cv.ownBlock) : w'.heap[gf]? = some (.cells #[cv, bv', .slice none 0 0, sv, .bool false, .int .u32 0] 37) :=
  (g.block gf (Array.getElem?_eq_some_iff.1 h.blk).1 (fun e => own_apart h.oc h.blk (by decide) e.symm)).trans h.blk
theorem St.blkB (h : St w0 gf w cv nc xc bv' nb xb sv ns xs pl) (g : w.grownBy w' bv'.ownBlock) : w'.heap[gf]? = some (.cells #[cv, bv', .slice none 0 0, sv, .bool false, .int .u32 0] 37) :=
  (g.block gf (Array.getElem?_eq_some_iff.1 h.blk).1 (fun e => own_apart h.ob h.blk (by decide) e.symm)).trans h.blk
theorem St.blkS (h : St w0 gf w cv nc xc bv' nb xb sv ns xs pl) (g : w.grownBy w' sv.ownBlock) : w'.heap[gf]? = some (.cells #[cv, bv', .slice none 0 0, sv, .bool false, .int .u32 0] 37) :=
  (g.block gf (Array.getElem?_eq_some_iff.1 h.blk).1 (fun e => own_apart h.os h.blk (by decide) e.symm)).trans h.blk

theorem St.putC (h : St w0 gf w cv nc xc bv' nb xb sv ns xs pl) {cv2 : Value} {n2 : Nat} {x2 : List Value} (o : w'.ownsRow w0.heap.size 56 2 cv2 n2 x2) (g : w.grownBy w' cv.ownBlock) :
    St w0 gf (w'.setCell ⟨gf, 0, none⟩ cv2) cv2 n2 x2 bv' nb xb sv ns xs pl := by
  have hb := h.blkC g
  have F : Fr [gf] w' (w'.setCell ⟨gf, 0, none⟩ cv2) := (Fr.refl _ _).setCell (.inl (by simp)) _
  have ob := own_grown h.ob h.oc (by decide) g
  have os := own_grown h.os h.oc (by decide) g
  exact ⟨setCell_block0 hb _, own_frS o F (fun k hk hm => by simp at hm; subst hm; exact own_apart o hb (by decide) hk), own_frS ob F (fun k hk hm => by simp at hm; subst hm; exact own_apart ob hb (by decide) hk), own_frS os F (fun k hk hm => by simp at hm; subst hm; exact own_apart os hb (by decide) hk), fun c hc => ((h.pb c hc).grown h.oc (by decide) g).fr F (by intro k hm c hc; simp at hm; subst hm; rw [hb] at hc; simp at hc), (h.fr.grown g (fun k hk => .inr (own_ltS h.oc k hk).1)).setCell (.inl (by simp)) _, h.lt⟩

theorem St.putB (h : St w0 gf w cv nc xc bv' nb xb sv ns xs pl) {v2 : Value} {n2 : Nat} {x2 : List Value} (o : w'.ownsRow w0.heap.size 58 2 v2 n2 x2) (g : w.grownBy w' bv'.ownBlock) :
    St w0 gf (w'.setCell ⟨gf, 1, none⟩ v2) cv nc xc v2 n2 x2 sv ns xs pl := by
  have hb := h.blkB g
  have F : Fr [gf] w' (w'.setCell ⟨gf, 1, none⟩ v2) := (Fr.refl _ _).setCell (.inl (by simp)) _
  have oc := own_grown h.oc h.ob (by decide) g
  have os := own_grown h.os h.ob (by decide) g
  exact ⟨setCell_block1 hb _, own_frS oc F (fun k hk hm => by simp at hm; subst hm; exact own_apart oc hb (by decide) hk), own_frS o F (fun k hk hm => by simp at hm; subst hm; exact own_apart o hb (by decide) hk), own_frS os F (fun k hk hm => by simp at hm; subst hm; exact own_apart os hb (by decide) hk), fun c hc => ((h.pb c hc).grown h.ob (by decide) g).fr F (by intro k hm c hc; simp at hm; subst hm; rw [hb] at hc; simp at hc), (h.fr.grown g (fun k hk => .inr (own_ltS h.ob k hk).1)).setCell (.inl (by simp)) _, h.lt⟩

theorem St.putS (h : St w0 gf w cv nc xc bv' nb xb sv ns xs pl) {v2 : Value} {n2 : Nat} {x2 : List Value} (o : w'.ownsRow w0.heap.size 39 1 v2 n2 x2) (g : w.grownBy w' sv.ownBlock) :
    St w0 gf (w'.setCell ⟨gf, 3, none⟩ v2) cv nc xc bv' nb xb v2 n2 x2 pl := by
  have hb := h.blkS g
  have F : Fr [gf] w' (w'.setCell ⟨gf, 3, none⟩ v2) := (Fr.refl _ _).setCell (.inl (by simp)) _
  have oc := own_grown h.oc h.os (by decide) g
  have ob := own_grown h.ob h.os (by decide) g
  exact ⟨setCell_block3 hb _, own_frS oc F (fun k hk hm => by simp at hm; subst hm; exact own_apart oc hb (by decide) hk), own_frS ob F (fun k hk hm => by simp at hm; subst hm; exact own_apart ob hb (by decide) hk), own_frS o F (fun k hk hm => by simp at hm; subst hm; exact own_apart o hb (by decide) hk), fun c hc => ((h.pb c hc).grown h.os (by decide) g).fr F (by intro k hm c hc; simp at hm; subst hm; rw [hb] at hc; simp at hc), (h.fr.grown g (fun k hk => .inr (own_ltS h.os k hk).1)).setCell (.inl (by simp)) _, h.lt⟩
end

/-- The folder that the loop leaves, once its packs are laid. -/
theorem fo_chain {w0 w w3 : World} {gf k pb : Nat} {cs : List UInt8} {L : List (Coder × Value)} {cv bv' sv : Value} {sz : UInt64} {back : Bool}
    (h : St w0 gf w cv k (coV L) bv' (k - 1) (biV (chainB k back)) sv k (u64v (List.replicate k sz)) L) (hk : cs.length = k) (hL : L.map (·.1) = cs.map coderOf) (F : Fr [gf] w w3)
    (hP : w3.heap[pb]? = some (.cells #[.int .i64 (if back then 0 else (k : Int) - 1)] 3)) :
    Fo w3 (.agg #[cv, bv', .slice (some ⟨pb, 0, none⟩) 1 1, sv, .bool false, .int .u32 0]) (chainF (cs.map coderOf) sz back) := by
  subst hk
  have hLl : L.length = cs.length := by rw [← List.length_map (f := (·.1)), hL, List.length_map]
  refine ⟨_, _, _, _, _, _, rfl, ?_, ?_, ?_, ?_⟩
  · have := co_of_own L hLl (own_frS h.oc F (fun j hj hm => by simp at hm; subst hm; exact own_apart h.oc h.blk (by decide) hj)) (fun c hc => ((h.pb c hc).fr F (fun j hj c' hc' => by simp at hj; subst hj; rw [h.blk] at hc'; simp at hc')).sl)
    rw [hL] at this
    exact this
  · have := bi_of_own (chainB cs.length back) (by simp [chainB]) (own_frS h.ob F (fun j hj hm => by simp at hm; subst hm; exact own_apart h.ob h.blk (by decide) hj))
    simpa [chainF] using this
  · have := sl_block (l := iv [if back then 0 else (cs.length : Int) - 1]) hP 1 rfl (by simp)
    simpa [chainF] using this
  · have := Sl.of_own (own_frS h.os F (fun j hj hm => by simp at hm; subst hm; exact own_apart h.os h.blk (by decide) hj))
    simpa [chainF] using this
theorem chain_outs (cs : List Coder) (sz : UInt64) (back : Bool) (h : 1 ≤ cs.length) : (∀ b ∈ (chainF cs sz back).binds, 0 ≤ b.2 ∧ b.2 < ((chainF cs sz back).coders.length : Int)) ∧ ((chainF cs sz back).binds.map (·.2)).Nodup :=
  ⟨fun b hb => ((chain_named cs sz back h).binds b hb).2, (chain_named cs sz back h).outs⟩

theorem chainB_one (k : Nat) (back : Bool) (h : k = 0) : biV (chainB (k + 1) back) = biV (chainB k back) := by subst h; rfl
theorem chainB_more (k : Nat) (back : Bool) (h : 1 ≤ k) : biV (chainB (k + 1) back) = biV (chainB k back) ++ (if back then [.int .i64 (k : Int), .int .i64 ((k : Int) - 1)] else [.int .i64 ((k : Int) - 1), .int .i64 (k : Int)]) := by
  obtain ⟨m, rfl⟩ : ∃ m, k = m + 1 := ⟨k - 1, by omega⟩
  unfold chainB
  rw [show m + 1 + 1 - 1 = m + 1 from by omega, show m + 1 - 1 = m from by omega, List.range_succ, List.map_append, biV_append]
  cases back <;> simp [biV] <;> omega

end Go.Proofs.YtfnblemlcjdnhaaGreat
