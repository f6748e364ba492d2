/- The references' small functions behind bytes that grow. No condition but that lengths fit. -/
import Derived.Test.YtkodindajfdagaaDoorWRefCM
import Derived.Test.YtkodindajfdagaaDoorGAO
import Derived.Test.YtkodindajfdagaaDoorBaseM
import Derived.Deep.LoopGhost
import Derived.Test.YtkodindajfdagaaDoorGAR
namespace Go.Proofs.YtkodindajfdagaaDoor
open Go.RowKit

/-- Some bytes grow: what is answered. -/
def StR_ (base : Nat) (w : World) (v : Value) (cs : List UInt8) (e : Ending) (w' : World) : Prop := ∃ r, e = .returned r ∧ StB base w v r cs w'

theorem num_sb {base : Nat} {w : World} {v vx : Value} {cs : List UInt8} {wx wy : World} (S : StB base w v vx cs wx) (F : Fr [] wx wy) (hb : base ≤ w.heap.size) (n : Nat) (hl : cs.length ≤ 1000000000) (hn : n < 18446744073709551616) :
    Calls Tryd.prog 30 #[vx, .int .u64 n] wy (StR_ base w v (cs ++ shortN n)) :=
  (rnum_any wy vx cs n (Sl.of_own (S.fr0 F).own) (by omega) hn).mono fun _ _ h => (S.fr0 F).new_ hb h
theorem sums_sb {base hi : Nat} {w : World} {v vx : Value} {bs : List UInt8} {wx wy : World} (S : StB base w v vx bs wx) (F : Fr [] wx wy) (hb : base ≤ w.heap.size) (sv : Value) (cs : List Ck) (hR : ∀ w2, Fr vx.ownBlock.toList wy w2 → RowAt w2 hi 2 sv cs.length (ckV cs)) (hn : cs.length ≤ 1000000) (hl : bs.length ≤ 60000000) :
    Calls Tryd.prog 31 #[vx, sv] wy (StR_ base w v (bs ++ sumsW cs)) :=
  (rsums_any base hi wy vx sv bs cs (S.fr0 F).own (Nat.le_trans hb (S.fr0 F).fr.size) hR hn hl).mono fun _ _ h => (S.fr0 F).then_ h
theorem coder_sb {base : Nat} {w : World} {v vx : Value} {bs : List UInt8} {wx wy : World} (S : StB base w v vx bs wx) (F : Fr [] wx wy) (hb : base ≤ w.heap.size) (pv : Value) (c : Coder) (hP : ∀ w2, Fr vx.ownBlock.toList wy w2 → Sl w2 pv (bv c.props)) (hm : 1 ≤ c.method ∧ c.method ≤ 7) (hl : bs.length ≤ 60000000) (hp : c.props.length ≤ 10000000) :
    Calls Tryd.prog 32 #[vx, .agg #[.int .i64 c.method, pv]] wy (StR_ base w v (bs ++ coderW c)) :=
  (rcoder_any base wy vx pv bs c (S.fr0 F).own (Nat.le_trans hb (S.fr0 F).fr.size) hP hm hl hp).mono fun _ _ h => (S.fr0 F).then_ h
theorem part_sb {base : Nat} {w : World} {v vx : Value} {bs : List UInt8} {wx wy : World} (S : StB base w v vx bs wx) (F : Fr [] wx wy) (hb : base ≤ w.heap.size) (xv : Value) (x : List UInt8) (id : UInt8) (hX : ∀ w2, Fr vx.ownBlock.toList wy w2 → Sl w2 xv (bv x)) (hl : bs.length ≤ 60000000) (hx : x.length ≤ 60000000) :
    Calls Tryd.prog 34 #[vx, .int .u8 id.toNat, xv] wy (StR_ base w v (bs ++ partW id x)) :=
  (rpart_any base wy vx xv bs x id (S.fr0 F).own (Nat.le_trans hb (S.fr0 F).fr.size) hX hl hx).mono fun _ _ h => (S.fr0 F).then_ h

/-- A row of another type stays while the bytes grow. -/
theorem StB.keep {base b e s n : Nat} {w : World} {v vx u : Value} {cs : List UInt8} {wx : World} {xs : List Value} (S : StB base w v vx cs wx) (own : wx.ownsRow b e s u n xs) (he : e ≠ 5) {w2 : World} (F : Fr vx.ownBlock.toList wx w2) : w2.ownsRow b e s u n xs :=
  own_frS own F fun k hk hm => own_apart own S.own he k hk (by simpa using hm)
/-- The bytes stay while a row of another type grows. -/
theorem StB.grownO {base b e s n : Nat} {w : World} {vx u : Value} {cs : List UInt8} {wx w' : World} {xs : List Value} (S : StB base w (.slice Option.none 0 0) vx cs wx) (own : wx.ownsRow b e s u n xs) (hb : w.heap.size ≤ b) (he : e ≠ 5) (g : wx.grownBy w' u.ownBlock) : StB base w (.slice Option.none 0 0) vx cs w' := by
  have F : Fr u.ownBlock.toList wx w' := (Fr.refl _ _).grown g (fun k hk => .inl (by simp [hk]))
  refine ⟨own_frS S.own F fun k hk hm => own_apart own S.own he k (by simpa using hm) hk, S.fr.trans F (fun i hi => ?_), S.at_⟩
  have := (own_ltS own i (by simpa using hi)).1
  exact .inr (by omega)
theorem StB.row {base b e m n : Nat} {w : World} {v vx u : Value} {cs : List UInt8} {wx : World} {xs : List Value} (S : StB base w v vx cs wx) (own : wx.ownsRow b e m u n xs) (he : e ≠ 5) : ∀ w2, Fr vx.ownBlock.toList wx w2 → RowAt w2 wx.heap.size m u n xs := fun w2 F => by
  have o2 := S.keep own he F
  obtain ⟨ao, cap, rfl, hc1, hc2, h3⟩ := (RowAt.of_own own wx.heap.size (Nat.le_refl _)).out
  obtain ⟨ao', cap', e', -, -, h4⟩ := (RowAt.of_own o2 w2.heap.size (Nat.le_refl _)).out
  injection e' with q1 q2 q3
  subst q1 q3
  refine ⟨_, _, rfl, hc1, hc2, fun j hj => ?_⟩
  obtain ⟨b, o, r1, r2, r3, -⟩ := h3 j hj
  obtain ⟨b', o', s1, s2, s3, s4⟩ := h4 j hj
  have e2 : b = b' ∧ o = o' := by rw [r1] at s1; injection s1 with s1; injection s1 with x1 x2 x3; exact ⟨x1, x2⟩
  obtain ⟨rfl, rfl⟩ := e2
  exact ⟨b, o, r1, r2, s3, s4⟩
/-- What lies in the old memory stays. -/
theorem StB.above {w : World} {vx : Value} {cs : List UInt8} {wx : World} (S : StB w.heap.size w (.slice Option.none 0 0) vx cs wx) {w2 : World} (F : Fr vx.ownBlock.toList wx w2) : Fr [] w w2 :=
  (show Fr [] w wx from S.fr).trans F fun i hi => .inr (own_ltS S.own i (by simpa using hi)).1

/-- 'append(b, y...)' as a step of a region that draws its order; all bytes are the call's own. -/
theorem step_append_b0 {P : Program} (T : SlTy P 32 5 (.int .u8 0) 1) {ops : Array Oper} {o : Oper} {a : Act} {K : Act → World → Prop} {Q : Exit → Act → World → Prop} {E : Prop} (hgd : o.guard = none) (s x : Operand)
    (ho : o.op = .call { callee := .builtin .append, args := #[s, x], argTypes := #[32, 32] })
    {w wx wy : World} {vx : Value} {cs : List UInt8} (S : StB w.heap.size w (.slice none 0 0) vx cs wx) (F : Fr [] wx wy) (hs : a.eval s = vx) (y : Value) (ys : List UInt8) (hx : a.eval x = y) (hy : Sl wy y (bv ys)) (hl : cs.length + ys.length ≤ 1000000000)
    (h : ∀ v' w', StB w.heap.size w (.slice none 0 0) v' (cs ++ ys) w' → K (a.put o.dst v') w') : if Region.wanted o (yielded ops a.tmps) = true then Oper.wp P o a wy K Q else E := by
  have S2 := S.fr0 F
  refine step_append_sl T hgd s x ho w.heap.size vx cs.length (bv cs) hs S2.own y (bv ys) hx hy (bv_one _) (by rw [bv_length]; omega) (by rw [bv_length]; omega) S2.fr.size (fun v' w' own g => h v' w' ?_)
  rw [← bv_append, bv_length, ← List.length_append] at own
  exact ⟨own, (show Fr [] w wy from S2.fr).grown g (fun t ht => .inr (own_ltS S2.own t ht).1), fun k hk => .inr (own_ltS own k hk).1⟩
end Go.Proofs.YtkodindajfdagaaDoor
/- Frames that are not written out: parts of a code, loops that count, by what their slots hold. No condition. -/
namespace Go.Proofs.YtkodindajfdagaaDoor
open Go.RowKit

/-- A part of a code, by its path. -/
def cpart : List Bool → Code → Code
  | [], c => c
  | b :: ks, .seq x y => cpart ks (if b then y else x)
  | b :: ks, .cond _ x y => cpart ks (if b then y else x)
  | _ :: ks, .loop x => cpart ks x
  | _ :: ks, .block _ x => cpart ks x
  | _ :: ks, .scope x => cpart ks x
  | _ :: _, c => c

/-- It ends as a code does that goes on, and R holds. -/
def Only (R : Act → World → Prop) : Exit → Act → World → Prop := fun e a w => e = .normal ∧ R a w
/-- It leaves block number id, and R holds. -/
def Leaves (id : Nat) (R : Act → World → Prop) : Exit → Act → World → Prop := fun e a w => e = .exit id ∧ R a w
theorem only_mk {R : Act → World → Prop} {a : Act} {w : World} (h : R a w) : Only R .normal a w := ⟨rfl, h⟩
theorem leaves_mk {id : Nat} {R : Act → World → Prop} {a : Act} {w : World} (h : R a w) : Leaves id R (.exit id) a w := ⟨rfl, h⟩

theorem only_seq {P : Program} {x y : Code} {Q : Exit → Act → World → Prop} {R : Act → World → Prop} {a : Act} {w : World} (hx : x.wp P (Only R) a w) (hy : ∀ a w, R a w → y.wp P Q a w) : (Code.seq x y).wp P Q a w :=
  wp_seq (Code.wp_mono (fun e a w h => by obtain ⟨rfl, h⟩ := h; exact hy a w h) hx)
theorem only_then {P : Program} {x : Code} {K : Act → World → Prop} {Q : Exit → Act → World → Prop} {R : Act → World → Prop} {a : Act} {w : World} (hx : x.wp P (Only R) a w) (hy : ∀ a w, R a w → K a w) : x.wp P (Exit.then K Q) a w :=
  Code.wp_mono (fun e a w h => by obtain ⟨rfl, h⟩ := h; exact hy a w h) hx
theorem only_mono {P : Program} {x : Code} {R R' : Act → World → Prop} {a : Act} {w : World} (hx : x.wp P (Only R) a w) (hy : ∀ a w, R a w → R' a w) : x.wp P (Only R') a w :=
  Code.wp_mono (fun _ a w h => ⟨h.1, hy a w h.2⟩) hx

/-- What is to be shown, hidden while the walk goes on. -/
theorem only_hide {P : Program} {x : Code} {R : Act → World → Prop} {a : Act} {w : World} (h : ∀ K : Act → World → Prop, Hid (∀ a w, R a w → K a w) → x.wp P (Only K) a w) : x.wp P (Only R) a w := h R (Lib.hid fun _ _ h => h)
theorem only_block {P : Program} {id : Nat} {x : Code} {R : Act → World → Prop} {a : Act} {w : World} (h : x.wp P (Only R) a w) : (Code.block id x).wp P (Only R) a w :=
  wp_block (Code.wp_mono (fun e a w h => by obtain ⟨rfl, h⟩ := h; exact ⟨rfl, h⟩) h)
/-- A loop that counts: I k holds behind k rounds; behind N of them the block is left. -/
theorem loop_count {P : Program} {id N : Nat} {c : Code} {R : Act → World → Prop} {a : Act} {w : World} (I : Nat → Act → World → Prop) (h0 : I 0 a w)
    (round : ∀ k a w, k < N → I k a w → c.wp P (Only (I (k + 1))) a w) (out : ∀ a w, I N a w → c.wp P (Leaves id R) a w) : (Code.block id (.loop c)).wp P (Only R) a w := by
  refine wp_block ?_
  refine wp_loop_ghost (fun n a w => ∃ k, k ≤ N ∧ n = N - k ∧ I k a w) N ⟨0, Nat.zero_le _, rfl, h0⟩ ?_
  rintro n a w ⟨k, hk, rfl, hI⟩
  by_cases hlt : k < N
  · refine Code.wp_mono (fun e a' w' h => ?_) (round k a w hlt hI)
    obtain ⟨rfl, h⟩ := h
    exact ⟨N - (k + 1), by omega, k + 1, hlt, rfl, h⟩
  · obtain rfl : k = N := by omega
    refine Code.wp_mono (fun e a' w' h => ?_) (out a w hI)
    obtain ⟨rfl, h⟩ := h
    show (if id = id then Only R .normal a' w' else Only R (.exit id) a' w')
    rw [if_pos rfl]
    exact ⟨rfl, h⟩
/-- A loop with a number that falls; it may be left in any round. -/
theorem loop_falls {P : Program} {id : Nat} {c : Code} {R : Act → World → Prop} {a : Act} {w : World} (I : Nat → Act → World → Prop) (n : Nat) (h0 : I n a w)
    (round : ∀ n a w, I n a w → c.wp P (fun e a' w' => (e = .normal ∧ ∃ n', n' < n ∧ I n' a' w') ∨ (e = .exit id ∧ R a' w')) a w) : (Code.block id (.loop c)).wp P (Only R) a w := by
  refine wp_block ?_
  refine wp_loop_ghost I n h0 ?_
  intro n a w hI
  refine Code.wp_mono (fun e a' w' h => ?_) (round n a w hI)
  rcases h with ⟨rfl, h⟩ | ⟨rfl, h⟩
  · exact h
  · show (if id = id then Only R .normal a' w' else Only R (.exit id) a' w')
    rw [if_pos rfl]
    exact ⟨rfl, h⟩

theorem slot_set (A : Array Value) (i j : Nat) (v : Value) (h : j < (A.setIfInBounds i v).size) : (A.setIfInBounds i v)[j] = if i = j then v else A[j]'(by simpa using h) := by
  rw [Array.getElem_setIfInBounds]
/-- What some slots hold. -/
def Slots (A : Array Value) : List (Nat × Value) → Prop
  | [] => True
  | (i, v) :: l => (∀ h : i < A.size, A[i] = v) ∧ Slots A l

/-- 'for i < N { y; i++ }': the test, the body, the step. -/
theorem for_count {P : Program} {id N : Nat} {t : Tmp} {r1 y r2 : Code} {R : Act → World → Prop} {a : Act} {w : World} (I J : Nat → Act → World → Prop) (h0 : I 0 a w)
    (test : ∀ k a w, k ≤ N → I k a w → r1.wp P (Only (fun a' w' => a'.eval (.tmp t) = .bool (decide (k < N)) ∧ I k a' w')) a w)
    (body : ∀ k a w, k < N → I k a w → y.wp P (Only (J k)) a w) (step : ∀ k a w, k < N → J k a w → r2.wp P (Only (I (k + 1))) a w) (fin : ∀ a w, I N a w → R a w) :
    (Code.block id (.loop (.seq (.seq r1 (.cond (.tmp t) .skip (.exit id))) (.seq y r2)))).wp P (Only R) a w := by
  refine loop_count (N := N) I h0 (fun k a w hk hI => ?_) (fun a w hI => ?_)
  · refine only_seq (R := I k) (only_seq (test k a w (by omega) hI) (fun a1 w1 h1 => ?_)) (fun a1 w1 h1 => only_seq (body k a1 w1 hk h1) (fun a2 w2 h2 => step k a2 w2 hk h2))
    exact wp_cond_true (by rw [h1.1, decide_eq_true hk]) (wp_skip ⟨rfl, h1.2⟩)
  · refine wp_seq ?_
    refine wp_seq (Code.wp_mono (fun e a1 w1 h => ?_) (test N a w (Nat.le_refl _) hI))
    obtain ⟨rfl, h1, h2⟩ := h
    exact wp_cond_false (by rw [h1, decide_eq_false (Nat.lt_irrefl _)]) (wp_exit (show Leaves id R (.exit id) a1 w1 from ⟨rfl, fin _ _ h2⟩))
end Go.Proofs.YtkodindajfdagaaDoor
/- Rows side by side: laws of append and of calls. No condition. -/
namespace Go.Proofs.YtkodindajfdagaaDoor
open Go.RowKit

def bR (v : Value) (b : List UInt8) : RowD := ⟨5, v, b.length, bv b⟩
def tR (v : Value) (b : List Bool) : RowD := ⟨4, v, b.length, tv b⟩

theorem wown_type {w : World} {base e sz : Nat} {v : Value} {n : Nat} {xs : List Value} (h : w.ownsRow base e sz v n xs) {k : Nat} {cs : Array Value} {e' : Nat} {z : Nat × Nat} (hk : w.heap[k]? = some (.cells cs e' z)) (he : e ≠ e') : v.ownBlock ≠ some k := by
  rcases h.2 with ⟨rfl, -⟩ | ⟨g, cap, cur, rfl, hb, hg, -⟩
  · simp [Value.ownBlock]
  · simp [Value.ownBlock]
    intro e1
    subst e1
    rw [hg] at hk
    simp at hk
    exact he hk.2.1
/-- What is below the rows stays. -/
theorem OwnL.above {w0 w w' : World} {L : List RowD} {i : Nat} {r : RowD} (H : OwnL w0.heap.size w L) (hi : L[i]? = some r) (FA : Fr [] w0 w) (F : Fr r.v.ownBlock.toList w w') : Fr [] w0 w' :=
  FA.trans F fun k hk => .inr (own_ltS (H.own i r hi) k (by simpa using hk)).1
/-- A block of another type stays. -/
theorem OwnL.far {base : Nat} {w w' : World} {L : List RowD} {i : Nat} {r : RowD} (H : OwnL base w L) (hi : L[i]? = some r) (F : Fr r.v.ownBlock.toList w w') {k : Nat} {cs : Array Value} {e' : Nat} {z : Nat × Nat} (hk : w.heap[k]? = some (.cells cs e' z)) (he : r.e ≠ e') : w'.heap[k]? = some (.cells cs e' z) :=
  (F.block k (Array.getElem?_eq_some_iff.1 hk).1 (fun hm => wown_type (H.own i r hi) hk he (by simpa using hm))).trans hk
/-- Another row reads as it did. -/
theorem OwnL.sl {base : Nat} {w w' : World} {L : List RowD} {i j : Nat} {r s : RowD} (H : OwnL base w L) (hi : L[i]? = some r) (hj : L[j]? = some s) (hne : i ≠ j) (F : Fr r.v.ownBlock.toList w w') : Sl w' s.v s.xs :=
  Sl.of_own (own_frS (H.own j s hj) F fun k hk hm => H.apart i j r s hne hi hj k (by simpa using hm) hk)
/-- Behind what answers new bytes. -/
theorem OwnL.new_ {base : Nat} {w w' : World} {L : List RowD} {i : Nat} {v : Value} {b cs : List UInt8} {e : Ending} (H : OwnL base w L) (hi : L[i]? = some (bR v b)) (hb : base ≤ w.heap.size) (h : NewBytes cs w e w') : ∃ r, e = .returned r ∧ OwnL base w' (L.set i (bR r cs)) ∧ Fr [] w w' := by
  obtain ⟨r, he, own, F⟩ := h
  exact ⟨r, he, H.turn hi (F.mono (by simp)) (own_mono own hb) (fun k hk => .inr (own_ltS own k hk).1), F⟩
/-- Behind what puts bytes. -/
theorem OwnL.put_ {base : Nat} {w w' : World} {L : List RowD} {i : Nat} {v : Value} {b cs : List UInt8} {e : Ending} (H : OwnL base w L) (hi : L[i]? = some (bR v b)) (h : PutB base w v cs e w') : ∃ r, e = .returned r ∧ OwnL base w' (L.set i (bR r cs)) ∧ Fr v.ownBlock.toList w w' := by
  obtain ⟨r, he, own, F, hat⟩ := h
  exact ⟨r, he, H.turn hi F own hat, F⟩
/-- One row more, of new bytes. -/
theorem OwnL.snoc {base : Nat} {w w' : World} {L : List RowD} {cs : List UInt8} {e : Ending} (H : OwnL base w L) (hb : base ≤ w.heap.size) (h : NewBytes cs w e w') : ∃ r, e = .returned r ∧ OwnL base w' (L ++ [bR r cs]) ∧ Fr [] w w' := by
  obtain ⟨r, he, own, F⟩ := h
  have lt : ∀ (i : Nat) (s : RowD) (k : Nat), L[i]? = some s → s.v.ownBlock = some k → k < w.heap.size := fun i s k hi hk => (own_ltS (H.own i s hi) k hk).2
  have ge : ∀ k, r.ownBlock = some k → w.heap.size ≤ k := fun k hk => (own_ltS own k hk).1
  refine ⟨r, he, ⟨fun i s hi => ?_, fun i j a c hij hi hj k hk hck => ?_⟩, F⟩
  · rw [List.getElem?_append] at hi
    split at hi
    · exact own_frS (H.own i s hi) F (by simp)
    · have : i - L.length = 0 := by have := (List.getElem?_eq_some_iff.1 hi).1; simp at this; omega
      rw [this] at hi
      obtain rfl := Option.some.inj hi
      exact own_mono own hb
  · rw [List.getElem?_append] at hi hj
    split at hi
    · split at hj
      · exact H.apart i j a c hij hi hj k hk hck
      · have e0 : j - L.length = 0 := by have := (List.getElem?_eq_some_iff.1 hj).1; simp at this; omega
        rw [e0] at hj
        obtain rfl := Option.some.inj hj
        have h1 := lt i a k hi hk
        have h2 := ge k hck
        omega
    · have e0 : i - L.length = 0 := by have := (List.getElem?_eq_some_iff.1 hi).1; simp at this; omega
      rw [e0] at hi
      obtain rfl := Option.some.inj hi
      split at hj
      · have h1 := lt j c k hj hck
        have h2 := ge k hk
        omega
      · have e1 : j - L.length = 0 := by have := (List.getElem?_eq_some_iff.1 hj).1; simp at this; omega
        omega
theorem OwnL.left {base : Nat} {w : World} {L M : List RowD} (H : OwnL base w (L ++ M)) : OwnL base w L := by
  have up : ∀ (i : Nat) r, L[i]? = some r → (L ++ M)[i]? = some r := fun i r h => by rw [List.getElem?_append_left (List.getElem?_eq_some_iff.1 h).1]; exact h
  exact ⟨fun i r h => H.own i r (up i r h), fun i j a b hij ha hb => H.apart i j a b hij (up i a ha) (up j b hb)⟩
theorem OwnL.nil (base : Nat) (w : World) : OwnL base w [] := ⟨fun i r h => by simp at h, fun i j a b _ h => by simp at h⟩

/-- 'append(row, y...)' of bytes. -/
theorem wpList_append_rb {P : Program} (T : SlTy P 32 5 (.int .u8 0) 1) {w : World} {ops : Array Oper} {rest : List Oper} {o : Oper} {a : Act} {Q : Exit → Act → World → Prop} (hgd : o.guard = none) (s x : Operand)
    (ho : o.op = .call { callee := .builtin .append, args := #[s, x], argTypes := #[32, 32] })
    {base : Nat} {L : List RowD} (H : OwnL base w L) (i : Nat) {v : Value} {b : List UInt8} (hi : L[i]? = some (bR v b)) (hs : a.eval s = v) (y : Value) (ys : List UInt8) (hx : a.eval x = y) (hy : Sl w y (bv ys)) (hb : base ≤ w.heap.size) (hl : b.length + ys.length ≤ 1000000000)
    (h : ∀ v' w', OwnL base w' (L.set i (bR v' (b ++ ys))) → Fr v.ownBlock.toList w w' → wpList P ops Q rest (a.put o.dst v') w') : wpList P ops Q (o :: rest) a w := by
  have own : w.ownsRow base 5 1 v b.length (bv b) := H.own i _ hi
  refine wpList_append_sl_at T hgd s x ho base v b.length (bv b) hs own y (bv ys) hx hy (bv_one _) (by rw [bv_length]; omega) (by rw [bv_length]; omega) hb (fun v' w' own' g hat => ?_)
  have F : Fr v.ownBlock.toList w w' := (Fr.refl _ _).grown g (fun t ht => .inl (by simp [ht]))
  rw [← bv_append, bv_length, ← List.length_append] at own'
  exact h v' w' (H.turn hi F own' (fun k hk => by
    rcases hat with e | e
    · exact .inl (e ▸ hk)
    · rw [e] at hk; injection hk with hk; exact .inr (by omega))) F
/-- 'append(row, y...)' of bits. -/
theorem wpList_append_rt {P : Program} (T : SlTy P 76 4 (.bool false) 1) {w : World} {ops : Array Oper} {rest : List Oper} {o : Oper} {a : Act} {Q : Exit → Act → World → Prop} (hgd : o.guard = none) (s x : Operand)
    (ho : o.op = .call { callee := .builtin .append, args := #[s, x], argTypes := #[76, 76] })
    {base : Nat} {L : List RowD} (H : OwnL base w L) (i : Nat) {v : Value} {b : List Bool} (hi : L[i]? = some (tR v b)) (hs : a.eval s = v) (y : Value) (ys : List Bool) (hx : a.eval x = y) (hy : Sl w y (tv ys)) (hb : base ≤ w.heap.size) (hl : b.length + ys.length ≤ 1000000000)
    (h : ∀ v' w', OwnL base w' (L.set i (tR v' (b ++ ys))) → Fr v.ownBlock.toList w w' → wpList P ops Q rest (a.put o.dst v') w') : wpList P ops Q (o :: rest) a w := by
  have own : w.ownsRow base 4 1 v b.length (tv b) := H.own i _ hi
  have tl : ∀ l : List Bool, (tv l).length = l.length := fun l => by simp [tv]
  refine wpList_append_sl_at T hgd s x ho base v b.length (tv b) hs own y (tv ys) hx hy (tv_one _) (by rw [tl]; omega) (by rw [tl]; omega) hb (fun v' w' own' g hat => ?_)
  have F : Fr v.ownBlock.toList w w' := (Fr.refl _ _).grown g (fun t ht => .inl (by simp [ht]))
  rw [← tv_append, tl, ← List.length_append] at own'
  exact h v' w' (H.turn hi F own' (fun k hk => by
    rcases hat with e | e
    · exact .inl (e ▸ hk)
    · rw [e] at hk; injection hk with hk; exact .inr (by omega))) F
end Go.Proofs.YtkodindajfdagaaDoor
