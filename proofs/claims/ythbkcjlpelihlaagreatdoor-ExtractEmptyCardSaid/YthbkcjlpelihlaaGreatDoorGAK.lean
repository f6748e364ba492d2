/- Contracts: lies, may. No condition but that lengths fit. -/
import Derived.Test.YthbkcjlpelihlaaGreatDoorGAJ
namespace Go.Proofs.YthbkcjlpelihlaaGreatDoor
open Go.RowKit Go.Maps

theorem parent_le (q : List UInt8) : (parentL q).length ≤ q.length := by
  unfold parentL
  split
  · rw [List.length_take]; omega
  · simp
/-- What a look-up finds: the kind's number, 0 where nothing is. -/
theorem SandIn.kind {w : World} {lo p b : Nat} {fv cv : Value} {n nc : Nat} {fl : Fl} {KV : List UInt8 → Option Value} {K : Tree} (h : SandIn w lo p b fv cv n nc fl KV K) (q : List UInt8) (hq : q.length ≤ 100000) :
    ∃ kd dv sv, (Instr.lookup 78 (.map (some b)) (.string ⟨q.toArray⟩) false).run Tryz.prog w = .ok (.agg #[.int .i64 kd, dv, .string sv]) w ∧ kindK K q = kd := by
  have hrun := h.mp.get q hq
  cases hk : K q with
  | none =>
    rw [(h.rd.no _).2 hk] at hrun
    exact ⟨0, _, _, hrun, by unfold kindK; rw [hk]; rfl⟩
  | some t =>
    obtain ⟨v, hv, dv, rfl, -⟩ := h.rd.get hk
    rw [hv] at hrun
    exact ⟨t.kind, _, _, hrun, by unfold kindK; rw [hk]; rfl⟩
set_option maxRecDepth 100000 in
set_option maxHeartbeats 2000000 in
theorem lies_any {w : World} {lo p b : Nat} {fv cv : Value} {n nc : Nat} {fl : Fl} {KV : List UInt8 → Option Value} {K : Tree} (h : SandIn w lo p b fv cv n nc fl KV K) (q : List UInt8) (hq : q.length ≤ 100000) :
    Calls Tryz.prog 36 #[.pointer (some ⟨p, 0, none⟩), .string ⟨q.toArray⟩] w fun e w' => e = .returned (.bool (liesK K q)) ∧ w' = w := by
  have HP := Lib.hid (parent_any w q hq)
  obtain ⟨c0, -, -⟩ := h.cells
  have hnot : ∀ (x : Bool) (w : World), (Op.unary .not (.bool x)).run Tryz.prog w = .ok (.bool (!x)) w := fun _ _ => rfl
  cases hd : deepL q with
  | false =>
    have e : liesK K q = true := by unfold liesK; rw [hd]; rfl
    rw [e]
    rw [hd] at HP
    clear e hd
    go_enter Tryz.func36, Tryz.ntmps36
    go_wp2_with (go_at_call 57; refine HP.out.mono ?_; rintro e w1 ⟨rfl, rfl⟩)
    go_ret
    exact ⟨rfl, rfl⟩
  | true =>
    have e : liesK K q = decide (kindK K (parentL q) = 1) := by unfold liesK; rw [hd]; rfl
    rw [e]
    rw [hd] at HP
    clear e hd
    obtain ⟨kd, dv, sv, hrun2, ek⟩ := h.kind (parentL q) (by have := parent_le q; omega)
    have hfd : ∀ w : World, (Instr.field 80 (.agg #[.int .i64 kd, dv, .string sv]) 0).run Tryz.prog w = .ok (.int .i64 kd) w := fun _ => by kernel_rfl
    rw [ek]
    clear ek h
    rw [show decide (kd = 1) = (kd == 1) by by_cases h : kd = 1 <;> simp [h]]
    go_enter Tryz.func36, Tryz.ntmps36
    go_wp2_with (go_at_call 57; refine HP.out.mono ?_; rintro e w1 ⟨rfl, rfl⟩)
    go_ret
    exact ⟨rfl, rfl⟩

theorem box4 {w wr : World} {t : TypeId} {a0 a1 a2 a3 : Value} {S : List Nat} (F : Fr S (w.alloc (.cells #[a0, a1, a2, a3] t)) wr) (hS : w.heap.size ∉ S) :
    wr.cell? ⟨w.heap.size, 0, none⟩ = some a0 ∧ wr.cell? ⟨w.heap.size, 1, none⟩ = some a1 ∧ wr.cell? ⟨w.heap.size, 2, none⟩ = some a2 ∧ wr.cell? ⟨w.heap.size, 3, none⟩ = some a3 := by
  have key : ∀ (i : Nat), wr.cell? ⟨w.heap.size, i, none⟩ = #[a0, a1, a2, a3][i]? := fun i => by
    rw [F.cell (p := ⟨w.heap.size, i, none⟩) (by simp) hS, Go.Joins.cell_of_block (heap_alloc_new w _)]
  exact ⟨by rw [key]; rfl, by rw [key]; rfl, by rw [key]; rfl, by rw [key]; rfl⟩
/-- What may be in itself. -/
def thMay (q : List UInt8) (t : Tv) : Bool := cleanL foldL q && tvMay t
set_option linter.unusedSimpArgs false in
set_option maxRecDepth 100000 in
set_option maxHeartbeats 2000000 in
theorem smay_any (w : World) (q : List UInt8) (t : Tv) (ao : Option Addr) (cap : Nat) (hG : Gl w) (hq : q.length ≤ 100000) :
    Calls Tryz.prog 35 #[.agg #[.string ⟨q.toArray⟩, .int .i64 t.kind, .slice ao t.data.length cap, .string ⟨t.ln.toArray⟩]] w fun e w' => e = .returned (.bool (thMay q t)) ∧ Fr [] w w' := by
  obtain ⟨kd, dl, ln⟩ := t
  dsimp only
  obtain ⟨N, hN⟩ : ∃ N, dl.length = N := ⟨_, rfl⟩
  have eN : decide (dl = []) = decide ((N : Int) = 0) := by
    cases dl with
    | nil => subst hN; rfl
    | cons a r => subst hN; simp; omega
  have eL : decide (ln = []) = (ln == []) := by cases ln <;> rfl
  unfold thMay tvMay
  dsimp only
  rw [eN, eL]
  rw [hN]
  have HC := Lib.hid (fun wx (F : Fr [] w wx) => sclean_any wx q (hG.fr F) hq)
  clear hG hq eN hN eL
  generalize cleanL foldL q = c at *
  obtain ⟨bl, hbl⟩ : ∃ bl, (ln == []) = bl := ⟨_, rfl⟩
  rw [hbl]
  rcases (show kd = 1 ∨ kd = 2 ∨ kd = 3 ∨ (¬ kd = 1 ∧ ¬ kd = 2 ∧ ¬ kd = 3) by omega) with rfl | rfl | rfl | ⟨k1, k2, k3⟩
  · cases c
    · go_enter Tryz.func35, Tryz.ntmps35
      go_wp2_with (go_at_call 56; refine (HC.out _ ((Fr.refl _ _).alloc _)).mono ?_; rintro e w1 ⟨rfl, F1⟩; obtain ⟨b0, b1, b2, b3⟩ := box4 F1 (by simp))
      go_ret
      exact ⟨rfl, ((Fr.refl _ _).alloc _).trans0 F1⟩
    · by_cases hz : (N : Int) = 0
      · go_enter Tryz.func35, Tryz.ntmps35
        go_wp2_with (go_at_call 56; refine (HC.out _ ((Fr.refl _ _).alloc _)).mono ?_; rintro e w1 ⟨rfl, F1⟩; obtain ⟨b0, b1, b2, b3⟩ := box4 F1 (by simp))
        go_ret
        exact ⟨by by_cases hN0 : N = 0 <;> cases bl <;> simp_all, ((Fr.refl _ _).alloc _).trans0 F1⟩
      · go_enter Tryz.func35, Tryz.ntmps35
        go_wp2_with (go_at_call 56; refine (HC.out _ ((Fr.refl _ _).alloc _)).mono ?_; rintro e w1 ⟨rfl, F1⟩; obtain ⟨b0, b1, b2, b3⟩ := box4 F1 (by simp))
        go_ret
        exact ⟨by by_cases hN0 : N = 0 <;> cases bl <;> simp_all, ((Fr.refl _ _).alloc _).trans0 F1⟩
  · cases c
    · go_enter Tryz.func35, Tryz.ntmps35
      go_wp2_with (go_at_call 56; refine (HC.out _ ((Fr.refl _ _).alloc _)).mono ?_; rintro e w1 ⟨rfl, F1⟩; obtain ⟨b0, b1, b2, b3⟩ := box4 F1 (by simp))
      go_ret
      exact ⟨rfl, ((Fr.refl _ _).alloc _).trans0 F1⟩
    · go_enter Tryz.func35, Tryz.ntmps35
      go_wp2_with (go_at_call 56; refine (HC.out _ ((Fr.refl _ _).alloc _)).mono ?_; rintro e w1 ⟨rfl, F1⟩; obtain ⟨b0, b1, b2, b3⟩ := box4 F1 (by simp))
      go_ret
      exact ⟨by by_cases hN0 : N = 0 <;> cases bl <;> simp_all, ((Fr.refl _ _).alloc _).trans0 F1⟩
  · cases c
    · go_enter Tryz.func35, Tryz.ntmps35
      go_wp2_with (go_at_call 56; refine (HC.out _ ((Fr.refl _ _).alloc _)).mono ?_; rintro e w1 ⟨rfl, F1⟩; obtain ⟨b0, b1, b2, b3⟩ := box4 F1 (by simp))
      go_ret
      exact ⟨rfl, ((Fr.refl _ _).alloc _).trans0 F1⟩
    · by_cases hz : (N : Int) = 0
      · go_enter Tryz.func35, Tryz.ntmps35
        go_wp2_with (go_at_call 56; refine (HC.out _ ((Fr.refl _ _).alloc _)).mono ?_; rintro e w1 ⟨rfl, F1⟩; obtain ⟨b0, b1, b2, b3⟩ := box4 F1 (by simp))
        go_ret
        exact ⟨by by_cases hN0 : N = 0 <;> cases bl <;> simp_all, ((Fr.refl _ _).alloc _).trans0 F1⟩
      · go_enter Tryz.func35, Tryz.ntmps35
        go_wp2_with (go_at_call 56; refine (HC.out _ ((Fr.refl _ _).alloc _)).mono ?_; rintro e w1 ⟨rfl, F1⟩; obtain ⟨b0, b1, b2, b3⟩ := box4 F1 (by simp))
        go_ret
        exact ⟨by by_cases hN0 : N = 0 <;> cases bl <;> simp_all, ((Fr.refl _ _).alloc _).trans0 F1⟩
  · go_enter Tryz.func35, Tryz.ntmps35
    go_wp2_with fail
    go_ret
    exact ⟨by simp [k1, k2, k3], (Fr.refl _ _).alloc _⟩
end Go.Proofs.YthbkcjlpelihlaaGreatDoor
/- Contract: fresh. No condition but that lengths fit. -/
namespace Go.Proofs.YthbkcjlpelihlaaGreatDoor
open Go.RowKit Go.Maps

theorem SandIn.nob {w : World} {lo p b : Nat} {fv cv : Value} {n nc : Nat} {fl : Fl} {KV : List UInt8 → Option Value} {K : Tree} (h : SandIn w lo p b fv cv n nc fl KV K) (e : Nat) : ∀ i ∈ [b], i < lo ∨ ∀ cs z, w.heap[i]? ≠ some (.cells cs e z) := by
  intro i hi
  simp at hi
  subst hi
  obtain ⟨D, ⟨es, clock, h1, -⟩, -⟩ := h.mp
  exact .inr fun cs z hc => by rw [h1] at hc; cases hc
/-- The map has turned. -/
theorem SandIn.turn {w w' : World} {lo p b m : Nat} {fv cv : Value} {n nc : Nat} {fl : Fl} {KV KV' : List UInt8 → Option Value} {K K' : Tree} (h : SandIn w lo p b fv cv n nc fl KV K) (F : Fr [b] w w') (hM : MTh w' b m KV') (hR : Reads w lo KV' K') :
    SandIn w' lo p b fv cv m nc fl KV' K' := by
  obtain ⟨xs, hc, hcr⟩ := h.cr
  have hpb := h.ne
  exact ⟨(F.block p h.ltp (by simpa using hpb)).trans h.blk, hM, hR.fr F (h.nob _), own_frT h.fa F (h.nob _), ⟨xs, own_frT hc F (h.nob _), hcr⟩, h.lp, h.lb⟩
/-- What a look-up finds. -/
theorem SandIn.look {w : World} {lo p b : Nat} {fv cv : Value} {n nc : Nat} {fl : Fl} {KV : List UInt8 → Option Value} {K : Tree} (h : SandIn w lo p b fv cv n nc fl KV K) (q : List UInt8) (hq : q.length ≤ 100000) :
    ∃ kd ao dn cap sv, (Instr.lookup 78 (.map (some b)) (.string ⟨q.toArray⟩) true).run Tryz.prog w = .ok (.tuple #[.agg #[.int .i64 kd, .slice ao dn cap, .string sv], .bool (K q).isSome]) w := by
  have hrun := h.mp.look q hq
  rw [h.rd.is] at hrun
  cases hk : K q with
  | none =>
    rw [(h.rd.no _).2 hk, hk] at hrun
    exact ⟨_, _, _, _, _, hrun⟩
  | some t =>
    obtain ⟨v, hv, dv, rfl, ho⟩ := h.rd.get hk
    obtain ⟨ao, cap, rfl, -⟩ := own_outS ho
    rw [hv, hk] at hrun
    exact ⟨_, _, _, _, _, hrun⟩
theorem ThV.new (w : World) (lo : Nat) (kd : Int) : ThV w lo (.agg #[.int .i64 kd, .slice none 0 0, .string ⟨#[]⟩]) ⟨kd, [], []⟩ := ⟨_, rfl, World.ownsRow_nil _ _ _ _⟩

def FreshR (w : World) (lo p b : Nat) (fv cv : Value) (n nc : Nat) (fl : Fl) (KV : List UInt8 → Option Value) (K : Tree) (q : List UInt8) (kd : Int) (e : Ending) (w' : World) : Prop :=
  ((K q).isSome = false ∧ liesK K q = true ∧ e = .returned (.int .i64 0) ∧ (∃ KV', SandIn w' lo p b fv cv (n + 1) nc fl KV' (updK K q ⟨kd, [], []⟩)) ∧ Fr [b] w w') ∨
    (((K q).isSome = true ∨ liesK K q = false) ∧ e = .returned (.int .i64 202) ∧ SandIn w' lo p b fv cv n nc fl KV K ∧ Fr [] w w')
set_option maxRecDepth 100000 in
set_option maxHeartbeats 2000000 in
theorem fresh_any {w : World} {lo p b : Nat} {fv cv : Value} {n nc : Nat} {fl : Fl} {KV : List UInt8 → Option Value} {K : Tree} (h : SandIn w lo p b fv cv n nc fl KV K) (q : List UInt8) (hq : q.length ≤ 100000) (kd : Int) (hn : n ≤ 100000) :
    Calls Tryz.prog 146 #[.pointer (some ⟨p, 0, none⟩), .string ⟨q.toArray⟩, .int .i64 kd] w (FreshR w lo p b fv cv n nc fl KV K q kd) := by
  obtain ⟨ko, ao, dn, cap, sv, hrun⟩ := h.look q hq
  obtain ⟨c0, -, -⟩ := h.cells
  obtain ⟨wA, hwA⟩ : ∃ wA, wA = w.alloc (.cells #[.int .i64 ko, .slice ao dn cap, .string sv] 80) := ⟨_, rfl⟩
  have FA : Fr [] w wA := hwA ▸ (Fr.refl _ _).alloc _
  have hA := h.fr0 FA
  have HL := Lib.hid (lies_any hA q hq)
  obtain ⟨d0, -, -⟩ := hA.cells
  have hnot : ∀ (x : Bool) (w : World), (Op.unary .not (.bool x)).run Tryz.prog w = .ok (.bool (!x)) w := fun _ _ => rfl
  have H0 := Lib.hid h
  have HA := Lib.hid hA
  unfold FreshR
  cases hk : (K q).isSome with
  | true =>
    rw [hk] at hrun
    clear h hA HL hk
    go_enter Tryz.func146, Tryz.ntmps146
    go_wp2_with fail
    rw [← hwA]
    go_ret
    exact .inr ⟨.inl (by trivial), rfl, HA.out, FA⟩
  | false =>
    rw [hk] at hrun
    cases hl : liesK K q with
    | false =>
      rw [hl] at HL
      clear h hA hk hl
      go_enter Tryz.func146, Tryz.ntmps146
      go_wp2_with (go_at_call 36; rw [← hwA]; refine HL.out.mono ?_; rintro e w1 ⟨rfl, rfl⟩; clear hwA)
      go_ret
      exact .inr ⟨.inr (by trivial), rfl, HA.out, FA⟩
    | true =>
      rw [hl] at HL
      obtain ⟨wB, hupd, hM, hg⟩ := hA.mp.put (by omega) q hq (.agg #[.int .i64 kd, .slice none 0 0, .string ⟨#[]⟩])
      have FB := fr_turned hg
      have HB := Lib.hid (hA.turn FB hM (hA.rd.put q (ThV.new wA lo kd)))
      have HF := Lib.hid (show Fr [b] w wB from ⟨FB.os.trans FA.os, FB.tape.trans FA.tape, FB.output.trans FA.output, Nat.le_trans FA.size FB.size, fun k hk hm => (FB.block k (Nat.lt_of_lt_of_le hk FA.size) hm).trans (FA.block k hk (by simp))⟩)
      clear h hA hk hl hM hg FB
      go_enter Tryz.func146, Tryz.ntmps146
      go_wp2_with (go_at_call 36; rw [← hwA]; refine HL.out.mono ?_; rintro e w1 ⟨rfl, rfl⟩; clear hwA)
      go_ret
      exact .inl ⟨by trivial, by trivial, rfl, ⟨_, HB.out⟩, HF.out⟩
end Go.Proofs.YthbkcjlpelihlaaGreatDoor
/- Contract: a sandbox's call. No condition but that lengths fit. -/
namespace Go.Proofs.YthbkcjlpelihlaaGreatDoor
open Go.RowKit Go.Maps

theorem info_call : (Tryz.prog.info? 53).map (fun i => (i.zero, i.size, i.bytes)) = some (some (.agg #[.int .i64 0, .string ⟨#[]⟩, .string ⟨#[]⟩, .int .i64 0]), 4, 48) := by kernel_rfl
theorem sty_call : SlTyM Tryz.prog 50 53 (.agg #[.int .i64 0, .string ⟨#[]⟩, .string ⟨#[]⟩, .int .i64 0]) 4 48 := ⟨Tryz.underlying50, by obtain ⟨i, h⟩ := info_parts info_call; exact ⟨i, h⟩, rfl, by decide⟩

/-- A call is put down: the calls' row grows by one. -/
theorem SandIn.put {w w3 : World} {lo p b : Nat} {fv cv : Value} {n nc : Nat} {fl : Fl} {KV : List UInt8 → Option Value} {K : Tree} (h : SandIn w lo p b fv cv n nc fl KV K) (cv' : Value) (us xs : List Value)
    (hca : w.ownsRow lo 53 4 cv nc xs) (hcr : CallsR fl.R (nc + 1) (xs ++ us)) (hc : w3.ownsRow lo 53 4 cv' (nc + 1) (xs ++ us)) (g : (w.alloc (.cells us.toArray 53)).grownBy w3 cv.ownBlock) :
    SandIn (w3.setCell ⟨p, 2, none⟩ cv') lo p b fv cv' n (nc + 1) fl KV K ∧ Fr (p :: cv.ownBlock.toList) w (w3.setCell ⟨p, 2, none⟩ cv') ∧
      w3.heap[p]? = some (.cells #[.map (some b), fv, cv] 82 (0, 0)) := by
  have F3 : Fr cv.ownBlock.toList w w3 := ((Fr.refl _ w).alloc (.cells us.toArray 53)).grown g (fun k e => .inl (by rw [e]; simp))
  have hty : ∀ k, cv.ownBlock = some k → ∀ e', e' ≠ 53 → ∀ cs z, w.heap[k]? ≠ some (.cells cs e' z) := fun k hk e' he => own_type hca k hk e' he
  have hpn : p ∉ cv.ownBlock.toList := fun hm => hty p (by simpa using hm) 82 (by decide) _ _ h.blk
  have hbn : b ∉ cv.ownBlock.toList := fun hm => by
    obtain ⟨D, ⟨es, clock, h1, -⟩, -⟩ := h.mp
    rcases hca.2 with ⟨rfl, -⟩ | ⟨g, cap, cur, rfl, -, hg, -⟩
    · simp [Value.ownBlock] at hm
    · simp [Value.ownBlock] at hm
      subst hm
      rw [h1] at hg
      cases hg
  have b3 : w3.heap[p]? = some (.cells #[.map (some b), fv, cv] 82 (0, 0)) := (F3.block p h.ltp hpn).trans h.blk
  have Fs : Fr [p] w3 (w3.setCell ⟨p, 2, none⟩ cv') := (Fr.refl _ _).setCell (by simp) _
  have F4 : Fr (p :: cv.ownBlock.toList) w (w3.setCell ⟨p, 2, none⟩ cv') := (F3.mono (fun i hi => by simp at hi; simp [hi])).setCell (by simp) _
  have hS : ∀ e, e ≠ 53 → e ≠ 82 → ∀ i ∈ (p :: cv.ownBlock.toList), i < lo ∨ ∀ cs z, w.heap[i]? ≠ some (.cells cs e z) := fun e h1 h2 i hi => by
    refine .inr fun cs z hh => ?_
    rcases List.mem_cons.1 hi with rfl | hi
    · rw [h.blk] at hh
      injection hh with hh
      injection hh with _ h3 _
      exact h2 h3.symm
    · exact hty i (by simpa using hi) e h1 cs z hh
  have hb4 : b ∉ (p :: cv.ownBlock.toList) := fun hm => by
    rcases List.mem_cons.1 hm with e | hm
    · exact h.ne e.symm
    · exact hbn hm
  refine ⟨⟨Go.Joins.block_setCell b3 _, h.mp.fr F4 hb4, h.rd.fr F4 (hS _ (by decide) (by decide)), own_frT h.fa F4 (hS _ (by decide) (by decide)), ⟨_, own_frT hc Fs (fun i hi => .inr fun cs z hh => ?_), hcr⟩, h.lp, h.lb⟩, F4, b3⟩
  simp at hi
  subst hi
  rw [b3] at hh
  injection hh with hh
  injection hh with _ h3 _
  exact absurd h3 (by decide)
theorem cells3 {w : World} {p : Nat} {a0 a1 a2 : Value} {t : TypeId} (h : w.heap[p]? = some (.cells #[a0, a1, a2] t (0, 0))) : w.cell? ⟨p, 0, none⟩ = some a0 ∧ w.cell? ⟨p, 1, none⟩ = some a1 ∧ w.cell? ⟨p, 2, none⟩ = some a2 ∧ (∀ j, w.frozen? ⟨p, j, none⟩ = false) := by
  have key : ∀ i : Nat, w.cell? ⟨p, i, none⟩ = (#[a0, a1, a2] : Array Value)[i]? := Go.Joins.cell_of_block h
  exact ⟨by rw [key]; rfl, by rw [key]; rfl, by rw [key]; rfl, fun j => by simp [World.frozen?, h]⟩

/-- A block that a sandbox may write: its own, its calls', its map. -/
def TyS (w : World) (i : Nat) : Prop := ∀ cs t z, w.heap[i]? = some (.cells cs t z) → t = 82 ∨ t = 53
/-- What lies below lo stays, and so does whatever block is none of a sandbox's. -/
def Lo (lo : Nat) (w w' : World) : Prop := ∃ S, Fr S w w' ∧ ∀ i ∈ S, lo ≤ i ∧ TyS w i
theorem Lo.of0 {lo : Nat} {w w' : World} (F : Fr [] w w') : Lo lo w w' := ⟨[], F, by simp⟩
theorem TyS.back {S : List Nat} {a b : World} (F : Fr S a b) {i : Nat} (hS : i ∈ S → TyS a i) (h : TyS b i) : TyS a i := by
  by_cases hi : i ∈ S
  · exact hS hi
  · intro cs t z e
    have hl : i < a.heap.size := (Array.getElem?_eq_some_iff.1 e).1
    exact h cs t z ((F.block i hl hi).trans e)
theorem Lo.trans {lo : Nat} {a b c : World} (h : Lo lo a b) (k : Lo lo b c) : Lo lo a c := by
  obtain ⟨S, F, hS⟩ := h
  obtain ⟨T, G, hT⟩ := k
  refine ⟨S ++ T, (F.mono (fun i hi => by simp [hi])).trans G (fun i hi => .inl (by simp [hi])), fun i hi => ?_⟩
  rcases List.mem_append.1 hi with hi | hi
  · exact hS i hi
  · exact ⟨(hT i hi).1, TyS.back F (fun hm => (hS i hm).2) (hT i hi).2⟩
theorem Lo.trn {lo : Nat} {a b c : World} {T : List Nat} (h : Lo lo a b) (G : Fr T b c) (hT : ∀ i ∈ T, a.heap.size ≤ i) : Lo lo a c := by
  obtain ⟨S, F, hS⟩ := h
  exact ⟨S, F.trans G (fun i hi => .inr (hT i hi)), hS⟩
theorem Lo.keep {lo : Nat} {w w' : World} (h : Lo lo w w') {i : Nat} {cs : Array Value} {t : TypeId} {z : Nat × Nat} (hb : w.heap[i]? = some (.cells cs t z)) (h1 : t ≠ 82) (h2 : t ≠ 53) : w'.heap[i]? = some (.cells cs t z) := by
  obtain ⟨S, F, hS⟩ := h
  refine (F.block i (Array.getElem?_eq_some_iff.1 hb).1 fun hm => ?_).trans hb
  rcases (hS i hm).2 cs t z hb with e | e
  · exact h1 e
  · exact h2 e
theorem SandIn.loc {w w' : World} {lo p b : Nat} {fv cv : Value} {n nc : Nat} {fl : Fl} {KV : List UInt8 → Option Value} {K : Tree} (h : SandIn w lo p b fv cv n nc fl KV K) (F : Fr (p :: cv.ownBlock.toList) w w') : Lo lo w w' := by
  obtain ⟨xs, hca⟩ := h.ca
  refine ⟨_, F, fun i hi => ?_⟩
  rcases List.mem_cons.1 hi with rfl | hi
  · refine ⟨h.lp, fun cs t z e => .inl ?_⟩
    rw [h.blk] at e
    injection e with e
    injection e with _ e2 _
    exact e2.symm
  · have hk : cv.ownBlock = some i := by simpa using hi
    refine ⟨(own_ltS hca i hk).1, fun cs t z e => .inr ?_⟩
    apply Classical.byContradiction
    intro hne
    exact own_type hca i hk t hne cs z e
theorem SandIn.lob {w w' : World} {lo p b : Nat} {fv cv : Value} {n nc : Nat} {fl : Fl} {KV : List UInt8 → Option Value} {K : Tree} (h : SandIn w lo p b fv cv n nc fl KV K) (F : Fr [b] w w') : Lo lo w w' := by
  refine ⟨_, F, fun i hi => ?_⟩
  simp at hi
  subst hi
  refine ⟨h.lb, fun cs t z e => ?_⟩
  obtain ⟨D, ⟨es, clock, h1, -⟩, -⟩ := h.mp
  rw [h1] at e
  cases e
theorem SandIn.lop {w w' : World} {lo p b : Nat} {fv cv : Value} {n nc : Nat} {fl : Fl} {KV : List UInt8 → Option Value} {K : Tree} (h : SandIn w lo p b fv cv n nc fl KV K) (F : Fr [p] w w') : Lo lo w w' := by
  refine ⟨_, F, fun i hi => ?_⟩
  simp at hi
  subst hi
  refine ⟨h.lp, fun cs t z e => .inl ?_⟩
  rw [h.blk] at e
  injection e with e
  injection e with _ e2 _
  exact e2.symm

set_option maxRecDepth 100000 in
set_option maxHeartbeats 4000000 in
theorem call_bad {w : World} {lo p b : Nat} {fv cv : Value} {n nc : Nat} {fl : Fl} {KV : List UInt8 → Option Value} {K : Tree} (h : SandIn w lo p b fv cv n nc fl KV K) (hG : Gl w) (kd : Int) (q : List UInt8) (hq : q.length ≤ 100000) (to_ : ByteArray) (fv2 : Value)
    (hcl : cleanL foldL q = false) (hnc : nc ≤ 100000) (hR : fl.R nc q to_) :
    Calls Tryz.prog 109 #[.pointer (some ⟨p, 0, none⟩), .int .i64 kd, .string ⟨q.toArray⟩, .string to_, fv2] w fun e w' =>
      e = .returned (.int .i64 301) ∧ (∃ cv', SandIn w' lo p b fv cv' n (nc + 1) fl KV K) ∧ Lo lo w w' := by
  have HR := Lib.hid hR
  clear hR
  have HCL := Lib.hid (sclean_any w q hG hq)
  obtain ⟨c0, c1, c2⟩ := h.cells
  obtain ⟨xs, hca⟩ := h.ca
  obtain ⟨co, cc, rfl, -⟩ := own_outS hca
  have hnot : ∀ (x : Bool) (w : World), (Op.unary .not (.bool x)).run Tryz.prog w = .ok (.bool (!x)) w := fun _ _ => rfl
  rw [hcl] at HCL
  have HNC := Lib.hid hnc
  have HH := Lib.hid h
  clear hca hG hcl h
  go_enter Tryz.func109, Tryz.ntmps109
  go_upto_region 8 with (go_at_call 56; refine HCL.out.mono ?_; rintro e w2 ⟨rfl, F1⟩; have HS := Lib.hid (HH.out.fr0 F1); obtain ⟨d0, d1, d2⟩ := HS.out.cells)
  obtain ⟨xs2, hca2, hcr2⟩ := HS.out.cr
  have hsz := Nat.le_trans HS.out.lp (Nat.le_of_lt HS.out.ltp)
  have HP0 := Lib.hid (fun w3 cv' g hc => HS.out.put (w3 := w3) cv' [.int .i64 kd, .string ⟨q.toArray⟩, .string to_, .int .i64 301] xs2 hca2 (hcr2.put hca2.1 HR.out _ _) hc g)
  have own0 := Lib.hid (own_frB hca2 ((Fr.refl [] w2).alloc (.cells #[.int .i64 kd, .string ⟨q.toArray⟩, .string to_, .int .i64 301] 53)) (by simp))
  clear hca2 hcr2
  go_wp2_with (at_builtin; refine wpList_append_struct sty_call rfl _ _ rfl lo _ nc xs2 rfl own0.out w2.heap.size [.int .i64 kd, .string ⟨q.toArray⟩, .string to_, .int .i64 301] rfl (heap_alloc_new w2 _) rfl rfl (by have := HNC.out; omega) (by decide) (by rw [World.size_alloc]; omega) ?_; intro cv' w3 own3 g3; obtain ⟨nao, ncap, rfl, -⟩ := own_outS own3; obtain ⟨q1, q2, q3⟩ := HP0.out w3 _ g3 own3; have HQ1 := Lib.hid q1; have HQ2 := Lib.hid q2; obtain ⟨e0, e1, e2, ez⟩ := cells3 q3; have ez2 := ez 2; clear q1 q2 own3 g3)
  go_ret
  refine ⟨rfl, ⟨_, HQ1.out⟩, ?_⟩
  exact HH.out.loc ((F1.mono (by simp)).trans HQ2.out (fun i hi => .inl hi))
set_option maxRecDepth 100000 in
set_option maxHeartbeats 4000000 in
theorem call_do {w : World} {lo p b : Nat} {fv cv : Value} {n nc : Nat} {fl : Fl} {KV : List UInt8 → Option Value} {K : Tree} (h : SandIn w lo p b fv cv n nc fl KV K) (hG : Gl w) (kd : Int) (hkd : ¬ kd = 5) (q : List UInt8) (hq : q.length ≤ 100000) (to_ : ByteArray) (g : Nat) (lb : Array Value)
    (eg : ∀ args w, (callFunc g args).run Tryz.prog w = .ok (.enter g args) w) (hcl : cleanL foldL q = true) (hlo_ : fl.ok nc q to_) (hnc : nc ≤ 100000)
    (P : Int → Nat → Tree → World → Prop) (hdo : ∀ wx, Fr [] w wx → Calls Tryz.prog g lb wx fun e w2 => ∃ c b' n' KV' K', e = .returned (.int .i64 c) ∧ SandIn w2 lo p b' fv cv n' nc fl KV' K' ∧ P c n' K' w2) :
    Calls Tryz.prog 109 #[.pointer (some ⟨p, 0, none⟩), .int .i64 kd, .string ⟨q.toArray⟩, .string to_, .func (.func g) #[] lb] w fun e w' =>
      ∃ c b' n' KV' K' w2 cv', P c n' K' w2 ∧ e = .returned (.int .i64 c) ∧ SandIn w' lo p b' fv cv' n' (nc + 1) fl KV' K' ∧ Lo lo w2 w' := by
  have hl := hlo_.1
  have HR := Lib.hid hlo_.2
  clear hlo_
  have HCL := Lib.hid (sclean_any w q hG hq)
  obtain ⟨c0, c1, c2⟩ := h.cells
  obtain ⟨xs, hca⟩ := h.ca
  obtain ⟨co, cc, rfl, -⟩ := own_outS hca
  obtain ⟨fo, fc, rfl, -⟩ := own_outS h.fa
  have hnot : ∀ (x : Bool) (w : World), (Op.unary .not (.bool x)).run Tryz.prog w = .ok (.bool (!x)) w := fun _ _ => rfl
  rw [hcl] at HCL
  have HDO := Lib.hid hdo
  have HNC := Lib.hid hnc
  have HH := Lib.hid h
  have HCA := Lib.hid hca
  clear hdo hca hG hcl
  by_cases s0 : nc < fl.l.length
  rotate_left
  · have s1 : ¬ (nc : Int) < (fl.l.length : Int) := by omega
    clear hl h s0
    go_enter Tryz.func109, Tryz.ntmps109
    go_upto_region 8 with (first
      | (refine (HDO.out w1 F1).mono ?_; rintro e w2 ⟨c, b', n', KV', K', rfl, hS, hP⟩; have HS := Lib.hid hS; have HP := Lib.hid hP; obtain ⟨f0, f1, f2⟩ := hS.cells; clear hS hP)
      | (go_at_call 56; refine HCL.out.mono ?_; rintro e w1 ⟨rfl, F1⟩; obtain ⟨d0, d1, d2⟩ := (HH.out.fr0 F1).cells))
    obtain ⟨xs2, hca2, hcr2⟩ := HS.out.cr
    have HC2 := Lib.hid hca2
    have hsz := Nat.le_trans HS.out.lp (Nat.le_of_lt HS.out.ltp)
    have HP0 := Lib.hid (fun w3 cv' g hc => HS.out.put (w3 := w3) cv' [.int .i64 kd, .string ⟨q.toArray⟩, .string to_, .int .i64 c] xs2 hca2 (hcr2.put hca2.1 HR.out _ _) hc g)
    have own0 := Lib.hid (own_frB hca2 ((Fr.refl [] w2).alloc (.cells #[.int .i64 kd, .string ⟨q.toArray⟩, .string to_, .int .i64 c] 53)) (by simp))
    clear hca2 hcr2
    go_wp2_with (at_builtin; refine wpList_append_struct sty_call rfl _ _ rfl lo _ nc xs2 rfl own0.out w2.heap.size [.int .i64 kd, .string ⟨q.toArray⟩, .string to_, .int .i64 c] rfl (heap_alloc_new w2 _) rfl rfl (by have := HNC.out; omega) (by decide) (by rw [World.size_alloc]; omega) ?_; intro cv' w3 own3 g3; obtain ⟨nao, ncap, rfl, -⟩ := own_outS own3; obtain ⟨q1, q2, q3⟩ := HP0.out w3 _ g3 own3; have HQ1 := Lib.hid q1; have HQ2 := Lib.hid q2; obtain ⟨e0, e1, e2, ez⟩ := cells3 q3; have ez2 := ez 2; clear q1 q2 own3 g3)
    go_ret
    exact ⟨c, b', n', KV', K', w2, _, HP.out, rfl, HQ1.out, HS.out.loc HQ2.out⟩
  · have s1 : (nc : Int) < (fl.l.length : Int) := by omega
    obtain ⟨ao', cap', e', -, -, hcl2⟩ := (Sl.of_own h.fa).out
    rw [tv_length] at e' hcl2
    obtain ⟨bb, oo, rfl, hbb, hcell⟩ := hcl2 nc s0
    injection e' with e1 _ _
    subst e1
    have hcc : w.cell? ⟨bb, oo + nc, none⟩ = some (.bool false) := by
      rw [hcell nc s0]
      obtain ⟨x, hx⟩ := some_get fl.l nc s0
      rw [tv_get _ _ _ hx]
      rw [List.getD_eq_getElem?_getD, hx] at hl
      simp at hl
      rw [hl]
    clear hl h hcl2 hcell s0
    go_enter Tryz.func109, Tryz.ntmps109
    go_upto_region 8 with (first
      | (refine (HDO.out w1 F1).mono ?_; rintro e w2 ⟨c, b', n', KV', K', rfl, hS, hP⟩; have HS := Lib.hid hS; have HP := Lib.hid hP; obtain ⟨f0, f1, f2⟩ := hS.cells; clear hS hP)
      | (go_at_call 56; refine HCL.out.mono ?_; rintro e w1 ⟨rfl, F1⟩; obtain ⟨d0, d1, d2⟩ := (HH.out.fr0 F1).cells; have dc := (F1.cell (p := ⟨bb, oo + nc, none⟩) hbb (by simp)).trans hcc))
    obtain ⟨xs2, hca2, hcr2⟩ := HS.out.cr
    have HC2 := Lib.hid hca2
    have hsz := Nat.le_trans HS.out.lp (Nat.le_of_lt HS.out.ltp)
    have HP0 := Lib.hid (fun w3 cv' g hc => HS.out.put (w3 := w3) cv' [.int .i64 kd, .string ⟨q.toArray⟩, .string to_, .int .i64 c] xs2 hca2 (hcr2.put hca2.1 HR.out _ _) hc g)
    have own0 := Lib.hid (own_frB hca2 ((Fr.refl [] w2).alloc (.cells #[.int .i64 kd, .string ⟨q.toArray⟩, .string to_, .int .i64 c] 53)) (by simp))
    clear hca2 hcr2
    go_wp2_with (at_builtin; refine wpList_append_struct sty_call rfl _ _ rfl lo _ nc xs2 rfl own0.out w2.heap.size [.int .i64 kd, .string ⟨q.toArray⟩, .string to_, .int .i64 c] rfl (heap_alloc_new w2 _) rfl rfl (by have := HNC.out; omega) (by decide) (by rw [World.size_alloc]; omega) ?_; intro cv' w3 own3 g3; obtain ⟨nao, ncap, rfl, -⟩ := own_outS own3; obtain ⟨q1, q2, q3⟩ := HP0.out w3 _ g3 own3; have HQ1 := Lib.hid q1; have HQ2 := Lib.hid q2; obtain ⟨e0, e1, e2, ez⟩ := cells3 q3; have ez2 := ez 2; clear q1 q2 own3 g3)
    go_ret
    exact ⟨c, b', n', KV', K', w2, _, HP.out, rfl, HQ1.out, HS.out.loc HQ2.out⟩
end Go.Proofs.YthbkcjlpelihlaaGreatDoor
