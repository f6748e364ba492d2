/- Contract: fresh. No condition but that lengths fit. -/
import Derived.Test.YtjeblccboeljnaaGreatDoorYLies
namespace Go.Proofs.YtjeblccboeljnaaGreatDoor
open Go.RowKit Go.Maps

theorem SandIn.nob {w : World} {lo p b : Nat} {fv cv : Value} {n nc : Nat} {fl : List Bool} {KV : List UInt8 → Option Value} {K : Tree} (h : SandIn w lo p b fv cv n nc fl KV K) (e : Nat) : ∀ i ∈ [b], i < lo ∨ ∀ cs z, w.heap[i]? ≠ some (.cells cs e z) := by
  intro i hi
  simp at hi
  subst hi
  obtain ⟨D, ⟨es, clock, h1, -⟩, -⟩ := h.mp
  exact .inr fun cs z hc => by rw [h1] at hc; cases hc
/-- The map has turned. -/
theorem SandIn.turn {w w' : World} {lo p b m : Nat} {fv cv : Value} {n nc : Nat} {fl : List Bool} {KV KV' : List UInt8 → Option Value} {K K' : Tree} (h : SandIn w lo p b fv cv n nc fl KV K) (F : Fr [b] w w') (hM : MTh w' b m KV') (hR : Reads w lo KV' K') :
    SandIn w' lo p b fv cv m nc fl KV' K' := by
  obtain ⟨xs, hc⟩ := h.ca
  have hpb := h.ne
  exact ⟨(F.block p h.ltp (by simpa using hpb)).trans h.blk, hM, hR.fr F (h.nob _), own_frT h.fa F (h.nob _), ⟨xs, own_frT hc F (h.nob _)⟩, h.lp, h.lb⟩
/-- What a look-up finds. -/
theorem SandIn.look {w : World} {lo p b : Nat} {fv cv : Value} {n nc : Nat} {fl : List Bool} {KV : List UInt8 → Option Value} {K : Tree} (h : SandIn w lo p b fv cv n nc fl KV K) (q : List UInt8) (hq : q.length ≤ 100000) :
    ∃ kd ao dn cap sv, (Instr.lookup 55 (.map (some b)) (.string ⟨q.toArray⟩) true).run Tryz.prog w = .ok (.tuple #[.agg #[.int .i64 kd, .slice ao dn cap, .string sv], .bool (K q).isSome]) w := by
  have hrun := h.mp.look q hq
  rw [h.rd.is] at hrun
  cases hk : K q with
  | none =>
    rw [(h.rd.no _).2 hk, hk] at hrun
    exact ⟨_, _, _, _, _, hrun⟩
  | some t =>
    obtain ⟨v, hv, dv, rfl, ho⟩ := h.rd.get hk
    obtain ⟨ao, cap, rfl, -⟩ := own_outS ho
    rw [hv, hk] at hrun
    exact ⟨_, _, _, _, _, hrun⟩
theorem ThV.new (w : World) (lo : Nat) (kd : Int) : ThV w lo (.agg #[.int .i64 kd, .slice none 0 0, .string ⟨#[]⟩]) ⟨kd, [], []⟩ := ⟨_, rfl, World.ownsRow_nil _ _ _ _⟩

def FreshR (w : World) (lo p b : Nat) (fv cv : Value) (n nc : Nat) (fl : List Bool) (KV : List UInt8 → Option Value) (K : Tree) (q : List UInt8) (kd : Int) (e : Ending) (w' : World) : Prop :=
  ((K q).isSome = false ∧ liesK K q = true ∧ e = .returned (.int .i64 0) ∧ (∃ KV', SandIn w' lo p b fv cv (n + 1) nc fl KV' (updK K q ⟨kd, [], []⟩)) ∧ Fr [b] w w') ∨
    (((K q).isSome = true ∨ liesK K q = false) ∧ e = .returned (.int .i64 202) ∧ SandIn w' lo p b fv cv n nc fl KV K ∧ Fr [] w w')
set_option maxRecDepth 100000 in
set_option maxHeartbeats 2000000 in
theorem fresh_any {w : World} {lo p b : Nat} {fv cv : Value} {n nc : Nat} {fl : List Bool} {KV : List UInt8 → Option Value} {K : Tree} (h : SandIn w lo p b fv cv n nc fl KV K) (q : List UInt8) (hq : q.length ≤ 100000) (kd : Int) (hn : n ≤ 100000) :
    Calls Tryz.prog 36 #[.pointer (some ⟨p, 0, none⟩), .string ⟨q.toArray⟩, .int .i64 kd] w (FreshR w lo p b fv cv n nc fl KV K q kd) := by
  obtain ⟨ko, ao, dn, cap, sv, hrun⟩ := h.look q hq
  obtain ⟨c0, -, -⟩ := h.cells
  obtain ⟨wA, hwA⟩ : ∃ wA, wA = w.alloc (.cells #[.int .i64 ko, .slice ao dn cap, .string sv] 60) := ⟨_, rfl⟩
  have FA : Fr [] w wA := hwA ▸ (Fr.refl _ _).alloc _
  have hA := h.fr0 FA
  have HL := Lib.hid (lies_any hA q hq)
  obtain ⟨d0, -, -⟩ := hA.cells
  have hnot : ∀ (x : Bool) (w : World), (Op.unary .not (.bool x)).run Tryz.prog w = .ok (.bool (!x)) w := fun _ _ => rfl
  have H0 := Lib.hid h
  have HA := Lib.hid hA
  unfold FreshR
  cases hk : (K q).isSome with
  | true =>
    rw [hk] at hrun
    clear h hA HL hk
    go_enter Tryz.func36, Tryz.ntmps36
    go_wp2_with fail
    rw [← hwA]
    go_ret
    exact .inr ⟨.inl (by trivial), rfl, HA.out, FA⟩
  | false =>
    rw [hk] at hrun
    cases hl : liesK K q with
    | false =>
      rw [hl] at HL
      clear h hA hk hl
      go_enter Tryz.func36, Tryz.ntmps36
      go_wp2_with (go_at_call 29; rw [← hwA]; refine HL.out.mono ?_; rintro e w1 ⟨rfl, rfl⟩; clear hwA)
      go_ret
      exact .inr ⟨.inr (by trivial), rfl, HA.out, FA⟩
    | true =>
      rw [hl] at HL
      obtain ⟨wB, hupd, hM, hg⟩ := hA.mp.put (by omega) q hq (.agg #[.int .i64 kd, .slice none 0 0, .string ⟨#[]⟩])
      have FB := fr_turned hg
      have HB := Lib.hid (hA.turn FB hM (hA.rd.put q (ThV.new wA lo kd)))
      have HF := Lib.hid (show Fr [b] w wB from ⟨FB.os.trans FA.os, FB.tape.trans FA.tape, FB.output.trans FA.output, Nat.le_trans FA.size FB.size, fun k hk hm => (FB.block k (Nat.lt_of_lt_of_le hk FA.size) hm).trans (FA.block k hk (by simp))⟩)
      clear h hA hk hl hM hg FB
      go_enter Tryz.func36, Tryz.ntmps36
      go_wp2_with (go_at_call 29; rw [← hwA]; refine HL.out.mono ?_; rintro e w1 ⟨rfl, rfl⟩; clear hwA)
      go_ret
      exact .inl ⟨by trivial, by trivial, rfl, ⟨_, HB.out⟩, HF.out⟩
end Go.Proofs.YtjeblccboeljnaaGreatDoor
