/- Contracts: lies, may. No condition but that lengths fit. -/
import Derived.Test.YtjeblccboeljnaaGreatDoorYOwn
import Derived.Test.YtjeblccboeljnaaGreatDoorYPar
namespace Go.Proofs.YtjeblccboeljnaaGreatDoor
open Go.RowKit Go.Maps

theorem parent_le (q : List UInt8) : (parentL q).length ≤ q.length := by
  unfold parentL
  split
  · rw [List.length_take]; omega
  · simp
/-- What a look-up finds: the kind's number, 0 where nothing is. -/
theorem SandIn.kind {w : World} {lo p b : Nat} {fv cv : Value} {n nc : Nat} {fl : List Bool} {KV : List UInt8 → Option Value} {K : Tree} (h : SandIn w lo p b fv cv n nc fl KV K) (q : List UInt8) (hq : q.length ≤ 100000) :
    ∃ kd dv sv, (Instr.lookup 55 (.map (some b)) (.string ⟨q.toArray⟩) false).run Tryz.prog w = .ok (.agg #[.int .i64 kd, dv, .string sv]) w ∧ kindK K q = kd := by
  have hrun := h.mp.get q hq
  cases hk : K q with
  | none =>
    rw [(h.rd.no _).2 hk] at hrun
    exact ⟨0, _, _, hrun, by unfold kindK; rw [hk]; rfl⟩
  | some t =>
    obtain ⟨v, hv, dv, rfl, -⟩ := h.rd.get hk
    rw [hv] at hrun
    exact ⟨t.kind, _, _, hrun, by unfold kindK; rw [hk]; rfl⟩
set_option maxRecDepth 100000 in
set_option maxHeartbeats 2000000 in
theorem lies_any {w : World} {lo p b : Nat} {fv cv : Value} {n nc : Nat} {fl : List Bool} {KV : List UInt8 → Option Value} {K : Tree} (h : SandIn w lo p b fv cv n nc fl KV K) (q : List UInt8) (hq : q.length ≤ 100000) :
    Calls Tryz.prog 29 #[.pointer (some ⟨p, 0, none⟩), .string ⟨q.toArray⟩] w fun e w' => e = .returned (.bool (liesK K q)) ∧ w' = w := by
  have HP := Lib.hid (parent_any w q hq)
  obtain ⟨c0, -, -⟩ := h.cells
  have hnot : ∀ (x : Bool) (w : World), (Op.unary .not (.bool x)).run Tryz.prog w = .ok (.bool (!x)) w := fun _ _ => rfl
  cases hd : deepL q with
  | false =>
    have e : liesK K q = true := by unfold liesK; rw [hd]; rfl
    rw [e]
    rw [hd] at HP
    clear e hd
    go_enter Tryz.func29, Tryz.ntmps29
    go_wp2_with (go_at_call 49; refine HP.out.mono ?_; rintro e w1 ⟨rfl, rfl⟩)
    go_ret
    exact ⟨rfl, rfl⟩
  | true =>
    have e : liesK K q = decide (kindK K (parentL q) = 1) := by unfold liesK; rw [hd]; rfl
    rw [e]
    rw [hd] at HP
    clear e hd
    obtain ⟨kd, dv, sv, hrun2, ek⟩ := h.kind (parentL q) (by have := parent_le q; omega)
    have hfd : ∀ w : World, (Instr.field 60 (.agg #[.int .i64 kd, dv, .string sv]) 0).run Tryz.prog w = .ok (.int .i64 kd) w := fun _ => by kernel_rfl
    rw [ek]
    clear ek h
    rw [show decide (kd = 1) = (kd == 1) by by_cases h : kd = 1 <;> simp [h]]
    go_enter Tryz.func29, Tryz.ntmps29
    go_wp2_with (go_at_call 49; refine HP.out.mono ?_; rintro e w1 ⟨rfl, rfl⟩)
    go_ret
    exact ⟨rfl, rfl⟩

theorem box4 {w wr : World} {t : TypeId} {a0 a1 a2 a3 : Value} {S : List Nat} (F : Fr S (w.alloc (.cells #[a0, a1, a2, a3] t)) wr) (hS : w.heap.size ∉ S) :
    wr.cell? ⟨w.heap.size, 0, none⟩ = some a0 ∧ wr.cell? ⟨w.heap.size, 1, none⟩ = some a1 ∧ wr.cell? ⟨w.heap.size, 2, none⟩ = some a2 ∧ wr.cell? ⟨w.heap.size, 3, none⟩ = some a3 := by
  have key : ∀ (i : Nat), wr.cell? ⟨w.heap.size, i, none⟩ = #[a0, a1, a2, a3][i]? := fun i => by
    rw [F.cell (p := ⟨w.heap.size, i, none⟩) (by simp) hS, Go.Joins.cell_of_block (heap_alloc_new w _)]
  exact ⟨by rw [key]; rfl, by rw [key]; rfl, by rw [key]; rfl, by rw [key]; rfl⟩
/-- What may be in itself. -/
def thMay (q : List UInt8) (t : Tv) : Bool := cleanL foldL q && tvMay t
set_option linter.unusedSimpArgs false in
set_option maxRecDepth 100000 in
set_option maxHeartbeats 2000000 in
theorem smay_any (w : World) (q : List UInt8) (t : Tv) (ao : Option Addr) (cap : Nat) (hG : Gl w) (hq : q.length ≤ 100000) :
    Calls Tryz.prog 27 #[.agg #[.string ⟨q.toArray⟩, .int .i64 t.kind, .slice ao t.data.length cap, .string ⟨t.ln.toArray⟩]] w fun e w' => e = .returned (.bool (thMay q t)) ∧ Fr [] w w' := by
  obtain ⟨kd, dl, ln⟩ := t
  dsimp only
  obtain ⟨N, hN⟩ : ∃ N, dl.length = N := ⟨_, rfl⟩
  have eN : decide (dl = []) = decide ((N : Int) = 0) := by
    cases dl with
    | nil => subst hN; rfl
    | cons a r => subst hN; simp; omega
  have eL : decide (ln = []) = (ln == []) := by cases ln <;> rfl
  unfold thMay tvMay
  dsimp only
  rw [eN, eL]
  rw [hN]
  have HC := Lib.hid (fun wx (F : Fr [] w wx) => sclean_any wx q (hG.fr F) hq)
  clear hG hq eN hN eL
  generalize cleanL foldL q = c at *
  obtain ⟨bl, hbl⟩ : ∃ bl, (ln == []) = bl := ⟨_, rfl⟩
  rw [hbl]
  rcases (show kd = 1 ∨ kd = 2 ∨ kd = 3 ∨ (¬ kd = 1 ∧ ¬ kd = 2 ∧ ¬ kd = 3) by omega) with rfl | rfl | rfl | ⟨k1, k2, k3⟩
  · cases c
    · go_enter Tryz.func27, Tryz.ntmps27
      go_wp2_with (go_at_call 48; refine (HC.out _ ((Fr.refl _ _).alloc _)).mono ?_; rintro e w1 ⟨rfl, F1⟩; obtain ⟨b0, b1, b2, b3⟩ := box4 F1 (by simp))
      go_ret
      exact ⟨rfl, ((Fr.refl _ _).alloc _).trans0 F1⟩
    · by_cases hz : (N : Int) = 0
      · go_enter Tryz.func27, Tryz.ntmps27
        go_wp2_with (go_at_call 48; refine (HC.out _ ((Fr.refl _ _).alloc _)).mono ?_; rintro e w1 ⟨rfl, F1⟩; obtain ⟨b0, b1, b2, b3⟩ := box4 F1 (by simp))
        go_ret
        exact ⟨by by_cases hN0 : N = 0 <;> cases bl <;> simp_all, ((Fr.refl _ _).alloc _).trans0 F1⟩
      · go_enter Tryz.func27, Tryz.ntmps27
        go_wp2_with (go_at_call 48; refine (HC.out _ ((Fr.refl _ _).alloc _)).mono ?_; rintro e w1 ⟨rfl, F1⟩; obtain ⟨b0, b1, b2, b3⟩ := box4 F1 (by simp))
        go_ret
        exact ⟨by by_cases hN0 : N = 0 <;> cases bl <;> simp_all, ((Fr.refl _ _).alloc _).trans0 F1⟩
  · cases c
    · go_enter Tryz.func27, Tryz.ntmps27
      go_wp2_with (go_at_call 48; refine (HC.out _ ((Fr.refl _ _).alloc _)).mono ?_; rintro e w1 ⟨rfl, F1⟩; obtain ⟨b0, b1, b2, b3⟩ := box4 F1 (by simp))
      go_ret
      exact ⟨rfl, ((Fr.refl _ _).alloc _).trans0 F1⟩
    · go_enter Tryz.func27, Tryz.ntmps27
      go_wp2_with (go_at_call 48; refine (HC.out _ ((Fr.refl _ _).alloc _)).mono ?_; rintro e w1 ⟨rfl, F1⟩; obtain ⟨b0, b1, b2, b3⟩ := box4 F1 (by simp))
      go_ret
      exact ⟨by by_cases hN0 : N = 0 <;> cases bl <;> simp_all, ((Fr.refl _ _).alloc _).trans0 F1⟩
  · cases c
    · go_enter Tryz.func27, Tryz.ntmps27
      go_wp2_with (go_at_call 48; refine (HC.out _ ((Fr.refl _ _).alloc _)).mono ?_; rintro e w1 ⟨rfl, F1⟩; obtain ⟨b0, b1, b2, b3⟩ := box4 F1 (by simp))
      go_ret
      exact ⟨rfl, ((Fr.refl _ _).alloc _).trans0 F1⟩
    · by_cases hz : (N : Int) = 0
      · go_enter Tryz.func27, Tryz.ntmps27
        go_wp2_with (go_at_call 48; refine (HC.out _ ((Fr.refl _ _).alloc _)).mono ?_; rintro e w1 ⟨rfl, F1⟩; obtain ⟨b0, b1, b2, b3⟩ := box4 F1 (by simp))
        go_ret
        exact ⟨by by_cases hN0 : N = 0 <;> cases bl <;> simp_all, ((Fr.refl _ _).alloc _).trans0 F1⟩
      · go_enter Tryz.func27, Tryz.ntmps27
        go_wp2_with (go_at_call 48; refine (HC.out _ ((Fr.refl _ _).alloc _)).mono ?_; rintro e w1 ⟨rfl, F1⟩; obtain ⟨b0, b1, b2, b3⟩ := box4 F1 (by simp))
        go_ret
        exact ⟨by by_cases hN0 : N = 0 <;> cases bl <;> simp_all, ((Fr.refl _ _).alloc _).trans0 F1⟩
  · go_enter Tryz.func27, Tryz.ntmps27
    go_wp2_with fail
    go_ret
    exact ⟨by simp [k1, k2, k3], (Fr.refl _ _).alloc _⟩
end Go.Proofs.YtjeblccboeljnaaGreatDoor
