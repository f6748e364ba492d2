/- A set of numbers, kept as a map[int]bool that the call makes; a number may come more than once. No condition. -/
import Derived.Test.YtkodindajfdagaaDoorGAA
import Derived.Maps.OwnSet
import Derived.Maps.OwnOps
namespace Go.Proofs.YtkodindajfdagaaDoor
open Go.RowKit Go.Maps

theorem law_int : Keyed Tryd.prog 3 := int_keyed Tryd.underlying3

/-- Block b is a map that holds true at just the numbers that S tells; at most n were put. -/
def ISet (w : World) (b n : Nat) (S : Int → Bool) : Prop :=
  ∃ D : DataW Unit, w.ownsMap Tryd.prog 3 (plainElem Tryd.prog 4) b n D ∧ ∀ x : Int, Maps.has D (.int .i64 x) = S x ∧ D.atKey (.int .i64 x) (.lit (.bool false)) = .lit (.bool (S x))

theorem ISet.made (w : World) : ISet (w.alloc (.map #[] 0)) w.heap.size 0 (fun _ => false) := ⟨_, World.ownsMap_made w _ _ _, fun _ => ⟨rfl, rfl⟩⟩
theorem ISet.kept {w w' : World} {b n : Nat} {S : Int → Bool} {row : Option Nat} (h : ISet w b n S) (hg : w.grownBy w' row) (hne : some b ≠ row) : ISet w' b n S := by
  obtain ⟨D, h1, h2⟩ := h
  exact ⟨D, h1.kept hg hne, h2⟩
theorem ISet.lt {w : World} {b n : Nat} {S : Int → Bool} (h : ISet w b n S) : b < w.heap.size := by
  obtain ⟨D, h1, _⟩ := h
  exact h1.lt
theorem ISet.frS {w w' : World} {b n : Nat} {K : Int → Bool} {S : List Nat} (h : ISet w b n K) (F : Fr S w w') (hb : b ∉ S) : ISet w' b n K := by
  obtain ⟨D, ⟨es, clock, h1, h2⟩, h3⟩ := h
  exact ⟨D, ⟨es, clock, (F.block b (Array.getElem?_eq_some_iff.1 h1).1 hb).trans h1, h2⟩, h3⟩
theorem ISet.fr {w w' : World} {b n : Nat} {K : Int → Bool} (h : ISet w b n K) (F : Fr [] w w') : ISet w' b n K := h.frS F (by simp)
set_option maxRecDepth 100000 in
theorem ISet.look {w : World} {b n : Nat} {S : Int → Bool} (h : ISet w b n S) {x : Int} (hx : (Lit.int .i64 x).wf = true) :
    (Instr.lookup 117 (.map (some b)) (.int .i64 x) false).run Tryd.prog w = .ok (.bool (S x)) w := by
  obtain ⟨D, hD, hat⟩ := h
  obtain ⟨v, ps, hrun, hv⟩ := hD.lookup law_int Tryd.underlying117 (z := .bool false) (by kernel_rfl) (plainElem_bool Tryd.underlying4 false) (keyOf_int_mk Tryd.underlying3 hx)
  rw [hrun]
  rw [(hat x).2] at hv
  have : v = .bool (S x) := by
    unfold plainElem at hv
    rw [Tryd.underlying4] at hv
    cases v <;> simp at hv
    rw [hv.1]
  rw [this]

def addI (S : Int → Bool) (x : Int) : Int → Bool := fun y => decide (y = x) || S y

/-- 'm[x] = true'. -/
theorem wpList_iset {w : World} {ops : Array Oper} {rest : List Oper} {o : Oper} {a : Act} {Q : Exit → Act → World → Prop}
    (hg : o.guard = none) (m x v : Operand) (hop : o.op = Op.mapUpdate 117 m x v) {b n : Nat} {S : Int → Bool} (hm : a.eval m = .map (some b)) (hs : ISet w b n S) {k : Int} (hx : a.eval x = .int .i64 k) (hv : a.eval v = .bool true)
    (hk : (Lit.int .i64 k).wf = true) (hn : n ≤ 100000000)
    (hK : ∀ w', ISet w' b (n + 1) (addI S k) → w.grownBy w' (some b) → wpList Tryd.prog ops Q rest (a.put o.dst undef) w') : wpList Tryd.prog ops Q (o :: rest) a w := by
  obtain ⟨D, hD, hat⟩ := hs
  have ht := hD.tidy law_int
  refine wpList_mapUpdate_own w hg m x v _ hop _ _ law_int Tryd.underlying117 _ b _ D hm hD (by unfold maxLen; omega) _ _ _ hx hv (keyOf_int_mk Tryd.underlying3 hk) _ [] (plainElem_bool Tryd.underlying4 true) (fun w' h1 h2 => hK w' ⟨_, h1, fun y => ?_⟩ h2)
  unfold addI
  by_cases e : y = k
  · subst e
    rw [has_put_same (k := .int .i64 y) ht.isMap (by exact True.intro), atKey_put_same (k := .int .i64 y) ht.isMap (by exact True.intro)]
    simp
  · rw [has_put_other (by simpa using e), atKey_put_other (by simpa using e), (hat y).1, (hat y).2]
    simp [e]
end Go.Proofs.YtkodindajfdagaaDoor
/- Contract: header.Main, of any folder. No condition but that lengths fit. -/
namespace Go.Proofs.YtkodindajfdagaaDoor
open Go.RowKit Go.Maps

theorem addI_take {l : List Int} {k : Nat} {y : Int} (h : l[k]? = some y) : addI (fun x => decide (x ∈ l.take k)) y = fun x => decide (x ∈ l.take (k + 1)) := by
  funext x
  unfold addI
  rw [List.take_add_one, h]
  simp [Bool.or_comm]

/-- The least coder that nothing is bound to. -/
def mainIdx (f : Folder) : Option Nat := (List.range f.coders.length).find? fun i => decide ((i : Int) ∉ f.binds.map (·.2))
def mainOf (f : Folder) : Int := match mainIdx f with | some i => (i : Int) | none => -1

set_option maxHeartbeats 1000000 in
theorem main_any (w : World) (v : Value) (f : Folder) (hf : Fo w v f) (hn : f.coders.length ≤ 100000) (hb : f.binds.length ≤ 100000) (hout : ∀ b ∈ f.binds, (Lit.int .i64 b.2).wf = true) :
    Calls Tryd.prog 80 #[v] w fun e w' => e = .returned (.int .i64 (mainOf f)) ∧ Fr [] w w' := by
  obtain ⟨cv, bv', p, s, h, k0, rfl, hV⟩ := hf
  obtain ⟨ao, cap, rfl, -, -, -⟩ := hV.co.out
  obtain ⟨aob, capb, rfl, -, -, o⟩ := hV.bi.out
  have HO := Lib.hid hout
  clear hV hout
  obtain ⟨wB, hwB⟩ : ∃ wB, wB = w.alloc (.cells #[.slice ao f.coders.length cap, .slice aob f.binds.length capb, p, s, h, k0] 46) := ⟨_, rfl⟩
  have F0 : Fr [] w wB := hwB ▸ (Fr.refl _ _).alloc _
  have sB : wB.heap.size = w.heap.size + 1 := by rw [hwB]; simp
  have HBX := Lib.hid (fun wx (F : Fr [] wB wx) => box6 (hwB ▸ F : Fr [] (w.alloc (.cells #[.slice ao f.coders.length cap, .slice aob f.binds.length capb, p, s, h, k0] 46)) wx))
  have hmm := @run_makeMap Tryd.prog
  go_enter Tryd.func80, Tryd.ntmps80
  go_wp2_with fail
  clear hmm
  rw [← hwB]
  clear hwB
  go_loopw [11] (fun i wr => ∃ k : Nat, k ≤ f.binds.length ∧ i = .int .i64 k ∧ ISet wr (w.heap.size + 1) k (fun x => decide (x ∈ (f.binds.map (·.2)).take k)) ∧ Fr [] wB wr) (fun i _ => f.binds.length - (intOf i).toNat)
  case atStart =>
    refine ⟨0, Nat.zero_le _, rfl, ?_, (Fr.refl _ _).alloc _⟩
    have m1 := ISet.made wB
    rw [sB] at m1
    simpa using m1
  case round =>
    obtain ⟨k, hk, rfl, S1, F⟩ := hrel
    obtain ⟨d0, d1, d2, d3, d4, d5⟩ := HBX.out _ F
    by_cases hlt : k < f.binds.length
    · obtain ⟨y, hy⟩ := some_get f.binds k hlt
      obtain ⟨b1, o1, rfl, hb1, e0, e1⟩ := o k y hy
      have c0 := ((F0.trans0 F).cell (p := ⟨b1, o1 + k * 2, none⟩) hb1 (by simp)).trans e0
      have c1 := ((F0.trans0 F).cell (p := ⟨b1, o1 + k * 2 + 1, none⟩) hb1 (by simp)).trans e1
      have hy2 : (f.binds.map (·.2))[k]? = some y.2 := by simp [hy]
      have hbo := HO.out y (List.mem_of_getElem? hy)
      have HT := Lib.hid (addI_take hy2)
      clear o hy hy2 e0 e1
      obtain ⟨y1, y2⟩ := y
      dsimp only at c0 c1 hbo HT
      go_wp2_with (at_mapUpdate; refine wpList_iset rfl _ _ _ rfl rfl (S1.fr ((Fr.refl _ _).alloc _)) (by rfl) (by rfl) hbo (by omega) ?_)
      intro w3 T3 g3
      have F3 := (F.alloc (.cells #[.int .i64 y1, .int .i64 y2] 73)).grown g3 (fun k hk => .inr (by cases hk; omega))
      rw [HT.out] at T3
      go_wp2_with fail
      go_roundw
      case rel => exact ⟨k + 1, by omega, by go_num, T3, F3⟩
      case measure => simp [intOf]; omega
    · rw [List.take_of_length_le (by simp; omega)] at S1
      clear o hk
      go_wp2_with fail
      clear hlt d0 d1 d2 d3 d4 d5
      go_loopw [22] (fun i w5 => ∃ k : Nat, k ≤ f.coders.length ∧ i = .int .i64 k ∧ (∀ j, j < k → (j : Int) ∈ f.binds.map (·.2)) ∧ w5 = wr) (fun i _ => f.coders.length - (intOf i).toNat)
      case atStart => exact ⟨0, Nat.zero_le _, rfl, fun _ h => by omega, rfl⟩
      case round =>
        obtain ⟨k, hk, rfl, hA, hw⟩ := hrel
        subst hw
        by_cases hlt : k < f.coders.length
        · have L := S1.look (x := (k : Int)) (WalkArith.wf_i64 (by omega))
          have HA := Lib.hid hA
          clear hA
          by_cases hm : (k : Int) ∈ f.binds.map (·.2)
          · have HA2 := Lib.hid (show ∀ j, j < k + 1 → (j : Int) ∈ f.binds.map (·.2) from fun j hj => by
              by_cases e : j = k
              · rw [e]; exact hm
              · exact HA.out j (by omega))
            simp only [hm, decide_true] at L
            clear hm
            go_wp2_with fail
            go_roundw
            case rel => exact ⟨k + 1, by omega, by go_num, HA2.out, by trivial⟩
            case measure => simp [intOf]; omega
          · have HE := Lib.hid (show mainOf f = (k : Int) by
              have e : mainIdx f = some k := by
                unfold mainIdx
                rw [List.find?_range_eq_some]
                refine ⟨by simpa using hm, by simpa using hlt, fun j hj => ?_⟩
                simpa using HA.out j hj
              unfold mainOf
              rw [e])
            simp only [hm, decide_false] at L
            clear hm
            go_wp2_with fail
            go_ret
            exact ⟨by rw [HE.out]; rfl, F0.trans0 F⟩
        · have HE := Lib.hid (show mainOf f = -1 by
            have e : mainIdx f = none := by
              unfold mainIdx
              rw [List.find?_eq_none]
              intro i hi
              rw [List.mem_range] at hi
              simpa using hA i (by omega)
            unfold mainOf
            rw [e])
          clear hA
          go_wp2_with fail
          go_ret
          exact ⟨by rw [HE.out]; rfl, F0.trans0 F⟩
end Go.Proofs.YtkodindajfdagaaDoor
/- Contracts: the reference's Ins, Main; header.whole. No condition but that lengths fit. -/
namespace Go.Proofs.YtkodindajfdagaaDoor
open Go.RowKit

theorem rins_any (w : World) (m : Int) (pv : Value) :
    Calls Tryd.prog 70 #[.agg #[.int .i64 m, pv]] w fun e w' => e = .returned (.int .i64 (ins m)) ∧ Fr [] w w' := by
  by_cases h6 : m = 6
  · subst h6
    go_enter Tryd.func70, Tryd.ntmps70
    go_wp2
    go_ret
    exact ⟨by simp [ins], (Fr.refl _ _).alloc _⟩
  · have hb : (m == 6) = false := by simp [h6]
    have E := Lib.hid (show (ins m : Int) = if (decide (1 ≤ m) && decide (m ≤ 7)) = true then 1 else 0 by simp [ins, h6]; split <;> simp)
    clear h6
    by_cases h1 : 1 ≤ m
    · by_cases h7 : m ≤ 7
      · have E2 := Lib.hid (show (ins m : Int) = 1 by rw [E.out]; simp [h1, h7])
        clear E
        go_enter Tryd.func70, Tryd.ntmps70
        go_wp2
        go_ret
        exact ⟨by rw [E2.out]; rfl, (Fr.refl _ _).alloc _⟩
      · have E2 := Lib.hid (show (ins m : Int) = 0 by rw [E.out]; simp [h7])
        clear E
        go_enter Tryd.func70, Tryd.ntmps70
        go_wp2
        go_ret
        exact ⟨by rw [E2.out]; rfl, (Fr.refl _ _).alloc _⟩
    · have E2 := Lib.hid (show (ins m : Int) = 0 by rw [E.out]; simp [h1])
      clear E
      go_enter Tryd.func70, Tryd.ntmps70
      go_wp2
      go_ret
      exact ⟨by rw [E2.out]; rfl, (Fr.refl _ _).alloc _⟩

theorem main_at {f : Folder} {k : Nat} (hk : k < f.coders.length) (hA : ∀ j, j < k → (j : Int) ∈ f.binds.map (·.2)) (hm : (k : Int) ∉ f.binds.map (·.2)) : mainOf f = (k : Int) := by
  have e : mainIdx f = some k := by
    unfold mainIdx
    rw [List.find?_range_eq_some]
    refine ⟨by simpa using hm, by simpa using hk, fun j hj => ?_⟩
    simpa using hA j hj
  unfold mainOf
  rw [e]
theorem main_none {f : Folder} (hA : ∀ j, j < f.coders.length → (j : Int) ∈ f.binds.map (·.2)) : mainOf f = -1 := by
  have e : mainIdx f = none := by
    unfold mainIdx
    rw [List.find?_eq_none]
    intro i hi
    rw [List.mem_range] at hi
    simpa using hA i (by omega)
  unfold mainOf
  rw [e]

set_option maxRecDepth 100000 in
set_option maxHeartbeats 2000000 in
theorem rmain_any (w : World) (v : Value) (f : Folder) (hf : Fo w v f) (hn : f.coders.length ≤ 100000) (hb : f.binds.length ≤ 100000) :
    Calls Tryd.prog 71 #[v] w fun e w' => e = .returned (.int .i64 (mainOf f)) ∧ Fr [] w w' := by
  obtain ⟨cv, bv', p, s, h, k0, rfl, hV⟩ := hf
  obtain ⟨ao, cap, rfl, -, -, -⟩ := hV.co.out
  obtain ⟨aob, capb, rfl, -, -, o⟩ := hV.bi.out
  have HO := Lib.hid o
  clear hV o
  obtain ⟨wB, hwB⟩ : ∃ wB, wB = w.alloc (.cells #[.slice ao f.coders.length cap, .slice aob f.binds.length capb, p, s, h, k0] 46) := ⟨_, rfl⟩
  have F0 : Fr [] w wB := hwB ▸ (Fr.refl _ _).alloc _
  have HBX := Lib.hid (fun wx (F : Fr [] wB wx) => box6 (hwB ▸ F : Fr [] (w.alloc (.cells #[.slice ao f.coders.length cap, .slice aob f.binds.length capb, p, s, h, k0] 46)) wx))
  obtain ⟨N, hN⟩ : ∃ N, f.coders.length = N := ⟨_, rfl⟩
  obtain ⟨M, hM⟩ : ∃ M, f.binds.length = M := ⟨_, rfl⟩
  have HN := Lib.hid hN
  have HM := Lib.hid hM
  rw [hN] at hn HBX hwB ⊢
  rw [hM] at hb HBX hwB ⊢
  have hnI : (N : Int) ≤ 100000 := by omega
  have hmI : (M : Int) ≤ 100000 := by omega
  clear hN hM hn hb
  go_enter Tryd.func71, Tryd.ntmps71
  go_wp2_with fail
  rw [← hwB]
  clear hwB
  go_loopw [3] (fun i wr => ∃ k : Nat, k ≤ N ∧ i = .int .i64 k ∧ (∀ j, j < k → (j : Int) ∈ f.binds.map (·.2)) ∧ Fr [] wB wr) (fun i _ => N - (intOf i).toNat)
  case atStart => exact ⟨0, Nat.zero_le _, rfl, fun _ h => by omega, Fr.refl _ _⟩
  case round =>
    obtain ⟨k, hk, rfl, hA, F⟩ := hrel
    obtain ⟨d0, d1, d2, d3, d4, d5⟩ := HBX.out _ F
    by_cases hlt : k < N
    · have hltI : (k : Int) < (N : Int) := by omega
      have HA := Lib.hid hA
      clear hA
      go_wp2_with fail
      clear d0 d1 d2 d3 d4 d5
      go_loopw [4, 5] (fun fr i wq => ∃ m : Nat, m ≤ M ∧ i = .int .i64 m ∧ fr = .bool (decide ((k : Int) ∉ (f.binds.map (·.2)).take m)) ∧ Fr [] wB wq) (fun _ i _ => M - (intOf i).toNat)
      case atStart => exact ⟨0, Nat.zero_le _, rfl, by simp, F⟩
      case round =>
        obtain ⟨m, hm, rfl, rfl, FQ⟩ := hrel
        obtain ⟨d0, d1, d2, d3, d4, d5⟩ := HBX.out _ FQ
        by_cases hlm : m < M
        · have hlmI : (m : Int) < (M : Int) := by omega
          obtain ⟨y, hy⟩ := some_get f.binds m (by rw [HM.out]; exact hlm)
          obtain ⟨b1, o1, rfl, hb1, e0, e1⟩ := HO.out m y hy
          have c1 := ((F0.trans0 FQ).cell (p := ⟨b1, o1 + m * 2 + 1, none⟩) hb1 (by simp)).trans e1
          have HT := Lib.hid (show decide ((k : Int) ∉ (f.binds.map (·.2)).take (m + 1)) = (decide ((k : Int) ∉ (f.binds.map (·.2)).take m) && (y.2 != (k : Int))) by
            have : (f.binds.map (·.2))[m]? = some y.2 := by simp [hy]
            rw [List.take_add_one, this]
            by_cases e : y.2 = (k : Int)
            · simp [e]
            · have e' : (k : Int) ≠ y.2 := fun h => e h.symm
              simp [e', e])
          obtain ⟨y1, y2⟩ := y
          dsimp only at c1 HT
          clear e0 e1 hy
          generalize decide ((k : Int) ∉ (f.binds.map (·.2)).take m) = fr at *
          cases fr with
          | true =>
            by_cases e : y2 = (k : Int)
            · have t0 : (y2 == (k : Int)) = true := by rw [beq_iff_eq]; exact e
              have HT2 := Lib.hid (show decide ((k : Int) ∉ (f.binds.map (·.2)).take (m + 1)) = false by rw [HT.out, e]; simp)
              clear e
              go_wp2_with fail
              go_roundw
              case rel => exact ⟨m + 1, by omega, by go_num, by rw [HT2.out]; first | rfl | (simp; first | exact beq_iff_eq.1 t0 | exact beq_eq_false_iff_ne.1 t0), FQ⟩
              case measure => simp [intOf]; omega
            · have t0 : (y2 == (k : Int)) = false := by rw [beq_eq_false_iff_ne]; exact e
              have HT2 := Lib.hid (show decide ((k : Int) ∉ (f.binds.map (·.2)).take (m + 1)) = true by rw [HT.out]; simp [e])
              clear e
              go_wp2_with fail
              go_roundw
              case rel => exact ⟨m + 1, by omega, by go_num, by rw [HT2.out]; first | rfl | (simp; first | exact beq_iff_eq.1 t0 | exact beq_eq_false_iff_ne.1 t0), FQ⟩
              case measure => simp [intOf]; omega
          | false =>
            have HT2 := Lib.hid (show decide ((k : Int) ∉ (f.binds.map (·.2)).take (m + 1)) = false by rw [HT.out]; rfl)
            go_wp2_with fail
            go_roundw
            case rel => exact ⟨m + 1, by omega, by go_num, by rw [HT2.out], FQ⟩
            case measure => simp [intOf]; omega
        · have hme : m = M := by omega
          subst hme
          rw [List.take_of_length_le (by rw [List.length_map, HM.out]; exact Nat.le_refl _)]
          by_cases hin : (k : Int) ∈ f.binds.map (·.2)
          · rw [show decide ((k : Int) ∉ f.binds.map (·.2)) = false by simpa using hin]
            have HA2 := Lib.hid (show ∀ j, j < k + 1 → (j : Int) ∈ f.binds.map (·.2) from fun j hj => by
              by_cases e : j = k
              · rw [e]; exact hin
              · exact HA.out j (by omega))
            clear hin
            go_wp2_with fail
            go_roundw
            case rel => exact ⟨k + 1, by omega, by go_num, HA2.out, FQ⟩
            case measure => simp [intOf]; omega
          · rw [show decide ((k : Int) ∉ f.binds.map (·.2)) = true by simpa using hin]
            have HE := Lib.hid (main_at (by rw [HN.out]; exact hlt) HA.out hin)
            clear hin
            go_wp2_with fail
            go_ret
            exact ⟨by rw [HE.out]; rfl, F0.trans0 FQ⟩
    · have HE := Lib.hid (main_none (f := f) (fun j hj => hA j (by rw [HN.out] at hj; omega)))
      have hltI : (N : Int) ≤ (k : Int) := by omega
      clear hA
      go_wp2_with fail
      go_ret
      exact ⟨by rw [HE.out]; rfl, F0.trans0 F⟩
end Go.Proofs.YtkodindajfdagaaDoor
