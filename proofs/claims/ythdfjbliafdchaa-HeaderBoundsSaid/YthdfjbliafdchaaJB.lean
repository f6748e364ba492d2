/- A set of numbers, kept as a map[int]bool that the call makes; a number may come more than once. No condition. -/
import Derived.Test.YthdfjbliafdchaaJA
import Derived.Maps.OwnSet
import Derived.Maps.OwnOps
import Derived.Deep.DeepCutAuto
import Derived.Laws.BytesString
import Derived.Deep.RegionHeld3
namespace Go.Proofs.Ythdfjbliafdchaa
open Go.RowKit Go.Maps

theorem law_int : Keyed Try.prog 3 := int_keyed Try.underlying3

/-- Block b is a map that holds true at just the numbers that S tells; at most n were put. -/
def ISet (w : World) (b n : Nat) (S : Int → Bool) : Prop :=
  ∃ D : DataW Unit, w.ownsMap Try.prog 3 (plainElem Try.prog 4) b n D ∧ ∀ x : Int, Maps.has D (.int .i64 x) = S x ∧ D.atKey (.int .i64 x) (.lit (.bool false)) = .lit (.bool (S x))

theorem ISet.made (w : World) : ISet (w.alloc (.map #[] 0)) w.heap.size 0 (fun _ => false) := ⟨_, World.ownsMap_made w _ _ _, fun _ => ⟨rfl, rfl⟩⟩
theorem ISet.kept {w w' : World} {b n : Nat} {S : Int → Bool} {row : Option Nat} (h : ISet w b n S) (hg : w.grownBy w' row) (hne : some b ≠ row) : ISet w' b n S := by
  obtain ⟨D, h1, h2⟩ := h
  exact ⟨D, h1.kept hg hne, h2⟩
theorem ISet.lt {w : World} {b n : Nat} {S : Int → Bool} (h : ISet w b n S) : b < w.heap.size := by
  obtain ⟨D, h1, _⟩ := h
  exact h1.lt
theorem ISet.frS {w w' : World} {b n : Nat} {K : Int → Bool} {S : List Nat} (h : ISet w b n K) (F : Fr S w w') (hb : b ∉ S) : ISet w' b n K := by
  obtain ⟨D, ⟨es, clock, h1, h2⟩, h3⟩ := h
  exact ⟨D, ⟨es, clock, (F.block b (Array.getElem?_eq_some_iff.1 h1).1 hb).trans h1, h2⟩, h3⟩
theorem ISet.fr {w w' : World} {b n : Nat} {K : Int → Bool} (h : ISet w b n K) (F : Fr [] w w') : ISet w' b n K := h.frS F (by simp)
set_option maxRecDepth 100000 in
theorem ISet.look {w : World} {b n : Nat} {S : Int → Bool} (h : ISet w b n S) {x : Int} (hx : (Lit.int .i64 x).wf = true) :
    (Instr.lookup 78 (.map (some b)) (.int .i64 x) false).run Try.prog w = .ok (.bool (S x)) w := by
  obtain ⟨D, hD, hat⟩ := h
  obtain ⟨v, ps, hrun, hv⟩ := hD.lookup law_int Try.underlying78 (z := .bool false) (by kernel_rfl) (plainElem_bool Try.underlying4 false) (keyOf_int_mk Try.underlying3 hx)
  rw [hrun]
  rw [(hat x).2] at hv
  have : v = .bool (S x) := by
    unfold plainElem at hv
    rw [Try.underlying4] at hv
    cases v <;> simp at hv
    rw [hv.1]
  rw [this]

def addI (S : Int → Bool) (x : Int) : Int → Bool := fun y => decide (y = x) || S y

/-- 'm[x] = true'. -/
theorem wpList_iset {w : World} {ops : Array Oper} {rest : List Oper} {o : Oper} {a : Act} {Q : Exit → Act → World → Prop}
    (hg : o.guard = none) (m x v : Operand) (hop : o.op = Op.mapUpdate 78 m x v) {b n : Nat} {S : Int → Bool} (hm : a.eval m = .map (some b)) (hs : ISet w b n S) {k : Int} (hx : a.eval x = .int .i64 k) (hv : a.eval v = .bool true)
    (hk : (Lit.int .i64 k).wf = true) (hn : n ≤ 100000000)
    (hK : ∀ w', ISet w' b (n + 1) (addI S k) → w.grownBy w' (some b) → wpList Try.prog ops Q rest (a.put o.dst undef) w') : wpList Try.prog ops Q (o :: rest) a w := by
  obtain ⟨D, hD, hat⟩ := hs
  have ht := hD.tidy law_int
  refine wpList_mapUpdate_own w hg m x v _ hop _ _ law_int Try.underlying78 _ b _ D hm hD (by unfold maxLen; omega) _ _ _ hx hv (keyOf_int_mk Try.underlying3 hk) _ [] (plainElem_bool Try.underlying4 true) (fun w' h1 h2 => hK w' ⟨_, h1, fun y => ?_⟩ h2)
  unfold addI
  by_cases e : y = k
  · subst e
    rw [has_put_same (k := .int .i64 y) ht.isMap (by exact True.intro), atKey_put_same (k := .int .i64 y) ht.isMap (by exact True.intro)]
    simp
  · rw [has_put_other (by simpa using e), atKey_put_other (by simpa using e), (hat y).1, (hat y).2]
    simp [e]
end Go.Proofs.Ythdfjbliafdchaa
/- Contract: header.Main, of any folder. No condition but that lengths fit. -/
namespace Go.Proofs.Ythdfjbliafdchaa
open Go.RowKit Go.Maps

theorem addI_take {l : List Int} {k : Nat} {y : Int} (h : l[k]? = some y) : addI (fun x => decide (x ∈ l.take k)) y = fun x => decide (x ∈ l.take (k + 1)) := by
  funext x
  unfold addI
  rw [List.take_add_one, h]
  simp [Bool.or_comm]

/-- The least coder that nothing is bound to. -/
def mainIdx (f : Folder) : Option Nat := (List.range f.coders.length).find? fun i => decide ((i : Int) ∉ f.binds.map (·.2))
def mainOf (f : Folder) : Int := match mainIdx f with | some i => (i : Int) | none => -1

set_option maxHeartbeats 1000000 in
theorem main_any (w : World) (v : Value) (f : Folder) (hf : Fo w v f) (hn : f.coders.length ≤ 100000) (hb : f.binds.length ≤ 100000) (hout : ∀ b ∈ f.binds, (Lit.int .i64 b.2).wf = true) :
    Calls Try.prog 18 #[v] w fun e w' => e = .returned (.int .i64 (mainOf f)) ∧ Fr [] w w' := by
  obtain ⟨cv, bv', p, s, h, k0, rfl, hV⟩ := hf
  obtain ⟨ao, cap, rfl, -, -, -⟩ := hV.co.out
  obtain ⟨aob, capb, rfl, -, -, o⟩ := hV.bi.out
  have HO := Lib.hid hout
  clear hV hout
  obtain ⟨wB, hwB⟩ : ∃ wB, wB = w.alloc (.cells #[.slice ao f.coders.length cap, .slice aob f.binds.length capb, p, s, h, k0] 47) := ⟨_, rfl⟩
  have F0 : Fr [] w wB := hwB ▸ (Fr.refl _ _).alloc _
  have sB : wB.heap.size = w.heap.size + 1 := by rw [hwB]; simp
  have HBX := Lib.hid (fun wx (F : Fr [] wB wx) => box6 (hwB ▸ F : Fr [] (w.alloc (.cells #[.slice ao f.coders.length cap, .slice aob f.binds.length capb, p, s, h, k0] 47)) wx))
  have hmm := @run_makeMap Try.prog
  go_enter Try.func18, Try.ntmps18
  go_wp2_with fail
  clear hmm
  rw [← hwB]
  clear hwB
  go_loopw [11] (fun i wr => ∃ k : Nat, k ≤ f.binds.length ∧ i = .int .i64 k ∧ ISet wr (w.heap.size + 1) k (fun x => decide (x ∈ (f.binds.map (·.2)).take k)) ∧ Fr [] wB wr) (fun i _ => f.binds.length - (intOf i).toNat)
  case atStart =>
    refine ⟨0, Nat.zero_le _, rfl, ?_, (Fr.refl _ _).alloc _⟩
    have m1 := ISet.made wB
    rw [sB] at m1
    simpa using m1
  case round =>
    obtain ⟨k, hk, rfl, S1, F⟩ := hrel
    obtain ⟨d0, d1, d2, d3, d4, d5⟩ := HBX.out _ F
    by_cases hlt : k < f.binds.length
    · obtain ⟨y, hy⟩ := some_get f.binds k hlt
      obtain ⟨b1, o1, rfl, hb1, e0, e1⟩ := o k y hy
      have c0 := ((F0.trans0 F).cell (p := ⟨b1, o1 + k * 2, none⟩) hb1 (by simp)).trans e0
      have c1 := ((F0.trans0 F).cell (p := ⟨b1, o1 + k * 2 + 1, none⟩) hb1 (by simp)).trans e1
      have hy2 : (f.binds.map (·.2))[k]? = some y.2 := by simp [hy]
      have hbo := HO.out y (List.mem_of_getElem? hy)
      have HT := Lib.hid (addI_take hy2)
      clear o hy hy2 e0 e1
      obtain ⟨y1, y2⟩ := y
      dsimp only at c0 c1 hbo HT
      go_wp2_with (at_mapUpdate; refine wpList_iset rfl _ _ _ rfl rfl (S1.fr ((Fr.refl _ _).alloc _)) (by rfl) (by rfl) hbo (by omega) ?_)
      intro w3 T3 g3
      have F3 := (F.alloc (.cells #[.int .i64 y1, .int .i64 y2] 50)).grown g3 (fun k hk => .inr (by cases hk; omega))
      rw [HT.out] at T3
      go_wp2_with fail
      go_roundw
      case rel => exact ⟨k + 1, by omega, by go_num, T3, F3⟩
      case measure => simp [intOf]; omega
    · rw [List.take_of_length_le (by simp; omega)] at S1
      clear o hk
      go_wp2_with fail
      clear hlt d0 d1 d2 d3 d4 d5
      go_loopw [22] (fun i w5 => ∃ k : Nat, k ≤ f.coders.length ∧ i = .int .i64 k ∧ (∀ j, j < k → (j : Int) ∈ f.binds.map (·.2)) ∧ w5 = wr) (fun i _ => f.coders.length - (intOf i).toNat)
      case atStart => exact ⟨0, Nat.zero_le _, rfl, fun _ h => by omega, rfl⟩
      case round =>
        obtain ⟨k, hk, rfl, hA, hw⟩ := hrel
        subst hw
        by_cases hlt : k < f.coders.length
        · have L := S1.look (x := (k : Int)) (WalkArith.wf_i64 (by omega))
          have HA := Lib.hid hA
          clear hA
          by_cases hm : (k : Int) ∈ f.binds.map (·.2)
          · have HA2 := Lib.hid (show ∀ j, j < k + 1 → (j : Int) ∈ f.binds.map (·.2) from fun j hj => by
              by_cases e : j = k
              · rw [e]; exact hm
              · exact HA.out j (by omega))
            simp only [hm, decide_true] at L
            clear hm
            go_wp2_with fail
            go_roundw
            case rel => exact ⟨k + 1, by omega, by go_num, HA2.out, by trivial⟩
            case measure => simp [intOf]; omega
          · have HE := Lib.hid (show mainOf f = (k : Int) by
              have e : mainIdx f = some k := by
                unfold mainIdx
                rw [List.find?_range_eq_some]
                refine ⟨by simpa using hm, by simpa using hlt, fun j hj => ?_⟩
                simpa using HA.out j hj
              unfold mainOf
              rw [e])
            simp only [hm, decide_false] at L
            clear hm
            go_wp2_with fail
            go_ret
            exact ⟨by rw [HE.out]; rfl, F0.trans0 F⟩
        · have HE := Lib.hid (show mainOf f = -1 by
            have e : mainIdx f = none := by
              unfold mainIdx
              rw [List.find?_eq_none]
              intro i hi
              rw [List.mem_range] at hi
              simpa using hA i (by omega)
            unfold mainOf
            rw [e])
          clear hA
          go_wp2_with fail
          go_ret
          exact ⟨by rw [HE.out]; rfl, F0.trans0 F⟩
end Go.Proofs.Ythdfjbliafdchaa
/- Contracts: the reference's Ins, Main; header.whole. No condition but that lengths fit. -/
namespace Go.Proofs.Ythdfjbliafdchaa
open Go.RowKit

theorem rins_any (w : World) (m : Int) (pv : Value) :
    Calls Try.prog 17 #[.agg #[.int .i64 m, pv]] w fun e w' => e = .returned (.int .i64 (ins m)) ∧ Fr [] w w' := by
  by_cases h6 : m = 6
  · subst h6
    go_enter Try.func17, Try.ntmps17
    go_wp2
    go_ret
    exact ⟨by simp [ins], (Fr.refl _ _).alloc _⟩
  · have hb : (m == 6) = false := by simp [h6]
    have E := Lib.hid (show (ins m : Int) = if (decide (1 ≤ m) && decide (m ≤ 7)) = true then 1 else 0 by simp [ins, h6]; split <;> simp)
    clear h6
    by_cases h1 : 1 ≤ m
    · by_cases h7 : m ≤ 7
      · have E2 := Lib.hid (show (ins m : Int) = 1 by rw [E.out]; simp [h1, h7])
        clear E
        go_enter Try.func17, Try.ntmps17
        go_wp2
        go_ret
        exact ⟨by rw [E2.out]; rfl, (Fr.refl _ _).alloc _⟩
      · have E2 := Lib.hid (show (ins m : Int) = 0 by rw [E.out]; simp [h7])
        clear E
        go_enter Try.func17, Try.ntmps17
        go_wp2
        go_ret
        exact ⟨by rw [E2.out]; rfl, (Fr.refl _ _).alloc _⟩
    · have E2 := Lib.hid (show (ins m : Int) = 0 by rw [E.out]; simp [h1])
      clear E
      go_enter Try.func17, Try.ntmps17
      go_wp2
      go_ret
      exact ⟨by rw [E2.out]; rfl, (Fr.refl _ _).alloc _⟩

theorem main_at {f : Folder} {k : Nat} (hk : k < f.coders.length) (hA : ∀ j, j < k → (j : Int) ∈ f.binds.map (·.2)) (hm : (k : Int) ∉ f.binds.map (·.2)) : mainOf f = (k : Int) := by
  have e : mainIdx f = some k := by
    unfold mainIdx
    rw [List.find?_range_eq_some]
    refine ⟨by simpa using hm, by simpa using hk, fun j hj => ?_⟩
    simpa using hA j hj
  unfold mainOf
  rw [e]
theorem main_none {f : Folder} (hA : ∀ j, j < f.coders.length → (j : Int) ∈ f.binds.map (·.2)) : mainOf f = -1 := by
  have e : mainIdx f = none := by
    unfold mainIdx
    rw [List.find?_eq_none]
    intro i hi
    rw [List.mem_range] at hi
    simpa using hA i (by omega)
  unfold mainOf
  rw [e]

set_option maxRecDepth 100000 in
set_option maxHeartbeats 2000000 in
theorem rmain_any (w : World) (v : Value) (f : Folder) (hf : Fo w v f) (hn : f.coders.length ≤ 100000) (hb : f.binds.length ≤ 100000) :
    Calls Try.prog 19 #[v] w fun e w' => e = .returned (.int .i64 (mainOf f)) ∧ Fr [] w w' := by
  obtain ⟨cv, bv', p, s, h, k0, rfl, hV⟩ := hf
  obtain ⟨ao, cap, rfl, -, -, -⟩ := hV.co.out
  obtain ⟨aob, capb, rfl, -, -, o⟩ := hV.bi.out
  have HO := Lib.hid o
  clear hV o
  obtain ⟨wB, hwB⟩ : ∃ wB, wB = w.alloc (.cells #[.slice ao f.coders.length cap, .slice aob f.binds.length capb, p, s, h, k0] 47) := ⟨_, rfl⟩
  have F0 : Fr [] w wB := hwB ▸ (Fr.refl _ _).alloc _
  have HBX := Lib.hid (fun wx (F : Fr [] wB wx) => box6 (hwB ▸ F : Fr [] (w.alloc (.cells #[.slice ao f.coders.length cap, .slice aob f.binds.length capb, p, s, h, k0] 47)) wx))
  obtain ⟨N, hN⟩ : ∃ N, f.coders.length = N := ⟨_, rfl⟩
  obtain ⟨M, hM⟩ : ∃ M, f.binds.length = M := ⟨_, rfl⟩
  have HN := Lib.hid hN
  have HM := Lib.hid hM
  rw [hN] at hn HBX hwB ⊢
  rw [hM] at hb HBX hwB ⊢
  have hnI : (N : Int) ≤ 100000 := by omega
  have hmI : (M : Int) ≤ 100000 := by omega
  clear hN hM hn hb
  go_enter Try.func19, Try.ntmps19
  go_wp2_with fail
  rw [← hwB]
  clear hwB
  go_loopw [3] (fun i wr => ∃ k : Nat, k ≤ N ∧ i = .int .i64 k ∧ (∀ j, j < k → (j : Int) ∈ f.binds.map (·.2)) ∧ Fr [] wB wr) (fun i _ => N - (intOf i).toNat)
  case atStart => exact ⟨0, Nat.zero_le _, rfl, fun _ h => by omega, Fr.refl _ _⟩
  case round =>
    obtain ⟨k, hk, rfl, hA, F⟩ := hrel
    obtain ⟨d0, d1, d2, d3, d4, d5⟩ := HBX.out _ F
    by_cases hlt : k < N
    · have hltI : (k : Int) < (N : Int) := by omega
      have HA := Lib.hid hA
      clear hA
      go_wp2_with fail
      clear d0 d1 d2 d3 d4 d5
      go_loopw [4, 5] (fun fr i wq => ∃ m : Nat, m ≤ M ∧ i = .int .i64 m ∧ fr = .bool (decide ((k : Int) ∉ (f.binds.map (·.2)).take m)) ∧ Fr [] wB wq) (fun _ i _ => M - (intOf i).toNat)
      case atStart => exact ⟨0, Nat.zero_le _, rfl, by simp, F⟩
      case round =>
        obtain ⟨m, hm, rfl, rfl, FQ⟩ := hrel
        obtain ⟨d0, d1, d2, d3, d4, d5⟩ := HBX.out _ FQ
        by_cases hlm : m < M
        · have hlmI : (m : Int) < (M : Int) := by omega
          obtain ⟨y, hy⟩ := some_get f.binds m (by rw [HM.out]; exact hlm)
          obtain ⟨b1, o1, rfl, hb1, e0, e1⟩ := HO.out m y hy
          have c1 := ((F0.trans0 FQ).cell (p := ⟨b1, o1 + m * 2 + 1, none⟩) hb1 (by simp)).trans e1
          have HT := Lib.hid (show decide ((k : Int) ∉ (f.binds.map (·.2)).take (m + 1)) = (decide ((k : Int) ∉ (f.binds.map (·.2)).take m) && (y.2 != (k : Int))) by
            have : (f.binds.map (·.2))[m]? = some y.2 := by simp [hy]
            rw [List.take_add_one, this]
            by_cases e : y.2 = (k : Int)
            · simp [e]
            · have e' : (k : Int) ≠ y.2 := fun h => e h.symm
              simp [e', e])
          obtain ⟨y1, y2⟩ := y
          dsimp only at c1 HT
          clear e0 e1 hy
          generalize decide ((k : Int) ∉ (f.binds.map (·.2)).take m) = fr at *
          cases fr with
          | true =>
            by_cases e : y2 = (k : Int)
            · have t0 : (y2 == (k : Int)) = true := by rw [beq_iff_eq]; exact e
              have HT2 := Lib.hid (show decide ((k : Int) ∉ (f.binds.map (·.2)).take (m + 1)) = false by rw [HT.out, e]; simp)
              clear e
              go_wp2_with fail
              go_roundw
              case rel => exact ⟨m + 1, by omega, by go_num, by rw [HT2.out]; first | rfl | (simp; first | exact beq_iff_eq.1 t0 | exact beq_eq_false_iff_ne.1 t0), FQ⟩
              case measure => simp [intOf]; omega
            · have t0 : (y2 == (k : Int)) = false := by rw [beq_eq_false_iff_ne]; exact e
              have HT2 := Lib.hid (show decide ((k : Int) ∉ (f.binds.map (·.2)).take (m + 1)) = true by rw [HT.out]; simp [e])
              clear e
              go_wp2_with fail
              go_roundw
              case rel => exact ⟨m + 1, by omega, by go_num, by rw [HT2.out]; first | rfl | (simp; first | exact beq_iff_eq.1 t0 | exact beq_eq_false_iff_ne.1 t0), FQ⟩
              case measure => simp [intOf]; omega
          | false =>
            have HT2 := Lib.hid (show decide ((k : Int) ∉ (f.binds.map (·.2)).take (m + 1)) = false by rw [HT.out]; rfl)
            go_wp2_with fail
            go_roundw
            case rel => exact ⟨m + 1, by omega, by go_num, by rw [HT2.out], FQ⟩
            case measure => simp [intOf]; omega
        · have hme : m = M := by omega
          subst hme
          rw [List.take_of_length_le (by rw [List.length_map, HM.out]; exact Nat.le_refl _)]
          by_cases hin : (k : Int) ∈ f.binds.map (·.2)
          · rw [show decide ((k : Int) ∉ f.binds.map (·.2)) = false by simpa using hin]
            have HA2 := Lib.hid (show ∀ j, j < k + 1 → (j : Int) ∈ f.binds.map (·.2) from fun j hj => by
              by_cases e : j = k
              · rw [e]; exact hin
              · exact HA.out j (by omega))
            clear hin
            go_wp2_with fail
            go_roundw
            case rel => exact ⟨k + 1, by omega, by go_num, HA2.out, FQ⟩
            case measure => simp [intOf]; omega
          · rw [show decide ((k : Int) ∉ f.binds.map (·.2)) = true by simpa using hin]
            have HE := Lib.hid (main_at (by rw [HN.out]; exact hlt) HA.out hin)
            clear hin
            go_wp2_with fail
            go_ret
            exact ⟨by rw [HE.out]; rfl, F0.trans0 FQ⟩
    · have HE := Lib.hid (main_none (f := f) (fun j hj => hA j (by rw [HN.out] at hj; omega)))
      have hltI : (N : Int) ≤ (k : Int) := by omega
      clear hA
      go_wp2_with fail
      go_ret
      exact ⟨by rw [HE.out]; rfl, F0.trans0 F⟩
end Go.Proofs.Ythdfjbliafdchaa
/- What a header says, read: the program's reader in plain Lean. No condition. -/
namespace Go.Proofs.Ythdfjbliafdchaa

/-- A check sum, if there is one. -/
structure Ck where
  has : Bool
  sum : UInt32
  deriving DecidableEq
structure Sub where
  size : UInt64
  ck : Ck
  deriving DecidableEq
structure Fil where
  name : List UInt8
  stream : Bool
  dir : Bool
  hasAttr : Bool
  attr : UInt32
  hasTime : Bool
  time : UInt64
  deriving DecidableEq
structure Fol where
  f : Folder
  ck : Ck
structure Dsc where
  packed : Bool
  place : UInt64
  packs : List UInt64
  checks : List Ck
  folders : List Fol
  subs : List (List Sub)
  files : List Fil

/-- A reader's cursor, and the first thing that was wrong. -/
structure Rs where
  c : Cur
  k : Nat

namespace Rs
def fail (s : Rs) (e : Nat) : Rs := { s with k := if s.k = 0 then e else s.k }
def ok (s : Rs) : Rs := { s with k := if s.k = 0 then s.c.code else s.k }
def num (s : Rs) (n : Int) : Nat × Rs := ((s.c.num n).1, { s with c := (s.c.num n).2 })
def byte (s : Rs) : Nat × Rs := s.num 1
def number (s : Rs) : Nat × Rs := (s.c.number.1, { s with c := s.c.number.2 })
/-- A number that may not be bad. -/
def lim (s : Rs) (bad : Nat → Rs → Bool) (e : Nat) : Nat × Rs :=
  if s.number.2.ok.k ≠ 0 then (0, s.number.2.ok) else if bad s.number.1 s.number.2.ok = true then (0, s.number.2.ok.fail e) else (s.number.1, s.number.2.ok)
def things (s : Rs) : Nat × Rs := s.lim (fun n t => decide (t.c.left < n)) 3
def size (s : Rs) : Nat × Rs := s.lim (fun n _ => decide (1099511627776 < n)) 7
def below (s : Rs) (m : Nat) : Nat × Rs := s.lim (fun n _ => decide (m ≤ n)) 10

theorem ok_zero {s : Rs} (h : s.ok.k = 0) : s.k = 0 ∧ s.c.code = 0 := by
  unfold ok at h
  by_cases hk : s.k = 0
  · simp [hk] at h; exact ⟨hk, h⟩
  · simp [hk] at h
theorem ok_ok (s : Rs) : s.ok.ok = s.ok := by
  unfold ok
  by_cases hk : s.k = 0
  · simp [hk]
  · simp [hk]
theorem ok_c (s : Rs) : s.ok.c = s.c := rfl
theorem fail_c (s : Rs) (e : Nat) : (s.fail e).c = s.c := rfl
end Rs
end Go.Proofs.Ythdfjbliafdchaa
/- Contracts: the reader of a header: fail, ok, byte, end. No condition. -/
namespace Go.Proofs.Ythdfjbliafdchaa
open Go.RowKit

/-- A reader's fields that hold what was read: their values. -/
structure DV where
  pk : Value
  pl : Value
  ps : Value
  cs : Value
  fs : Value
  ss : Value
  es : Value

/-- The reader lies in block p, its cursor in block cp, that one's bytes in block q. -/
structure RdAt (w : World) (p cp : Nat) (q : Option Nat) (s : Rs) (d : DV) : Prop where
  blk : w.heap[p]? = some (.cells #[.pointer (some ⟨cp, 0, none⟩), .int .i64 s.k, d.pk, d.pl, d.ps, d.cs, d.fs, d.ss, d.es] 72 (0, 0))
  cur : CurAt w cp q s.c
  ne : p ≠ cp
  nq : q ≠ some p
  ql : ∀ k, q = some k → k < w.heap.size

theorem RdAt.lt {w : World} {p cp : Nat} {q : Option Nat} {s : Rs} {d : DV} (h : RdAt w p cp q s d) : p < w.heap.size := (Array.getElem?_eq_some_iff.1 h.blk).1
theorem RdAt.fr {w w' : World} {p cp : Nat} {q : Option Nat} {s : Rs} {d : DV} {S : List Nat} (h : RdAt w p cp q s d) (F : Fr S w w') (h1 : p ∉ S) (h2 : cp ∉ S) (h3 : ∀ k, q = some k → k ∉ S) : RdAt w' p cp q s d :=
  ⟨(F.block p h.lt h1).trans h.blk, h.cur.fr F h2 h3, h.ne, h.nq, fun k hk => Nat.lt_of_lt_of_le (h.ql k hk) F.size⟩
theorem RdAt.same {w w' : World} {p cp : Nat} {q : Option Nat} {s : Rs} {d : DV} (h : RdAt w p cp q s d) (F : Same w w') : RdAt w' p cp q s d := h.fr (S := []) F.fr (by simp) (by simp) (by simp)
theorem RdAt.fr0 {w w' : World} {p cp : Nat} {q : Option Nat} {s : Rs} {d : DV} (h : RdAt w p cp q s d) (F : Fr [] w w') : RdAt w' p cp q s d := h.fr F (by simp) (by simp) (by simp)
/-- The cursor has gone on. -/
theorem RdAt.cur' {w w' : World} {p cp : Nat} {q : Option Nat} {s : Rs} {d : DV} {c : Cur} (h : RdAt w p cp q s d) (F : Fr [cp] w w') (hc : CurAt w' cp q c) : RdAt w' p cp q { s with c := c } d :=
  ⟨(F.block p h.lt (by simp [h.ne])).trans h.blk, hc, h.ne, h.nq, fun k hk => Nat.lt_of_lt_of_le (h.ql k hk) F.size⟩

/-- A block of nine cells. -/
theorem cells9 {w : World} {g : Nat} {t : TypeId} {a0 a1 a2 a3 a4 a5 a6 a7 a8 : Value} (h : w.heap[g]? = some (.cells #[a0, a1, a2, a3, a4, a5, a6, a7, a8] t (0, 0))) :
    w.cell? ⟨g, 0, none⟩ = some a0 ∧ w.cell? ⟨g, 1, none⟩ = some a1 ∧ w.cell? ⟨g, 2, none⟩ = some a2 ∧ w.cell? ⟨g, 3, none⟩ = some a3 ∧ w.cell? ⟨g, 4, none⟩ = some a4 ∧ w.cell? ⟨g, 5, none⟩ = some a5 ∧ w.cell? ⟨g, 6, none⟩ = some a6 ∧ w.cell? ⟨g, 7, none⟩ = some a7 ∧ w.cell? ⟨g, 8, none⟩ = some a8 ∧ (∀ j, w.frozen? ⟨g, j, none⟩ = false) :=
  ⟨by simp [Go.Joins.cell_of_block h], by simp [Go.Joins.cell_of_block h], by simp [Go.Joins.cell_of_block h], by simp [Go.Joins.cell_of_block h], by simp [Go.Joins.cell_of_block h], by simp [Go.Joins.cell_of_block h], by simp [Go.Joins.cell_of_block h], by simp [Go.Joins.cell_of_block h], by simp [Go.Joins.cell_of_block h], fun j => Go.Joins.unfrozen_of_block h j⟩

/-- The code has turned. -/
theorem RdAt.code {w : World} {p cp : Nat} {q : Option Nat} {s : Rs} {d : DV} (h : RdAt w p cp q s d) (k : Nat) : RdAt (w.setCell ⟨p, 1, none⟩ (.int .i64 (k : Int))) p cp q { s with k := k } d :=
  ⟨Go.Joins.block_setCell h.blk _, h.cur.fr ((Fr.refl [p] w).setCell (by simp) _) (by simp; exact fun e => h.ne e.symm) (by rintro k hk e; simp at e; subst e; exact h.nq hk), h.ne, h.nq, fun k hk => by rw [World.size_setCell]; exact h.ql k hk⟩

theorem natz (n : Nat) : ((n : Int) == 0) = (n == 0) := by rw [Bool.eq_iff_iff]; simp

set_option maxHeartbeats 400000 in
theorem rfail_any (w : World) (p cp : Nat) (q : Option Nat) (s : Rs) (d : DV) (e : Nat) (h : RdAt w p cp q s d) :
    Calls Try.prog 32 #[.pointer (some ⟨p, 0, none⟩), .int .i64 (e : Int)] w fun r w' => r = .returned (.tuple #[]) ∧ RdAt w' p cp q (s.fail e) d ∧ Fr [p] w w' := by
  obtain ⟨c0, c1, -, -, -, -, -, -, -, cf⟩ := cells9 h.blk
  have H := Lib.hid h
  clear h
  by_cases hk : s.k = 0
  · have hb : ((s.k : Int) == 0) = true := by simp [hk]
    have HK := Lib.hid hk
    clear hk
    go_enter Try.func32, Try.ntmps32
    go_wp2
    go_end0
    exact ⟨rfl, by rw [Rs.fail, if_pos HK.out]; exact H.out.code e, (Fr.refl _ _).setCell (by simp) _⟩
  · have hb : ((s.k : Int) == 0) = false := by simp; omega
    have HK := Lib.hid hk
    clear hk
    go_enter Try.func32, Try.ntmps32
    go_wp2
    go_end0
    exact ⟨rfl, by rw [Rs.fail, if_neg HK.out]; exact H.out, Fr.refl _ _⟩

set_option maxHeartbeats 400000 in
theorem ok_any (w : World) (p cp : Nat) (q : Option Nat) (s : Rs) (d : DV) (h : RdAt w p cp q s d) :
    Calls Try.prog 31 #[.pointer (some ⟨p, 0, none⟩)] w fun r w' => r = .returned (.bool (s.ok.k == 0)) ∧ RdAt w' p cp q s.ok d ∧ Fr [p] w w' := by
  obtain ⟨c0, c1, -, -, -, -, -, -, -, cf⟩ := cells9 h.blk
  have H := Lib.hid h
  clear h
  by_cases hk : s.k = 0
  · have hb : ((s.k : Int) == 0) = true := by simp [hk]
    have HK := Lib.hid hk
    clear hk
    go_enter Try.func31, Try.ntmps31
    go_wp2_with (go_at_call 55; refine (code_any _ cp q s.c H.out.cur).mono ?_; rintro e w1 ⟨rfl, rfl⟩)
    go_ret
    have e : s.ok = { s with k := s.c.code } := by rw [Rs.ok, if_pos HK.out]
    exact ⟨by rw [e]; simp [natz], by rw [e]; exact H.out.code _, (Fr.refl _ _).setCell (by simp) _⟩
  · have hb : ((s.k : Int) == 0) = false := by simp; omega
    have HK := Lib.hid hk
    clear hk
    go_enter Try.func31, Try.ntmps31
    go_wp2_with (go_at_call 55; refine (code_any _ cp q s.c H.out.cur).mono ?_; rintro e w1 ⟨rfl, rfl⟩)
    go_ret
    have e : s.ok = s := by rw [Rs.ok, if_neg HK.out]
    exact ⟨by rw [e]; simp [HK.out], by rw [e]; exact H.out, Fr.refl _ _⟩

theorem RdAt.le {w : World} {p cp : Nat} {q : Option Nat} {s : Rs} {d : DV} (h : RdAt w p cp q s d) : s.c.at_ ≤ s.c.b.length := h.cur.le

theorem num1_lt (s : Rs) : s.byte.1 < 256 := by
  have h1 : (s.c.take 1).1.length ≤ 1 := by unfold Cur.take; split <;> simp; omega
  have h2 := leNat_lt (s.c.take 1).1
  show (s.c.num 1).1 < 256
  have e : (s.c.num 1).1 = leNat (s.c.take 1).1 := rfl
  rw [e]
  have : 256 ^ (s.c.take 1).1.length ≤ 256 ^ 1 := Nat.pow_le_pow_right (by omega) h1
  omega

set_option maxHeartbeats 400000 in
theorem byte_any (w : World) (p cp : Nat) (q : Option Nat) (s : Rs) (d : DV) (h : RdAt w p cp q s d) (hb : s.c.b.length ≤ 10000000) :
    Calls Try.prog 28 #[.pointer (some ⟨p, 0, none⟩)] w fun r w' => r = .returned (.int .i64 (s.byte.1 : Int)) ∧ RdAt w' p cp q s.byte.2 d ∧ Fr [cp] w w' := by
  obtain ⟨c0, c1, -, -, -, -, -, -, -, cf⟩ := cells9 h.blk
  have H := Lib.hid h
  have HB := Lib.hid (show s.c.b.length ≤ 140737488355328 by omega)
  have hlt : (s.byte.1 : Int) < 256 := by have := num1_lt s; omega
  have h0 : (0 : Int) ≤ (s.byte.1 : Int) := by omega
  have HE := Lib.hid (show (s.c.num 1).1 = s.byte.1 from rfl)
  have HE2 := Lib.hid (show ({ s with c := (s.c.num 1).2 } : Rs) = s.byte.2 from rfl)
  generalize s.byte.1 = v at *
  clear h hb
  go_enter Try.func28, Try.ntmps28
  go_wp2_with (go_at_call 23; refine (num_any _ cp q s.c 1 H.out.cur HB.out).mono ?_; rw [HE.out]; rintro e w1 ⟨rfl, hC, F1⟩; have hR := H.out.cur' F1 hC; rw [HE2.out] at hR)
  go_ret
  exact ⟨by go_num, hR, F1⟩
end Go.Proofs.Ythdfjbliafdchaa
/- Contracts: the reader of a header: things, size, below, end, must, inside. No condition but that lengths fit. -/
namespace Go.Proofs.Ythdfjbliafdchaa
open Go.RowKit

theorem Rs.ok_of_zero {s : Rs} (h : s.ok.k = 0) : s.ok = s := by
  obtain ⟨h1, h2⟩ := Rs.ok_zero h
  unfold Rs.ok
  rw [if_pos h1, h2, ← h1]
theorem Rs.ok_of_bad {s : Rs} (h : s.k ≠ 0) : s.ok = s := by
  unfold Rs.ok
  rw [if_neg h]
theorem Rs.fail_ok {s : Rs} {e : Nat} (he : e ≠ 0) : (s.fail e).ok = s.fail e := by
  refine Rs.ok_of_bad ?_
  unfold Rs.fail
  dsimp only
  split
  · exact he
  · assumption
theorem Rs.fail_k {s : Rs} {e : Nat} (h : s.k = 0) : (s.fail e).k = e := by
  unfold Rs.fail
  dsimp only
  rw [if_pos h]
theorem left_le (c : Cur) : c.left ≤ c.b.length := by
  unfold Cur.left
  split <;> omega
theorem number_b (c : Cur) : c.number.2.b = c.b := by
  unfold Cur.number Cur.fail
  split <;> rfl
theorem num_b (c : Cur) (n : Int) : (c.num n).2.b = c.b := by
  unfold Cur.num Cur.fail
  split
  · exact Cur.take_b _ _
  · rfl

def NumR (w : World) (p cp : Nat) (q : Option Nat) (r : Nat × Rs) (d : DV) (k : IntKind) (e : Ending) (w' : World) : Prop :=
  e = .returned (.int k (r.1 : Int)) ∧ RdAt w' p cp q r.2 d ∧ Fr [p, cp] w w'

theorem Fr.two1 {p cp : Nat} {w w' : World} (h : Fr [p] w w') : Fr [p, cp] w w' := h.mono (by simp)
theorem Fr.two2 {p cp : Nat} {w w' : World} (h : Fr [cp] w w') : Fr [p, cp] w w' := h.mono (by simp)
theorem Fr.tr2 {p cp : Nat} {a b c : World} (h : Fr [p, cp] a b) (k : Fr [p, cp] b c) : Fr [p, cp] a c := h.trans k (by simp)

set_option maxRecDepth 100000 in
set_option maxHeartbeats 1000000 in
theorem things_any (w : World) (p cp : Nat) (q : Option Nat) (s : Rs) (d : DV) (h : RdAt w p cp q s d) (hb : s.c.b.length ≤ 10000000) :
    Calls Try.prog 58 #[.pointer (some ⟨p, 0, none⟩)] w (NumR w p cp q (s.things) d .i64) := by
  obtain ⟨c0, -⟩ := cells9 h.blk
  have HR0 := Lib.hid h
  have HB := Lib.hid (show s.c.b.length ≤ 140737488355328 by omega)
  have HBL := Lib.hid (show s.number.2.c.left ≤ 10000000 by have := left_le s.number.2.c; rw [show s.number.2.c.b = s.c.b from number_b s.c] at this; omega)
  have HN := Lib.hid (show s.c.number.1 = s.number.1 from rfl)
  have HS := Lib.hid (show ({ s with c := s.c.number.2 } : Rs) = s.number.2 from rfl)
  have HTH := Lib.hid (show (s.things) = if s.number.2.ok.k ≠ 0 then (0, s.number.2.ok) else if decide (s.number.2.ok.c.left < s.number.1) = true then (0, s.number.2.ok.fail 3) else (s.number.1, s.number.2.ok) from rfl)
  clear h hb
  generalize s.number.1 = n at *
  generalize s.number.2 = t at *
  by_cases h1 : t.ok.k = 0
  · have HO := Lib.hid (Rs.ok_of_zero h1)
    have HK := Lib.hid (show (t.ok.k == 0) = true by rw [h1]; rfl)
    by_cases h2 : t.c.left < n
    · have HE := Lib.hid (show (s.things) = (0, t.fail 3) by rw [HTH.out, if_neg (by rw [h1]; simp), HO.out, if_pos (by simpa using h2)])
      have a1 : (t.c.left : Int) < (n : Int) := by omega
      have a2 : (t.c.left : Int) ≤ 10000000 := by have := HBL.out; omega
      have HK2 := Lib.hid (show ((t.fail 3).ok.k == 0) = false by rw [Rs.fail_ok (by decide), Rs.fail_k (Rs.ok_zero h1).1]; rfl)
      have HO2 := Lib.hid (Rs.fail_ok (s := t) (e := 3) (by decide))
      clear h1 h2
      go_enter Try.func58, Try.ntmps58
      go_wp2_with (go_at_call 72; refine (number_any _ cp q s.c HR0.out.cur HB.out).mono ?_; rw [HN.out]; rintro e w1 ⟨rfl, hC, F1⟩; have R1 := HR0.out.cur' F1 hC; rw [HS.out] at R1; obtain ⟨d0, -⟩ := cells9 R1.blk)
      go_wp2_with (first
        | (have hq := R4; go_at_call 31; refine (ok_any _ p cp q (t.fail 3) d R4).mono ?_; rw [HK2.out, HO2.out]; rintro e w5 ⟨rfl, R5, F5⟩)
        | (have hq := R2; go_at_call 33; refine (left_any _ cp q t.c R2.cur).mono ?_; rintro e w3 ⟨rfl, S3⟩; have R3 := R2.same S3)
        | (go_at_call 32; refine (rfail_any _ p cp q t d 3 R3).mono ?_; rintro e w4 ⟨rfl, R4, F4⟩)
        | (go_at_call 31; refine (ok_any _ p cp q t d R1).mono ?_; rw [HK.out, HO.out]; rintro e w2 ⟨rfl, R2, F2⟩; obtain ⟨e0, -⟩ := cells9 R2.blk))
      go_ret
      exact ⟨by rw [HE.out]; rfl, by rw [HE.out]; exact R5, (((F1.two2.tr2 F2.two1).tr2 (S3.fr (S := [p, cp]))).tr2 F4.two1).tr2 F5.two1⟩
    · have HE := Lib.hid (show (s.things) = (n, t) by rw [HTH.out, if_neg (by rw [h1]; simp), HO.out, if_neg (by simpa using h2)])
      have a1 : (n : Int) ≤ (t.c.left : Int) := by omega
      have a2 : (t.c.left : Int) ≤ 10000000 := by have := HBL.out; omega
      clear h1 h2
      go_enter Try.func58, Try.ntmps58
      go_wp2_with (go_at_call 72; refine (number_any _ cp q s.c HR0.out.cur HB.out).mono ?_; rw [HN.out]; rintro e w1 ⟨rfl, hC, F1⟩; have R1 := HR0.out.cur' F1 hC; rw [HS.out] at R1; obtain ⟨d0, -⟩ := cells9 R1.blk)
      go_wp2_with (first
        | (have hq := R3; go_at_call 31; refine (ok_any _ p cp q t d R3).mono ?_; rw [HK.out, HO.out]; rintro e w5 ⟨rfl, R5, F5⟩)
        | (have hq := R2; go_at_call 33; refine (left_any _ cp q t.c R2.cur).mono ?_; rintro e w3 ⟨rfl, S3⟩; have R3 := R2.same S3)
        | (go_at_call 31; refine (ok_any _ p cp q t d R1).mono ?_; rw [HK.out, HO.out]; rintro e w2 ⟨rfl, R2, F2⟩; obtain ⟨e0, -⟩ := cells9 R2.blk))
      go_ret
      exact ⟨by rw [HE.out]; first | rfl | go_num, by rw [HE.out]; exact R5, ((F1.two2.tr2 F2.two1).tr2 (S3.fr (S := [p, cp]))).tr2 F5.two1⟩
  · have HE := Lib.hid (show (s.things) = (0, t.ok) by rw [HTH.out, if_pos h1])
    have HK := Lib.hid (show (t.ok.k == 0) = false by rw [beq_eq_false_iff_ne]; exact h1)
    have HK2 := Lib.hid (show (t.ok.ok.k == 0) = false by rw [Rs.ok_ok]; exact HK.out)
    have HO2 := Lib.hid (Rs.ok_ok t)
    clear h1
    go_enter Try.func58, Try.ntmps58
    go_wp2_with (go_at_call 72; refine (number_any _ cp q s.c HR0.out.cur HB.out).mono ?_; rw [HN.out]; rintro e w1 ⟨rfl, hC, F1⟩; have R1 := HR0.out.cur' F1 hC; rw [HS.out] at R1; obtain ⟨d0, -⟩ := cells9 R1.blk)
    go_wp2_with (first
      | (have hq := R2; go_at_call 31; refine (ok_any _ p cp q t.ok d R2).mono ?_; rw [HK2.out, HO2.out]; rintro e w5 ⟨rfl, R5, F5⟩)
      | (go_at_call 31; refine (ok_any _ p cp q t d R1).mono ?_; rw [HK.out]; rintro e w2 ⟨rfl, R2, F2⟩))
    go_ret
    exact ⟨by rw [HE.out]; rfl, by rw [HE.out]; exact R5, (F1.two2.tr2 F2.two1).tr2 F5.two1⟩

set_option maxRecDepth 100000 in
set_option maxHeartbeats 1000000 in
theorem size_any (w : World) (p cp : Nat) (q : Option Nat) (s : Rs) (d : DV) (h : RdAt w p cp q s d) (hb : s.c.b.length ≤ 10000000) :
    Calls Try.prog 61 #[.pointer (some ⟨p, 0, none⟩)] w (NumR w p cp q (s.size) d .u64) := by
  obtain ⟨c0, -⟩ := cells9 h.blk
  have HR0 := Lib.hid h
  have HB := Lib.hid (show s.c.b.length ≤ 140737488355328 by omega)
  have HBL := Lib.hid (show s.number.2.c.left ≤ 10000000 by have := left_le s.number.2.c; rw [show s.number.2.c.b = s.c.b from number_b s.c] at this; omega)
  have HN := Lib.hid (show s.c.number.1 = s.number.1 from rfl)
  have HS := Lib.hid (show ({ s with c := s.c.number.2 } : Rs) = s.number.2 from rfl)
  have HTH := Lib.hid (show (s.size) = if s.number.2.ok.k ≠ 0 then (0, s.number.2.ok) else if decide (1099511627776 < s.number.1) = true then (0, s.number.2.ok.fail 7) else (s.number.1, s.number.2.ok) from rfl)
  clear h hb
  generalize s.number.1 = n at *
  generalize s.number.2 = t at *
  by_cases h1 : t.ok.k = 0
  · have HO := Lib.hid (Rs.ok_of_zero h1)
    have HK := Lib.hid (show (t.ok.k == 0) = true by rw [h1]; rfl)
    by_cases h2 : 1099511627776 < n
    · have HE := Lib.hid (show (s.size) = (0, t.fail 7) by rw [HTH.out, if_neg (by rw [h1]; simp), HO.out, if_pos (by simpa using h2)])
      have a1 : (1099511627776 : Int) < (n : Int) := by omega
      have HK2 := Lib.hid (show ((t.fail 7).ok.k == 0) = false by rw [Rs.fail_ok (by decide), Rs.fail_k (Rs.ok_zero h1).1]; rfl)
      have HO2 := Lib.hid (Rs.fail_ok (s := t) (e := 7) (by decide))
      clear h1 h2
      go_enter Try.func61, Try.ntmps61
      go_wp2_with (go_at_call 72; refine (number_any _ cp q s.c HR0.out.cur HB.out).mono ?_; rw [HN.out]; rintro e w1 ⟨rfl, hC, F1⟩; have R1 := HR0.out.cur' F1 hC; rw [HS.out] at R1; obtain ⟨d0, -⟩ := cells9 R1.blk)
      go_wp2_with (first
        | (have hq := R4; go_at_call 31; refine (ok_any _ p cp q (t.fail 7) d R4).mono ?_; rw [HK2.out, HO2.out]; rintro e w5 ⟨rfl, R5, F5⟩)
        | (go_at_call 32; refine (rfail_any _ p cp q t d 7 R2).mono ?_; rintro e w4 ⟨rfl, R4, F4⟩)
        | (go_at_call 31; refine (ok_any _ p cp q t d R1).mono ?_; rw [HK.out, HO.out]; rintro e w2 ⟨rfl, R2, F2⟩; obtain ⟨e0, -⟩ := cells9 R2.blk))
      go_ret
      exact ⟨by rw [HE.out]; rfl, by rw [HE.out]; exact R5, (((F1.two2.tr2 F2.two1)).tr2 F4.two1).tr2 F5.two1⟩
    · have HE := Lib.hid (show (s.size) = (n, t) by rw [HTH.out, if_neg (by rw [h1]; simp), HO.out, if_neg (by simpa using h2)])
      have a1 : (n : Int) ≤ (1099511627776 : Int) := by omega
      clear h1 h2
      go_enter Try.func61, Try.ntmps61
      go_wp2_with (go_at_call 72; refine (number_any _ cp q s.c HR0.out.cur HB.out).mono ?_; rw [HN.out]; rintro e w1 ⟨rfl, hC, F1⟩; have R1 := HR0.out.cur' F1 hC; rw [HS.out] at R1; obtain ⟨d0, -⟩ := cells9 R1.blk)
      go_wp2_with (first
        | (have hq := R2; go_at_call 31; refine (ok_any _ p cp q t d R2).mono ?_; rw [HK.out, HO.out]; rintro e w5 ⟨rfl, R5, F5⟩)
        | (go_at_call 31; refine (ok_any _ p cp q t d R1).mono ?_; rw [HK.out, HO.out]; rintro e w2 ⟨rfl, R2, F2⟩; obtain ⟨e0, -⟩ := cells9 R2.blk))
      go_ret
      exact ⟨by rw [HE.out]; first | rfl | go_num, by rw [HE.out]; exact R5, ((F1.two2.tr2 F2.two1)).tr2 F5.two1⟩
  · have HE := Lib.hid (show (s.size) = (0, t.ok) by rw [HTH.out, if_pos h1])
    have HK := Lib.hid (show (t.ok.k == 0) = false by rw [beq_eq_false_iff_ne]; exact h1)
    have HK2 := Lib.hid (show (t.ok.ok.k == 0) = false by rw [Rs.ok_ok]; exact HK.out)
    have HO2 := Lib.hid (Rs.ok_ok t)
    clear h1
    go_enter Try.func61, Try.ntmps61
    go_wp2_with (go_at_call 72; refine (number_any _ cp q s.c HR0.out.cur HB.out).mono ?_; rw [HN.out]; rintro e w1 ⟨rfl, hC, F1⟩; have R1 := HR0.out.cur' F1 hC; rw [HS.out] at R1; obtain ⟨d0, -⟩ := cells9 R1.blk)
    go_wp2_with (first
      | (have hq := R2; go_at_call 31; refine (ok_any _ p cp q t.ok d R2).mono ?_; rw [HK2.out, HO2.out]; rintro e w5 ⟨rfl, R5, F5⟩)
      | (go_at_call 31; refine (ok_any _ p cp q t d R1).mono ?_; rw [HK.out]; rintro e w2 ⟨rfl, R2, F2⟩))
    go_ret
    exact ⟨by rw [HE.out]; rfl, by rw [HE.out]; exact R5, (F1.two2.tr2 F2.two1).tr2 F5.two1⟩

set_option maxRecDepth 100000 in
set_option maxHeartbeats 1000000 in
theorem below_any (w : World) (p cp : Nat) (q : Option Nat) (s : Rs) (d : DV) (m : Nat) (hm : m ≤ 10000000) (h : RdAt w p cp q s d) (hb : s.c.b.length ≤ 10000000) :
    Calls Try.prog 79 #[.pointer (some ⟨p, 0, none⟩), .int .i64 (m : Int)] w (NumR w p cp q (s.below m) d .i64) := by
  obtain ⟨c0, -⟩ := cells9 h.blk
  have HR0 := Lib.hid h
  have HB := Lib.hid (show s.c.b.length ≤ 140737488355328 by omega)
  have HBL := Lib.hid (show s.number.2.c.left ≤ 10000000 by have := left_le s.number.2.c; rw [show s.number.2.c.b = s.c.b from number_b s.c] at this; omega)
  have HN := Lib.hid (show s.c.number.1 = s.number.1 from rfl)
  have HS := Lib.hid (show ({ s with c := s.c.number.2 } : Rs) = s.number.2 from rfl)
  have HTH := Lib.hid (show (s.below m) = if s.number.2.ok.k ≠ 0 then (0, s.number.2.ok) else if decide (m ≤ s.number.1) = true then (0, s.number.2.ok.fail 10) else (s.number.1, s.number.2.ok) from rfl)
  clear h hb
  have hm2 : (m : Int) ≤ 10000000 := by omega
  generalize s.number.1 = n at *
  generalize s.number.2 = t at *
  by_cases h1 : t.ok.k = 0
  · have HO := Lib.hid (Rs.ok_of_zero h1)
    have HK := Lib.hid (show (t.ok.k == 0) = true by rw [h1]; rfl)
    by_cases h2 : m ≤ n
    · have HE := Lib.hid (show (s.below m) = (0, t.fail 10) by rw [HTH.out, if_neg (by rw [h1]; simp), HO.out, if_pos (by simpa using h2)])
      have a1 : (m : Int) ≤ (n : Int) := by omega
      have HK2 := Lib.hid (show ((t.fail 10).ok.k == 0) = false by rw [Rs.fail_ok (by decide), Rs.fail_k (Rs.ok_zero h1).1]; rfl)
      have HO2 := Lib.hid (Rs.fail_ok (s := t) (e := 10) (by decide))
      clear h1 h2
      go_enter Try.func79, Try.ntmps79
      go_wp2_with (go_at_call 72; refine (number_any _ cp q s.c HR0.out.cur HB.out).mono ?_; rw [HN.out]; rintro e w1 ⟨rfl, hC, F1⟩; have R1 := HR0.out.cur' F1 hC; rw [HS.out] at R1; obtain ⟨d0, -⟩ := cells9 R1.blk)
      go_wp2_with (first
        | (have hq := R4; go_at_call 31; refine (ok_any _ p cp q (t.fail 10) d R4).mono ?_; rw [HK2.out, HO2.out]; rintro e w5 ⟨rfl, R5, F5⟩)
        | (go_at_call 32; refine (rfail_any _ p cp q t d 10 R2).mono ?_; rintro e w4 ⟨rfl, R4, F4⟩)
        | (go_at_call 31; refine (ok_any _ p cp q t d R1).mono ?_; rw [HK.out, HO.out]; rintro e w2 ⟨rfl, R2, F2⟩; obtain ⟨e0, -⟩ := cells9 R2.blk))
      go_ret
      exact ⟨by rw [HE.out]; rfl, by rw [HE.out]; exact R5, (((F1.two2.tr2 F2.two1)).tr2 F4.two1).tr2 F5.two1⟩
    · have HE := Lib.hid (show (s.below m) = (n, t) by rw [HTH.out, if_neg (by rw [h1]; simp), HO.out, if_neg (by simpa using h2)])
      have a1 : (n : Int) < (m : Int) := by omega
      clear h1 h2
      go_enter Try.func79, Try.ntmps79
      go_wp2_with (go_at_call 72; refine (number_any _ cp q s.c HR0.out.cur HB.out).mono ?_; rw [HN.out]; rintro e w1 ⟨rfl, hC, F1⟩; have R1 := HR0.out.cur' F1 hC; rw [HS.out] at R1; obtain ⟨d0, -⟩ := cells9 R1.blk)
      go_wp2_with (first
        | (have hq := R2; go_at_call 31; refine (ok_any _ p cp q t d R2).mono ?_; rw [HK.out, HO.out]; rintro e w5 ⟨rfl, R5, F5⟩)
        | (go_at_call 31; refine (ok_any _ p cp q t d R1).mono ?_; rw [HK.out, HO.out]; rintro e w2 ⟨rfl, R2, F2⟩; obtain ⟨e0, -⟩ := cells9 R2.blk))
      go_ret
      exact ⟨by rw [HE.out]; first | rfl | go_num, by rw [HE.out]; exact R5, ((F1.two2.tr2 F2.two1)).tr2 F5.two1⟩
  · have HE := Lib.hid (show (s.below m) = (0, t.ok) by rw [HTH.out, if_pos h1])
    have HK := Lib.hid (show (t.ok.k == 0) = false by rw [beq_eq_false_iff_ne]; exact h1)
    have HK2 := Lib.hid (show (t.ok.ok.k == 0) = false by rw [Rs.ok_ok]; exact HK.out)
    have HO2 := Lib.hid (Rs.ok_ok t)
    clear h1
    go_enter Try.func79, Try.ntmps79
    go_wp2_with (go_at_call 72; refine (number_any _ cp q s.c HR0.out.cur HB.out).mono ?_; rw [HN.out]; rintro e w1 ⟨rfl, hC, F1⟩; have R1 := HR0.out.cur' F1 hC; rw [HS.out] at R1; obtain ⟨d0, -⟩ := cells9 R1.blk)
    go_wp2_with (first
      | (have hq := R2; go_at_call 31; refine (ok_any _ p cp q t.ok d R2).mono ?_; rw [HK2.out, HO2.out]; rintro e w5 ⟨rfl, R5, F5⟩)
      | (go_at_call 31; refine (ok_any _ p cp q t d R1).mono ?_; rw [HK.out]; rintro e w2 ⟨rfl, R2, F2⟩))
    go_ret
    exact ⟨by rw [HE.out]; rfl, by rw [HE.out]; exact R5, (F1.two2.tr2 F2.two1).tr2 F5.two1⟩
/-- A part's end. -/
def Rs.end_ (s : Rs) (id : Nat) : Rs := if s.ok.k = 0 ∧ id ≠ 0 then s.ok.fail 5 else s.ok
def Rs.must (s : Rs) (id : Nat) : Rs := if s.byte.2.ok.k = 0 ∧ s.byte.1 ≠ id then s.byte.2.ok.fail 5 else s.byte.2.ok
def Rs.inside (s : Rs) : Rs := if s.byte.2.ok.k ≠ 0 ∨ s.byte.1 = 0 then s.byte.2.ok else if s.byte.1 = 1 then s.byte.2.ok.fail 6 else s.byte.2.ok.fail 5
def VoidR (w : World) (p cp : Nat) (q : Option Nat) (r : Rs) (d : DV) (e : Ending) (w' : World) : Prop := e = .returned (.tuple #[]) ∧ RdAt w' p cp q r d ∧ Fr [p, cp] w w'

set_option maxHeartbeats 1000000 in
theorem end_any (w : World) (p cp : Nat) (q : Option Nat) (s : Rs) (d : DV) (id : Nat) (h : RdAt w p cp q s d) :
    Calls Try.prog 50 #[.pointer (some ⟨p, 0, none⟩), .int .i64 (id : Int)] w (VoidR w p cp q (s.end_ id) d) := by
  have HR0 := Lib.hid h
  clear h
  by_cases h1 : s.ok.k = 0
  · have HK := Lib.hid (show (s.ok.k == 0) = true by rw [h1]; rfl)
    by_cases h2 : id = 0
    · subst h2
      have HE := Lib.hid (show s.end_ 0 = s.ok by simp [Rs.end_])
      clear h1
      go_enter Try.func50, Try.ntmps50
      go_wp2_with (go_at_call 31; refine (ok_any _ p cp q s d HR0.out).mono ?_; rw [HK.out]; rintro e w2 ⟨rfl, R2, F2⟩)
      go_end0
      exact ⟨rfl, by rw [HE.out]; exact R2, F2.two1⟩
    · have HE := Lib.hid (show s.end_ id = s.ok.fail 5 by rw [Rs.end_, if_pos ⟨h1, h2⟩])
      have t0 : ((id : Int) == 0) = false := by rw [beq_eq_false_iff_ne]; omega
      clear h1 h2
      go_enter Try.func50, Try.ntmps50
      go_wp2_with (first
        | (go_at_call 32; refine (rfail_any _ p cp q s.ok d 5 R2).mono ?_; rintro e w4 ⟨rfl, R4, F4⟩)
        | (go_at_call 31; refine (ok_any _ p cp q s d HR0.out).mono ?_; rw [HK.out]; rintro e w2 ⟨rfl, R2, F2⟩))
      go_end0
      exact ⟨rfl, by rw [HE.out]; exact R4, F2.two1.tr2 F4.two1⟩
  · have HK := Lib.hid (show (s.ok.k == 0) = false by rw [beq_eq_false_iff_ne]; exact h1)
    have HE := Lib.hid (show s.end_ id = s.ok by rw [Rs.end_, if_neg (fun h => h1 h.1)])
    clear h1
    go_enter Try.func50, Try.ntmps50
    go_wp2_with (go_at_call 31; refine (ok_any _ p cp q s d HR0.out).mono ?_; rw [HK.out]; rintro e w2 ⟨rfl, R2, F2⟩)
    go_end0
    exact ⟨rfl, by rw [HE.out]; exact R2, F2.two1⟩

set_option maxHeartbeats 1000000 in
theorem must_any (w : World) (p cp : Nat) (q : Option Nat) (s : Rs) (d : DV) (id : Nat) (h : RdAt w p cp q s d) (hb : s.c.b.length ≤ 10000000) :
    Calls Try.prog 63 #[.pointer (some ⟨p, 0, none⟩), .int .i64 (id : Int)] w (VoidR w p cp q (s.must id) d) := by
  have HR0 := Lib.hid h
  have HB := Lib.hid hb
  have HM := Lib.hid (show s.must id = if s.byte.2.ok.k = 0 ∧ s.byte.1 ≠ id then s.byte.2.ok.fail 5 else s.byte.2.ok from rfl)
  have HBY := Lib.hid (fun w (h : RdAt w p cp q s d) => byte_any w p cp q s d h HB.out)
  clear h hb
  generalize s.byte.1 = v at *
  generalize s.byte.2 = t at *
  by_cases h1 : t.ok.k = 0
  · have HK := Lib.hid (show (t.ok.k == 0) = true by rw [h1]; rfl)
    by_cases h2 : v = id
    · subst h2
      have HE := Lib.hid (show s.must v = t.ok by rw [HM.out, if_neg (fun h => h.2 rfl)])
      have t0 : ((v : Int) == (v : Int)) = true := by simp
      clear h1
      go_enter Try.func63, Try.ntmps63
      go_wp2_with (first
        | (go_at_call 31; refine (ok_any _ p cp q t d R1).mono ?_; rw [HK.out]; rintro e w2 ⟨rfl, R2, F2⟩)
        | (go_at_call 28; refine (HBY.out _ HR0.out).mono ?_; rintro e w1 ⟨rfl, R1, F1⟩))
      go_end0
      exact ⟨rfl, by rw [HE.out]; exact R2, F1.two2.tr2 F2.two1⟩
    · have HE := Lib.hid (show s.must id = t.ok.fail 5 by rw [HM.out, if_pos ⟨h1, h2⟩])
      have t0 : ((v : Int) == (id : Int)) = false := by rw [beq_eq_false_iff_ne]; omega
      clear h1 h2
      go_enter Try.func63, Try.ntmps63
      go_wp2_with (first
        | (go_at_call 32; refine (rfail_any _ p cp q t.ok d 5 R2).mono ?_; rintro e w4 ⟨rfl, R4, F4⟩)
        | (go_at_call 31; refine (ok_any _ p cp q t d R1).mono ?_; rw [HK.out]; rintro e w2 ⟨rfl, R2, F2⟩)
        | (go_at_call 28; refine (HBY.out _ HR0.out).mono ?_; rintro e w1 ⟨rfl, R1, F1⟩))
      go_end0
      exact ⟨rfl, by rw [HE.out]; exact R4, (F1.two2.tr2 F2.two1).tr2 F4.two1⟩
  · have HK := Lib.hid (show (t.ok.k == 0) = false by rw [beq_eq_false_iff_ne]; exact h1)
    have HE := Lib.hid (show s.must id = t.ok by rw [HM.out, if_neg (fun h => h1 h.1)])
    clear h1
    go_enter Try.func63, Try.ntmps63
    go_wp2_with (first
      | (go_at_call 31; refine (ok_any _ p cp q t d R1).mono ?_; rw [HK.out]; rintro e w2 ⟨rfl, R2, F2⟩)
      | (go_at_call 28; refine (HBY.out _ HR0.out).mono ?_; rintro e w1 ⟨rfl, R1, F1⟩))
    go_end0
    exact ⟨rfl, by rw [HE.out]; exact R2, F1.two2.tr2 F2.two1⟩

set_option maxHeartbeats 1000000 in
theorem inside_any (w : World) (p cp : Nat) (q : Option Nat) (s : Rs) (d : DV) (h : RdAt w p cp q s d) (hb : s.c.b.length ≤ 10000000) :
    Calls Try.prog 64 #[.pointer (some ⟨p, 0, none⟩)] w (VoidR w p cp q s.inside d) := by
  have HR0 := Lib.hid h
  have HB := Lib.hid hb
  have HM := Lib.hid (show s.inside = if s.byte.2.ok.k ≠ 0 ∨ s.byte.1 = 0 then s.byte.2.ok else if s.byte.1 = 1 then s.byte.2.ok.fail 6 else s.byte.2.ok.fail 5 from rfl)
  have HBY := Lib.hid (fun w (h : RdAt w p cp q s d) => byte_any w p cp q s d h HB.out)
  clear h hb
  generalize s.byte.1 = v at *
  generalize s.byte.2 = t at *
  by_cases h1 : t.ok.k = 0
  · have HK := Lib.hid (show (t.ok.k == 0) = true by rw [h1]; rfl)
    by_cases h2 : v = 0
    · subst h2
      have HE := Lib.hid (show s.inside = t.ok by rw [HM.out, if_pos (.inr rfl)])
      clear h1
      go_enter Try.func64, Try.ntmps64
      go_wp2_with (first
        | (go_at_call 31; refine (ok_any _ p cp q t d R1).mono ?_; rw [HK.out]; rintro e w2 ⟨rfl, R2, F2⟩)
        | (go_at_call 28; refine (HBY.out _ HR0.out).mono ?_; rintro e w1 ⟨rfl, R1, F1⟩))
      go_end0
      exact ⟨rfl, by rw [HE.out]; exact R2, F1.two2.tr2 F2.two1⟩
    · have t0 : ((v : Int) == 0) = false := by rw [beq_eq_false_iff_ne]; omega
      by_cases h3 : v = 1
      · subst h3
        have HE := Lib.hid (show s.inside = t.ok.fail 6 by rw [HM.out, if_neg (by simp [h1]), if_pos rfl])
        clear h1 h2 t0
        go_enter Try.func64, Try.ntmps64
        go_wp2_with (first
          | (go_at_call 32; refine (rfail_any _ p cp q t.ok d 6 R2).mono ?_; rintro e w4 ⟨rfl, R4, F4⟩)
          | (go_at_call 31; refine (ok_any _ p cp q t d R1).mono ?_; rw [HK.out]; rintro e w2 ⟨rfl, R2, F2⟩)
          | (go_at_call 28; refine (HBY.out _ HR0.out).mono ?_; rintro e w1 ⟨rfl, R1, F1⟩))
        go_end0
        exact ⟨rfl, by rw [HE.out]; exact R4, (F1.two2.tr2 F2.two1).tr2 F4.two1⟩
      · have HE := Lib.hid (show s.inside = t.ok.fail 5 by rw [HM.out, if_neg (by simp [h1, h2]), if_neg h3])
        have t1 : ((v : Int) == 1) = false := by rw [beq_eq_false_iff_ne]; omega
        clear h1 h2 h3
        go_enter Try.func64, Try.ntmps64
        go_wp2_with (first
          | (go_at_call 32; refine (rfail_any _ p cp q t.ok d 5 R2).mono ?_; rintro e w4 ⟨rfl, R4, F4⟩)
          | (go_at_call 31; refine (ok_any _ p cp q t d R1).mono ?_; rw [HK.out]; rintro e w2 ⟨rfl, R2, F2⟩)
          | (go_at_call 28; refine (HBY.out _ HR0.out).mono ?_; rintro e w1 ⟨rfl, R1, F1⟩))
        go_end0
        exact ⟨rfl, by rw [HE.out]; exact R4, (F1.two2.tr2 F2.two1).tr2 F4.two1⟩
  · have HK := Lib.hid (show (t.ok.k == 0) = false by rw [beq_eq_false_iff_ne]; exact h1)
    have HE := Lib.hid (show s.inside = t.ok by rw [HM.out, if_pos (.inl h1)])
    clear h1
    go_enter Try.func64, Try.ntmps64
    go_wp2_with (first
      | (go_at_call 31; refine (ok_any _ p cp q t d R1).mono ?_; rw [HK.out]; rintro e w2 ⟨rfl, R2, F2⟩)
      | (go_at_call 28; refine (HBY.out _ HR0.out).mono ?_; rintro e w1 ⟨rfl, R1, F1⟩))
    go_end0
    exact ⟨rfl, by rw [HE.out]; exact R2, F1.two2.tr2 F2.two1⟩

end Go.Proofs.Ythdfjbliafdchaa
/- Slices of structs of m cells that lie in new memory, as lists of cells. No condition. -/
namespace Go.Proofs.Ythdfjbliafdchaa
open Go.RowKit

/-- A slice of n elements of m cells each, of type e, reads as the cells xs; its block is not below lo. -/
def Sm (w : World) (lo e m : Nat) (v : Value) (n : Nat) (xs : List Value) : Prop :=
  ∃ ao cap, v = .slice ao n cap ∧ n ≤ cap ∧ cap ≤ 9223372036854775807 ∧ xs.length = n * m ∧ (ao = none → cap = 0) ∧
    (∀ a, ao = some a → ∃ b o, a = ⟨b, o, none⟩ ∧ lo ≤ b ∧ b < w.heap.size ∧ (∃ cs z, w.heap[b]? = some (.cells cs e z)) ∧ ∀ i, i < n * m → w.cell? ⟨b, o + i, none⟩ = xs[i]?)

theorem Sm.nil (w : World) (lo e m : Nat) : Sm w lo e m (.slice none 0 0) 0 [] := ⟨none, 0, rfl, by simp, by simp, by simp, fun _ => rfl, fun a h => by cases h⟩

theorem Sm.fr {w w' : World} {lo e m n : Nat} {v : Value} {xs : List Value} {S : List Nat} (h : Sm w lo e m v n xs) (F : Fr S w w') (hS : ∀ i ∈ S, i < lo) : Sm w' lo e m v n xs := by
  obtain ⟨ao, cap, rfl, h1, h2, h3, h4, h5⟩ := h
  refine ⟨ao, cap, rfl, h1, h2, h3, h4, fun a ha => ?_⟩
  obtain ⟨b, o, rfl, q1, q2, ⟨cs, z, q4⟩, q3⟩ := h5 a ha
  refine ⟨b, o, rfl, q1, Nat.lt_of_lt_of_le q2 F.size, ⟨cs, z, (F.block b q2 (fun hm => by have := hS b hm; omega)).trans q4⟩, fun i hi => ?_⟩
  rw [F.cell (p := ⟨b, o + i, none⟩) q2 (fun hm => by have := hS b hm; omega)]
  exact q3 i hi
/-- Blocks of other types may change. -/
theorem Sm.frT {w w' : World} {lo e m n : Nat} {v : Value} {xs : List Value} {S : List Nat} (h : Sm w lo e m v n xs) (F : Fr S w w') (hS : ∀ i ∈ S, i < lo ∨ ∀ cs z, w.heap[i]? ≠ some (.cells cs e z)) : Sm w' lo e m v n xs := by
  obtain ⟨ao, cap, rfl, h1, h2, h3, h4, h5⟩ := h
  refine ⟨ao, cap, rfl, h1, h2, h3, h4, fun a ha => ?_⟩
  obtain ⟨b, o, rfl, q1, q2, ⟨cs, z, q4⟩, q3⟩ := h5 a ha
  have hb : b ∉ S := fun hm => by
    rcases hS b hm with h | h
    · omega
    · exact h cs z q4
  refine ⟨b, o, rfl, q1, Nat.lt_of_lt_of_le q2 F.size, ⟨cs, z, (F.block b q2 hb).trans q4⟩, fun i hi => ?_⟩
  rw [F.cell (p := ⟨b, o + i, none⟩) q2 hb]
  exact q3 i hi
theorem Sm.fr0 {w w' : World} {lo e m n : Nat} {v : Value} {xs : List Value} (h : Sm w lo e m v n xs) (F : Fr [] w w') : Sm w' lo e m v n xs := h.fr F (by simp)
theorem Sm.two {w w' : World} {lo e m n : Nat} {v : Value} {xs : List Value} {p cp : Nat} (h : Sm w lo e m v n xs) (F : Fr [p, cp] w w') (h1 : p < lo) (h2 : cp < lo) : Sm w' lo e m v n xs := h.fr F (by simp; exact ⟨h1, h2⟩)
theorem Sm.mono {w : World} {lo lo' e m n : Nat} {v : Value} {xs : List Value} (h : Sm w lo e m v n xs) (hl : lo' ≤ lo) : Sm w lo' e m v n xs := by
  obtain ⟨ao, cap, rfl, h1, h2, h3, h4, h5⟩ := h
  refine ⟨ao, cap, rfl, h1, h2, h3, h4, fun a ha => ?_⟩
  obtain ⟨b, o, rfl, q1, q2, q4, q3⟩ := h5 a ha
  exact ⟨b, o, rfl, by omega, q2, q4, q3⟩

theorem Sm.of_own {w : World} {base e m : Nat} {v : Value} {n : Nat} {xs : List Value} (lo : Nat) (h : w.ownsRow base e m v n xs) (hl : lo ≤ base) : Sm w lo e m v n xs := by
  have h0 := h
  have hxl : xs.length = n * m := h.1
  rcases h.2 with ⟨rfl, hn⟩ | ⟨g, cap, cur, rfl, hb, hg, hnc, hcm, _⟩
  · subst hn
    exact ⟨none, 0, rfl, by simp, by simp, hxl, fun _ => rfl, fun a ha => by cases ha⟩
  · refine ⟨_, cap, rfl, hnc, by unfold maxLen at hcm; omega, hxl, (fun h => by cases h), fun a ha => ?_⟩
    obtain rfl := (Option.some.inj ha).symm
    refine ⟨g, 0, rfl, by omega, (Array.getElem?_eq_some_iff.1 hg).1, ⟨_, _, hg⟩, fun i hi => ?_⟩
    rw [Nat.zero_add]
    exact h0.cellAt i hi

/-- As a plain slice. -/
theorem Sm.sl {w : World} {lo e : Nat} {v : Value} {n : Nat} {xs : List Value} (h : Sm w lo e 1 v n xs) : Sl w v xs := by
  obtain ⟨ao, cap, rfl, h1, h2, h3, h4, h5⟩ := h
  have hn : xs.length = n := by omega
  refine ⟨ao, cap, by rw [hn], by omega, h2, h4, fun a ha hc => ?_⟩
  obtain ⟨b, o, rfl, q1, q2, -, q3⟩ := h5 a ha
  exact ⟨rfl, q2, fun j hj => q3 j (by omega)⟩

theorem Sm.out {w : World} {lo e m n : Nat} {v : Value} {xs : List Value} (h : Sm w lo e m v n xs) : ∃ ao cap, v = .slice ao n cap ∧ n ≤ cap ∧ cap ≤ 9223372036854775807 ∧
    ∀ j, j < n → ∃ b o, ao = some ⟨b, o, none⟩ ∧ lo ≤ b ∧ b < w.heap.size ∧ ∀ i, i < n * m → w.cell? ⟨b, o + i, none⟩ = xs[i]? := by
  obtain ⟨ao, cap, rfl, h1, h2, h3, h4, h5⟩ := h
  refine ⟨ao, cap, rfl, h1, h2, fun j hj => ?_⟩
  cases ao with
  | none => have := h4 rfl; omega
  | some a =>
    obtain ⟨b, o, rfl, q1, q2, -, q⟩ := h5 a rfl
    exact ⟨b, o, rfl, q1, q2, q⟩

/-- What the call owns, kept by what changes but other blocks. -/
theorem own_frS {w w' : World} {base e sz : Nat} {v : Value} {n : Nat} {xs : List Value} {S : List Nat} (h : w.ownsRow base e sz v n xs) (hf : Fr S w w') (hv : ∀ k, v.ownBlock = some k → k ∉ S) : w'.ownsRow base e sz v n xs := by
  refine ⟨h.1, ?_⟩
  rcases h.2 with hn | ⟨g, cap, cur, rfl, hb, hgg, rest⟩
  · exact .inl hn
  · refine .inr ⟨g, cap, cur, rfl, hb, ?_, rest⟩
    rw [hf.block g (Array.getElem?_eq_some_iff.1 hgg).1 (hv g rfl)]
    exact hgg

theorem own_outS {w : World} {base e sz : Nat} {v : Value} {n : Nat} {xs : List Value} (h : w.ownsRow base e sz v n xs) : ∃ ao cap, v = .slice ao n cap ∧ n ≤ cap ∧ cap ≤ 9223372036854775807 := by
  rcases h.2 with ⟨rfl, rfl⟩ | ⟨g, cap, cur, rfl, hb, hg, hnc, hcm, _⟩
  · exact ⟨none, 0, rfl, by simp, by simp⟩
  · exact ⟨_, cap, rfl, hnc, by unfold maxLen at hcm; omega⟩

theorem own_ltS {w : World} {base e sz : Nat} {v : Value} {n : Nat} {xs : List Value} (h : w.ownsRow base e sz v n xs) (k : Nat) (hk : v.ownBlock = some k) : base ≤ k ∧ k < w.heap.size := by
  rcases h.2 with ⟨rfl, rfl⟩ | ⟨g, cap, cur, rfl, hb, hg, _⟩
  · simp [Value.ownBlock] at hk
  · simp [Value.ownBlock] at hk
    subst hk
    exact ⟨hb, (Array.getElem?_eq_some_iff.1 hg).1⟩
/-- Blocks below the base may change. -/
theorem own_frB {w w' : World} {base e sz : Nat} {v : Value} {n : Nat} {xs : List Value} {S : List Nat} (h : w.ownsRow base e sz v n xs) (hf : Fr S w w') (hS : ∀ i ∈ S, i < base) : w'.ownsRow base e sz v n xs :=
  own_frS h hf fun k hk hm => by have := (own_ltS h k hk).1; have := hS k hm; omega

/-- The facts on a slice type of structs of m cells. -/
structure SlTyM (P : Program) (t e : TypeId) (z : Value) (m bytes : Nat) : Prop where
  under : P.underlying t = some (.slice e)
  info : ∃ i, P.info? e = some i ∧ i.zero = some z ∧ i.size = m ∧ i.bytes = bytes
  cells : z.cells.size = m
  pos : 0 < m

/-- 'append(v, u)': one struct more behind what the call owns. -/
theorem wpList_append_struct {P : Program} {t e : TypeId} {z : Value} {m bytes : Nat} (T : SlTyM P t e z m bytes) {w : World} {ops : Array Oper} {rest : List Oper} {o : Oper} {a : Act} {Q : Exit → Act → World → Prop} (hgd : o.guard = none) (s x : Operand)
    (ho : o.op = .call { callee := .builtin .append, args := #[s, x], argTypes := #[t, t] })
    (base : Nat) (v : Value) (n : Nat) (xs : List Value) (hs : a.eval s = v) (hown : w.ownsRow base e m v n xs)
    (g : Nat) (us : List Value) (hx : a.eval x = .slice (some ⟨g, 0, none⟩) 1 1) (hg : w.heap[g]? = some (.cells us.toArray e)) (hul : us.length = m) (h1 : us.all (·.oneCell') = true)
    (hm : n + 1 ≤ 100000000) (hby : bytes ≤ 1000) (hbase : base ≤ w.heap.size)
    (h : ∀ v' w', w'.ownsRow base e m v' (n + 1) (xs ++ us) → w.grownBy w' v.ownBlock → wpList P ops Q rest (a.put o.dst v') w') : wpList P ops Q (o :: rest) a w := by
  obtain ⟨i, hi, hz, hsz, hb⟩ := T.info
  have hle : (n + 1) * bytes ≤ 100000000 * 1000 := Nat.mul_le_mul hm hby
  refine wpList_append_own w hgd s x t ho base e i z m bytes T.under hi hz hsz hb T.cells T.pos v n xs hs hown ⟨g, 0, none⟩ 1 1 us hx (by omega) ?_ ?_ (by unfold maxLen; omega) (by omega) hbase (fun v' w' q1 q2 _ => h v' w' q1 q2)
  · intro j u hu
    have hadd : (⟨g, 0, none⟩ : Addr).add j = ⟨g, j, none⟩ := by unfold Addr.add; split <;> simp_all
    rw [hadd, Go.Joins.cell_of_block hg]
    simpa using hu
  · intro u hu
    exact List.all_eq_true.1 h1 u hu
end Go.Proofs.Ythdfjbliafdchaa
/- Contract: the reader's sums. No condition but that lengths fit. -/
namespace Go.Proofs.Ythdfjbliafdchaa
open Go.RowKit

theorem bits_b (c : Cur) (n : Int) : (c.bits n).2.b = c.b := by
  unfold Cur.bits Cur.fail
  split
  · rfl
  · split <;> rfl
theorem told_b (c : Cur) (n : Int) : (c.told n).2.b = c.b := by
  unfold Cur.told
  split
  · rfl
  · split
    · rfl
    · split
      · split
        · exact bits_b _ n
        · exact bits_b _ n
      · rfl
theorem bits_len (c : Cur) (n : Int) : (c.bits n).1.length ≤ n.toNat := by
  unfold Cur.bits
  split
  · simp
  · split
    · simp
    · simp [unpack]
theorem told_len (c : Cur) (n : Int) : (c.told n).1.length ≤ n.toNat := by
  unfold Cur.told
  split
  · simp
  · split
    · simp
    · split
      · split
        · simp
        · exact bits_len _ n
      · simp

theorem two_lt {p cp b : Nat} (h : p < b ∧ cp < b) : ∀ i ∈ [p, cp], i < b := by simp; exact h
theorem RdAt.qlt {w : World} {p cp : Nat} {q : Option Nat} {s : Rs} {d : DV} (h : RdAt w p cp q s d) : ∀ k, q = some k → k < w.heap.size := h.ql
/-- What a call's own row grows by leaves the reader alone. -/
theorem RdAt.grownB {w w' : World} {p cp : Nat} {q : Option Nat} {s : Rs} {d : DV} {base e m n : Nat} {v : Value} {xs : List Value} {w0 : World} (h : RdAt w p cp q s d) (hg : w.grownBy w' v.ownBlock) (own : w0.ownsRow base e m v n xs) (h1 : p < base) (h2 : cp < base) (h3 : ∀ k, q = some k → k < base) : RdAt w' p cp q s d := by
  have hb : ∀ k, v.ownBlock = some k → base ≤ k := fun k hk => (own_ltS own k hk).1
  have F : Fr v.ownBlock.toList w w' := (Fr.refl _ _).grown hg (fun k hk => .inl (by rw [hk]; simp))
  refine h.fr F ?_ ?_ ?_
  · intro hm; have := hb p (by simpa using hm); omega
  · intro hm; have := hb cp (by simpa using hm); omega
  · intro k hk hm; have := hb k (by simpa using hm); have := h3 k hk; omega

def ckV (l : List Ck) : List Value := l.flatMap fun c => [.bool c.has, .int .u32 c.sum.toNat]
theorem ckV_append (a b : List Ck) : ckV (a ++ b) = ckV a ++ ckV b := by simp [ckV]

def sumsL : List Bool → Rs → List Ck → List Ck × Rs
  | [], s, out => (out, s.ok)
  | h :: t, s, out =>
    if (if h then (s.num 4).2 else s).ok.k ≠ 0 then ([], (if h then (s.num 4).2 else s).ok)
    else sumsL t (if h then (s.num 4).2 else s).ok (out ++ [⟨h, UInt32.ofNat (if h then (s.num 4).1 else 0)⟩])
theorem sumsL_false (t : List Bool) (s : Rs) (out : List Ck) : sumsL (false :: t) s out = if s.ok.k ≠ 0 then ([], s.ok) else sumsL t s.ok (out ++ [⟨false, 0⟩]) := rfl
theorem sumsL_true (t : List Bool) (s : Rs) (out : List Ck) : sumsL (true :: t) s out = if (s.num 4).2.ok.k ≠ 0 then ([], (s.num 4).2.ok) else sumsL t (s.num 4).2.ok (out ++ [⟨true, UInt32.ofNat (s.num 4).1⟩]) := rfl
def Rs.told (s : Rs) (n : Int) : List Bool × Rs := ((s.c.told n).1, { s with c := (s.c.told n).2 })
def Rs.sums (s : Rs) (n : Nat) : List Ck × Rs := sumsL (s.told n).1 (s.told n).2 []

theorem info_ck : (Try.prog.info? 45).map (fun i => (i.zero, i.size, i.bytes)) = some (some (.agg #[.bool false, .int .u32 0]), 2, 8) := by kernel_rfl
theorem sty_ck : SlTyM Try.prog 31 45 (.agg #[.bool false, .int .u32 0]) 2 8 := ⟨Try.underlying31, by obtain ⟨i, h⟩ := info_parts info_ck; exact ⟨i, h⟩, rfl, by decide⟩

def SumsR (w : World) (p cp : Nat) (q : Option Nat) (r : List Ck × Rs) (d : DV) (e : Ending) (w' : World) : Prop :=
  (∃ v, e = .returned v ∧ Sm w' w.heap.size 45 2 v r.1.length (ckV r.1)) ∧ RdAt w' p cp q r.2 d ∧ Fr [p, cp] w w'

theorem num4_lt (s : Rs) : (s.num 4).1 < 4294967296 := by
  have h1 : (s.c.take 4).1.length ≤ 4 := by unfold Cur.take; split <;> simp; omega
  have h2 := leNat_lt (s.c.take 4).1
  show (s.c.num 4).1 < 4294967296
  have e : (s.c.num 4).1 = leNat (s.c.take 4).1 := rfl
  rw [e]
  have : 256 ^ (s.c.take 4).1.length ≤ 256 ^ 4 := Nat.pow_le_pow_right (by omega) h1
  omega

set_option maxRecDepth 100000 in
set_option maxHeartbeats 2000000 in
theorem sums_big (w : World) (p cp : Nat) (q : Option Nat) (s : Rs) (d : DV) (n : Nat) (h : RdAt w p cp q s d) (hb : s.c.b.length ≤ 10000000) (hn : n ≤ 70000000) :
    Calls Try.prog 62 #[.pointer (some ⟨p, 0, none⟩), .int .i64 (n : Int)] w (SumsR w p cp q (s.sums n) d) := by
  obtain ⟨c0, -⟩ := cells9 h.blk
  have HR0 := Lib.hid h
  have HB := Lib.hid (show s.c.b.length ≤ 140737488355328 / 16 by omega)
  have HTL := Lib.hid (show (s.told n).1.length ≤ n from Nat.le_trans (told_len s.c n) (by simp))
  have HTB := Lib.hid (show (s.told n).2.c.b.length ≤ 10000000 by rw [show (s.told n).2.c.b = s.c.b from told_b s.c n]; exact hb)
  have HN := Lib.hid hn
  have HS := Lib.hid (show s.sums n = sumsL (s.told n).1 (s.told n).2 [] from rfl)
  have HT1 := Lib.hid (show (s.c.told n).1 = (s.told n).1 from rfl)
  have HT2 := Lib.hid (show ({ s with c := (s.c.told n).2 } : Rs) = (s.told n).2 from rfl)
  have HLT := Lib.hid (And.intro h.lt h.cur.lt)
  have HLQ := Lib.hid h.qlt
  clear h hb hn
  generalize (s.told n).1 = hs at *
  generalize (s.told n).2 = t at *
  obtain ⟨N, hN⟩ : ∃ N, hs.length = N := ⟨_, rfl⟩
  rw [hN] at HTL
  have HNN := Lib.hid hN
  go_enter Try.func62, Try.ntmps62
  go_wp2_with (go_at_call 77; refine (told_any _ cp q s.c n (by have := HN.out; omega) HR0.out.cur HB.out).mono ?_; intro e w1 h1; unfold TakeBits at h1; rw [HT1.out, hN] at h1; obtain ⟨bv1, rfl, own1, hC, F1⟩ := h1; have R1 := HR0.out.cur' F1 hC; rw [HT2.out] at R1; obtain ⟨bao, bcap, rfl, -⟩ := own_outS own1)
  have HSl := Lib.hid (Sm.of_own w.heap.size own1 (Nat.le_refl _))
  have hNM : (N : Int) ≤ 70000000 := by have := HTL.out; have := HN.out; omega
  have HF1 := Lib.hid F1
  clear own1 hC hN
  go_loopw [5, 16] (fun out i wr => ∃ (k : Nat) (L : List Ck) (u : Rs), k ≤ N ∧ i = .int .i64 ((k : Int)) ∧ L.length = k ∧ sumsL hs t [] = sumsL (hs.drop k) u L ∧ u.c.b.length ≤ 10000000 ∧ wr.ownsRow w1.heap.size 45 2 out k (ckV L) ∧ RdAt wr p cp q u d ∧ Fr [p, cp] w1 wr) (fun _ i _ => N - (intOf i).toNat)
  case atStart => exact ⟨0, [], t, Nat.zero_le _, rfl, rfl, by simp, HTB.out, World.ownsRow_nil _ _ _ _, R1, Fr.refl _ _⟩
  case round =>
    obtain ⟨k, L, u, hk, rfl, hLk, hsum, hub, own, RU, F⟩ := hrel
    obtain ⟨oao, ocap, rfl, -⟩ := own_outS own
    have HOwn := Lib.hid own
    have HU := Lib.hid RU
    have HUB := Lib.hid hub
    have HLK := Lib.hid hLk
    have HF := Lib.hid F
    have hplt : p < w1.heap.size ∧ cp < w1.heap.size := by have := HLT.out; have := HF1.out.size; omega
    have HW1 := Lib.hid hplt
    clear own RU hub hLk F hplt
    by_cases hlt : k < N
    · obtain ⟨x, hx⟩ := some_get hs k (by rw [HNN.out]; exact hlt)
      have hltI : (k : Int) < (N : Int) := by omega
      have HD := Lib.hid (show hs.drop k = x :: hs.drop (k + 1) by rw [List.drop_eq_getElem_cons (by rw [HNN.out]; exact hlt), (List.getElem?_eq_some_iff.1 hx).2])
      rw [HD.out] at hsum
      have HSum := Lib.hid hsum
      clear hsum
      obtain ⟨b1, o1, rfl, hb1, hcl⟩ : ∃ b o, bao = some ⟨b, o, none⟩ ∧ (w.heap.size ≤ b ∧ b < w1.heap.size) ∧ w1.cell? ⟨b, o + k, none⟩ = some (.bool x) := by
        obtain ⟨ao', cap', he, -, -, ho⟩ := HSl.out.out
        injection he with e1 e2 e3
        obtain ⟨b, o, hbo, hlo, hb, hc⟩ := ho k hlt
        exact ⟨b, o, e1.trans hbo, ⟨hlo, hb⟩, (hc k (by omega)).trans (tv_get _ _ _ hx)⟩
      have f0 : wr.cell? ⟨b1, o1 + k, none⟩ = some (.bool x) := (HF.out.cell (p := ⟨b1, o1 + k, none⟩) hb1.2 (by simp; have := HLT.out; omega)).trans hcl
      clear hcl hx
      obtain ⟨wA, hwA⟩ : ∃ wA, wA = wr.alloc (.cells #[.bool x, .int .u32 0] 45) := ⟨_, rfl⟩
      obtain ⟨g, hg⟩ : ∃ g, wr.heap.size = g := ⟨_, rfl⟩
      have hgA : wA.heap[g]? = some (.cells #[.bool x, .int .u32 0] 45 (0, 0)) := by rw [hwA, ← hg]; exact heap_alloc_new wr _
      have FA : Fr [] wr wA := hwA ▸ (Fr.refl _ _).alloc _
      have RA := HU.out.fr0 FA
      have HGp := Lib.hid (show g ≠ p ∧ g ≠ cp ∧ g < wA.heap.size ∧ w1.heap.size ≤ g by
        have := HW1.out; have := HF.out.size
        have := (Array.getElem?_eq_some_iff.1 hgA).1
        omega)
      have HF0 := Lib.hid (F1.two2 (p := p))
      have HQ := Lib.hid (show ∀ k, q = some k → k < w1.heap.size from fun j hj => by have := HLQ.out j hj; have := HF1.out.size; omega)
      have HQG := Lib.hid (show ∀ k, q = some k → k ≠ g from fun j hj e => by have := HQ.out j hj; have := HGp.out; omega)
      cases x with
      | false =>
        by_cases hz : u.ok.k = 0
        · have HO := Lib.hid (Rs.ok_of_zero hz)
          have HK := Lib.hid (show (u.ok.k == 0) = true by rw [hz]; rfl)
          have HE := Lib.hid (show sumsL (false :: hs.drop (k + 1)) u L = sumsL (hs.drop (k + 1)) u (L ++ [⟨false, 0⟩]) by rw [sumsL_false, if_neg (by simp [hz]), Rs.ok_of_zero hz])
          clear hz
          go_wp2_with (first
            | (at_builtin; refine wpList_append_struct sty_ck rfl _ _ (by rfl) w1.heap.size _ _ _ (by rfl) own4 w4.heap.size [.bool false, .int .u32 0] (by rfl) hgS rfl rfl (by omega) (by decide) sz4 ?_; intro v2 w6 own6 g6; obtain ⟨vao2, vcap2, rfl, -⟩ := own_outS own6; have F06 : Fr [p, cp] w1 w6 := (F04.alloc _).grown g6 (fun t ht => .inr (own_ltS own4 t ht).1); have R6 := (R4.fr0 ((Fr.refl _ _).alloc _)).grownB g6 own4 HW1.out.1 HW1.out.2 HQ.out)
            | (go_at_call 31; rw [← hwA]; refine (ok_any _ p cp q u d RA).mono ?_; rw [HK.out, HO.out]; rintro e w4 ⟨rfl, R4, F4⟩; have hg4 : w4.heap[g]? = some (.cells #[.bool false, .int .u32 0] 45 (0, 0)) := (F4.block g HGp.out.2.2.1 (fun hm => HGp.out.1 (List.mem_singleton.1 hm))).trans hgA; have e0 : w4.cell? ⟨g, 0, none⟩ = some (.bool false) := (by simp [Go.Joins.cell_of_block hg4]); have e1 : w4.cell? ⟨g, 1, none⟩ = some (.int .u32 0) := (by simp [Go.Joins.cell_of_block hg4]); have F04 : Fr [p, cp] w1 w4 := (HF.out.trans0 FA).tr2 F4.two1; have own4 := own_frB HOwn.out ((Fr.tr2 (p := p) (cp := cp) (FA.mono (by simp)) F4.two1).alloc (.cells #[.bool false, .int .u32 0] 45)) (two_lt HW1.out); have hgS := heap_alloc_new w4 (.cells #[.bool false, .int .u32 0] 45); have sz4 : w1.heap.size ≤ (w4.alloc (.cells #[.bool false, .int .u32 0] 45)).heap.size := (by rw [World.size_alloc]; have := F04.size; omega)))
          go_roundw
          case rel => exact ⟨k + 1, L ++ [⟨false, 0⟩], u, by omega, by go_num, by rw [List.length_append, HLK.out]; rfl, by rw [HSum.out, HE.out], HUB.out, by rw [ckV_append]; exact own6, R6, F06⟩
          case measure => simp [intOf]; omega
        · have HK := Lib.hid (show (u.ok.k == 0) = false by rw [beq_eq_false_iff_ne]; exact hz)
          have HE := Lib.hid (show sumsL (false :: hs.drop (k + 1)) u L = ([], u.ok) by rw [sumsL_false, if_pos hz])
          clear hz
          go_wp2_with (first
            | (go_at_call 31; rw [← hwA]; refine (ok_any _ p cp q u d RA).mono ?_; rw [HK.out]; rintro e w4 ⟨rfl, R4, F4⟩; have hg4 : w4.heap[g]? = some (.cells #[.bool false, .int .u32 0] 45 (0, 0)) := (F4.block g HGp.out.2.2.1 (fun hm => HGp.out.1 (List.mem_singleton.1 hm))).trans hgA; have e0 : w4.cell? ⟨g, 0, none⟩ = some (.bool false) := (by simp [Go.Joins.cell_of_block hg4]); have e1 : w4.cell? ⟨g, 1, none⟩ = some (.int .u32 0) := (by simp [Go.Joins.cell_of_block hg4]); have F04 : Fr [p, cp] w1 w4 := (HF.out.trans0 FA).tr2 F4.two1; have own4 := own_frB HOwn.out ((Fr.tr2 (p := p) (cp := cp) (FA.mono (by simp)) F4.two1).alloc (.cells #[.bool false, .int .u32 0] 45)) (two_lt HW1.out); have hgS := heap_alloc_new w4 (.cells #[.bool false, .int .u32 0] 45); have sz4 : w1.heap.size ≤ (w4.alloc (.cells #[.bool false, .int .u32 0] 45)).heap.size := (by rw [World.size_alloc]; have := F04.size; omega)))
          go_ret
          exact ⟨⟨_, by rfl, by rw [HS.out, HSum.out, HE.out]; exact Sm.nil _ _ _ _⟩, by rw [HS.out, HSum.out, HE.out]; exact R4, HF0.out.tr2 F04⟩
      | true =>
        have a0 : (wr.alloc (.cells #[.bool true, .int .u32 0] 45)).cell? ⟨p, 0, none⟩ = some (.pointer (some ⟨cp, 0, none⟩)) := hwA ▸ (cells9 RA.blk).1
        obtain ⟨v, hv⟩ : ∃ v, (u.num 4).1 = v := ⟨_, rfl⟩
        obtain ⟨t4, ht4⟩ : ∃ t4, (u.num 4).2 = t4 := ⟨_, rfl⟩
        have hw4 : IntKind.u32.wrap (v : Int) = (v : Int) := IntWalk.u32_in _ (by have := num4_lt u; omega)
        have HV := Lib.hid (show (u.c.num 4).1 = v from hv)
        have HU4 := Lib.hid (show ({ u with c := (u.c.num 4).2 } : Rs) = t4 from ht4)
        have HUB2 := Lib.hid (show u.c.b.length ≤ 140737488355328 by have := HUB.out; omega)
        have HUB4 := Lib.hid (show t4.c.b.length ≤ 10000000 by rw [← ht4]; show (u.c.num 4).2.b.length ≤ 10000000; rw [num_b]; exact HUB.out)
        have HST := Lib.hid (sumsL_true (hs.drop (k + 1)) u L)
        rw [hv, ht4] at HST
        have HVN := Lib.hid (show ((UInt32.ofNat v).toNat : Int) = (v : Int) by have := num4_lt u; rw [hv] at this; simp; omega)
        clear hv ht4
        by_cases hz : t4.ok.k = 0
        · have HO := Lib.hid (Rs.ok_of_zero hz)
          have HK := Lib.hid (show (t4.ok.k == 0) = true by rw [hz]; rfl)
          have HE := Lib.hid (show sumsL (true :: hs.drop (k + 1)) u L = sumsL (hs.drop (k + 1)) t4 (L ++ [⟨true, UInt32.ofNat v⟩]) by rw [HST.out, if_neg (by simp [hz]), Rs.ok_of_zero hz])
          clear hz
          go_wp2_with (first
            | (at_builtin; refine wpList_append_struct sty_ck rfl _ _ (by rfl) w1.heap.size _ _ _ (by rfl) own4 w4.heap.size [.bool true, .int .u32 (v : Int)] (by rfl) hgS rfl rfl (by omega) (by decide) sz4 ?_; intro v2 w6 own6 g6; obtain ⟨vao2, vcap2, rfl, -⟩ := own_outS own6; have F06 : Fr [p, cp] w1 w6 := (F04.alloc _).grown g6 (fun t ht => .inr (own_ltS own4 t ht).1); have R6 := (R4.fr0 ((Fr.refl _ _).alloc _)).grownB g6 own4 HW1.out.1 HW1.out.2 HQ.out)
            | (go_at_call 31;  have R3 := R2.fr ((Fr.refl [g] w2).setCell (p := ⟨g, 1, none⟩) (by simp) (.int .u32 (v : Int))) (by simp; exact fun e => HGp.out.1 e.symm) (by simp; exact fun e => HGp.out.2.1 e.symm) (by simpa using HQG.out); refine (ok_any _ p cp q t4 d R3).mono ?_; rw [HK.out, HO.out]; rintro e w4 ⟨rfl, R4, F4⟩; have hg4 : w4.heap[g]? = some (.cells #[.bool true, .int .u32 (v : Int)] 45 (0, 0)) := (F4.block g (by have := HGp.out; have := F2.size; simp; omega) (fun hm => HGp.out.1 (List.mem_singleton.1 hm))).trans (Go.Joins.block_setCell hg2 _); have e0 : w4.cell? ⟨g, 0, none⟩ = some (.bool true) := (by simp [Go.Joins.cell_of_block hg4]); have e1 : w4.cell? ⟨g, 1, none⟩ = some (.int .u32 (v : Int)) := (by simp [Go.Joins.cell_of_block hg4]); have F04 : Fr [p, cp] w1 w4 := (((HF.out.trans0 FA).tr2 F2.two2).setCell (p := ⟨g, 1, none⟩) (.inr HGp.out.2.2.2) _).tr2 F4.two1; have own4 := own_frB HOwn.out ((Fr.tr2 (p := p) (cp := cp) ((Fr.tr2 (p := p) (cp := cp) (FA.mono (by simp)) F2.two2).setCell (p := ⟨g, 1, none⟩) (.inr (by show wr.heap.size ≤ g; omega)) _) F4.two1).alloc (.cells #[.bool true, .int .u32 (v : Int)] 45)) (two_lt HW1.out); have hgS := heap_alloc_new w4 (.cells #[.bool true, .int .u32 (v : Int)] 45); have sz4 : w1.heap.size ≤ (w4.alloc (.cells #[.bool true, .int .u32 (v : Int)] 45)).heap.size := (by rw [World.size_alloc]; have := F04.size; omega))
            | (go_at_call 23; rw [← hwA]; refine (num_any _ cp q u.c 4 RA.cur HUB2.out).mono ?_; rw [HV.out]; rintro e w2 ⟨rfl, hC2, F2⟩; have R2 := RA.cur' F2 hC2; rw [HU4.out] at R2; have hg2 : w2.heap[g]? = some (.cells #[.bool true, .int .u32 0] 45 (0, 0)) := (F2.block g HGp.out.2.2.1 (fun hm => HGp.out.2.1 (List.mem_singleton.1 hm))).trans hgA; have i1 : w2.cell? ⟨g, 1, none⟩ = some (.int .u32 0) := (by simp [Go.Joins.cell_of_block hg2]); have iz := Go.Joins.unfrozen_of_block hg2 1))
          go_roundw
          case rel => exact ⟨k + 1, L ++ [⟨true, UInt32.ofNat v⟩], t4, by omega, by go_num, by rw [List.length_append, HLK.out]; rfl, by rw [HSum.out, HE.out], HUB4.out, by rw [ckV_append]; simp only [ckV, List.flatMap_cons, List.flatMap_nil, List.append_nil, HVN.out]; exact own6, R6, F06⟩
          case measure => simp [intOf]; omega
        · have HK := Lib.hid (show (t4.ok.k == 0) = false by rw [beq_eq_false_iff_ne]; exact hz)
          have HE := Lib.hid (show sumsL (true :: hs.drop (k + 1)) u L = ([], t4.ok) by rw [HST.out, if_pos hz])
          clear hz
          go_wp2_with (first
            | (go_at_call 31;  have R3 := R2.fr ((Fr.refl [g] w2).setCell (p := ⟨g, 1, none⟩) (by simp) (.int .u32 (v : Int))) (by simp; exact fun e => HGp.out.1 e.symm) (by simp; exact fun e => HGp.out.2.1 e.symm) (by simpa using HQG.out); refine (ok_any _ p cp q t4 d R3).mono ?_; rw [HK.out]; rintro e w4 ⟨rfl, R4, F4⟩; have hg4 : w4.heap[g]? = some (.cells #[.bool true, .int .u32 (v : Int)] 45 (0, 0)) := (F4.block g (by have := HGp.out; have := F2.size; simp; omega) (fun hm => HGp.out.1 (List.mem_singleton.1 hm))).trans (Go.Joins.block_setCell hg2 _); have e0 : w4.cell? ⟨g, 0, none⟩ = some (.bool true) := (by simp [Go.Joins.cell_of_block hg4]); have e1 : w4.cell? ⟨g, 1, none⟩ = some (.int .u32 (v : Int)) := (by simp [Go.Joins.cell_of_block hg4]); have F04 : Fr [p, cp] w1 w4 := (((HF.out.trans0 FA).tr2 F2.two2).setCell (p := ⟨g, 1, none⟩) (.inr HGp.out.2.2.2) _).tr2 F4.two1; have own4 := own_frB HOwn.out ((Fr.tr2 (p := p) (cp := cp) ((Fr.tr2 (p := p) (cp := cp) (FA.mono (by simp)) F2.two2).setCell (p := ⟨g, 1, none⟩) (.inr (by show wr.heap.size ≤ g; omega)) _) F4.two1).alloc (.cells #[.bool true, .int .u32 (v : Int)] 45)) (two_lt HW1.out); have hgS := heap_alloc_new w4 (.cells #[.bool true, .int .u32 (v : Int)] 45); have sz4 : w1.heap.size ≤ (w4.alloc (.cells #[.bool true, .int .u32 (v : Int)] 45)).heap.size := (by rw [World.size_alloc]; have := F04.size; omega))
            | (go_at_call 23; rw [← hwA]; refine (num_any _ cp q u.c 4 RA.cur HUB2.out).mono ?_; rw [HV.out]; rintro e w2 ⟨rfl, hC2, F2⟩; have R2 := RA.cur' F2 hC2; rw [HU4.out] at R2; have hg2 : w2.heap[g]? = some (.cells #[.bool true, .int .u32 0] 45 (0, 0)) := (F2.block g HGp.out.2.2.1 (fun hm => HGp.out.2.1 (List.mem_singleton.1 hm))).trans hgA; have i1 : w2.cell? ⟨g, 1, none⟩ = some (.int .u32 0) := (by simp [Go.Joins.cell_of_block hg2]); have iz := Go.Joins.unfrozen_of_block hg2 1))
          go_ret
          exact ⟨⟨_, by rfl, by rw [HS.out, HSum.out, HE.out]; exact Sm.nil _ _ _ _⟩, by rw [HS.out, HSum.out, HE.out]; exact R4, HF0.out.tr2 F04⟩
    · have hke : k = N := by omega
      have HE := Lib.hid (show sumsL (hs.drop k) u L = (L, u.ok) by rw [List.drop_of_length_le (by rw [HNN.out]; omega)]; rfl)
      have HSum := Lib.hid hsum
      have hltI : (N : Int) ≤ (k : Int) := by omega
      clear hsum
      go_wp2_with (go_at_call 31; refine (ok_any _ p cp q u d HU.out).mono ?_; rintro e w4 ⟨rfl, R4, F4⟩)
      go_ret
      refine ⟨⟨_, by rfl, ?_⟩, by rw [HS.out, HSum.out, HE.out]; exact R4, F1.two2.tr2 (HF.out.tr2 F4.two1)⟩
      rw [HS.out, HSum.out, HE.out]
      show Sm w4 w.heap.size 45 2 (Value.slice oao N ocap) L.length (ckV L)
      have h6 := own_frB HOwn.out F4 (by simp; exact HW1.out.1)
      have h7 := Sm.of_own w.heap.size h6 F1.size
      rw [HLK.out]
      subst hke
      exact h7
theorem sums_any (w : World) (p cp : Nat) (q : Option Nat) (s : Rs) (d : DV) (n : Nat) (h : RdAt w p cp q s d) (hb : s.c.b.length ≤ 10000000) (hn : n ≤ 10000000) :
    Calls Try.prog 62 #[.pointer (some ⟨p, 0, none⟩), .int .i64 (n : Int)] w (SumsR w p cp q (s.sums n) d) := sums_big w p cp q s d n h hb (by omega)
end Go.Proofs.Ythdfjbliafdchaa
/- The reader's fields are written; what follows an 'and'. No condition. -/
namespace Go.Proofs.Ythdfjbliafdchaa
open Go.RowKit

theorem RdAt.put {w : World} {p cp : Nat} {q : Option Nat} {s : Rs} {d d' : DV} (h : RdAt w p cp q s d) (i : Nat) (v : Value)
    (hb : (w.setCell ⟨p, i, none⟩ v).heap[p]? = some (.cells #[.pointer (some ⟨cp, 0, none⟩), .int .i64 s.k, d'.pk, d'.pl, d'.ps, d'.cs, d'.fs, d'.ss, d'.es] 72 (0, 0))) : RdAt (w.setCell ⟨p, i, none⟩ v) p cp q s d' :=
  ⟨hb, h.cur.fr ((Fr.refl [p] w).setCell (by simp) _) (by simp; exact fun e => h.ne e.symm) (by rintro k hk e; simp at e; subst e; exact h.nq hk), h.ne, h.nq, fun k hk => by rw [World.size_setCell]; exact h.ql k hk⟩
theorem RdAt.put2 {w : World} {p cp : Nat} {q : Option Nat} {s : Rs} {d : DV} (h : RdAt w p cp q s d) (v : Value) : RdAt (w.setCell ⟨p, 2, none⟩ v) p cp q s { d with pk := v } := h.put 2 v (Go.Joins.block_setCell h.blk _)
theorem RdAt.put3 {w : World} {p cp : Nat} {q : Option Nat} {s : Rs} {d : DV} (h : RdAt w p cp q s d) (v : Value) : RdAt (w.setCell ⟨p, 3, none⟩ v) p cp q s { d with pl := v } := h.put 3 v (Go.Joins.block_setCell h.blk _)
theorem RdAt.put4 {w : World} {p cp : Nat} {q : Option Nat} {s : Rs} {d : DV} (h : RdAt w p cp q s d) (v : Value) : RdAt (w.setCell ⟨p, 4, none⟩ v) p cp q s { d with ps := v } := h.put 4 v (Go.Joins.block_setCell h.blk _)
theorem RdAt.put5 {w : World} {p cp : Nat} {q : Option Nat} {s : Rs} {d : DV} (h : RdAt w p cp q s d) (v : Value) : RdAt (w.setCell ⟨p, 5, none⟩ v) p cp q s { d with cs := v } := h.put 5 v (Go.Joins.block_setCell h.blk _)
theorem RdAt.put6 {w : World} {p cp : Nat} {q : Option Nat} {s : Rs} {d : DV} (h : RdAt w p cp q s d) (v : Value) : RdAt (w.setCell ⟨p, 6, none⟩ v) p cp q s { d with fs := v } := h.put 6 v (Go.Joins.block_setCell h.blk _)
theorem RdAt.put7 {w : World} {p cp : Nat} {q : Option Nat} {s : Rs} {d : DV} (h : RdAt w p cp q s d) (v : Value) : RdAt (w.setCell ⟨p, 7, none⟩ v) p cp q s { d with ss := v } := h.put 7 v (Go.Joins.block_setCell h.blk _)
theorem RdAt.put8 {w : World} {p cp : Nat} {q : Option Nat} {s : Rs} {d : DV} (h : RdAt w p cp q s d) (v : Value) : RdAt (w.setCell ⟨p, 8, none⟩ v) p cp q s { d with es := v } := h.put 8 v (Go.Joins.block_setCell h.blk _)

/-- 'c and nothing is wrong': what it says, and the reader behind it. -/
def Rs.at (s : Rs) (c : Bool) : Bool × Rs := if c then (s.ok.k == 0, s.ok) else (false, s)
theorem Rs.at_false (s : Rs) : s.at false = (false, s) := rfl
theorem Rs.at_true (s : Rs) : s.at true = (s.ok.k == 0, s.ok) := rfl
theorem Rs.at_c (s : Rs) (c : Bool) : (s.at c).2.c = s.c := by cases c <;> rfl

theorem lim_ok (s : Rs) (bad : Nat → Rs → Bool) (e : Nat) (he : e ≠ 0) : (s.lim bad e).2.ok = (s.lim bad e).2 := by
  unfold Rs.lim
  split
  · exact Rs.ok_ok _
  · split
    · exact Rs.fail_ok he
    · exact Rs.ok_ok _
theorem lim_b (s : Rs) (bad : Nat → Rs → Bool) (e : Nat) : (s.lim bad e).2.c.b = s.c.b := by
  have h : s.number.2.c.b = s.c.b := number_b s.c
  unfold Rs.lim
  split
  · exact h
  · split
    · exact h
    · exact h
theorem size_b (s : Rs) : s.size.2.c.b = s.c.b := lim_b _ _ _
theorem things_b (s : Rs) : s.things.2.c.b = s.c.b := lim_b _ _ _
theorem below_b (s : Rs) (m : Nat) : (s.below m).2.c.b = s.c.b := lim_b _ _ _
theorem byte_b (s : Rs) : s.byte.2.c.b = s.c.b := num_b s.c 1
theorem size_le (s : Rs) : s.size.1 ≤ 1099511627776 := by
  unfold Rs.size Rs.lim
  split
  · simp
  · split
    · simp
    · rename_i h
      simpa using h
theorem things_le (s : Rs) : s.things.1 ≤ s.c.b.length := by
  have h : s.number.2.ok.c.b = s.c.b := number_b s.c
  unfold Rs.things Rs.lim
  split
  · simp
  · split
    · simp
    · rename_i h2
      have := left_le s.number.2.ok.c
      rw [h] at this
      simp at h2
      omega
theorem below_lt (s : Rs) (m : Nat) (hm : 0 < m) : (s.below m).1 < m := by
  unfold Rs.below Rs.lim
  split
  · exact hm
  · split
    · exact hm
    · rename_i h2
      simpa using h2
theorem sumsL_b : ∀ (hs : List Bool) (s : Rs) (out : List Ck), (sumsL hs s out).2.c.b = s.c.b
  | [], s, out => rfl
  | false :: t, s, out => by
    rw [sumsL_false]
    split
    · rfl
    · rw [sumsL_b t]
      rfl
  | true :: t, s, out => by
    rw [sumsL_true]
    split
    · exact num_b s.c 4
    · rw [sumsL_b t]
      exact num_b s.c 4
theorem sums_b (s : Rs) (n : Nat) : (s.sums n).2.c.b = s.c.b := by
  unfold Rs.sums
  rw [sumsL_b]
  exact told_b s.c n
theorem end_b (s : Rs) (id : Nat) : (s.end_ id).c.b = s.c.b := by
  unfold Rs.end_
  split <;> rfl
theorem things_ok (w : World) (p cp : Nat) (q : Option Nat) (s : Rs) (d : DV) (h : RdAt w p cp q s d) (hb : s.c.b.length ≤ 10000000) :
    Calls Try.prog 58 #[.pointer (some ⟨p, 0, none⟩)] w fun e w' => e = .returned (.int .i64 (s.things.1 : Int)) ∧ RdAt w' p cp q s.things.2 d ∧ Fr [p, cp] w w' := things_any w p cp q s d h hb
theorem size_ok (w : World) (p cp : Nat) (q : Option Nat) (s : Rs) (d : DV) (h : RdAt w p cp q s d) (hb : s.c.b.length ≤ 10000000) :
    Calls Try.prog 61 #[.pointer (some ⟨p, 0, none⟩)] w fun e w' => e = .returned (.int .u64 (s.size.1 : Int)) ∧ RdAt w' p cp q s.size.2 d ∧ Fr [p, cp] w w' := size_any w p cp q s d h hb
theorem below_ok (w : World) (p cp : Nat) (q : Option Nat) (s : Rs) (d : DV) (m : Nat) (hm : m ≤ 10000000) (h : RdAt w p cp q s d) (hb : s.c.b.length ≤ 10000000) :
    Calls Try.prog 79 #[.pointer (some ⟨p, 0, none⟩), .int .i64 (m : Int)] w fun e w' => e = .returned (.int .i64 ((s.below m).1 : Int)) ∧ RdAt w' p cp q (s.below m).2 d ∧ Fr [p, cp] w w' := below_any w p cp q s d m hm h hb
end Go.Proofs.Ythdfjbliafdchaa
/- Contract: the reader's packs. No condition but that lengths fit. -/
namespace Go.Proofs.Ythdfjbliafdchaa
open Go.RowKit

def packsGo : Nat → Nat → Rs → List UInt64 → Bool × List UInt64 × Rs
  | 0, _, s, P => (false, P, s)
  | m + 1, sum, s, P =>
    if (if s.size.2.k = 0 ∧ 1099511627776 < sum + s.size.1 then s.size.2.fail 7 else s.size.2).k ≠ 0 then (true, P, if s.size.2.k = 0 ∧ 1099511627776 < sum + s.size.1 then s.size.2.fail 7 else s.size.2)
    else packsGo m (sum + s.size.1) s.size.2 (P ++ [UInt64.ofNat s.size.1])
def Rs.packsEnd (P : List UInt64) (n id : Nat) (s : Rs) : List Ck × Rs :=
  if (s.at (id == 10)).1 then (((s.at (id == 10)).2.sums n).1, ((s.at (id == 10)).2.sums n).2.byte.2.end_ ((s.at (id == 10)).2.sums n).2.byte.1)
  else (List.replicate P.length ⟨false, 0⟩, (s.at (id == 10)).2.end_ id)
def Rs.packsA (n id place : Nat) (s : Rs) : (Nat × List UInt64 × List Ck) × Rs :=
  if (s.at (id == 9)).1 then
    if (packsGo n 0 (s.at (id == 9)).2 []).1 then ((place, (packsGo n 0 (s.at (id == 9)).2 []).2.1, []), (packsGo n 0 (s.at (id == 9)).2 []).2.2)
    else ((place, (packsGo n 0 (s.at (id == 9)).2 []).2.1, (Rs.packsEnd (packsGo n 0 (s.at (id == 9)).2 []).2.1 n (packsGo n 0 (s.at (id == 9)).2 []).2.2.byte.1 (packsGo n 0 (s.at (id == 9)).2 []).2.2.byte.2).1), (Rs.packsEnd (packsGo n 0 (s.at (id == 9)).2 []).2.1 n (packsGo n 0 (s.at (id == 9)).2 []).2.2.byte.1 (packsGo n 0 (s.at (id == 9)).2 []).2.2.byte.2).2)
  else
    ((place, [], (Rs.packsEnd [] n id (if ((s.at (id == 9)).2.at (decide (0 < n))).1 then ((s.at (id == 9)).2.at (decide (0 < n))).2.fail 5 else ((s.at (id == 9)).2.at (decide (0 < n))).2)).1),
      (Rs.packsEnd [] n id (if ((s.at (id == 9)).2.at (decide (0 < n))).1 then ((s.at (id == 9)).2.at (decide (0 < n))).2.fail 5 else ((s.at (id == 9)).2.at (decide (0 < n))).2)).2)
def Rs.packs (s : Rs) : (Nat × List UInt64 × List Ck) × Rs := Rs.packsA s.size.2.things.1 s.size.2.things.2.byte.1 s.size.1 s.size.2.things.2.byte.2

theorem packsA_true {n id pl : Nat} {s u : Rs} (h : s.at (id == 9) = (true, u)) : Rs.packsA n id pl s = if (packsGo n 0 u []).1 then ((pl, (packsGo n 0 u []).2.1, []), (packsGo n 0 u []).2.2)
    else ((pl, (packsGo n 0 u []).2.1, (Rs.packsEnd (packsGo n 0 u []).2.1 n (packsGo n 0 u []).2.2.byte.1 (packsGo n 0 u []).2.2.byte.2).1), (Rs.packsEnd (packsGo n 0 u []).2.1 n (packsGo n 0 u []).2.2.byte.1 (packsGo n 0 u []).2.2.byte.2).2) := by
  unfold Rs.packsA
  rw [h]
  simp only [if_true]
theorem packsA_false {n id pl : Nat} {s u : Rs} (h : s.at (id == 9) = (false, u)) : Rs.packsA n id pl s =
    ((pl, [], (Rs.packsEnd [] n id (if (u.at (decide (0 < n))).1 then (u.at (decide (0 < n))).2.fail 5 else (u.at (decide (0 < n))).2)).1),
      (Rs.packsEnd [] n id (if (u.at (decide (0 < n))).1 then (u.at (decide (0 < n))).2.fail 5 else (u.at (decide (0 < n))).2)).2) := by
  unfold Rs.packsA
  rw [h]
  simp only [Bool.false_eq_true, if_false]

theorem made_list (z : Array Value) (m : Nat) (hm : z.size = m) (n : Nat) : (madeCells z (n * m)).toList = (List.replicate n z.toList).flatten := by
  subst hm
  have key : ∀ k : Nat, (madeCells z k).toList = (List.range k).map fun i => z[i % z.size]! := fun k => by simp [madeCells]
  have hz : ∀ t : Nat, (List.range z.size).map (fun j => z[(t * z.size + j) % z.size]!) = z.toList := fun t => by
    refine List.ext_getElem? fun i => ?_
    by_cases h : i < z.size
    · have e : (t * z.size + i) % z.size = i := by rw [Nat.add_comm, Nat.add_mul_mod_self_right]; exact Nat.mod_eq_of_lt h
      rw [List.getElem?_map, List.getElem?_range h]
      simp only [Option.map_some, e]
      rw [getElem!_pos z i h]
      simp [h]
    · rw [List.getElem?_eq_none (by simp; omega), List.getElem?_eq_none (by simp; omega)]
  induction n with
  | zero => simp [key]
  | succ n ih =>
    rw [key] at ih ⊢
    rw [Nat.succ_mul, List.range_add, List.map_append, ih, List.map_map, List.replicate_succ', List.flatten_append]
    congr 1
    have := hz n
    simpa [Function.comp_def] using this
theorem made_ck (n : Nat) : (madeCells (Value.cells (.agg #[.bool false, .int .u32 0])) (n * 2)).toList = ckV (List.replicate n ⟨false, 0⟩) := by
  rw [made_list _ 2 rfl n]
  induction n with
  | zero => rfl
  | succ n ih =>
    rw [List.replicate_succ, List.flatten_cons, ih, List.replicate_succ]
    rfl

theorem info_u64 : (Try.prog.info? 29).map (fun i => (i.zero, i.size, i.bytes)) = some (some (.int .u64 0), 1, 8) := by kernel_rfl
theorem sty_u64 : SlTyM Try.prog 30 29 (.int .u64 0) 1 8 := ⟨Try.underlying30, by obtain ⟨i, h⟩ := info_parts info_u64; exact ⟨i, h⟩, rfl, by decide⟩

def PacksR (w : World) (p cp : Nat) (q : Option Nat) (r : (Nat × List UInt64 × List Ck) × Rs) (d : DV) (e : Ending) (w' : World) : Prop :=
  e = .returned (.tuple #[]) ∧ (∃ ps cs, RdAt w' p cp q r.2 { d with pl := .int .u64 (r.1.1 : Int), ps := ps, cs := cs } ∧ Sm w' w.heap.size 29 1 ps r.1.2.1.length (u64v r.1.2.1) ∧ Sm w' w.heap.size 45 2 cs r.1.2.2.length (ckV r.1.2.2)) ∧ Fr [p, cp] w w'

set_option maxRecDepth 100000 in
set_option maxHeartbeats 4000000 in
theorem packs_any (w : World) (p cp : Nat) (q : Option Nat) (s : Rs) (d : DV) (h : RdAt w p cp q s d) (hb : s.c.b.length ≤ 10000000) (hps : d.ps = .slice none 0 0) (hcs : d.cs = .slice none 0 0) :
    Calls Try.prog 51 #[.pointer (some ⟨p, 0, none⟩)] w (PacksR w p cp q s.packs d) := by
  obtain ⟨c0, -, -, c3, -, -, -, -, -, cf⟩ := cells9 h.blk
  have HR0 := Lib.hid h
  have HB := Lib.hid hb
  have HLT := Lib.hid (And.intro h.lt h.cur.lt)
  have HLQ := Lib.hid h.ql
  have HPS := Lib.hid (And.intro hps hcs)
  have HS := Lib.hid (show s.packs = Rs.packsA s.size.2.things.1 s.size.2.things.2.byte.1 s.size.1 s.size.2.things.2.byte.2 from rfl)
  have HA1 := Lib.hid (fun w d (h : RdAt w p cp q s d) => size_ok w p cp q s d h HB.out)
  have HB1 := Lib.hid (show s.size.2.c.b.length ≤ 10000000 by rw [size_b]; exact hb)
  have HA2 := Lib.hid (fun w d (h : RdAt w p cp q s.size.2 d) => things_ok w p cp q s.size.2 d h HB1.out)
  have HB2 := Lib.hid (show s.size.2.things.2.c.b.length ≤ 10000000 by rw [things_b]; exact HB1.out)
  have HA3 := Lib.hid (fun w d (h : RdAt w p cp q s.size.2.things.2 d) => byte_any w p cp q s.size.2.things.2 d h HB2.out)
  have HB3 := Lib.hid (show s.size.2.things.2.byte.2.c.b.length ≤ 10000000 by rw [byte_b]; exact HB2.out)
  have HNL := Lib.hid (show s.size.2.things.1 ≤ 10000000 from Nat.le_trans (things_le _) HB1.out)
  clear h hb hps hcs
  generalize s.size.2.things.2.byte.2 = s3 at *
  generalize s.size.2.things.2.byte.1 = id at *
  generalize s.size.2.things.2 = s2 at *
  generalize s.size.2.things.1 = n at *
  generalize hs1 : s.size.2 = s1 at *
  generalize hpl : s.size.1 = pl at *
  clear hs1 hpl
  go_enter Try.func51, Try.ntmps51
  go_upto_region 3 with (first
    | (have hq := R2; go_at_call 28; refine (HA3.out _ _ R2).mono ?_; rintro e w3 ⟨rfl, R3, F3⟩)
    | (have hq := R1; go_at_call 58; refine (HA2.out _ _ (R1.put3 _)).mono ?_; rintro e w2 ⟨rfl, R2, F2⟩)
    | (go_at_call 61; refine (HA1.out _ _ HR0.out).mono ?_; rintro e w1 ⟨rfl, R1, F1⟩; obtain ⟨-, -, -, e3, -, -, -, -, -, ef⟩ := cells9 R1.blk))
  have F03 : Fr [p, cp] w w3 := ((F1.setCell (p := ⟨p, 3, none⟩) (by simp) _).tr2 F2).tr2 F3.two2
  clear e3 ef F1 F2 F3 R1 R2
  obtain ⟨D, hD⟩ : ∃ D, D = ({ d with pl := .int .u64 (pl : Int) } : DV) := ⟨_, rfl⟩
  have hR3 : RdAt w3 p cp q s3 D := by rw [hD]; exact R3
  have HPS2 := Lib.hid (show D.ps = .slice none 0 0 ∧ D.cs = .slice none 0 0 by rw [hD]; exact HPS.out)
  have HDD := Lib.hid hD
  have HDX := Lib.hid (show ∀ ps cs, ({ d with pl := .int .u64 (pl : Int), ps := ps, cs := cs } : DV) = { D with ps := ps, cs := cs } by intro ps cs; rw [hD])
  clear R3 hD
  go_cut [21] (fun v wx => v = .bool (s3.at (id == 9)).1 ∧ RdAt wx p cp q (s3.at (id == 9)).2 D ∧ Fr [p, cp] w wx)
  case first =>
    by_cases h9 : id = 9
    · subst h9
      have HA := Lib.hid (show s3.at (9 == 9) = (s3.ok.k == 0, s3.ok) from rfl)
      go_wp2_with (go_at_call 31; refine (ok_any _ p cp q s3 D hR3).mono ?_; rintro e w4 ⟨rfl, R4, F4⟩)
      go_meet
      case rel => exact ⟨by rw [HA.out], by rw [HA.out]; exact R4, F03.tr2 F4.two1⟩
    · have t0 : ((id : Int) == 9) = false := by rw [beq_eq_false_iff_ne]; omega
      have HA := Lib.hid (show s3.at (id == 9) = (false, s3) by rw [show (id == 9) = false from by simpa using h9]; rfl)
      clear h9
      go_wp2_with fail
      go_meet
      case rel => exact ⟨by rw [HA.out], by rw [HA.out]; exact hR3, F03⟩
  case rest =>
  obtain ⟨rfl, R4, F4⟩ := hcut
  clear hR3 F03
  obtain ⟨⟨b, u0⟩, ha⟩ : ∃ a, s3.at (id == 9) = a := ⟨_, rfl⟩
  have HUB0 := Lib.hid (show u0.c.b.length ≤ 10000000 by have := Rs.at_c s3 (id == 9); rw [ha] at this; rw [this]; exact HB3.out)
  have HAE := Lib.hid ha
  rw [ha] at R4 ⊢
  clear ha
  dsimp only at R4 ⊢
  go_upto_if 21 with fail
  go_cut [3, 4, 5] (fun v3 v4 v5 wx => ∃ (id2 : Nat) (P : List UInt64) (t : Rs) (psV : Value), v3 = .int .i64 (id2 : Int) ∧ s.packs = ((pl, P, (Rs.packsEnd P n id2 t).1), (Rs.packsEnd P n id2 t).2) ∧ t.c.b.length ≤ 10000000 ∧ P.length ≤ 10000000 ∧ wx.ownsRow w.heap.size 29 1 psV P.length (u64v P) ∧ RdAt wx p cp q t { D with ps := psV } ∧ Fr [p, cp] w wx)
  case first =>
    cases b with
    | true =>
      have HSA := Lib.hid (HS.out.trans (packsA_true HAE.out))
      have hnM : (n : Int) ≤ 10000000 := by have := HNL.out; omega
      go_wp2_with fail
      go_loopw [4, 23] (fun sm i wr => ∃ (k sum : Nat) (u : Rs) (P : List UInt64) (psV : Value), k ≤ n ∧ i = .int .i64 (k : Int) ∧ sm = .int .u64 (sum : Int) ∧ sum ≤ 1099511627776 ∧ packsGo n 0 u0 [] = packsGo (n - k) sum u P ∧ P.length = k ∧ u.c.b.length ≤ 10000000 ∧ wr.ownsRow w.heap.size 29 1 psV k (u64v P) ∧ RdAt wr p cp q u { D with ps := psV } ∧ Fr [p, cp] w wr) (fun _ i _ => n - (intOf i).toNat)
      case atStart => exact ⟨0, 0, u0, [], .slice none 0 0, Nat.zero_le _, rfl, rfl, by simp, by simp, rfl, HUB0.out, World.ownsRow_nil _ _ _ _, by rw [← HPS2.out.1]; exact R4, F4⟩
      case round =>
        obtain ⟨k, sum, u, P, psV, hk, rfl, rfl, hsum, hgo, hPk, hub, own, RU, F⟩ := hrel
        have HGo := Lib.hid hgo
        have HPk := Lib.hid hPk
        have HUB := Lib.hid hub
        have HOwn := Lib.hid own
        have HF := Lib.hid F
        have HRU := Lib.hid RU
        have HSumL := Lib.hid hsum
        obtain ⟨oao, ocap, rfl, -⟩ := own_outS own
        clear hgo hPk hub own F RU hsum
        by_cases hlt : k < n
        · have hltI : (k : Int) < (n : Int) := by omega
          have e1 : n - k = (n - (k + 1)) + 1 := by omega
          have HG1 := Lib.hid (show packsGo n 0 u0 [] = if (if u.size.2.k = 0 ∧ 1099511627776 < sum + u.size.1 then u.size.2.fail 7 else u.size.2).k ≠ 0 then (true, P, if u.size.2.k = 0 ∧ 1099511627776 < sum + u.size.1 then u.size.2.fail 7 else u.size.2) else packsGo (n - (k + 1)) (sum + u.size.1) u.size.2 (P ++ [UInt64.ofNat u.size.1]) by rw [HGo.out, e1]; rfl)
          have HSZ := Lib.hid (fun w d (h : RdAt w p cp q u d) => size_ok w p cp q u d h HUB.out)
          have HV := Lib.hid (size_le u)
          have HTB := Lib.hid (show u.size.2.c.b.length ≤ 10000000 by rw [size_b]; exact HUB.out)
          have HTO := Lib.hid (show u.size.2.ok = u.size.2 from lim_ok _ _ _ (by decide))
          clear e1
          generalize u.size.2 = t at *
          generalize u.size.1 = v at *
          obtain ⟨sm2, hsm2⟩ : ∃ sm2, sum + v = sm2 := ⟨_, rfl⟩
          have hw : IntKind.u64.wrap ((sum : Int) + (v : Int)) = (sm2 : Int) := by rw [← hsm2, IntWalk.u64_in _ (by have := HV.out; have := HSumL.out; omega)]; omega
          rw [hsm2] at HG1
          clear hsm2
          by_cases hz : t.k = 0
          · have HK := Lib.hid (show (t.k == 0) = true by rw [hz]; rfl)
            by_cases hbig : 1099511627776 < sm2
            · have aB : (1099511627776 : Int) < (sm2 : Int) := by omega
              have HFO := Lib.hid (Rs.fail_ok (s := t) (e := 7) (by decide))
              have HFK := Lib.hid (show ((t.fail 7).k == 0) = false by rw [Rs.fail_k hz]; rfl)
              have HG := Lib.hid (show packsGo n 0 u0 [] = (true, P, t.fail 7) by rw [HG1.out, show (if t.k = 0 ∧ 1099511627776 < sm2 then t.fail 7 else t) = t.fail 7 from if_pos ⟨hz, hbig⟩, if_pos (by rw [Rs.fail_k hz]; decide)])
              have HRes := Lib.hid (show s.packs = ((pl, P, []), t.fail 7) by rw [HSA.out, HG.out]; rfl)
              clear hz hbig
              go_wp2_with (first
                | (have hq := R8; go_at_call 31; refine (ok_any _ p cp q (t.fail 7) { D with ps := .slice oao k ocap } R8).mono ?_; rw [HFO.out, HFK.out]; rintro e w9 ⟨rfl, R9, F9⟩; have FW9 := FW8.tr2 F9.two1)
                | (go_at_call 32; refine (rfail_any _ p cp q t { D with ps := .slice oao k ocap } 7 R7).mono ?_; rintro e w8 ⟨rfl, R8, F8⟩; have FW8 := FW7.tr2 F8.two1)
                | (have hq := R6; go_at_call 31; refine (ok_any _ p cp q t { D with ps := .slice oao k ocap } R6).mono ?_; rw [HTO.out, HK.out]; rintro e w7 ⟨rfl, R7, F7⟩; have FW7 := F67.tr2 F7.two1)
                | (go_at_call 61; refine (HSZ.out _ _ HRU.out).mono ?_; rintro e w6 ⟨rfl, R6, F67⟩))
              go_end0
              exact ⟨rfl, ⟨.slice oao k ocap, .slice none 0 0, by rw [HRes.out]; rw [HDX.out, ← HPS2.out.2]; exact R9, by rw [HRes.out]; dsimp only; rw [HPk.out]; exact Sm.of_own w.heap.size (own_frB HOwn.out FW9 (two_lt HLT.out)) (Nat.le_refl _), by rw [HRes.out]; exact Sm.nil _ _ _ _⟩, HF.out.tr2 FW9⟩
            · have aB : (sm2 : Int) ≤ (1099511627776 : Int) := by omega
              have HG := Lib.hid (show packsGo n 0 u0 [] = packsGo (n - (k + 1)) sm2 t (P ++ [UInt64.ofNat v]) by rw [HG1.out, show (if t.k = 0 ∧ 1099511627776 < sm2 then t.fail 7 else t) = t from if_neg (fun h => hbig h.2), if_neg (by simp [hz])])
              have HSM := Lib.hid (show sm2 ≤ 1099511627776 by omega)
              have HVN := Lib.hid (show ((UInt64.ofNat v).toNat : Int) = (v : Int) by have := HV.out; simp; omega)
              clear hz hbig
              go_wp2_with (first
                | (at_builtin; refine wpList_append_struct sty_u64 rfl _ _ (by rfl) w.heap.size _ _ _ (by rfl) own9 w9.heap.size [.int .u64 (v : Int)] (by rfl) hgS rfl rfl (by omega) (by decide) sz9 ?_; intro v2 wa owna ga; obtain ⟨vao2, vcap2, rfl, -⟩ := own_outS owna; have Fa : Fr [p, cp] w wa := ((HF.out.tr2 FW9).alloc _).grown ga (fun t ht => .inr (own_ltS own9 t ht).1); have Ra := (R9.fr0 ((Fr.refl _ _).alloc _)).grownB ga own9 HLT.out.1 HLT.out.2 HLQ.out; obtain ⟨-, -, -, -, a4, -, -, -, -, af⟩ := cells9 Ra.blk; have Rb := Ra.put4 (.slice vao2 (k + 1) vcap2); have ownb := own_frB owna ((Fr.refl [p, cp] wa).setCell (p := ⟨p, 4, none⟩) (by simp) (.slice vao2 (k + 1) vcap2)) (two_lt HLT.out); have Fb := Fa.setCell (p := ⟨p, 4, none⟩) (by simp) (.slice vao2 (k + 1) vcap2))
                | (have hq := R7; go_at_call 31; refine (ok_any _ p cp q t { D with ps := .slice oao k ocap } R7).mono ?_; rw [HTO.out, HK.out]; rintro e w9 ⟨rfl, R9, F9⟩; have FW9 := FW7.tr2 F9.two1; obtain ⟨-, -, -, -, g4, -, -, -, -, gf⟩ := cells9 R9.blk; have own9 := own_frB HOwn.out (FW9.alloc (.cells #[.int .u64 (v : Int)] 29)) (two_lt HLT.out); have hgS := heap_alloc_new w9 (.cells #[.int .u64 (v : Int)] 29); have sz9 : w.heap.size ≤ (w9.alloc (.cells #[.int .u64 (v : Int)] 29)).heap.size := (by rw [World.size_alloc]; have := HF.out.size; have := FW9.size; omega))
                | (have hq := R6; go_at_call 31; refine (ok_any _ p cp q t { D with ps := .slice oao k ocap } R6).mono ?_; rw [HTO.out, HK.out]; rintro e w7 ⟨rfl, R7, F7⟩; have FW7 := F67.tr2 F7.two1)
                | (go_at_call 61; refine (HSZ.out _ _ HRU.out).mono ?_; rintro e w6 ⟨rfl, R6, F67⟩))
              go_roundw
              case rel => exact ⟨k + 1, sm2, t, P ++ [UInt64.ofNat v], .slice vao2 (k + 1) vcap2, by omega, by go_num, rfl, HSM.out, HG.out, by rw [List.length_append, HPk.out]; rfl, HTB.out, by rw [show u64v (P ++ [UInt64.ofNat v]) = u64v P ++ [.int .u64 (v : Int)] by simp only [u64v, List.map_append, List.map_cons, List.map_nil, HVN.out]]; exact ownb, Rb, Fb⟩
              case measure => simp [intOf]; omega
          · have HK := Lib.hid (show (t.k == 0) = false by rw [beq_eq_false_iff_ne]; exact hz)
            have HG := Lib.hid (show packsGo n 0 u0 [] = (true, P, t) by rw [HG1.out, show (if t.k = 0 ∧ 1099511627776 < sm2 then t.fail 7 else t) = t from if_neg (fun h => hz h.1), if_pos hz])
            have HRes := Lib.hid (show s.packs = ((pl, P, []), t) by rw [HSA.out, HG.out]; rfl)
            clear hz
            go_wp2_with (first
              | (have hq := R7; go_at_call 31; refine (ok_any _ p cp q t { D with ps := .slice oao k ocap } R7).mono ?_; rw [HTO.out, HK.out]; rintro e w9 ⟨rfl, R9, F9⟩; have FW9 := FW7.tr2 F9.two1)
              | (have hq := R6; go_at_call 31; refine (ok_any _ p cp q t { D with ps := .slice oao k ocap } R6).mono ?_; rw [HTO.out, HK.out]; rintro e w7 ⟨rfl, R7, F7⟩; have FW7 := F67.tr2 F7.two1)
              | (go_at_call 61; refine (HSZ.out _ _ HRU.out).mono ?_; rintro e w6 ⟨rfl, R6, F67⟩))
            go_end0
            exact ⟨rfl, ⟨.slice oao k ocap, .slice none 0 0, by rw [HRes.out]; rw [HDX.out, ← HPS2.out.2]; exact R9, by rw [HRes.out]; dsimp only; rw [HPk.out]; exact Sm.of_own w.heap.size (own_frB HOwn.out FW9 (two_lt HLT.out)) (Nat.le_refl _), by rw [HRes.out]; exact Sm.nil _ _ _ _⟩, HF.out.tr2 FW9⟩
        · have hke : k = n := by omega
          have HG := Lib.hid (show packsGo n 0 u0 [] = (false, P, u) by rw [HGo.out, hke, Nat.sub_self]; rfl)
          have HBY := Lib.hid (byte_any wr p cp q u { D with ps := .slice oao k ocap } HRU.out HUB.out)
          have HRes := Lib.hid (show s.packs = ((pl, P, (Rs.packsEnd P n u.byte.1 u.byte.2).1), (Rs.packsEnd P n u.byte.1 u.byte.2).2) by rw [HSA.out, HG.out]; rfl)
          have HTB := Lib.hid (show u.byte.2.c.b.length ≤ 10000000 by rw [byte_b]; exact HUB.out)
          have hltI : (n : Int) ≤ (k : Int) := by omega
          go_wp2_with (go_at_call 28; refine HBY.out.mono ?_; rintro e w6 ⟨rfl, R6, F6⟩)
          go_meet
          case rel => exact ⟨u.byte.1, P, u.byte.2, .slice oao k ocap, rfl, HRes.out, HTB.out, by have := HPk.out; have := HNL.out; omega, by rw [HPk.out]; exact own_frB HOwn.out F6.two2 (two_lt HLT.out), R6, HF.out.tr2 F6.two2⟩
    | false =>
      have HSA := Lib.hid (HS.out.trans (packsA_false HAE.out))
      cases hn : decide (0 < n) with
      | true =>
        have hnI : (0 : Int) < (n : Int) := by simp at hn; omega
        rw [hn] at HSA
        clear hn
        by_cases hk : u0.ok.k = 0
        · have HK := Lib.hid (show (u0.ok.k == 0) = true by rw [hk]; rfl)
          have HO := Lib.hid (Rs.ok_of_zero hk)
          clear hk
          go_wp2_with (first
            | (have hq := R5; go_at_call 32; refine (rfail_any _ p cp q u0 D 5 R5).mono ?_; rintro e w6 ⟨rfl, R6, F6⟩)
            | (go_at_call 31; refine (ok_any _ p cp q u0 D R4).mono ?_; rw [HK.out, HO.out]; rintro e w5 ⟨rfl, R5, F5⟩))
          go_meet
          case rel => exact ⟨id, [], u0.fail 5, _, rfl, by rw [HSA.out, Rs.at_true, HK.out, HO.out]; rfl, HUB0.out, by simp, World.ownsRow_nil _ _ _ _, by rw [← HPS2.out.1]; exact R6, (F4.tr2 F5.two1).tr2 F6.two1⟩
        · have HK := Lib.hid (show (u0.ok.k == 0) = false by rw [beq_eq_false_iff_ne]; exact hk)
          clear hk
          go_wp2_with (go_at_call 31; refine (ok_any _ p cp q u0 D R4).mono ?_; rw [HK.out]; rintro e w5 ⟨rfl, R5, F5⟩)
          go_meet
          case rel => exact ⟨id, [], u0.ok, _, rfl, by rw [HSA.out, Rs.at_true]; simp only [HK.out, Bool.false_eq_true, if_false], HUB0.out, by simp, World.ownsRow_nil _ _ _ _, by rw [← HPS2.out.1]; exact R5, F4.tr2 F5.two1⟩
      | false =>
        have hnI : (n : Int) ≤ 0 := by simp at hn; omega
        rw [hn] at HSA
        clear hn
        go_wp2_with fail
        go_meet
        case rel => exact ⟨id, [], u0, _, rfl, by rw [HSA.out, Rs.at_false]; simp only [Bool.false_eq_true, if_false], HUB0.out, by simp, World.ownsRow_nil _ _ _ _, by rw [← HPS2.out.1]; exact R4, F4⟩
  case rest =>
  obtain ⟨id2, P, t, psV, rfl, hspec, htb, hpl, own, R5, F5⟩ := hcut
  have HSP := Lib.hid hspec
  have HTB := Lib.hid htb
  have HPL := Lib.hid hpl
  have hplI : (P.length : Int) ≤ 10000000 := by omega
  obtain ⟨oao, ocap, rfl, -⟩ := own_outS own
  have HOwn := Lib.hid own
  obtain ⟨i0, hi0, hz0, hs0, hb0⟩ := info_parts info_ck
  have hb0' : i0.bytes * P.length ≤ 281474976710656 := by rw [hb0]; omega
  obtain ⟨-, -, -, -, g4, g5, -, -, -, gf⟩ := cells9 R5.blk
  obtain ⟨M, hM⟩ : ∃ M, P.length = M := ⟨_, rfl⟩
  have HM := Lib.hid hM
  rw [hM] at hplI hb0' HOwn g4 R5 HPL
  dsimp only at g4 g5
  clear hspec htb hpl own hM
  go_upto_region 18 with (at_make; refine wpList_make_full _ rfl _ _ _ rfl wc.heap.size _ i0 _ _ Try.underlying31 hi0 hz0 hs0 _ _ _ _ M (by rfl) (by rfl) rfl rfl hb0' (by unfold maxLen; omega) (Nat.le_refl _) ?_; rw [made_ck]; intro w6 own6 g6; have F6 := (Fr.refl [] wc).grown g6 (by simp); have R6 := R5.fr0 F6; obtain ⟨-, -, -, -, -, k5, -, -, -, kf⟩ := cells9 R6.blk)
  obtain ⟨w7, hw7⟩ : ∃ w7, w7 = w6.setCell ⟨p, 5, none⟩ (.slice (some ⟨wc.heap.size, 0, none⟩) M M) := ⟨_, rfl⟩
  have R7 := R6.put5 (.slice (some ⟨wc.heap.size, 0, none⟩) M M)
  rw [← hw7] at R7 ⊢
  have F67 : Fr [p, cp] w6 w7 := hw7 ▸ (Fr.refl _ _).setCell (by simp) _
  have HCs := Lib.hid (own_frB own6 F67 (two_lt (by have := HLT.out; have := F5.size; omega)))
  have HPs := Lib.hid (own_frB HOwn.out ((F6.mono (by simp) : Fr [p, cp] wc w6).tr2 F67) (two_lt HLT.out))
  have FW7 : Fr [p, cp] w w7 := (F5.trans0 F6).tr2 F67
  have hcw : w.heap.size ≤ wc.heap.size := F5.size
  have HLC := Lib.hid (show p < w7.heap.size ∧ cp < w7.heap.size by have := HLT.out; have := FW7.size; omega)
  clear hw7 g4 g5 gf k5 kf own6 g6 F6 R6 R5 hi0 hz0 hs0 hb0 hb0' F67
  by_cases h10 : id2 = 10
  · subst h10
    by_cases hk : t.ok.k = 0
    · have HK := Lib.hid (show (t.ok.k == 0) = true by rw [hk]; rfl)
      have HO := Lib.hid (Rs.ok_of_zero hk)
      have HNN := Lib.hid (show n ≤ 10000000 from HNL.out)
      have HE := Lib.hid (show Rs.packsEnd P n 10 t = ((t.sums n).1, (t.sums n).2.byte.2.end_ (t.sums n).2.byte.1) by
        unfold Rs.packsEnd
        rw [show t.at (10 == 10) = (true, t) by rw [← Rs.ok_of_zero hk]; show ((t.ok.ok.k == 0), t.ok.ok) = _; rw [Rs.ok_ok, hk]; rfl]
        simp only [if_true])
      have HSB := Lib.hid (show (t.sums n).2.c.b.length ≤ 10000000 by rw [sums_b]; exact HTB.out)
      clear hk
      go_wp2_with (first
        | (have hq := R11; go_at_call 50; refine (end_any _ p cp q _ _ _ R11).mono ?_; rintro e wd ⟨rfl, Rd, Fd⟩)
        | (have hq := R10; go_at_call 28; refine (byte_any _ p cp q _ _ R10 HSB.out).mono ?_; rintro e wb ⟨rfl, R11, Fb⟩)
        | (have hq := R8; go_at_call 62; refine (sums_any _ p cp q t _ n R8 HTB.out HNN.out).mono ?_; rintro e w9 ⟨⟨cv, rfl, hcv⟩, R9, F9⟩; obtain ⟨cao, ccap, rfl, -⟩ := hcv.out; obtain ⟨-, -, -, -, -, l5, -, -, -, lf⟩ := cells9 R9.blk; have R10 := R9.put5 (.slice cao (t.sums n).1.length ccap))
        | (go_at_call 31; refine (ok_any _ p cp q t _ R7).mono ?_; rw [HK.out, HO.out]; rintro e w8 ⟨rfl, R8, F8⟩))
      go_end0
      have Fe : Fr [p, cp] w7 wd := ((((F8.two1.tr2 F9).setCell (p := ⟨p, 5, none⟩) (by simp) (.slice cao (t.sums n).1.length ccap)).tr2 Fb.two2).tr2 Fd)
      refine ⟨rfl, ⟨_, _, by rw [HSP.out, HE.out]; rw [HDX.out]; exact Rd, by rw [HSP.out]; dsimp only; rw [HM.out]; exact Sm.of_own w.heap.size (own_frB HPs.out Fe (two_lt HLT.out)) (Nat.le_refl _), ?_⟩, FW7.tr2 Fe⟩
      rw [HSP.out, HE.out]
      exact ((hcv.two ((((Fr.refl [p, cp] w9).setCell (p := ⟨p, 5, none⟩) (by simp) (.slice cao (t.sums n).1.length ccap)).tr2 Fb.two2).tr2 Fd) (by have := HLC.out; have := F8.size; omega) (by have := HLC.out; have := F8.size; omega))).mono (by have := FW7.size; have := F8.size; omega)
    · have HK := Lib.hid (show (t.ok.k == 0) = false by rw [beq_eq_false_iff_ne]; exact hk)
      have HE := Lib.hid (show Rs.packsEnd P n 10 t = (List.replicate P.length ⟨false, 0⟩, t.ok.end_ 10) by
        unfold Rs.packsEnd
        rw [show t.at (10 == 10) = (false, t.ok) by show ((t.ok.k == 0), t.ok) = _; rw [beq_eq_false_iff_ne.2 hk]]
        simp only [Bool.false_eq_true, if_false])
      clear hk
      go_wp2_with (first
        | (have hq := R8; go_at_call 50; refine (end_any _ p cp q t.ok _ 10 R8).mono ?_; rintro e wd ⟨rfl, Rd, Fd⟩)
        | (go_at_call 31; refine (ok_any _ p cp q t _ R7).mono ?_; rw [HK.out]; rintro e w8 ⟨rfl, R8, F8⟩))
      go_end0
      have Fe : Fr [p, cp] w7 wd := F8.two1.tr2 Fd
      refine ⟨rfl, ⟨_, _, by rw [HSP.out, HE.out]; rw [HDX.out]; exact Rd, by rw [HSP.out]; dsimp only; rw [HM.out]; exact Sm.of_own w.heap.size (own_frB HPs.out Fe (two_lt HLT.out)) (Nat.le_refl _), ?_⟩, FW7.tr2 Fe⟩
      rw [HSP.out, HE.out]
      dsimp only
      rw [List.length_replicate, HM.out]
      exact Sm.of_own w.heap.size (own_frB HCs.out Fe (two_lt (by have := HLT.out; omega))) hcw
  · have t0 : ((id2 : Int) == 10) = false := by rw [beq_eq_false_iff_ne]; omega
    have HE := Lib.hid (show Rs.packsEnd P n id2 t = (List.replicate P.length ⟨false, 0⟩, t.end_ id2) by
      unfold Rs.packsEnd
      rw [show (id2 == 10) = false from by simpa using h10, Rs.at_false]
      simp only [Bool.false_eq_true, if_false])
    clear h10
    go_wp2_with (go_at_call 50; refine (end_any _ p cp q t _ id2 R7).mono ?_; rintro e wd ⟨rfl, Rd, Fd⟩)
    go_end0
    refine ⟨rfl, ⟨_, _, by rw [HSP.out, HE.out]; rw [HDX.out]; exact Rd, by rw [HSP.out]; dsimp only; rw [HM.out]; exact Sm.of_own w.heap.size (own_frB HPs.out Fd (two_lt HLT.out)) (Nat.le_refl _), ?_⟩, FW7.tr2 Fd⟩
    rw [HSP.out, HE.out]
    dsimp only
    rw [List.length_replicate, HM.out]
    exact Sm.of_own w.heap.size (own_frB HCs.out Fd (two_lt (by have := HLT.out; omega))) hcw
end Go.Proofs.Ythdfjbliafdchaa
/- Contract: the reader's method. No condition but that lengths fit. -/
namespace Go.Proofs.Ythdfjbliafdchaa
open Go.RowKit

set_option maxRecDepth 100000 in
/-- 'string(b)'. -/
theorem conv_sl (w : World) (ao : Option Addr) (n cap : Nat) (l : List UInt8) (hn : n = l.length) (h : Sl w (.slice ao n cap) (bv l)) :
    (convert 22 9 (.slice ao n cap)).run Try.prog w = .ok (.string ⟨l.toArray⟩) w := by
  subst hn
  obtain ⟨ao', cap', he, h1, h2, h3, h4⟩ := h
  rw [bv_length] at he h1
  injection he with e1 e2 e3
  subst e1 e3
  cases ao with
  | none =>
    have hc := h3 rfl
    have : l = [] := List.eq_nil_of_length_eq_zero (by omega)
    subst this
    subst hc
    rfl
  | some a =>
    refine run_convert_bytes_back w 22 9 5 a cap l Try.underlying22 Try.underlying5 Try.underlying9 (fun j hj => ?_)
    obtain ⟨q1, q2, q3⟩ := h4 a rfl (by omega)
    obtain ⟨b, o, s⟩ := a
    dsimp only at q1 q2 q3
    subst q1
    have e : (⟨b, o, none⟩ : Addr).add j = ⟨b, o + j, none⟩ := by unfold Addr.add; split <;> simp_all
    rw [e, q3 j (by rw [bv_length]; exact hj)]
    exact bv_get _ _ _ (by simp)

def methodOf (l : List UInt8) : Nat :=
  if l = [0] then 1 else if l = [3] then 2 else if l = [3, 3, 1, 3] then 3 else if l = [3, 1, 1] then 4 else if l = [33] then 5 else if l = [3, 3, 1, 27] then 6 else if l = [3, 4, 1] then 7 else 0
def Rs.method (s : Rs) (l : List UInt8) : Nat × Rs :=
  if methodOf l ≠ 0 then (methodOf l, s) else if l = [6, 241, 7, 1] then (0, s.fail 9) else (0, s.fail 8)

set_option maxRecDepth 100000 in
set_option maxHeartbeats 4000000 in
theorem method_any (w : World) (p cp : Nat) (q : Option Nat) (s : Rs) (d : DV) (v : Value) (l : List UInt8) (h : RdAt w p cp q s d) (hv : Sl w v (bv l)) :
    Calls Try.prog 84 #[.pointer (some ⟨p, 0, none⟩), v] w fun e w' => e = .returned (.int .i64 ((s.method l).1 : Int)) ∧ RdAt w' p cp q (s.method l).2 d ∧ Fr [p] w w' := by
  have HR := Lib.hid h
  obtain ⟨ao, cap, rfl, -⟩ := hv.out
  rw [bv_length] at hv ⊢
  have hcv := conv_sl w ao l.length cap l rfl hv
  clear h hv
  by_cases h0 : l = [0]
  · have HE := Lib.hid (show s.method l = (1, s) by rw [h0]; rfl)
    have t0 : (l == [0]) = true := by rw [beq_iff_eq]; exact h0
    clear h0
    go_enter Try.func84, Try.ntmps84
    go_wp2_with fail
    go_ret
    exact ⟨by rw [HE.out]; rfl, by rw [HE.out]; exact HR.out, Fr.refl _ _⟩
  have t0 : (l == [0]) = false := by rw [beq_eq_false_iff_ne]; exact h0
  by_cases h1 : l = [3]
  · have HE := Lib.hid (show s.method l = (2, s) by rw [h1]; rfl)
    have t1 : (l == [3]) = true := by rw [beq_iff_eq]; exact h1
    clear h0 h1
    go_enter Try.func84, Try.ntmps84
    go_wp2_with fail
    go_ret
    exact ⟨by rw [HE.out]; rfl, by rw [HE.out]; exact HR.out, Fr.refl _ _⟩
  have t1 : (l == [3]) = false := by rw [beq_eq_false_iff_ne]; exact h1
  by_cases h2 : l = [3, 3, 1, 3]
  · have HE := Lib.hid (show s.method l = (3, s) by rw [h2]; rfl)
    have t2 : (l == [3, 3, 1, 3]) = true := by rw [beq_iff_eq]; exact h2
    clear h0 h1 h2
    go_enter Try.func84, Try.ntmps84
    go_wp2_with fail
    go_ret
    exact ⟨by rw [HE.out]; rfl, by rw [HE.out]; exact HR.out, Fr.refl _ _⟩
  have t2 : (l == [3, 3, 1, 3]) = false := by rw [beq_eq_false_iff_ne]; exact h2
  by_cases h3 : l = [3, 1, 1]
  · have HE := Lib.hid (show s.method l = (4, s) by rw [h3]; rfl)
    have t3 : (l == [3, 1, 1]) = true := by rw [beq_iff_eq]; exact h3
    clear h0 h1 h2 h3
    go_enter Try.func84, Try.ntmps84
    go_wp2_with fail
    go_ret
    exact ⟨by rw [HE.out]; rfl, by rw [HE.out]; exact HR.out, Fr.refl _ _⟩
  have t3 : (l == [3, 1, 1]) = false := by rw [beq_eq_false_iff_ne]; exact h3
  by_cases h4 : l = [33]
  · have HE := Lib.hid (show s.method l = (5, s) by rw [h4]; rfl)
    have t4 : (l == [33]) = true := by rw [beq_iff_eq]; exact h4
    clear h0 h1 h2 h3 h4
    go_enter Try.func84, Try.ntmps84
    go_wp2_with fail
    go_ret
    exact ⟨by rw [HE.out]; rfl, by rw [HE.out]; exact HR.out, Fr.refl _ _⟩
  have t4 : (l == [33]) = false := by rw [beq_eq_false_iff_ne]; exact h4
  by_cases h5 : l = [3, 3, 1, 27]
  · have HE := Lib.hid (show s.method l = (6, s) by rw [h5]; rfl)
    have t5 : (l == [3, 3, 1, 27]) = true := by rw [beq_iff_eq]; exact h5
    clear h0 h1 h2 h3 h4 h5
    go_enter Try.func84, Try.ntmps84
    go_wp2_with fail
    go_ret
    exact ⟨by rw [HE.out]; rfl, by rw [HE.out]; exact HR.out, Fr.refl _ _⟩
  have t5 : (l == [3, 3, 1, 27]) = false := by rw [beq_eq_false_iff_ne]; exact h5
  by_cases h6 : l = [3, 4, 1]
  · have HE := Lib.hid (show s.method l = (7, s) by rw [h6]; rfl)
    have t6 : (l == [3, 4, 1]) = true := by rw [beq_iff_eq]; exact h6
    clear h0 h1 h2 h3 h4 h5 h6
    go_enter Try.func84, Try.ntmps84
    go_wp2_with fail
    go_ret
    exact ⟨by rw [HE.out]; rfl, by rw [HE.out]; exact HR.out, Fr.refl _ _⟩
  have t6 : (l == [3, 4, 1]) = false := by rw [beq_eq_false_iff_ne]; exact h6
  have HM := Lib.hid (show methodOf l = 0 by unfold methodOf; rw [if_neg h0, if_neg h1, if_neg h2, if_neg h3, if_neg h4, if_neg h5, if_neg h6])
  by_cases h7 : l = [6, 241, 7, 1]
  · have HE := Lib.hid (show s.method l = (0, s.fail 9) by unfold Rs.method; rw [if_neg (by rw [HM.out]; simp), if_pos h7])
    have t7 : (l == [6, 241, 7, 1]) = true := by rw [beq_iff_eq]; exact h7
    clear h0 h1 h2 h3 h4 h5 h6 h7
    go_enter Try.func84, Try.ntmps84
    go_wp2_with (go_at_call 32; refine (rfail_any _ p cp q s d 9 HR.out).mono ?_; rintro e w4 ⟨rfl, R4, F4⟩)
    go_ret
    exact ⟨by rw [HE.out]; rfl, by rw [HE.out]; exact R4, F4⟩
  · have HE := Lib.hid (show s.method l = (0, s.fail 8) by unfold Rs.method; rw [if_neg (by rw [HM.out]; simp), if_neg h7])
    have t7 : (l == [6, 241, 7, 1]) = false := by rw [beq_eq_false_iff_ne]; exact h7
    clear h0 h1 h2 h3 h4 h5 h6 h7
    go_enter Try.func84, Try.ntmps84
    go_wp2_with (go_at_call 32; refine (rfail_any _ p cp q s d 8 HR.out).mono ?_; rintro e w4 ⟨rfl, R4, F4⟩)
    go_ret
    exact ⟨by rw [HE.out]; rfl, by rw [HE.out]; exact R4, F4⟩
end Go.Proofs.Ythdfjbliafdchaa
/- Bits of a byte. No condition. -/
namespace Go.Proofs.Ythdfjbliafdchaa
open Go.RowKit

theorem and_bits (m : Nat) (k : Nat) (hm : m = 2 ^ k - 1) (f : Nat) (hf : f < 256) (hk : k ≤ 8) : Go.bits .and .i64 (f : Int) (m : Int) = ((f % 2 ^ k : Nat) : Int) := by
  show IntKind.i64.wrap ((BitVec.ofInt 64 (f : Int) &&& BitVec.ofInt 64 (m : Int)).toNat : Int) = _
  have hp : 2 ^ k ≤ 2 ^ 8 := Nat.pow_le_pow_right (by omega) hk
  have hp1 : 1 ≤ 2 ^ k := Nat.one_le_two_pow
  have h1 : (BitVec.ofInt 64 (m : Int)).toNat = 2 ^ k - 1 := by simp; omega
  have h2 : (BitVec.ofInt 64 (f : Int)).toNat = f := by simp; omega
  rw [BitVec.toNat_and, h1, h2, Nat.and_two_pow_sub_one_eq_mod]
  have : f % 2 ^ k < 2 ^ k := Nat.mod_lt _ (by omega)
  exact IntWalk.i64_in _ (by omega)
theorem and15 (f : Nat) (hf : f < 256) : Go.bits .and .i64 (f : Int) 15 = ((f % 16 : Nat) : Int) := and_bits 15 4 rfl f hf (by omega)

theorem and192 : ∀ f : Fin 256, (Go.bits .and .i64 (f.val : Int) 192 == 0) = decide (f.val / 64 = 0) := by decide +kernel
theorem and16 : ∀ f : Fin 256, (Go.bits .and .i64 (f.val : Int) 16 == 0) = !(f.val / 16 % 2 == 1) := by decide +kernel
theorem and32 : ∀ f : Fin 256, (Go.bits .and .i64 (f.val : Int) 32 == 0) = !(f.val / 32 % 2 == 1) := by decide +kernel
end Go.Proofs.Ythdfjbliafdchaa
/- Contract: the reader's coder. No condition but that lengths fit. -/
namespace Go.Proofs.Ythdfjbliafdchaa
open Go.RowKit

/-- The two numbers that a coder may tell of its streams. -/
def Rs.two (s : Rs) (c : Bool) : (Nat × Nat) × Rs := if (s.at c).1 then (((s.at c).2.number.1, (s.at c).2.number.2.number.1), (s.at c).2.number.2.number.2) else ((1, 1), (s.at c).2)
def Rs.check (s : Rs) (bad : Bool) (e : Nat) : Rs := if s.ok.k = 0 ∧ bad = true then s.ok.fail e else s.ok
def Rs.take (s : Rs) (n : Nat) : List UInt8 × Rs := ((s.c.take n).1, { s with c := (s.c.take n).2 })
def Rs.propsOf (s : Rs) (c : Bool) : List UInt8 × Rs := if (s.at c).1 then (s.at c).2.things.2.take (s.at c).2.things.1 else ([], (s.at c).2)
def Rs.coderB (f : Nat) (m : Nat) (s : Rs) : Coder × Rs :=
  (⟨m, (((s.two (f / 16 % 2 == 1)).2.check (((s.two (f / 16 % 2 == 1)).1.1 != ins m) || ((s.two (f / 16 % 2 == 1)).1.2 != 1)) 10).propsOf (f / 32 % 2 == 1)).1⟩,
    (((s.two (f / 16 % 2 == 1)).2.check (((s.two (f / 16 % 2 == 1)).1.1 != ins m) || ((s.two (f / 16 % 2 == 1)).1.2 != 1)) 10).propsOf (f / 32 % 2 == 1)).2)
def Rs.coderA (f : Nat) (l : List UInt8) (s : Rs) : Coder × Rs :=
  if s.ok.k ≠ 0 then (⟨0, []⟩, s.ok) else Rs.coderB f (s.ok.method l).1 (s.ok.method l).2
def Rs.coder (s : Rs) : Coder × Rs := Rs.coderA s.byte.1 ((s.byte.2.check (decide (s.byte.1 / 64 ≠ 0)) 5).take (s.byte.1 % 16)).1 ((s.byte.2.check (decide (s.byte.1 / 64 ≠ 0)) 5).take (s.byte.1 % 16)).2

def CoderR (w : World) (p cp : Nat) (q : Option Nat) (r : Coder × Rs) (d : DV) (e : Ending) (w' : World) : Prop :=
  (∃ v, e = .returned (.agg #[.int .i64 r.1.method, v]) ∧ Sm w' w.heap.size 5 1 v r.1.props.length (bv r.1.props)) ∧ RdAt w' p cp q r.2 d ∧ Fr [p, cp] w w'

/-- The state of a coder that is read: what is handed back lies in block g, the coder itself in the next one. -/
structure CoSt (w : World) (p cp : Nat) (q : Option Nat) (s : Rs) (d : DV) (m : Int) (pv : Value) (wx : World) : Prop where
  rd : RdAt wx p cp q s d
  b0 : wx.heap[w.heap.size]? = some (.cells #[.int .i64 0, .slice none 0 0] 61 (0, 0))
  b1 : wx.heap[w.heap.size + 1]? = some (.cells #[.int .i64 m, pv] 61 (0, 0))
  fr : Fr [p, cp] w wx

theorem CoSt.on {w : World} {p cp : Nat} {q : Option Nat} {s s' : Rs} {d : DV} {m : Int} {pv : Value} {wx wy : World} (h : CoSt w p cp q s d m pv wx) (hp : p < w.heap.size) (hc : cp < w.heap.size) (F : Fr [p, cp] wx wy) (R : RdAt wy p cp q s' d) : CoSt w p cp q s' d m pv wy :=
  ⟨R, (F.block _ (Array.getElem?_eq_some_iff.1 h.b0).1 (by simp; omega)).trans h.b0, (F.block _ (Array.getElem?_eq_some_iff.1 h.b1).1 (by simp; omega)).trans h.b1, h.fr.tr2 F⟩

theorem CoSt.done {w : World} {p cp : Nat} {q : Option Nat} {s : Rs} {d : DV} {m : Int} {pv : Value} {wx : World} (h : CoSt w p cp q s d m pv wx) (hp : p < w.heap.size) (hc : cp < w.heap.size) (hq : ∀ k, q = some k → k < w.heap.size) (a b : Value) {wF : World} (hF : wF = (wx.setCell ⟨w.heap.size, 0, none⟩ a).setCell ⟨w.heap.size, 1, none⟩ b) :
    wF.heap[w.heap.size]? = some (.cells #[a, b] 61 (0, 0)) ∧ RdAt wF p cp q s d ∧ Fr [p, cp] w wF ∧ Fr [w.heap.size] wx wF := by
  have F1 : Fr [w.heap.size] wx wF := hF ▸ ((Fr.refl _ _).setCell (by simp) _).setCell (by simp) _
  refine ⟨hF ▸ Go.Joins.block_setCell (Go.Joins.block_setCell h.b0 _) _, h.rd.fr F1 (by simp; omega) (by simp; omega) (fun k hk => by have := hq k hk; simp; omega), ?_, F1⟩
  rw [hF]
  exact (h.fr.setCell (.inr (Nat.le_refl _)) _).setCell (.inr (Nat.le_refl _)) _

theorem Rs.number_cb (s : Rs) : s.number.2.c.b = s.c.b := number_b s.c

theorem cells2 {w : World} {g : Nat} {t : TypeId} {a0 a1 : Value} (h : w.heap[g]? = some (.cells #[a0, a1] t (0, 0))) :
    w.cell? ⟨g, 0, none⟩ = some a0 ∧ w.cell? ⟨g, 1, none⟩ = some a1 ∧ (∀ j, w.frozen? ⟨g, j, none⟩ = false) :=
  ⟨by simp [Go.Joins.cell_of_block h], by simp [Go.Joins.cell_of_block h], fun j => Go.Joins.unfrozen_of_block h j⟩

set_option maxRecDepth 100000 in
set_option maxHeartbeats 4000000 in
theorem coder_any (w : World) (p cp : Nat) (q : Option Nat) (s : Rs) (d : DV) (h : RdAt w p cp q s d) (hb : s.c.b.length ≤ 10000000) :
    Calls Try.prog 78 #[.pointer (some ⟨p, 0, none⟩)] w (CoderR w p cp q s.coder d) := by
  have HLT := Lib.hid (And.intro h.lt h.cur.lt)
  have HLQ := Lib.hid h.ql
  have HBY := Lib.hid (fun w d (h : RdAt w p cp q s d) => byte_any w p cp q s d h hb)
  have HB1 := Lib.hid (show s.byte.2.c.b.length ≤ 10000000 by rw [byte_b]; exact hb)
  have HF := Lib.hid (num1_lt s)
  have HS := Lib.hid (show s.coder = Rs.coderA s.byte.1 ((s.byte.2.check (decide (s.byte.1 / 64 ≠ 0)) 5).take (s.byte.1 % 16)).1 ((s.byte.2.check (decide (s.byte.1 / 64 ≠ 0)) 5).take (s.byte.1 % 16)).2 from rfl)
  obtain ⟨wB, hwB⟩ : ∃ wB, wB = (w.alloc (.cells #[.int .i64 0, .slice none 0 0] 61)).alloc (.cells #[.int .i64 0, .slice none 0 0] 61) := ⟨_, rfl⟩
  have hsz : wB.heap.size = w.heap.size + 2 := by rw [hwB]; simp
  have F0 : Fr [] w wB := hwB ▸ ((Fr.refl _ _).alloc _).alloc _
  have C0 : CoSt w p cp q s d 0 (.slice none 0 0) wB := by
    refine ⟨h.fr0 F0, ?_, ?_, F0.mono (by simp)⟩
    · rw [hwB, Below.heap_alloc _ _ _ (by simp)]
      exact heap_alloc_new w _
    · rw [hwB]
      have := heap_alloc_new (w.alloc (.cells #[.int .i64 0, .slice none 0 0] 61)) (.cells #[.int .i64 0, .slice none 0 0] 61)
      simpa using this
  clear h hb hsz
  generalize s.byte.2 = t at *
  generalize s.byte.1 = f at *
  go_enter Try.func78, Try.ntmps78
  go_upto_region 2 with fail
  rename_i K0 hK0
  rw [← hwB]
  clear hwB
  go_cut [4] (fun v wx => v = .int .i64 (f : Int) ∧ CoSt w p cp q t d 0 (.slice none 0 0) wx)
  case first =>
    clear hK0
    go_wp2_with (go_at_call 28; refine (HBY.out _ _ C0.rd).mono ?_; rintro e w1 ⟨rfl, R1, F1⟩)
    go_meet
    case rel => exact ⟨rfl, C0.on HLT.out.1 HLT.out.2 F1.two2 R1⟩
  case rest =>
  obtain ⟨rfl, C1⟩ := hcut
  clear C0
  (refine hK0 _ _ ?_; clear hK0; refine wp_seq_k fun K1 hK1 => ?_)
  go_cut [] (fun wx => CoSt w p cp q (t.check (decide (f / 64 ≠ 0)) 5) d 0 (.slice none 0 0) wx)
  case first =>
    clear hK1
    by_cases hk : t.ok.k = 0
    · have HK := Lib.hid (show (t.ok.k == 0) = true by rw [hk]; rfl)
      have HO := Lib.hid (Rs.ok_of_zero hk)
      have HA := Lib.hid (and192 ⟨f, HF.out⟩)
      by_cases h64 : f / 64 = 0
      · have HE := Lib.hid (show t.check (decide (f / 64 ≠ 0)) 5 = t by unfold Rs.check; rw [if_neg (by simp [h64]), Rs.ok_of_zero hk])
        have t0 : (Go.bits .and .i64 (f : Int) 192 == 0) = true := by rw [HA.out]; simpa using h64
        clear hk h64
        go_wp2_with (go_at_call 31; refine (ok_any _ p cp q t d C1.rd).mono ?_; rw [HK.out, HO.out]; rintro e w2 ⟨rfl, R2, F2⟩)
        go_meet
        case rel => rw [HE.out]; exact C1.on HLT.out.1 HLT.out.2 F2.two1 R2
      · have HE := Lib.hid (show t.check (decide (f / 64 ≠ 0)) 5 = t.fail 5 by unfold Rs.check; rw [if_pos ⟨hk, by simpa using h64⟩, Rs.ok_of_zero hk])
        have t0 : (Go.bits .and .i64 (f : Int) 192 == 0) = false := by rw [HA.out]; simpa using h64
        clear hk h64
        go_wp2_with (first
          | (have hq := R2; go_at_call 32; refine (rfail_any _ p cp q t d 5 R2).mono ?_; rintro e w3 ⟨rfl, R3, F3⟩)
          | (go_at_call 31; refine (ok_any _ p cp q t d C1.rd).mono ?_; rw [HK.out, HO.out]; rintro e w2 ⟨rfl, R2, F2⟩))
        go_meet
        case rel => rw [HE.out]; exact C1.on HLT.out.1 HLT.out.2 (F2.two1.tr2 F3.two1) R3
    · have HK := Lib.hid (show (t.ok.k == 0) = false by rw [beq_eq_false_iff_ne]; exact hk)
      have HE := Lib.hid (show t.check (decide (f / 64 ≠ 0)) 5 = t.ok by unfold Rs.check; rw [if_neg (fun h => hk h.1)])
      clear hk
      go_wp2_with (go_at_call 31; refine (ok_any _ p cp q t d C1.rd).mono ?_; rw [HK.out]; rintro e w2 ⟨rfl, R2, F2⟩)
      go_meet
      case rel => rw [HE.out]; exact C1.on HLT.out.1 HLT.out.2 F2.two1 R2
  case rest =>
  have C2 := hcut
  clear C1 hcut
  have HB2 := Lib.hid (show (t.check (decide (f / 64 ≠ 0)) 5).c.b.length ≤ 10000000 by unfold Rs.check; split <;> exact HB1.out)
  generalize t.check (decide (f / 64 ≠ 0)) 5 = s1 at *
  (refine hK1 _ _ ?_; clear hK1; refine wp_seq_k fun K2 hK2 => ?_)
  have HT1 := Lib.hid (show (s1.c.take (f % 16)).1 = (s1.take (f % 16)).1 from rfl)
  have HT2 := Lib.hid (show ({ s1 with c := (s1.c.take (f % 16)).2 } : Rs) = (s1.take (f % 16)).2 from rfl)
  have HB3 := Lib.hid (show (s1.take (f % 16)).2.c.b.length ≤ 10000000 by show (s1.c.take (f % 16)).2.b.length ≤ 10000000; rw [Cur.take_b]; exact HB2.out)
  generalize (s1.take (f % 16)).2 = s2 at *
  generalize (s1.take (f % 16)).1 = nm at *
  go_cut [5] (fun v wx => Sl wx v (bv nm) ∧ (∀ k, v.ownBlock = some k → k ≠ p ∧ k ≠ cp) ∧ CoSt w p cp q s2 d 0 (.slice none 0 0) wx)
  case first =>
    clear hK2
    have h15 := and15 f HF.out
    have hm15 : ((f % 16 : Nat) : Int) < 16 := by omega
    obtain ⟨d0, -⟩ := cells9 C2.rd.blk
    have HB4 := Lib.hid (show s1.c.b.length ≤ 140737488355328 by have := HB2.out; omega)
    obtain ⟨m, hm⟩ : ∃ m, f % 16 = m := ⟨_, rfl⟩
    rw [hm] at h15 hm15 HT1 HT2
    clear hm
    go_wp2_with (go_at_call 42; refine (take_any _ cp q s1.c m m rfl (by omega) C2.rd.cur HB4.out).mono ?_; intro e w3 h3; unfold TakeBytes at h3; rw [HT1.out] at h3; obtain ⟨nv, rfl, own3, hC, F3⟩ := h3; have R3 := C2.rd.cur' F3 hC; rw [HT2.out] at R3; obtain ⟨nao, ncap, rfl, -⟩ := own_outS own3)
    go_meet
    case rel => exact ⟨Sl.of_own own3, fun k hk => by have := (own_ltS own3 k hk).1; have := HLT.out; have := C2.fr.size; omega, C2.on HLT.out.1 HLT.out.2 F3.two2 R3⟩
  case rest =>
  obtain ⟨hnv, hnb, C3⟩ := hcut
  obtain ⟨nao, ncap, rfl, -⟩ := hnv.out
  clear C2
  (refine hK2 _ _ ?_; clear hK2; refine wp_seq_k fun K3 hK3 => ?_)
  go_cut [] (fun wx => s2.ok.k = 0 ∧ Sl wx (.slice nao (bv nm).length ncap) (bv nm) ∧ CoSt w p cp q s2 d 0 (.slice none 0 0) wx)
  case first =>
    clear hK3
    by_cases hk : s2.ok.k = 0
    · have HK := Lib.hid (show (s2.ok.k == 0) = true by rw [hk]; rfl)
      have HO := Lib.hid (Rs.ok_of_zero hk)
      have HKK := Lib.hid hk
      clear hk
      go_wp2_with (go_at_call 31; refine (ok_any _ p cp q s2 d C3.rd).mono ?_; rw [HK.out, HO.out]; rintro e w4 ⟨rfl, R4, F4⟩)
      go_meet
      case rel => exact ⟨HKK.out, hnv.fr F4 (fun k hk hm => (hnb k hk).1 (List.mem_singleton.1 hm)), C3.on HLT.out.1 HLT.out.2 F4.two1 R4⟩
    · have HK := Lib.hid (show (s2.ok.k == 0) = false by rw [beq_eq_false_iff_ne]; exact hk)
      have HE := Lib.hid (show s.coder = (⟨0, []⟩, s2.ok) by rw [HS.out, Rs.coderA, if_pos hk])
      clear hk
      go_wp2_with (go_at_call 31; refine (ok_any _ p cp q s2 d C3.rd).mono ?_; rw [HK.out]; rintro e w4 ⟨rfl, R4, F4⟩; have C4 := C3.on HLT.out.1 HLT.out.2 F4.two1 R4; obtain ⟨i0, i1, iz⟩ := cells2 C4.b0; obtain ⟨j0, j1, jz⟩ := cells2 C4.b1)
      obtain ⟨wF, hwF⟩ : ∃ wF, wF = (w4.setCell ⟨w.heap.size, 0, none⟩ (.int .i64 0)).setCell ⟨w.heap.size, 1, none⟩ (.slice none 0 0) := ⟨_, rfl⟩
      rw [← hwF]
      obtain ⟨hF1, hF2, hF3, -⟩ := C4.done HLT.out.1 HLT.out.2 HLQ.out _ _ hwF
      obtain ⟨r0, r1, -⟩ := cells2 hF1
      refine bodyPost_ret (v := .agg #[.int .i64 0, .slice none 0 0]) (by simp [results, Try.results78, go_sem, r0, r1]) rfl ?_
      exact ⟨⟨.slice none 0 0, by rw [HE.out], by rw [HE.out]; exact Sm.nil _ _ _ _⟩, by rw [HE.out]; exact hF2, hF3⟩
  case rest =>
  clear hnv hnb
  obtain ⟨hk, hnv, C4⟩ := hcut
  have HSB := Lib.hid (show s.coder = Rs.coderB f (s2.method nm).1 (s2.method nm).2 by rw [HS.out, Rs.coderA, if_neg (by simp [hk]), Rs.ok_of_zero hk])
  clear C3 hk
  have HB5 := Lib.hid (show (s2.method nm).2.c.b.length ≤ 10000000 by unfold Rs.method; split; exact HB3.out; split <;> exact HB3.out)
  have HMT := Lib.hid (fun wy (R : RdAt wy p cp q s2 d) hv => method_any wy p cp q s2 d (.slice nao (bv nm).length ncap) nm R hv)
  have HNV := Lib.hid hnv
  clear hnv
  generalize (s2.method nm).1 = m at *
  generalize (s2.method nm).2 = s3 at *
  (refine hK3 _ _ ?_; clear hK3; refine wp_seq_k fun K4 hK4 => ?_)
  go_cut [] (fun wx => CoSt w p cp q s3 d (m : Int) (.slice none 0 0) wx)
  case first =>
    clear hK4
    obtain ⟨j0, j1, jz⟩ := cells2 C4.b1
    go_wp2_with (go_at_call 84; refine (HMT.out _ C4.rd HNV.out).mono ?_; rintro e w5 ⟨rfl, R5, F5⟩; have C5 := C4.on HLT.out.1 HLT.out.2 F5.two1 R5; obtain ⟨k0, k1, kz⟩ := cells2 C5.b1)
    go_meet
    case rel =>
      have F6 : Fr [w.heap.size + 1] w5 (w5.setCell ⟨w.heap.size + 1, 0, none⟩ (.int .i64 (m : Int))) := (Fr.refl _ _).setCell (by simp) _
      refine ⟨R5.fr F6 (by simp; have := HLT.out; omega) (by simp; have := HLT.out; omega) (fun k hk => by have := HLQ.out k hk; simp; omega), (F6.block _ (Array.getElem?_eq_some_iff.1 C5.b0).1 (by simp)).trans C5.b0, Go.Joins.block_setCell C5.b1 _, C5.fr.setCell (.inr (by simp)) _⟩
  case rest =>
  have C5 := hcut
  clear C4 hcut HMT HNV
  (refine hK4 _ _ ?_; clear hK4; refine wp_seq_k fun K5 hK5 => ?_)
  go_cut [6, 7] (fun v6 v7 wx => v6 = .int .u64 1 ∧ v7 = .int .u64 1 ∧ CoSt w p cp q s3 d (m : Int) (.slice none 0 0) wx)
  case first =>
    clear hK5
    go_wp2_with fail
    go_meet
    case rel => exact ⟨rfl, rfl, C5⟩
  case rest =>
  clear C5
  obtain ⟨rfl, rfl, C5⟩ := hcut
  (refine hK5 _ _ ?_; clear hK5; refine wp_seq_k fun K6 hK6 => ?_)
  go_cut [6, 7] (fun v6 v7 wx => v6 = .int .u64 ((s3.two (f / 16 % 2 == 1)).1.1 : Int) ∧ v7 = .int .u64 ((s3.two (f / 16 % 2 == 1)).1.2 : Int) ∧ CoSt w p cp q (s3.two (f / 16 % 2 == 1)).2 d (m : Int) (.slice none 0 0) wx)
  case first =>
    clear hK6
    have HA := and16 ⟨f, HF.out⟩
    dsimp only at HA
    generalize (f / 16 % 2 == 1) = c at *
    cases c with
    | false =>
      have t0 : (Go.bits .and .i64 (f : Int) 16 != 0) = false := by rw [bne, HA]; rfl
      have HE := Lib.hid (show s3.two false = ((1, 1), s3) from rfl)
      clear HA
      go_wp2_with fail
      go_meet
      case rel => rw [HE.out]; exact ⟨rfl, rfl, C5⟩
    | true =>
      have t0 : (Go.bits .and .i64 (f : Int) 16 != 0) = true := by rw [bne, HA]; rfl
      clear HA
      by_cases hk : s3.ok.k = 0
      · have HK := Lib.hid (show (s3.ok.k == 0) = true by rw [hk]; rfl)
        have HO := Lib.hid (Rs.ok_of_zero hk)
        have HE := Lib.hid (show s3.two true = ((s3.number.1, s3.number.2.number.1), s3.number.2.number.2) by rw [Rs.two, Rs.at_true, hk, Rs.ok_of_zero hk]; rfl)
        have HN1 := Lib.hid (show s3.c.b.length ≤ 140737488355328 by have := HB5.out; omega)
        have HN2 := Lib.hid (show s3.number.2.c.b.length ≤ 140737488355328 by rw [show s3.number.2.c.b = s3.c.b from number_b s3.c]; have := HB5.out; omega)
        clear hk
        go_wp2_with (go_at_call 31; refine (ok_any _ p cp q s3 d C5.rd).mono ?_; rw [HK.out, HO.out]; rintro e w6 ⟨rfl, R6, F6⟩)
        have R6d := R6.same Same.drew
        go_region_held3 (fun w' => w'.cell? ⟨p, 0, none⟩ = some (.pointer (some ⟨cp, 0, none⟩)))
          (first | exact (cells9 R6.blk).1 | exact (cells9 R6d.blk).1 | exact (cells9 R7.blk).1 | exact (cells9 R8.blk).1 | go_keep)
          (first
            | (have hq := R7; go_at_call 72; refine (number_any _ cp q s3.number.2.c R7.cur HN2.out).mono ?_; rintro e w8 ⟨rfl, hC8, F8⟩; have R8 := R7.cur' F8 hC8)
            | (go_at_call 72; refine (number_any _ cp q s3.c R6d.cur HN1.out).mono ?_; rintro e w7 ⟨rfl, hC7, F7⟩; have R7 := R6d.cur' F7 hC7))
        go_wp2_with fail
        go_meet
        case rel => rw [HE.out]; exact ⟨rfl, rfl, C5.on HLT.out.1 HLT.out.2 (((F6.two1.drew).tr2 F7.two2).tr2 F8.two2) R8⟩
      · have HK := Lib.hid (show (s3.ok.k == 0) = false by rw [beq_eq_false_iff_ne]; exact hk)
        have HE := Lib.hid (show s3.two true = ((1, 1), s3.ok) by rw [Rs.two, Rs.at_true, beq_eq_false_iff_ne.2 hk]; rfl)
        clear hk
        go_wp2_with (go_at_call 31; refine (ok_any _ p cp q s3 d C5.rd).mono ?_; rw [HK.out]; rintro e w6 ⟨rfl, R6, F6⟩)
        go_meet
        case rel => rw [HE.out]; exact ⟨rfl, rfl, C5.on HLT.out.1 HLT.out.2 F6.two1 R6⟩
  case rest =>
  clear C5
  obtain ⟨rfl, rfl, C6⟩ := hcut
  have HB6 := Lib.hid (show (s3.two (f / 16 % 2 == 1)).2.c.b.length ≤ 10000000 by
    unfold Rs.two
    split
    · rw [Rs.number_cb, Rs.number_cb, Rs.at_c]
      exact HB5.out
    · rw [Rs.at_c]
      exact HB5.out)
  have HSB2 := Lib.hid (show s.coder = (⟨m, (((s3.two (f / 16 % 2 == 1)).2.check (((s3.two (f / 16 % 2 == 1)).1.1 != ins m) || ((s3.two (f / 16 % 2 == 1)).1.2 != 1)) 10).propsOf (f / 32 % 2 == 1)).1⟩,
    (((s3.two (f / 16 % 2 == 1)).2.check (((s3.two (f / 16 % 2 == 1)).1.1 != ins m) || ((s3.two (f / 16 % 2 == 1)).1.2 != 1)) 10).propsOf (f / 32 % 2 == 1)).2) from HSB.out)
  generalize (s3.two (f / 16 % 2 == 1)).2 = s4 at *
  generalize (s3.two (f / 16 % 2 == 1)).1.1 = n1 at *
  generalize (s3.two (f / 16 % 2 == 1)).1.2 = n2 at *
  (refine hK6 _ _ ?_; clear hK6; refine wp_seq_k fun K7 hK7 => ?_)
  go_cut [6, 7] (fun _ _ wx => CoSt w p cp q (s4.check ((n1 != ins m) || (n2 != 1)) 10) d (m : Int) (.slice none 0 0) wx)
  case first =>
    clear hK7
    by_cases hk : s4.ok.k = 0
    · have HK := Lib.hid (show (s4.ok.k == 0) = true by rw [hk]; rfl)
      have HO := Lib.hid (Rs.ok_of_zero hk)
      have hin : (ins m : Int) ≤ 4 := by have := ins_le m; omega
      by_cases e1 : n1 = ins m
      · have t1 : ((n1 : Int) != (ins m : Int)) = false := by rw [bne_eq_false_iff_eq]; omega
        by_cases e2 : n2 = 1
        · have t2 : ((n2 : Int) != 1) = false := by rw [bne_eq_false_iff_eq]; omega
          have HE := Lib.hid (show s4.check ((n1 != ins m) || (n2 != 1)) 10 = s4 by unfold Rs.check; rw [if_neg (by simp [e1, e2]), Rs.ok_of_zero hk])
          clear hk e1 e2
          go_wp2_with (first
            | (have hq := C7; go_at_call 16; refine (ins_any _ (m : Int) _).mono ?_; rintro e w8 ⟨rfl, F8⟩; have C8 := C7.on HLT.out.1 HLT.out.2 (F8.mono (by simp)) (R7.fr0 F8))
            | (go_at_call 31; refine (ok_any _ p cp q s4 d C6.rd).mono ?_; rw [HK.out, HO.out]; rintro e w7 ⟨rfl, R7, F7⟩; have C7 := C6.on HLT.out.1 HLT.out.2 F7.two1 R7; obtain ⟨j0, j1, jz⟩ := cells2 C7.b1))
          go_meet
          case rel => rw [HE.out]; exact C8
        · have t2 : ((n2 : Int) != 1) = true := by rw [bne_iff_ne]; omega
          have HE := Lib.hid (show s4.check ((n1 != ins m) || (n2 != 1)) 10 = s4.fail 10 by unfold Rs.check; rw [if_pos ⟨hk, by simp [e2]⟩, Rs.ok_of_zero hk])
          clear hk e1 e2
          go_wp2_with (first
            | (have hq := C8; go_at_call 32; refine (rfail_any _ p cp q s4 d 10 C8.rd).mono ?_; rintro e w9 ⟨rfl, R9, F9⟩)
            | (have hq := C7; go_at_call 16; refine (ins_any _ (m : Int) _).mono ?_; rintro e w8 ⟨rfl, F8⟩; have C8 := C7.on HLT.out.1 HLT.out.2 (F8.mono (by simp)) (R7.fr0 F8))
            | (go_at_call 31; refine (ok_any _ p cp q s4 d C6.rd).mono ?_; rw [HK.out, HO.out]; rintro e w7 ⟨rfl, R7, F7⟩; have C7 := C6.on HLT.out.1 HLT.out.2 F7.two1 R7; obtain ⟨j0, j1, jz⟩ := cells2 C7.b1))
          go_meet
          case rel => rw [HE.out]; exact C8.on HLT.out.1 HLT.out.2 F9.two1 R9
      · have t1 : ((n1 : Int) != (ins m : Int)) = true := by rw [bne_iff_ne]; omega
        have HE := Lib.hid (show s4.check ((n1 != ins m) || (n2 != 1)) 10 = s4.fail 10 by unfold Rs.check; rw [if_pos ⟨hk, by simp [e1]⟩, Rs.ok_of_zero hk])
        clear hk e1
        go_wp2_with (first
          | (have hq := C8; go_at_call 32; refine (rfail_any _ p cp q s4 d 10 C8.rd).mono ?_; rintro e w9 ⟨rfl, R9, F9⟩)
          | (have hq := C7; go_at_call 16; refine (ins_any _ (m : Int) _).mono ?_; rintro e w8 ⟨rfl, F8⟩; have C8 := C7.on HLT.out.1 HLT.out.2 (F8.mono (by simp)) (R7.fr0 F8))
          | (go_at_call 31; refine (ok_any _ p cp q s4 d C6.rd).mono ?_; rw [HK.out, HO.out]; rintro e w7 ⟨rfl, R7, F7⟩; have C7 := C6.on HLT.out.1 HLT.out.2 F7.two1 R7; obtain ⟨j0, j1, jz⟩ := cells2 C7.b1))
        go_meet
        case rel => rw [HE.out]; exact C8.on HLT.out.1 HLT.out.2 F9.two1 R9
    · have HK := Lib.hid (show (s4.ok.k == 0) = false by rw [beq_eq_false_iff_ne]; exact hk)
      have HE := Lib.hid (show s4.check ((n1 != ins m) || (n2 != 1)) 10 = s4.ok by unfold Rs.check; rw [if_neg (fun h => hk h.1)])
      clear hk
      go_wp2_with (go_at_call 31; refine (ok_any _ p cp q s4 d C6.rd).mono ?_; rw [HK.out]; rintro e w7 ⟨rfl, R7, F7⟩)
      go_meet
      case rel => rw [HE.out]; exact C6.on HLT.out.1 HLT.out.2 F7.two1 R7
  case rest =>
  have C7 := hcut
  clear hcut C6
  have HB7 := Lib.hid (show (s4.check ((n1 != ins m) || (n2 != 1)) 10).c.b.length ≤ 10000000 by unfold Rs.check; split <;> exact HB6.out)
  generalize (s4.check ((n1 != ins m) || (n2 != 1)) 10) = s5 at *
  (refine hK7 _ _ ?_; clear hK7; refine wp_seq_k fun K8 hK8 => ?_)
  go_cut [] (fun wx => ∃ pv, Sm wx (w.heap.size + 2) 5 1 pv (s5.propsOf (f / 32 % 2 == 1)).1.length (bv (s5.propsOf (f / 32 % 2 == 1)).1) ∧ CoSt w p cp q (s5.propsOf (f / 32 % 2 == 1)).2 d (m : Int) pv wx)
  case first =>
    clear hK8
    have HA := and32 ⟨f, HF.out⟩
    dsimp only at HA
    generalize (f / 32 % 2 == 1) = c at *
    cases c with
    | false =>
      have t0 : (Go.bits .and .i64 (f : Int) 32 != 0) = false := by rw [bne, HA]; rfl
      have HE := Lib.hid (show s5.propsOf false = ([], s5) from rfl)
      clear HA
      go_wp2_with fail
      go_meet
      case rel => rw [HE.out]; exact ⟨_, Sm.nil _ _ _ _, C7⟩
    | true =>
      have t0 : (Go.bits .and .i64 (f : Int) 32 != 0) = true := by rw [bne, HA]; rfl
      clear HA
      by_cases hk : s5.ok.k = 0
      · have HK := Lib.hid (show (s5.ok.k == 0) = true by rw [hk]; rfl)
        have HO := Lib.hid (Rs.ok_of_zero hk)
        have HE := Lib.hid (show s5.propsOf true = ((s5.things.2.c.take s5.things.1).1, { s5.things.2 with c := (s5.things.2.c.take s5.things.1).2 }) by rw [Rs.propsOf, Rs.at_true, hk, Rs.ok_of_zero hk]; rfl)
        have HTH := Lib.hid (fun wy (R : RdAt wy p cp q s5 d) => things_ok wy p cp q s5 d R HB7.out)
        have HNL := Lib.hid (Nat.le_trans (things_le s5) HB7.out)
        have HTB := Lib.hid (show s5.things.2.c.b.length ≤ 140737488355328 by rw [things_b]; have := HB7.out; omega)
        clear hk
        generalize s5.things.2 = s6 at *
        generalize s5.things.1 = n at *
        have hnI : (n : Int) ≤ 10000000 := by have := HNL.out; omega
        go_wp2_with (go_at_call 31; refine (ok_any _ p cp q s5 d C7.rd).mono ?_; rw [HK.out, HO.out]; rintro e w6 ⟨rfl, R6, F6⟩; have C8 := C7.on HLT.out.1 HLT.out.2 F6.two1 R6)
        have C8d := C8.on HLT.out.1 HLT.out.2 ((Fr.refl _ _).drew) (C8.rd.same Same.drew)
        go_region_held3 (fun w' => w'.cell? ⟨p, 0, none⟩ = some (.pointer (some ⟨cp, 0, none⟩)))
          (first | exact (cells9 C8.rd.blk).1 | exact (cells9 C8d.rd.blk).1 | exact (cells9 C9.rd.blk).1 | exact (cells9 C10.rd.blk).1 | exact (cells9 R11.blk).1 | go_keep)
          (first
            | (have hq := C9; go_at_call 42; rw [IntWalk.u64_in (n : Int) (by omega)]; refine (take_any _ cp q s6.c n n rfl (by omega) C9.rd.cur HTB.out).mono ?_; rintro e w8 ⟨nv, rfl, own8, hC8, F8⟩; have C10 := C9.on HLT.out.1 HLT.out.2 F8.two2 (C9.rd.cur' F8 hC8); obtain ⟨vao, vcap, rfl, -⟩ := own_outS own8; obtain ⟨k0, k1, kz⟩ := cells2 C10.b1; have F11 : Fr [w.heap.size + 1] w8 (w8.setCell ⟨w.heap.size + 1, 1, none⟩ (.slice vao (s6.c.take n).1.length vcap)) := (Fr.refl _ _).setCell (by simp) _; have R11 := C10.rd.fr F11 (by have := HLT.out; simp; omega) (by have := HLT.out; simp; omega) (fun k hk => by have := HLQ.out k hk; simp; omega))
            | (go_at_call 58; refine (HTH.out _ C8d.rd).mono ?_; rintro e w7 ⟨rfl, R7, F7⟩; have C9 := C8d.on HLT.out.1 HLT.out.2 F7 R7))
        go_wp2_with fail
        go_meet
        case rel =>
          rw [HE.out]
          refine ⟨.slice vao (s6.c.take n).1.length vcap, (Sm.of_own (w.heap.size + 2) own8 ?_).fr F11 (by simp), R11, (F11.block _ (Array.getElem?_eq_some_iff.1 C10.b0).1 (by simp)).trans C10.b0, Go.Joins.block_setCell C10.b1 _, C10.fr.setCell (.inr (by simp)) _⟩
          have := (Array.getElem?_eq_some_iff.1 C9.b1).1
          omega
      · have HK := Lib.hid (show (s5.ok.k == 0) = false by rw [beq_eq_false_iff_ne]; exact hk)
        have HE := Lib.hid (show s5.propsOf true = ([], s5.ok) by rw [Rs.propsOf, Rs.at_true, beq_eq_false_iff_ne.2 hk]; rfl)
        clear hk
        go_wp2_with (go_at_call 31; refine (ok_any _ p cp q s5 d C7.rd).mono ?_; rw [HK.out]; rintro e w6 ⟨rfl, R6, F6⟩)
        go_meet
        case rel => rw [HE.out]; exact ⟨_, Sm.nil _ _ _ _, C7.on HLT.out.1 HLT.out.2 F6.two1 R6⟩
  case rest =>
  obtain ⟨pv, hpv, C8⟩ := hcut
  obtain ⟨vao, vcap, rfl, -⟩ := hpv.out
  have HPV := Lib.hid hpv
  have HRes := Lib.hid (show s.coder = (⟨m, (s5.propsOf (f / 32 % 2 == 1)).1⟩, (s5.propsOf (f / 32 % 2 == 1)).2) from HSB2.out)
  generalize (s5.propsOf (f / 32 % 2 == 1)).1 = ps at *
  generalize (s5.propsOf (f / 32 % 2 == 1)).2 = s7 at *
  obtain ⟨i0, i1, iz⟩ := cells2 C8.b0
  obtain ⟨j0, j1, jz⟩ := cells2 C8.b1
  clear hpv C7
  go_wp2_with fail
  obtain ⟨wF, hwF⟩ : ∃ wF, wF = (wc.setCell ⟨w.heap.size, 0, none⟩ (.int .i64 (m : Int))).setCell ⟨w.heap.size, 1, none⟩ (.slice vao ps.length vcap) := ⟨_, rfl⟩
  rw [← hwF]
  obtain ⟨hF1, hF2, hF3, hF4⟩ := C8.done HLT.out.1 HLT.out.2 HLQ.out _ _ hwF
  obtain ⟨r0, r1, -⟩ := cells2 hF1
  refine bodyPost_ret (v := .agg #[.int .i64 (m : Int), .slice vao ps.length vcap]) (by simp [results, Try.results78, go_sem, r0, r1]) rfl ?_
  refine ⟨⟨.slice vao ps.length vcap, by rw [HRes.out], ?_⟩, by rw [HRes.out]; exact hF2, hF3⟩
  rw [HRes.out]
  exact (HPV.out.fr hF4 (by simp)).mono (by omega)
end Go.Proofs.Ythdfjbliafdchaa
