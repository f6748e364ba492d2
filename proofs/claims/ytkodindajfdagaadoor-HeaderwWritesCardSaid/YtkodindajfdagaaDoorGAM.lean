/- Contracts: headerw.sizes, fair, ins. No condition but that lengths fit. -/
import Derived.Test.YtkodindajfdagaaDoorWFoldsM
import Derived.Lib.Slices
namespace Go.Proofs.YtkodindajfdagaaDoor
open Go.RowKit

def sizesUp : Nat → List UInt64 → Bool
  | _, [] => true
  | a, s :: t => if 1099511627776 < a + s.toNat then false else sizesUp (a + s.toNat) t
set_option maxRecDepth 100000 in
theorem sizes_any (w : World) (hi : Nat) (sv : Value) (l : List UInt64) (h : RowAt w hi 1 sv l.length (u64v l)) (hn : l.length ≤ 1000000) :
    Calls Tryd.prog 37 #[sv] w fun e w' => e = .returned (.bool (sizesUp 0 l)) ∧ w = w' := by
  obtain ⟨ao, cap, rfl, -, -, -⟩ := h.out
  have HR := Lib.hid h
  clear h
  have HN := Lib.hid hn
  go_enter Tryd.func37, Tryd.ntmps37
  go_wp2_with fail
  go_loopw [3, 8] (fun v3 i wr => ∃ k a : Nat, k ≤ l.length ∧ a ≤ 1099511627776 ∧ i = .int .i64 k ∧ v3 = .int .u64 (a : Int) ∧ Hid (sizesUp 0 l = sizesUp a (l.drop k)) ∧ wr = w) (fun _ i _ => l.length - (intOf i).toNat)
  case atStart => exact ⟨0, 0, Nat.zero_le _, by omega, rfl, rfl, by show sizesUp 0 l = sizesUp 0 (l.drop 0); rfl, rfl⟩
  case round =>
    obtain ⟨k, a, hk, ha, rfl, rfl, hs, hw⟩ := hrel
    subst hw
    by_cases hlt : k < l.length
    · obtain ⟨x, hx⟩ := some_get l k hlt
      obtain ⟨b1, o1, hao, hb1, e0⟩ := HR.out.word hx hlt
      subst hao
      have hdr : l.drop k = x :: l.drop (k + 1) := by
        have := List.drop_eq_getElem_cons hlt
        rwa [(List.getElem?_eq_some_iff.1 hx).2] at this
      have HD := Lib.hid (show sizesUp a (l.drop k) = if 1099511627776 < a + x.toNat then false else sizesUp (a + x.toNat) (l.drop (k + 1)) by rw [hdr]; rfl)
      have hxl := x.toNat_lt
      clear hx hdr
      have hw1 : IntKind.u64.wrap (1099511627776 - (a : Int)) = ((1099511627776 - a : Nat) : Int) := by simp [IntKind.wrap, IntKind.bits, IntKind.signed]; omega
      by_cases hgt : 1099511627776 < a + x.toNat
      · have t0 : ((1099511627776 - a : Nat) : Int) < (x.toNat : Int) := by omega
        have t1 : (1099511627776 : Int) - (a : Int) < (x.toNat : Int) := by omega
        have HE := Lib.hid (show sizesUp 0 l = false by rw [hs.out, HD.out, if_pos hgt])
        clear hgt
        go_wp2_with fail
        go_ret
        exact ⟨by rw [HE.out]; rfl, rfl⟩
      · have t0 : (x.toNat : Int) ≤ ((1099511627776 - a : Nat) : Int) := by omega
        have t1 : (x.toNat : Int) ≤ (1099511627776 : Int) - (a : Int) := by omega
        have HE := Lib.hid (show sizesUp 0 l = sizesUp (a + x.toNat) (l.drop (k + 1)) by rw [hs.out, HD.out, if_neg hgt])
        have ha2 : a + x.toNat ≤ 1099511627776 := by omega
        clear hgt
        go_wp2_with fail
        go_roundw
        case rel => exact ⟨k + 1, a + x.toNat, by omega, ha2, by go_num, by first | rfl | (congr 1; omega) | (simp <;> omega), by show sizesUp 0 l = _; exact HE.out, by trivial⟩
        case measure => simp [intOf]; omega
    · obtain rfl : k = l.length := by omega
      have HE := Lib.hid (show sizesUp 0 l = true by rw [hs.out, List.drop_length]; rfl)
      go_wp2_with fail
      go_ret
      exact ⟨by rw [HE.out]; rfl, rfl⟩
set_option maxRecDepth 100000 in
theorem fair_any (w : World) (c : Ck) : Calls Tryd.prog 38 #[.agg #[.bool c.has, .int .u32 c.sum.toNat]] w fun e w' => e = .returned (.bool (c.has || c.sum == 0)) ∧ Fr [] w w' := by
  obtain ⟨hs, sm⟩ := c
  have ea : ((sm.toNat : Int) == 0) = (sm == 0) := by
    by_cases h : sm = 0
    · subst h; rfl
    · have h1 : sm.toNat ≠ 0 := fun e => h (UInt32.toNat_inj.1 e)
      have h2 : (sm == 0) = false := by simp [h]
      rw [h2, beq_eq_false_iff_ne]
      omega
  dsimp only
  generalize (sm == 0) = z at *
  cases hs <;> cases z
  all_goals
    go_enter Tryd.func38, Tryd.ntmps38
    go_wp2_with fail
    go_ret
    exact ⟨rfl, (Fr.refl _ _).alloc _⟩
end Go.Proofs.YtkodindajfdagaaDoor
/- Contracts: headerw.ins, lone; slices.Min, slices.Max. No condition but that lengths fit. -/
namespace Go.Proofs.YtkodindajfdagaaDoor
open Go.RowKit

theorem few_of : ∀ (k : Nat) (l : List Int), (∀ j : Nat, j < k → (j : Int) ∈ l) → k ≤ l.length
  | 0, _, _ => Nat.zero_le _
  | k + 1, l, h => by
    have hk := h k (by omega)
    have ih := few_of k (l.erase (k : Int)) (fun j hj => (List.mem_erase_of_ne (by omega)).2 (h j (by omega)))
    rw [List.length_erase_of_mem hk] at ih
    have := List.length_pos_of_mem hk
    omega

/-- The least stream that no bind has. -/
def loneN (f : Folder) : Nat := ((List.range (f.binds.length + 1)).find? fun i : Nat => decide ((i : Int) ∉ f.binds.map (·.1))).getD 0
theorem lone_at {f : Folder} {k : Nat} (hA : ∀ j, j < k → (j : Int) ∈ f.binds.map (·.1)) (hm : (k : Int) ∉ f.binds.map (·.1)) : loneN f = k := by
  have hk := few_of k _ hA
  rw [List.length_map] at hk
  have e : ((List.range (f.binds.length + 1)).find? fun i : Nat => decide ((i : Int) ∉ f.binds.map (·.1))) = some k := by
    rw [List.find?_range_eq_some]
    refine ⟨by simpa using hm, by simp; omega, fun j hj => ?_⟩
    simpa using hA j hj
  unfold loneN
  rw [e]
  rfl

set_option maxRecDepth 100000 in
theorem lone1_any (w : World) (p : Nat) (a x y : Int) (hc : w.cell? ⟨p, 0, none⟩ = some (.int .i64 a)) (hp : p < w.heap.size) :
    Calls Tryd.prog 79 #[.agg #[.int .i64 x, .int .i64 y], .pointer (some ⟨p, 0, none⟩)] w fun e w' => e = .returned (.bool (x == a)) ∧ Fr [] w w' := by
  have c2 : (w.alloc (.cells #[.int .i64 x, .int .i64 y] 73)).cell? ⟨p, 0, none⟩ = some (.int .i64 a) := (((Fr.refl [] w).alloc _).cell (p := ⟨p, 0, none⟩) hp (by simp)).trans hc
  go_enter Tryd.func79, Tryd.ntmps79
  go_wp2_with fail
  go_ret
  exact ⟨rfl, (Fr.refl _ _).alloc _⟩

def inAt (f : Folder) (a : Int) : Bool := decide (a ∈ f.binds.map (·.1))
set_option maxRecDepth 100000 in
set_option maxHeartbeats 1000000 in
theorem ixb_any (w : World) (bv : Value) (l : List (Int × Int)) (h : Bi w bv l) (p : Nat) (a : Int) (hc : w.cell? ⟨p, 0, none⟩ = some (.int .i64 a)) (hp : p < w.heap.size) :
    Calls Tryd.prog 83 #[bv, .func (.func 79) #[] #[.pointer (some ⟨p, 0, none⟩)]] w fun e w' => (∃ n : Int, e = .returned (.int .i64 n) ∧ decide (0 ≤ n) = decide (a ∈ l.map (·.1))) ∧ Fr [] w w' := by
  obtain ⟨ao, cap, rfl, hcap, hcm, o⟩ := h.out
  have HO := Lib.hid o
  clear h o
  go_enter Tryd.func83, Tryd.ntmps83
  go_wp2_with fail
  go_loopw [8] (fun i wr => ∃ k : Nat, k ≤ l.length ∧ i = .int .i64 k ∧ Hid (a ∉ (l.take k).map (·.1)) ∧ Fr [] w wr) (fun i _ => l.length - (intOf i).toNat)
  case atStart => exact ⟨0, Nat.zero_le _, rfl, by show a ∉ []; simp, Fr.refl _ _⟩
  case round =>
    obtain ⟨k, hk, rfl, hall, F⟩ := hrel
    by_cases hlt : k < l.length
    · obtain ⟨x, hx⟩ := some_get l k hlt
      obtain ⟨b1, o1, rfl, hb1, e0, e1⟩ := HO.out k x hx
      have d0 := (F.cell (p := ⟨b1, o1 + k * 2, none⟩) hb1 (by simp)).trans e0
      have d1 := (F.cell (p := ⟨b1, o1 + k * 2 + 1, none⟩) hb1 (by simp)).trans e1
      have hcc := (F.cell (p := ⟨p, 0, none⟩) hp (by simp)).trans hc
      have hpp := Nat.lt_of_lt_of_le hp F.size
      have HX := Lib.hid (show (l.take (k + 1)).map (·.1) = (l.take k).map (·.1) ++ [x.1] by rw [List.take_add_one, hx, List.map_append]; rfl)
      have HM := Lib.hid (List.mem_of_getElem? hx)
      have HF := Lib.hid F
      obtain ⟨x1, x2⟩ := x
      dsimp only at d0 d1 HX HM
      have HC := Lib.hid (lone1_any wr p a x1 x2 hcc hpp)
      clear hx F e0 e1 hcc hpp hc
      by_cases hxa : x1 = a
      · have t0 : (x1 == a) = true := by simp [hxa]
        have HA := Lib.hid hxa
        clear hxa
        go_wp2_with (go_at_call 79; refine HC.out.mono ?_; rw [t0]; rintro e w1 ⟨rfl, F1⟩)
        go_ret
        exact ⟨⟨k, rfl, by rw [decide_eq_true (show a ∈ l.map (·.1) from HA.out ▸ List.mem_map_of_mem (f := (·.1)) HM.out)]; simp⟩, HF.out.trans0 F1⟩
      · have t0 : (x1 == a) = false := by simp [hxa]
        have HA := Lib.hid hxa
        clear hxa
        go_wp2_with (go_at_call 79; refine HC.out.mono ?_; rw [t0]; rintro e w1 ⟨rfl, F1⟩)
        go_roundw
        case rel => exact ⟨k + 1, by omega, by go_num, by show a ∉ (l.take (k + 1)).map (·.1); rw [HX.out, List.mem_append, not_or]; exact ⟨hall.out, by rw [List.mem_singleton]; exact fun e => HA.out e.symm⟩, HF.out.trans0 F1⟩
        case measure => simp [intOf]; omega
    · obtain rfl : k = l.length := by omega
      have hA := hall.out
      rw [List.take_of_length_le (Nat.le_refl _)] at hA
      have HA := Lib.hid hA
      clear hA hall
      go_wp2_with fail
      go_ret
      exact ⟨⟨-1, rfl, by rw [decide_eq_false HA.out]; rfl⟩, F⟩
set_option maxRecDepth 100000 in
theorem cfb_any (w : World) (bv : Value) (l : List (Int × Int)) (h : Bi w bv l) (p : Nat) (a : Int) (hc : w.cell? ⟨p, 0, none⟩ = some (.int .i64 a)) (hp : p < w.heap.size) :
    Calls Tryd.prog 78 #[bv, .func (.func 79) #[] #[.pointer (some ⟨p, 0, none⟩)]] w fun e w' => e = .returned (.bool (decide (a ∈ l.map (·.1)))) ∧ Fr [] w w' := by
  have HI := Lib.hid (ixb_any w bv l h p a hc hp)
  obtain ⟨ao, cap, rfl, -, -, -⟩ := h.out
  clear h
  go_enter Tryd.func78, Tryd.ntmps78
  go_wp2_with (go_at_call 83; refine HI.out.mono ?_; rintro e w1 ⟨⟨n, rfl, hn⟩, F1⟩; have HNN := Lib.hid hn; clear hn)
  go_ret
  exact ⟨by rw [← HNN.out]; rfl, F1⟩

set_option maxRecDepth 100000 in
set_option maxHeartbeats 1000000 in
theorem lone_any (w : World) (cv bv pv sv h k0 : Value) (f : Folder) (hf : FoV w cv bv pv sv f) (hb : f.binds.length ≤ 100000) :
    Calls Tryd.prog 66 #[.agg #[cv, bv, pv, sv, h, k0]] w fun e w' => e = .returned (.int .i64 (loneN f : Int)) ∧ Fr [] w w' := by
  obtain ⟨bo, bc, rfl, -, -, -⟩ := hf.bi.out
  have HB := Lib.hid hf.bi
  have HN := Lib.hid hb
  clear hf hb
  obtain ⟨wA, hwA⟩ : ∃ wA, wA = w.alloc (.cells #[cv, .slice bo f.binds.length bc, pv, sv, h, k0] 46) := ⟨_, rfl⟩
  have FA : Fr [] w wA := hwA ▸ (Fr.refl _ _).alloc _
  have sA : wA.heap.size = w.heap.size + 1 := by rw [hwA]; simp
  have HBX := Lib.hid (fun wx (F : Fr [] wA wx) => box6 (hwA ▸ F : Fr [] (w.alloc (.cells #[cv, .slice bo f.binds.length bc, pv, sv, h, k0] 46)) wx))
  obtain ⟨wB, hwB⟩ : ∃ wB, wB = wA.alloc (.cells #[.int .i64 0] 3) := ⟨_, rfl⟩
  have FB : Fr [] wA wB := hwB ▸ (Fr.refl _ _).alloc _
  have sB : wB.heap.size = w.heap.size + 2 := by rw [hwB]; simp [sA]
  have c0 : wB.heap[w.heap.size + 1]? = some (.cells #[.int .i64 (0 : Nat)] 3) := by rw [hwB, ← sA]; exact heap_alloc_new wA _
  have hn := HN.out
  go_enter Tryd.func66, Tryd.ntmps66
  go_wp2_with fail
  rw [← hwA, ← hwB]
  clear hwA hwB
  go_loopw [] (fun wr => ∃ k : Nat, k ≤ f.binds.length ∧ wr.heap[w.heap.size + 1]? = some (.cells #[.int .i64 k] 3) ∧ Hid (∀ j, j < k → (j : Int) ∈ f.binds.map (·.1)) ∧ w.heap.size + 2 ≤ wr.heap.size ∧ Fr [] wA wr) (fun wr => f.binds.length + 1 - (intOf ((wr.cell? ⟨w.heap.size + 1, 0, none⟩).getD default)).toNat)
  case atStart => exact ⟨0, Nat.zero_le _, c0, by show ∀ j, j < 0 → _; intro j hj; omega, by omega, FB⟩
  case round =>
    obtain ⟨k, hk, hb, hA, hs, F⟩ := hrel
    obtain ⟨d0, d1, d2, d3, d4, d5⟩ := HBX.out _ F
    have hc : wr.cell? ⟨w.heap.size + 1, 0, none⟩ = some (.int .i64 k) := by rw [Go.Joins.cell_of_block hb]; rfl
    have HC := Lib.hid (cfb_any wr _ _ (HB.out.fr (FA.trans0 F)) (w.heap.size + 1) k hc (by omega))
    by_cases hm : (k : Int) ∈ f.binds.map (·.1)
    · have HE := Lib.hid (decide_eq_true hm)
      have HM := Lib.hid (show ∀ j : Nat, j < k + 1 → (j : Int) ∈ f.binds.map (·.1) from fun j hj => by
        by_cases e : j = k
        · rw [e]; exact hm
        · exact hA.out j (by omega))
      have hlt := few_of (k + 1) _ HM.out
      rw [List.length_map] at hlt
      have HS := Lib.hid hs
      have HF := Lib.hid F
      have HBL := Lib.hid hb
      have HCC := Lib.hid hc
      clear hm hA hs F hb
      have hwk : wrap64 ((k : Int) + 1) = ((k + 1 : Nat) : Int) := by unfold wrap64; omega
      go_wp2_with (go_at_call 78; refine HC.out.mono ?_; rw [HE.out]; rintro e w1 ⟨rfl, F1⟩; have hb1 := (F1.block (w.heap.size + 1) (by have := HS.out; omega) (by simp)).trans HBL.out; have hc1 := (F1.cell (p := ⟨w.heap.size + 1, 0, none⟩) (by have := HS.out; show w.heap.size + 1 < _; omega) (by simp)).trans hc; have hz1 : w1.frozen? ⟨w.heap.size + 1, 0, none⟩ = false := frozen_of_row _ _ _ _ _ hb1)
      have hb2 : (w1.setCell ⟨w.heap.size + 1, 0, none⟩ (Value.int .i64 ((k : Int) + 1))).heap[w.heap.size + 1]? = some (.cells #[.int .i64 ((k : Int) + 1)] 3) := Go.Joins.block_setCell hb1 _
      have F2 : Fr [] wA (w1.setCell ⟨w.heap.size + 1, 0, none⟩ (Value.int .i64 ((k : Int) + 1))) := (HF.out.trans0 F1).setCell (.inr (by show wA.heap.size ≤ w.heap.size + 1; omega)) _
      have hs2 := F1.size
      have hs0 := HS.out
      go_roundw
      case rel => exact ⟨k + 1, hlt, hb2, by show ∀ j : Nat, j < k + 1 → _; exact HM.out, by simp; omega, F2⟩
      case measure => rw [hc, Go.Joins.cell_of_block hb2]; simp [intOf]; omega
    · have HE := Lib.hid (decide_eq_false hm)
      have HM := Lib.hid (lone_at hA.out hm)
      clear hm
      go_wp2_with (go_at_call 78; refine HC.out.mono ?_; rw [HE.out]; rintro e w1 ⟨rfl, F1⟩; have hc1 := (F1.cell (p := ⟨w.heap.size + 1, 0, none⟩) (by show w.heap.size + 1 < _; omega) (by simp)).trans hc)
      go_ret
      exact ⟨by rw [HM.out]; rfl, (FA.trans0 F).trans0 F1⟩

set_option maxRecDepth 100000 in
set_option maxHeartbeats 1000000 in
theorem insl_any (w : World) (cv bv pv sv h k0 : Value) (f : Folder) (hf : FoV w cv bv pv sv f) (hn : f.coders.length ≤ 100000) :
    Calls Tryd.prog 63 #[.agg #[cv, bv, pv, sv, h, k0]] w fun e w' => e = .returned (.int .i64 (f.first f.coders.length : Nat)) ∧ Fr [] w w' := by
  obtain ⟨ao, cap, rfl, -, -, o⟩ := hf.co.out
  have HO := Lib.hid o
  have HN := Lib.hid hn
  clear hf o
  obtain ⟨wA, hwA⟩ : ∃ wA, wA = w.alloc (.cells #[.slice ao f.coders.length cap, bv, pv, sv, h, k0] 46) := ⟨_, rfl⟩
  have FA : Fr [] w wA := hwA ▸ (Fr.refl _ _).alloc _
  have HBX := Lib.hid (fun wx (F : Fr [] wA wx) => box6 (hwA ▸ F : Fr [] (w.alloc (.cells #[.slice ao f.coders.length cap, bv, pv, sv, h, k0] 46)) wx))
  obtain ⟨c0, c1, c2, c3, c4, c5⟩ := HBX.out wA (Fr.refl _ _)
  go_enter Tryd.func63, Tryd.ntmps63
  go_wp2_with fail
  rw [← hwA]
  clear hwA
  go_loopw [3, 9] (fun n i wr => ∃ k : Nat, k ≤ f.coders.length ∧ i = .int .i64 k ∧ n = .int .i64 (f.first k : Nat) ∧ Fr [] wA wr) (fun _ i _ => f.coders.length - (intOf i).toNat)
  case atStart => exact ⟨0, Nat.zero_le _, rfl, rfl, Fr.refl _ _⟩
  case round =>
    obtain ⟨k, hk, rfl, rfl, F⟩ := hrel
    by_cases hlt : k < f.coders.length
    · obtain ⟨x, hx⟩ := some_get f.coders k hlt
      obtain ⟨b1, o1, pv1, rfl, hb1, hC⟩ := HO.out k x hx
      have hpv := hC.2.2.out
      rw [bv_length] at hpv
      obtain ⟨pao2, pcap2, rfl, -⟩ := hpv
      obtain ⟨e0, e1, -⟩ := hC.fr hb1 (FA.trans0 F)
      have HX := Lib.hid (f.first_succ k x hx)
      have HF := Lib.hid F
      have hle := f.first_le k
      have hil := ins_le x.method
      have HN2 := HN.out
      have HI := Lib.hid (fun wx => ins_any wx x.method (.slice pao2 x.props.length pcap2))
      generalize f.first k = z at *
      generalize ins x.method = q at *
      have hltI : (k : Int) < (f.coders.length : Int) := by omega
      clear hx F hC
      go_wp2_with (go_at_call 62; refine (HI.out _).mono ?_; rintro e w1 ⟨rfl, F1⟩)
      go_roundw
      case rel => exact ⟨k + 1, by omega, by go_num, by rw [HX.out]; first | rfl | (congr 1; omega) | (simp <;> omega), HF.out.trans0 (((Fr.refl _ _).alloc _).trans0 F1)⟩
      case measure => simp [intOf]; omega
    · obtain rfl : k = f.coders.length := by omega
      go_wp2_with fail
      go_ret
      exact ⟨rfl, FA.trans0 F⟩

theorem min_le (l : List Int) (hne : l ≠ []) (a : Int) : a ≤ Lib.minOf l ↔ ∀ x ∈ l, a ≤ x := by
  cases l with
  | nil => exact (hne rfl).elim
  | cons y t =>
    have key : ∀ (t : List Int) (m : Int), a ≤ t.foldl min m ↔ a ≤ m ∧ ∀ x ∈ t, a ≤ x := by
      intro t
      induction t with
      | nil => intro m; simp
      | cons z t ih =>
        intro m
        rw [List.foldl_cons, ih]
        simp only [List.mem_cons, forall_eq_or_imp]
        rw [show (a ≤ min m z) ↔ (a ≤ m ∧ a ≤ z) by omega, and_assoc]
    show a ≤ (y :: t).foldl min y ↔ _
    rw [List.foldl_cons, key]
    simp only [List.mem_cons, forall_eq_or_imp, Int.min_self]
theorem max_lt (l : List Int) (hne : l ≠ []) (a : Int) : Lib.maxOf l < a ↔ ∀ x ∈ l, x < a := by
  cases l with
  | nil => exact (hne rfl).elim
  | cons y t =>
    have key : ∀ (t : List Int) (m : Int), t.foldl max m < a ↔ m < a ∧ ∀ x ∈ t, x < a := by
      intro t
      induction t with
      | nil => intro m; simp
      | cons z t ih =>
        intro m
        rw [List.foldl_cons, ih]
        simp only [List.mem_cons, forall_eq_or_imp]
        rw [show (max m z < a) ↔ (m < a ∧ z < a) by omega, and_assoc]
    show (y :: t).foldl max y < a ↔ _
    rw [List.foldl_cons, key]
    simp only [List.mem_cons, forall_eq_or_imp, Int.max_self]

set_option maxRecDepth 100000 in
set_option maxHeartbeats 2000000 in
theorem min_any (w : World) (v : Value) (l : List Int) (h : Sl w v (iv l)) (hne : l ≠ []) (hn : l.length ≤ 1000000) :
    Calls Tryd.prog 64 #[v] w fun e w' => e = .returned (.int .i64 (Lib.minOf l)) ∧ w = w' := by
  obtain ⟨ao, cap, rfl, hc1, hc2, o⟩ := h.out
  rw [iv_length] at *
  have hpos := List.length_pos_iff.2 hne
  have HO := Lib.hid o
  obtain ⟨x0, hx0⟩ := some_get l 0 hpos
  obtain ⟨b1, o1, rfl, hb1, oc⟩ := o 0 hpos
  have c0 : w.cell? ⟨b1, o1, none⟩ = some (.int .i64 x0) := (oc 0 hpos).trans (iv_get l 0 x0 hx0)
  have HC := Lib.hid oc
  have hg0 : l.getD 0 0 = x0 := by rw [List.getD_eq_getElem?_getD, hx0]; rfl
  have HS := Lib.hid (show Lib.minOf (l.take 1) = x0 by rw [Lib.minOf_one, hg0])
  clear o oc h hne hx0 hg0
  go_enter Tryd.func64, Tryd.ntmps64
  go_wp2_with fail
  go_loopw [3, 4] (fun m i wr => ∃ k : Nat, 0 < k ∧ k ≤ l.length ∧ i = .int .i64 k ∧ m = .int .i64 (Lib.minOf (l.take k)) ∧ wr = w) (fun _ i _ => l.length - (intOf i).toNat)
  case atStart => exact ⟨1, Nat.one_pos, hpos, rfl, by rw [HS.out], rfl⟩
  case round =>
    obtain ⟨k, hk0, hk, rfl, rfl, hw⟩ := hrel
    subst hw
    by_cases hlt : k < l.length
    · obtain ⟨x, hx⟩ := some_get l k hlt
      have e0 := (HC.out k hlt).trans (iv_get l k x hx)
      have hg : l.getD k 0 = x := by rw [List.getD_eq_getElem?_getD, hx]; rfl
      have HM := Lib.hid (show Lib.minOf (l.take (k + 1)) = min (Lib.minOf (l.take k)) x by rw [Lib.minOf_step l k hk0 hlt, hg])
      clear hx hg
      go_wp2_with fail
      go_roundw
      case rel => exact ⟨k + 1, by omega, by omega, by go_num, by rw [HM.out], by trivial⟩
      case measure => simp [intOf]; omega
    · obtain rfl : k = l.length := by omega
      rw [List.take_of_length_le (Nat.le_refl _)]
      go_wp2_with fail
      go_ret
      exact ⟨rfl, rfl⟩
set_option maxRecDepth 100000 in
set_option maxHeartbeats 2000000 in
theorem max_any (w : World) (v : Value) (l : List Int) (h : Sl w v (iv l)) (hne : l ≠ []) (hn : l.length ≤ 1000000) :
    Calls Tryd.prog 65 #[v] w fun e w' => e = .returned (.int .i64 (Lib.maxOf l)) ∧ w = w' := by
  obtain ⟨ao, cap, rfl, hc1, hc2, o⟩ := h.out
  rw [iv_length] at *
  have hpos := List.length_pos_iff.2 hne
  have HO := Lib.hid o
  obtain ⟨x0, hx0⟩ := some_get l 0 hpos
  obtain ⟨b1, o1, rfl, hb1, oc⟩ := o 0 hpos
  have c0 : w.cell? ⟨b1, o1, none⟩ = some (.int .i64 x0) := (oc 0 hpos).trans (iv_get l 0 x0 hx0)
  have HC := Lib.hid oc
  have hg0 : l.getD 0 0 = x0 := by rw [List.getD_eq_getElem?_getD, hx0]; rfl
  have HS := Lib.hid (show Lib.maxOf (l.take 1) = x0 by rw [Lib.maxOf_one, hg0])
  clear o oc h hne hx0 hg0
  go_enter Tryd.func65, Tryd.ntmps65
  go_wp2_with fail
  go_loopw [3, 4] (fun m i wr => ∃ k : Nat, 0 < k ∧ k ≤ l.length ∧ i = .int .i64 k ∧ m = .int .i64 (Lib.maxOf (l.take k)) ∧ wr = w) (fun _ i _ => l.length - (intOf i).toNat)
  case atStart => exact ⟨1, Nat.one_pos, hpos, rfl, by rw [HS.out], rfl⟩
  case round =>
    obtain ⟨k, hk0, hk, rfl, rfl, hw⟩ := hrel
    subst hw
    by_cases hlt : k < l.length
    · obtain ⟨x, hx⟩ := some_get l k hlt
      have e0 := (HC.out k hlt).trans (iv_get l k x hx)
      have hg : l.getD k 0 = x := by rw [List.getD_eq_getElem?_getD, hx]; rfl
      have HM := Lib.hid (show Lib.maxOf (l.take (k + 1)) = max (Lib.maxOf (l.take k)) x by rw [Lib.maxOf_step l k hk0 hlt, hg])
      clear hx hg
      go_wp2_with fail
      go_roundw
      case rel => exact ⟨k + 1, by omega, by omega, by go_num, by rw [HM.out], by trivial⟩
      case measure => simp [intOf]; omega
    · obtain rfl : k = l.length := by omega
      rw [List.take_of_length_le (Nat.le_refl _)]
      go_wp2_with fail
      go_ret
      exact ⟨rfl, rfl⟩
end Go.Proofs.YtkodindajfdagaaDoor
