/- Contracts: slices.ContainsFunc of the writer's two tests of subs and checks. No condition. -/
import Derived.Test.YtkodindajfdagaaDoorWSumsM
import Derived.Test.YtkodindajfdagaaDoorWFoldsM
namespace Go.Proofs.YtkodindajfdagaaDoor
open Go.RowKit

/-- Rows of subs that came in. -/
def WSubsR (w : World) (sv : Value) (S : List (List Sub)) : Prop :=
  ∃ ao cap, sv = .slice ao S.length cap ∧ S.length ≤ cap ∧ cap ≤ 9223372036854775807 ∧
    ∀ j l, S[j]? = some l → ∃ b o v, ao = some ⟨b, o, none⟩ ∧ b < w.heap.size ∧ w.cell? ⟨b, o + j, none⟩ = some v ∧ RowAt w w.heap.size 3 v l.length (sbV l)
theorem WSubsR.out {w : World} {sv : Value} {S : List (List Sub)} (h : WSubsR w sv S) : ∃ ao cap, sv = .slice ao S.length cap ∧ S.length ≤ cap ∧ cap ≤ 9223372036854775807 ∧
    ∀ j l, S[j]? = some l → ∃ b o v, ao = some ⟨b, o, none⟩ ∧ b < w.heap.size ∧ w.cell? ⟨b, o + j, none⟩ = some v ∧ RowAt w w.heap.size 3 v l.length (sbV l) := h
theorem RowAt.up {w : World} {hi hi2 m : Nat} {v : Value} {n : Nat} {xs : List Value} (h : RowAt w hi m v n xs) (hh : hi ≤ hi2) : RowAt w hi2 m v n xs := by
  obtain ⟨ao, cap, e, h1, h2, h3⟩ := h
  refine ⟨ao, cap, e, h1, h2, fun j hj => ?_⟩
  obtain ⟨b, o, q1, q2, q3, q4⟩ := h3 j hj
  exact ⟨b, o, q1, by omega, q3, q4⟩
theorem WSubsR.fr {w w' : World} {sv : Value} {S : List (List Sub)} (h : WSubsR w sv S) (F : Fr [] w w') : WSubsR w' sv S := by
  obtain ⟨ao, cap, e, h1, h2, h3⟩ := h
  refine ⟨ao, cap, e, h1, h2, fun j l hl => ?_⟩
  obtain ⟨b, o, v, q1, q2, q3, q4⟩ := h3 j l hl
  exact ⟨b, o, v, q1, Nat.lt_of_lt_of_le q2 F.size, (F.cell (p := ⟨b, o + j, none⟩) q2 (by simp)).trans q3, (q4.fr0 F).up F.size⟩

set_option maxRecDepth 100000 in
theorem subs1_any (w : World) (ao : Option Addr) (n cap : Nat) : Calls Tryd.prog 50 #[.slice ao n cap] w fun e w' => e = .returned (.bool (!((n : Int) == 1))) ∧ w = w' := by
  go_enter Tryd.func50, Tryd.ntmps50
  go_wp2_with fail
  go_ret
  exact ⟨rfl, rfl⟩
set_option maxRecDepth 100000 in
theorem subs2_any (w : World) (hs : Bool) (sm : UInt32) : Calls Tryd.prog 53 #[.agg #[.bool hs, .int .u32 sm.toNat]] w fun e w' => e = .returned (.bool hs) ∧ Fr [] w w' := by
  go_enter Tryd.func53, Tryd.ntmps53
  go_wp2_with fail
  go_ret
  exact ⟨rfl, (Fr.refl _ _).alloc _⟩

def oddS (l : List Sub) : Bool := !(l.length == 1)
theorem any_take {α : Type} (f : α → Bool) {l : List α} {k : Nat} {x : α} (h : l[k]? = some x) : (l.take (k + 1)).any f = ((l.take k).any f || f x) := by
  rw [List.take_add_one, h, List.any_append]
  simp

set_option maxRecDepth 100000 in
set_option maxHeartbeats 1000000 in
theorem ixs_any (w : World) (sv : Value) (S : List (List Sub)) (h : WSubsR w sv S) :
    Calls Tryd.prog 73 #[sv, .func (.func 50) #[] #[]] w fun e w' => (∃ n : Int, e = .returned (.int .i64 n) ∧ decide (0 ≤ n) = S.any oddS) ∧ w = w' := by
  obtain ⟨ao, cap, rfl, hc1, hc2, hel⟩ := h.out
  have HEL := Lib.hid hel
  clear hel h
  go_enter Tryd.func73, Tryd.ntmps73
  go_wp2_with fail
  go_loopw [8] (fun i wr => ∃ k : Nat, k ≤ S.length ∧ i = .int .i64 k ∧ Hid ((S.take k).any oddS = false) ∧ wr = w) (fun i _ => S.length - (intOf i).toNat)
  case atStart => exact ⟨0, Nat.zero_le _, rfl, by show ([] : List (List Sub)).any oddS = false; rfl, rfl⟩
  case round =>
    obtain ⟨k, hk, rfl, hall, hw⟩ := hrel
    subst hw
    by_cases hlt : k < S.length
    · obtain ⟨x, hx⟩ := some_get S k hlt
      obtain ⟨b1, o1, v1, rfl, hbl, cc, hrow⟩ := HEL.out k x hx
      obtain ⟨vo, vc, rfl, -, -, -⟩ := hrow.out
      have HX := Lib.hid (any_take oddS hx)
      have HM := Lib.hid (List.mem_of_getElem? hx)
      have hod : oddS x = !((x.length : Int) == 1) := by
        unfold oddS
        congr 1
        by_cases e : x.length = 1
        · rw [e]; rfl
        · rw [show (x.length == 1) = false by simp [e]]
          symm
          rw [beq_eq_false_iff_ne]
          omega
      have HOD := Lib.hid hod
      clear hx hod hrow
      cases hq : !((x.length : Int) == 1) with
      | true =>
        have HQ := Lib.hid hq
        clear hq
        go_wp2_with (go_at_call 50; refine (subs1_any _ vo x.length vc).mono ?_; rw [HQ.out]; rintro e w1 ⟨rfl, rfl⟩)
        go_ret
        exact ⟨⟨k, rfl, by rw [show S.any oddS = true from List.any_eq_true.2 ⟨x, HM.out, HOD.out.trans HQ.out⟩]; simp⟩, rfl⟩
      | false =>
        have HQ := Lib.hid hq
        clear hq
        go_wp2_with (go_at_call 50; refine (subs1_any _ vo x.length vc).mono ?_; rw [HQ.out]; rintro e w1 ⟨rfl, rfl⟩)
        go_roundw
        case rel => exact ⟨k + 1, by omega, by go_num, by show (S.take (k + 1)).any oddS = false; rw [HX.out, hall.out, HOD.out, HQ.out]; rfl, by trivial⟩
        case measure => simp [intOf]; omega
    · obtain rfl : k = S.length := by omega
      have hA := hall.out
      rw [List.take_of_length_le (Nat.le_refl _)] at hA
      go_wp2_with fail
      go_ret
      exact ⟨⟨-1, rfl, by rw [hA]; rfl⟩, rfl⟩

set_option maxRecDepth 100000 in
theorem cfs_any (w : World) (sv : Value) (S : List (List Sub)) (h : WSubsR w sv S) :
    Calls Tryd.prog 49 #[sv, .func (.func 50) #[] #[]] w fun e w' => e = .returned (.bool (S.any oddS)) ∧ w = w' := by
  have HI := Lib.hid (ixs_any w sv S h)
  obtain ⟨ao, cap, rfl, -, -, -⟩ := h.out
  clear h
  go_enter Tryd.func49, Tryd.ntmps49
  go_wp2_with (go_at_call 73; refine HI.out.mono ?_; rintro e w1 ⟨⟨n, rfl, hn⟩, rfl⟩; have HNN := Lib.hid hn; clear hn)
  go_ret
  exact ⟨by rw [← HNN.out]; rfl, rfl⟩

set_option maxRecDepth 100000 in
set_option maxHeartbeats 1000000 in
theorem ixc_any (w : World) (hi : Nat) (sv : Value) (cs : List Ck) (h : RowAt w hi 2 sv cs.length (ckV cs)) :
    Calls Tryd.prog 74 #[sv, .func (.func 53) #[] #[]] w fun e w' => (∃ n : Int, e = .returned (.int .i64 n) ∧ decide (0 ≤ n) = cs.any (·.has)) ∧ Fr [] w w' := by
  obtain ⟨ao, cap, rfl, hcap, hcm, -⟩ := h.out
  have HR := Lib.hid h
  clear h
  go_enter Tryd.func74, Tryd.ntmps74
  go_wp2_with fail
  go_loopw [8] (fun i wr => ∃ k : Nat, k ≤ cs.length ∧ i = .int .i64 k ∧ Hid ((cs.take k).any (·.has) = false) ∧ Fr [] w wr) (fun i _ => cs.length - (intOf i).toNat)
  case atStart => exact ⟨0, Nat.zero_le _, rfl, by show ([] : List Ck).any (·.has) = false; rfl, Fr.refl _ _⟩
  case round =>
    obtain ⟨k, hk, rfl, hall, F⟩ := hrel
    by_cases hlt : k < cs.length
    · obtain ⟨x, hx⟩ := some_get cs k hlt
      obtain ⟨b1, o1, hao, hb1, e0, e1⟩ := (HR.out.fr0 F).ck hx hlt
      subst hao
      have HX := Lib.hid (any_take (·.has) hx)
      have HM := Lib.hid (List.mem_of_getElem? hx)
      have HF := Lib.hid F
      obtain ⟨hs, sm⟩ := x
      dsimp only at e0 e1
      clear hx F
      cases hs with
      | true =>
        go_wp2_with (go_at_call 53; refine (subs2_any _ true sm).mono ?_; rintro e w1 ⟨rfl, F1⟩)
        go_ret
        exact ⟨⟨k, rfl, by rw [show cs.any (·.has) = true from List.any_eq_true.2 ⟨_, HM.out, rfl⟩]; simp⟩, HF.out.trans0 F1⟩
      | false =>
        go_wp2_with (go_at_call 53; refine (subs2_any _ false sm).mono ?_; rintro e w1 ⟨rfl, F1⟩)
        go_roundw
        case rel => exact ⟨k + 1, by omega, by go_num, by show (cs.take (k + 1)).any (·.has) = false; rw [HX.out, hall.out]; rfl, HF.out.trans0 F1⟩
        case measure => simp [intOf]; omega
    · obtain rfl : k = cs.length := by omega
      have hA := hall.out
      rw [List.take_of_length_le (Nat.le_refl _)] at hA
      go_wp2_with fail
      go_ret
      exact ⟨⟨-1, rfl, by rw [hA]; rfl⟩, F⟩
set_option maxRecDepth 100000 in
theorem cfc_any (w : World) (hi : Nat) (sv : Value) (cs : List Ck) (h : RowAt w hi 2 sv cs.length (ckV cs)) :
    Calls Tryd.prog 52 #[sv, .func (.func 53) #[] #[]] w fun e w' => e = .returned (.bool (cs.any (·.has))) ∧ Fr [] w w' := by
  have HI := Lib.hid (ixc_any w hi sv cs h)
  obtain ⟨ao, cap, rfl, -, -, -⟩ := h.out
  clear h
  go_enter Tryd.func52, Tryd.ntmps52
  go_wp2_with (go_at_call 74; refine HI.out.mono ?_; rintro e w1 ⟨⟨n, rfl, hn⟩, F1⟩; have HNN := Lib.hid hn; clear hn)
  go_ret
  exact ⟨by rw [← HNN.out]; rfl, F1⟩
end Go.Proofs.YtkodindajfdagaaDoor
/- Contract: headerw.unknown. No condition but that lengths fit. -/
namespace Go.Proofs.YtkodindajfdagaaDoor
open Go.RowKit

/-- The checks that aren't a folder's. -/
def unkOf (l : List Sub) (x : Fol) : List Ck := if l.length = 1 ∧ x.ck.has = true then [] else l.map (·.ck)
def unkW (S : List (List Sub)) (L : List Fol) : List Ck := (S.zip L).flatMap fun p => unkOf p.1 p.2
theorem unkW_take {S : List (List Sub)} {L : List Fol} {k : Nat} {l : List Sub} {x : Fol} (h1 : S[k]? = some l) (h2 : L[k]? = some x) : unkW (S.take (k + 1)) (L.take (k + 1)) = unkW (S.take k) (L.take k) ++ unkOf l x := by
  unfold unkW
  have e : ∀ m, (S.take m).zip (L.take m) = (S.zip L).take m := fun m => by rw [List.zip_eq_zipWith, List.zip_eq_zipWith, List.take_zipWith]
  have hz : (S.zip L)[k]? = some (l, x) := by rw [List.getElem?_zip_eq_some]; exact ⟨h1, h2⟩
  rw [e, e, List.take_add_one, hz, List.flatMap_append]
  congr 1
  simp only [Option.toList_some, List.flatMap_cons, List.flatMap_nil, List.append_nil]
theorem ckV_app (a b : List Ck) : ckV (a ++ b) = ckV a ++ ckV b := ckV_append a b
theorem RowAt.sb {w : World} {hi : Nat} {ao : Option Addr} {n cap : Nat} {l : List Sub} (h : RowAt w hi 3 (.slice ao n cap) n (sbV l)) {k : Nat} {x : Sub} (hx : l[k]? = some x) (hk : k < n) :
    ∃ b o, ao = some ⟨b, o, none⟩ ∧ b < w.heap.size ∧ w.cell? ⟨b, o + k * 3, none⟩ = some (.int .u64 x.size.toNat) ∧ w.cell? ⟨b, o + k * 3 + 1, none⟩ = some (.bool x.ck.has) ∧ w.cell? ⟨b, o + k * 3 + 2, none⟩ = some (.int .u32 x.ck.sum.toNat) := by
  obtain ⟨ao', cap', e, h1, h2, h3⟩ := h
  injection e with e1 e2 e3
  subst e1 e3
  obtain ⟨b, o, q1, -, q3, q4⟩ := h3 k hk
  have key : ∀ j, j < 3 → w.cell? ⟨b, o + k * 3 + j, none⟩ = ([.int .u64 x.size.toNat, .bool x.ck.has, .int .u32 x.ck.sum.toNat] : List Value)[j]? := fun j hj => (q4 j hj).trans (flat_get (fun x : Sub => [.int .u64 x.size.toNat, .bool x.ck.has, .int .u32 x.ck.sum.toNat]) 3 (fun _ => rfl) l k x hx j hj)
  exact ⟨b, o, q1, q3, key 0 (by decide), key 1 (by decide), key 2 (by decide)⟩
theorem wbox3 {w wr : World} {t : TypeId} {a0 a1 a2 : Value} {S : List Nat} (F : Fr S (w.alloc (.cells #[a0, a1, a2] t)) wr) (hS : w.heap.size ∉ S) :
    wr.cell? ⟨w.heap.size, 0, none⟩ = some a0 ∧ wr.cell? ⟨w.heap.size, 1, none⟩ = some a1 ∧ wr.cell? ⟨w.heap.size, 2, none⟩ = some a2 := by
  have key : ∀ (i : Nat), wr.cell? ⟨w.heap.size, i, none⟩ = #[a0, a1, a2][i]? := fun i => by
    rw [F.cell (p := ⟨w.heap.size, i, none⟩) (by simp) hS, Go.Joins.cell_of_block (heap_alloc_new w _)]
  exact ⟨by rw [key]; rfl, by rw [key]; rfl, by rw [key]; rfl⟩
theorem wown_mono {w : World} {base base' e m : Nat} {v : Value} {n : Nat} {xs : List Value} (h : w.ownsRow base e m v n xs) (hb : base' ≤ base) : w.ownsRow base' e m v n xs := by
  refine ⟨h.1, ?_⟩
  rcases h.2 with h1 | ⟨g, cap, cur, rfl, hbb, rest⟩
  · exact .inl h1
  · exact .inr ⟨g, cap, cur, rfl, by omega, rest⟩
def UnkR (S : List (List Sub)) (L : List Fol) (w : World) (e : Ending) (w' : World) : Prop :=
  ∃ v, e = .returned v ∧ w'.ownsRow w.heap.size 44 2 v (unkW S L).length (ckV (unkW S L)) ∧ Fr [] w w'

set_option maxRecDepth 100000 in
set_option maxHeartbeats 4000000 in
theorem wunknown_any (w : World) (pk pl ps cs es fv sv : Value) (S : List (List Sub)) (L : List Fol) (hS : WSubsR w sv S) (hF : FolR w fv L) (hl : S.length = L.length) (hn : S.length ≤ 100000) (hr : ∀ l ∈ S, l.length ≤ 100000) (hu : ∀ k, (unkW (S.take k) (L.take k)).length ≤ 1000000) :
    Calls Tryd.prog 51 #[.agg #[pk, pl, ps, cs, fv, sv, es]] w (UnkR S L w) := by
  obtain ⟨sao, scap, rfl, -, -, so⟩ := hS.out
  obtain ⟨fao, fcap, rfl, -, -, fo⟩ := hF.out
  have HSO := Lib.hid so
  have HFO := Lib.hid fo
  have HN := Lib.hid hn
  have HRB := Lib.hid hr
  have HU := Lib.hid hu
  have HLn := Lib.hid hl
  clear so fo hr hS hF hu hl
  obtain ⟨wA, hwA⟩ : ∃ wA, wA = w.alloc (.cells #[pk, pl, ps, cs, .slice fao L.length fcap, .slice sao S.length scap, es] 29) := ⟨_, rfl⟩
  have FA : Fr [] w wA := hwA ▸ (Fr.refl _ _).alloc _
  have HBX := Lib.hid (fun wx (F2 : Fr [] wA wx) => wbox7 (hwA ▸ F2 : Fr [] (w.alloc (.cells #[pk, pl, ps, cs, .slice fao L.length fcap, .slice sao S.length scap, es] 29)) wx) (by simp))
  obtain ⟨k0, k1, k2, k3, k4, k5, k6⟩ := HBX.out wA (Fr.refl _ _)
  go_enter Tryd.func51, Tryd.ntmps51
  go_wp2_with fail
  try rw [← hwA]
  clear hwA k0 k1 k2 k3 k4 k5 k6
  go_loopw [3, 11] (fun v3 i wr => ∃ k : Nat, k ≤ S.length ∧ i = .int .i64 k ∧ wr.ownsRow wA.heap.size 44 2 v3 (unkW (S.take k) (L.take k)).length (ckV (unkW (S.take k) (L.take k))) ∧ Fr [] wA wr) (fun _ i _ => S.length - (intOf i).toNat)
  case atStart => exact ⟨0, Nat.zero_le _, rfl, by first | exact World.ownsRow_nil _ _ _ _ | simpa [unkW] using World.ownsRow_nil _ _ _ _, by first | exact Fr.refl _ _ | simp⟩
  case round =>
    obtain ⟨k, hk, rfl, own, F⟩ := hrel
    obtain ⟨vo, vc, rfl, -⟩ := own_outS own
    by_cases hlt : k < S.length
    · obtain ⟨l, hl1⟩ := some_get S k hlt
      obtain ⟨x, hx⟩ := some_get L k (by have := HLn.out; omega)
      obtain ⟨q1, o1, lv, hao, hq1, e0, hrow⟩ := HSO.out k l hl1
      subst hao
      obtain ⟨lo1, lc1, rfl, -, -, -⟩ := hrow.out
      obtain ⟨q2, o2, c, b', q, s, hao2, hq2, -, -, -, -, g4, -, -⟩ := HFO.out k x hx
      subst hao2
      have FW := FA.trans0 F
      have hq1' := Nat.lt_of_lt_of_le hq1 FW.size
      have hq2' := Nat.lt_of_lt_of_le hq2 FW.size
      have f0 := (FW.cell (p := ⟨q1, o1 + k, none⟩) hq1 (by simp)).trans e0
      have f4 := (FW.cell (p := ⟨q2, o2 + k * 6 + 4, none⟩) hq2 (by simp)).trans g4
      have HRow := Lib.hid (fun wx (Fx : Fr [] w wx) => hrow.fr0 Fx)
      have HTK := Lib.hid (unkW_take hl1 hx)
      have HLB := Lib.hid (HRB.out l (List.mem_of_getElem? hl1))
      have HUK := Lib.hid (show (unkW (S.take k) (L.take k)).length + (unkOf l x).length ≤ 1000000 by have := HU.out (k + 1); rw [HTK.out, List.length_append] at this; exact this)
      have hkL : k < L.length := by have := HLn.out; omega
      obtain ⟨m0, m1, m2, m3, m4, m5, m6⟩ := HBX.out wr F
      have HOW := Lib.hid own
      have HF := Lib.hid F
      obtain ⟨U, hU⟩ : ∃ U, U = unkW (S.take k) (L.take k) := ⟨_, rfl⟩
      rw [← hU] at HOW HTK HUK ⊢
      clear hl1 hx own e0 g4 hrow F hU
      obtain ⟨xf, ⟨hs, sm⟩⟩ := x
      dsimp only at f4
      by_cases hskip : l.length = 1 ∧ hs = true
      · have HE := Lib.hid (show unkOf l ⟨xf, ⟨hs, sm⟩⟩ = [] from if_pos hskip)
        obtain ⟨h1, rfl⟩ := hskip
        have t0 : ((l.length : Int) == 1) = true := by rw [h1]; rfl
        clear h1
        go_wp2_with fail
        go_roundw
        case rel => exact ⟨k + 1, by omega, by go_num, by rw [HTK.out, HE.out, List.append_nil]; exact HOW.out, HF.out⟩
        case measure => simp [intOf]; omega
      · have HE := Lib.hid (show unkOf l ⟨xf, ⟨hs, sm⟩⟩ = l.map (·.ck) from if_neg hskip)
        have HINN := Lib.hid (fun (j : Nat) (y : Sub) (hy : l[j]? = some y) => (show ckV (U ++ (l.take (j + 1)).map (·.ck)) = ckV (U ++ (l.take j).map (·.ck)) ++ [.bool y.ck.has, .int .u32 y.ck.sum.toNat] from by
          rw [List.take_add_one, hy, List.map_append, ← List.append_assoc, ckV_app]
          rfl))
        have t0 : ((l.length : Int) == 1) = true → hs = false := fun h => by
          cases hs with
          | false => rfl
          | true => exact absurd ⟨by have := beq_iff_eq.1 h; omega, rfl⟩ hskip
        clear hskip
        have HT0 := Lib.hid t0
        have hlb := HLB.out
        clear t0
        cases hq : ((l.length : Int) == 1) with
        | true =>
          obtain rfl := HT0.out hq
          go_wp2_with fail
          go_loopw [3, 30] (fun v3 i wx => ∃ j : Nat, j ≤ l.length ∧ i = .int .i64 j ∧ wx.ownsRow wA.heap.size 44 2 v3 (U.length + j) (ckV (U ++ (l.take j).map (·.ck))) ∧ Fr [] wA wx) (fun _ i _ => l.length - (intOf i).toNat)
          case atStart => exact ⟨0, Nat.zero_le _, rfl, by simpa using HOW.out, HF.out⟩
          case round =>
            obtain ⟨j, hj, rfl, ownj, Fj⟩ := hrel
            rename World => wJ
            obtain ⟨vj, vjc, rfl, -⟩ := own_outS ownj
            by_cases hlt2 : j < l.length
            · obtain ⟨y, hy⟩ := some_get l j hlt2
              obtain ⟨q3, o3, hao3, hq3, e0, e1, e2⟩ := (HRow.out wJ (FA.trans0 Fj)).sb hy hlt2
              subst hao3
              have HCK := Lib.hid (HINN.out j y hy)
              obtain ⟨ysz, ⟨yh, ys⟩⟩ := y
              dsimp only at e0 e1 e2 HCK
              clear hy
              obtain ⟨wC, hwC⟩ : ∃ wC, wC = wJ.alloc (.cells #[.int .u64 ysz.toNat, .bool yh, .int .u32 ys.toNat] 75) := ⟨_, rfl⟩
              have FC : Fr [] wJ wC := hwC ▸ (Fr.refl _ _).alloc _
              obtain ⟨z0, z1, z2⟩ := wbox3 (hwC ▸ Fr.refl [] wC : Fr [] (wJ.alloc (.cells #[.int .u64 ysz.toNat, .bool yh, .int .u32 ys.toNat] 75)) wC) (by simp)
              have hszC : wC.heap.size = wJ.heap.size + 1 := by rw [hwC]; simp
              have HOC := Lib.hid (own_frS (own_frS ownj FC (by simp)) ((Fr.refl [] wC).alloc (.cells #[.bool yh, .int .u32 ys.toNat] 44)) (by simp))
              have HNB := Lib.hid (show (wC.alloc (.cells #[.bool yh, .int .u32 ys.toNat] 44)).heap[wJ.heap.size + 1]? = some (.cells #[.bool yh, .int .u32 ys.toNat] 44) from hszC ▸ heap_alloc_new wC _)
              have HSW := Lib.hid (show wA.heap.size ≤ (wC.alloc (.cells #[.bool yh, .int .u32 ys.toNat] 44)).heap.size from by have := (Fj.trans0 FC).size; rw [World.size_alloc]; omega)
              subst hwC
              clear ownj hszC
              go_wp2_with (at_builtin; refine wpList_append_struct sty_ck rfl _ _ (by rfl) wA.heap.size _ _ _ (by rfl) HOC.out (wJ.heap.size + 1) [.bool yh, .int .u32 ys.toNat] (by rfl) HNB.out rfl rfl (by have h1 := HUK.out; rw [HE.out, List.length_map] at h1; omega) (by decide) HSW.out ?_; intro v7 w7 own7 g7; obtain ⟨vo7, vc7, rfl, -⟩ := own_outS own7)
              have F7 : Fr [] wA w7 := ((Fj.trans0 FC).alloc _).grown g7 (fun q hq => .inr (own_ltS HOC.out q hq).1)
              go_roundw
              case rel => exact ⟨j + 1, by omega, by go_num, by rw [HCK.out]; exact own7, F7⟩
              case measure => simp [intOf]; omega
            · obtain rfl : j = l.length := by omega
              rw [List.take_of_length_le (Nat.le_refl _)] at ownj
              have HOJ := Lib.hid ownj
              clear ownj
              go_wp2_with fail
              go_roundw
              case rel => exact ⟨k + 1, by omega, by go_num, by rw [HTK.out, HE.out, List.length_append, List.length_map]; exact HOJ.out, Fj⟩
              case measure => simp [intOf]; omega
        | false =>
          go_wp2_with fail
          go_loopw [3, 30] (fun v3 i wx => ∃ j : Nat, j ≤ l.length ∧ i = .int .i64 j ∧ wx.ownsRow wA.heap.size 44 2 v3 (U.length + j) (ckV (U ++ (l.take j).map (·.ck))) ∧ Fr [] wA wx) (fun _ i _ => l.length - (intOf i).toNat)
          case atStart => exact ⟨0, Nat.zero_le _, rfl, by simpa using HOW.out, HF.out⟩
          case round =>
            obtain ⟨j, hj, rfl, ownj, Fj⟩ := hrel
            rename World => wJ
            obtain ⟨vj, vjc, rfl, -⟩ := own_outS ownj
            by_cases hlt2 : j < l.length
            · obtain ⟨y, hy⟩ := some_get l j hlt2
              obtain ⟨q3, o3, hao3, hq3, e0, e1, e2⟩ := (HRow.out wJ (FA.trans0 Fj)).sb hy hlt2
              subst hao3
              have HCK := Lib.hid (HINN.out j y hy)
              obtain ⟨ysz, ⟨yh, ys⟩⟩ := y
              dsimp only at e0 e1 e2 HCK
              clear hy
              obtain ⟨wC, hwC⟩ : ∃ wC, wC = wJ.alloc (.cells #[.int .u64 ysz.toNat, .bool yh, .int .u32 ys.toNat] 75) := ⟨_, rfl⟩
              have FC : Fr [] wJ wC := hwC ▸ (Fr.refl _ _).alloc _
              obtain ⟨z0, z1, z2⟩ := wbox3 (hwC ▸ Fr.refl [] wC : Fr [] (wJ.alloc (.cells #[.int .u64 ysz.toNat, .bool yh, .int .u32 ys.toNat] 75)) wC) (by simp)
              have hszC : wC.heap.size = wJ.heap.size + 1 := by rw [hwC]; simp
              have HOC := Lib.hid (own_frS (own_frS ownj FC (by simp)) ((Fr.refl [] wC).alloc (.cells #[.bool yh, .int .u32 ys.toNat] 44)) (by simp))
              have HNB := Lib.hid (show (wC.alloc (.cells #[.bool yh, .int .u32 ys.toNat] 44)).heap[wJ.heap.size + 1]? = some (.cells #[.bool yh, .int .u32 ys.toNat] 44) from hszC ▸ heap_alloc_new wC _)
              have HSW := Lib.hid (show wA.heap.size ≤ (wC.alloc (.cells #[.bool yh, .int .u32 ys.toNat] 44)).heap.size from by have := (Fj.trans0 FC).size; rw [World.size_alloc]; omega)
              subst hwC
              clear ownj hszC
              go_wp2_with (at_builtin; refine wpList_append_struct sty_ck rfl _ _ (by rfl) wA.heap.size _ _ _ (by rfl) HOC.out (wJ.heap.size + 1) [.bool yh, .int .u32 ys.toNat] (by rfl) HNB.out rfl rfl (by have h1 := HUK.out; rw [HE.out, List.length_map] at h1; omega) (by decide) HSW.out ?_; intro v7 w7 own7 g7; obtain ⟨vo7, vc7, rfl, -⟩ := own_outS own7)
              have F7 : Fr [] wA w7 := ((Fj.trans0 FC).alloc _).grown g7 (fun q hq => .inr (own_ltS HOC.out q hq).1)
              go_roundw
              case rel => exact ⟨j + 1, by omega, by go_num, by rw [HCK.out]; exact own7, F7⟩
              case measure => simp [intOf]; omega
            · obtain rfl : j = l.length := by omega
              rw [List.take_of_length_le (Nat.le_refl _)] at ownj
              have HOJ := Lib.hid ownj
              clear ownj
              go_wp2_with fail
              go_roundw
              case rel => exact ⟨k + 1, by omega, by go_num, by rw [HTK.out, HE.out, List.length_append, List.length_map]; exact HOJ.out, Fj⟩
              case measure => simp [intOf]; omega
    · obtain rfl : k = S.length := by omega
      have e1 : unkW (S.take S.length) (L.take S.length) = unkW S L := by rw [List.take_of_length_le (Nat.le_refl _), List.take_of_length_le (by have := HLn.out; omega)]
      have HE1 := Lib.hid e1
      have HOW := Lib.hid (wown_mono own FA.size)
      clear own e1
      go_wp2_with fail
      go_ret
      refine ⟨_, rfl, ?_, FA.trans0 F⟩
      rw [← HE1.out]
      exact HOW.out
end Go.Proofs.YtkodindajfdagaaDoor
