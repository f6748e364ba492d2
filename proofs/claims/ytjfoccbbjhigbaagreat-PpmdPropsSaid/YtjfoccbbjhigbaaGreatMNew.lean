/- Contract: a new model (layer 17). Nothing is spent. -/
import Derived.Test.YtjfoccbbjhigbaaGreatMRest
namespace Go.Proofs.YtjfoccbbjhigbaaGreat
open Go.RowKit

/-- A model that hasn't begun, and one that has. -/
def Mo.blank (order size : Nat) : Mo := { a := (Ar.fresh size).restart, order := order, least := 0, greatest := 0, found := 0, fall := 0, run := 0, runs := 0, success := 0, high := 0, escape := 0, bn := fun _ => 0, es := fun _ => 0, eh := fun e => if e = 400 then 7 else 0, ec := fun e => if e = 400 then 64 else 0, restarts := -1 }
def Mo.fresh (order size : Nat) : Mo := (Mo.blank order size).restart
/-- The cells of a model that is made. -/
noncomputable def moZ (order ab mp : Nat) : Array Value := (((((((Tryz.zeroCells127.setIfInBounds 0 (.pointer (some ⟨ab, 0, none⟩))).setIfInBounds 1 (.pointer (some ⟨mp, 0, none⟩))).setIfInBounds 2 (.int .i64 order)).setIfInBounds 9404 (.int .u16 0)).setIfInBounds 9405 (.int .u8 7)).setIfInBounds 9406 (.int .u8 64)).setIfInBounds 9919 (.int .i64 (-1))).setIfInBounds 9920 (.bool true)
set_option maxRecDepth 1000000 in
theorem zero_model : Tryz.zeroCells127 = (List.replicate 2 (Value.pointer none) ++ (List.replicate 10 (Value.int .i64 0) ++ (List.replicate 8192 (Value.int .u16 0) ++ ((List.replicate 401 [Value.int .u16 0, Value.int .u8 0, Value.int .u8 0]).flatten ++ (List.replicate 512 (Value.int .u8 0) ++ [Value.int .i64 0, Value.bool false]))))).toArray := by kernel_rfl
def zF (j : Nat) : Value := if j < 2 then .pointer none else if j < 12 then .int .i64 0 else if j < 8204 then .int .u16 0 else if j < 9407 then (if (j - 8204) % 3 = 0 then .int .u16 0 else .int .u8 0) else if j < 9919 then .int .u8 0 else if j = 9919 then .int .i64 0 else .bool false
theorem app_at {α : Type} (n : Nat) (v : α) (l : List α) (j : Nat) : (List.replicate n v ++ l)[j]? = if j < n then some v else l[j - n]? := by
  rw [List.getElem?_append, List.length_replicate]
  split
  · rw [List.getElem?_replicate, if_pos (by assumption)]
  · rfl
theorem flat_at {α : Type} (x y : α) (l : List α) : ∀ n j : Nat, ((List.replicate n [x, y, y]).flatten ++ l)[j]? = if j < 3 * n then some (if j % 3 = 0 then x else y) else l[j - 3 * n]?
  | 0, j => by simp
  | n + 1, j => by
    rw [List.replicate_succ, List.flatten_cons, List.append_assoc]
    obtain rfl | rfl | rfl | ⟨m, rfl⟩ : j = 0 ∨ j = 1 ∨ j = 2 ∨ ∃ m, j = m + 3 := by
      by_cases h : j < 3
      · omega
      · exact .inr (.inr (.inr ⟨j - 3, by omega⟩))
    · rw [if_pos (by omega)]; rfl
    · rw [if_pos (by omega)]; rfl
    · rw [if_pos (by omega)]; rfl
    · have e : ([x, y, y] ++ ((List.replicate n [x, y, y]).flatten ++ l))[m + 3]? = ((List.replicate n [x, y, y]).flatten ++ l)[m]? := rfl
      rw [e, flat_at x y l n m]
      by_cases h : m < 3 * n
      · rw [if_pos h, if_pos (show m + 3 < 3 * (n + 1) by omega), show (m + 3) % 3 = m % 3 from by omega]
      · rw [if_neg h, if_neg (show ¬ m + 3 < 3 * (n + 1) by omega), show m + 3 - 3 * (n + 1) = m - 3 * n from by omega]
theorem zF_at (j : Nat) (hj : j < 9921) : Tryz.zeroCells127[j]? = some (zF j) := by
  rw [zero_model, List.getElem?_toArray]
  generalize hA : (Value.int IntKind.i64 0) = A
  generalize hB : (Value.int IntKind.u16 0) = B
  generalize hC : (Value.int IntKind.u8 0) = C
  rw [app_at, app_at, app_at, flat_at, app_at]
  unfold zF
  rw [hA, hB, hC]
  by_cases h1 : j < 2
  · rw [if_pos h1, if_pos h1]
  · rw [if_neg h1, if_neg h1]
    by_cases h2 : j < 12
    · rw [if_pos (by omega), if_pos h2]
    · rw [if_neg (by omega), if_neg h2]
      by_cases h3 : j < 8204
      · rw [if_pos (by omega), if_pos h3]
      · rw [if_neg (by omega), if_neg h3]
        by_cases h4 : j < 9407
        · rw [if_pos (by omega), if_pos h4, show j - 2 - 10 - 8192 = j - 8204 from by omega]
        · rw [if_neg (by omega), if_neg h4]
          by_cases h5 : j < 9919
          · rw [if_pos (by omega), if_pos h5]
          · rw [if_neg (by omega), if_neg h5]
            by_cases h6 : j = 9919
            · rw [if_pos h6, show j - 2 - 10 - 8192 - 3 * 401 - 512 = 0 from by omega]; rfl
            · rw [if_neg h6, show j - 2 - 10 - 8192 - 3 * 401 - 512 = 1 from by omega]; rfl
theorem set_at {C : Array Value} {n : Nat} {f : Nat → Value} (hs : n ≤ C.size) (h : ∀ j, j < n → C[j]? = some (f j)) (k : Nat) (v : Value) : n ≤ (C.setIfInBounds k v).size ∧ ∀ j, j < n → (C.setIfInBounds k v)[j]? = some (upd f k v j) := by
  refine ⟨by simpa using hs, fun j hj => ?_⟩
  rw [Array.getElem?_setIfInBounds]
  unfold upd
  by_cases e : k = j
  · subst e
    have : k < C.size := by omega
    simp [this]
  · simp [e, Ne.symm e, h j hj]
/-- The cells of a model whose rows aren't laid. -/
def moG (m : Mo) (ab mp : Nat) : Nat → Value := fun j =>
  if j < 12 then moH m ab mp j else if j < 8204 then .int .u16 (m.bn (j - 12)) else if j < 9407 then esF m (j - 8204) else if j < 9919 then .int .u8 0 else if j = 9919 then .int .i64 m.restarts else .bool true
theorem moG_rows (m : Mo) (ab mp : Nat) : ∀ j, j < 9921 → rowsF (moG m ab mp) 256 j = moF m ab mp j := by
  intro j hj
  unfold rowsF moF moG
  by_cases h1 : 9407 ≤ j ∧ j < 9407 + 256
  · rw [if_pos h1, if_neg (by omega), if_neg (by omega), if_neg (by omega), if_pos (by omega)]
  rw [if_neg h1]
  by_cases h2 : 9663 ≤ j ∧ j < 9663 + 256
  · rw [if_pos h2, if_neg (by omega), if_neg (by omega), if_neg (by omega), if_neg (by omega), if_pos (by omega)]
  rw [if_neg h2]
  by_cases a1 : j < 12
  · rw [if_pos a1, if_pos a1]
  rw [if_neg a1, if_neg a1]
  by_cases a2 : j < 8204
  · rw [if_pos a2, if_pos a2]
  rw [if_neg a2, if_neg a2]
  by_cases a3 : j < 9407
  · rw [if_pos a3, if_pos a3]
  rw [if_neg a3, if_neg a3]
  have q1 : ¬ j < 9919 := by omega
  have q2 : ¬ j < 9663 := by omega
  simp only [q1, q2, if_false]
theorem moZ_at (order size ab mp : Nat) : 9921 ≤ (moZ order ab mp).size ∧ ∀ j, j < 9921 → (moZ order ab mp)[j]? = some (moG (Mo.blank order size) ab mp j) := by
  obtain ⟨s0, h0⟩ := set_at (Nat.le_of_eq Tryz.zeroCells127_size.symm) zF_at 0 (.pointer (some ⟨ab, 0, none⟩))
  obtain ⟨s1, h1⟩ := set_at s0 h0 1 (.pointer (some ⟨mp, 0, none⟩))
  obtain ⟨s2, h2⟩ := set_at s1 h1 2 (.int .i64 order)
  obtain ⟨s3, h3⟩ := set_at s2 h2 9404 (.int .u16 0)
  obtain ⟨s4, h4⟩ := set_at s3 h3 9405 (.int .u8 7)
  obtain ⟨s5, h5⟩ := set_at s4 h4 9406 (.int .u8 64)
  obtain ⟨s6, h6⟩ := set_at s5 h5 9919 (.int .i64 (-1))
  obtain ⟨s7, h7⟩ := set_at s6 h6 9920 (.bool true)
  refine ⟨s7, fun j hj => (h7 j hj).trans (congrArg some ?_)⟩
  by_cases a1 : j = 9920
  · rw [a1, upd_same]; rfl
  rw [upd_other _ _ _ a1]
  by_cases a2 : j = 9919
  · rw [a2, upd_same]; rfl
  rw [upd_other _ _ _ a2]
  by_cases a3 : j = 9406
  · rw [a3, upd_same]; rfl
  rw [upd_other _ _ _ a3]
  by_cases a4 : j = 9405
  · rw [a4, upd_same]; rfl
  rw [upd_other _ _ _ a4]
  by_cases a5 : j = 9404
  · rw [a5, upd_same]; rfl
  rw [upd_other _ _ _ a5]
  by_cases b1 : j < 12
  · obtain rfl | rfl | rfl | rfl | rfl | rfl | rfl | rfl | rfl | rfl | rfl | rfl : j = 0 ∨ j = 1 ∨ j = 2 ∨ j = 3 ∨ j = 4 ∨ j = 5 ∨ j = 6 ∨ j = 7 ∨ j = 8 ∨ j = 9 ∨ j = 10 ∨ j = 11 := by omega
    all_goals rfl
  rw [upd_other _ _ _ (by omega), upd_other _ _ _ (by omega), upd_other _ _ _ (by omega)]
  unfold zF moG
  rw [if_neg (by omega), if_neg b1, if_neg b1]
  by_cases b2 : j < 8204
  · rw [if_pos b2, if_pos b2]; rfl
  rw [if_neg b2, if_neg b2]
  by_cases b3 : j < 9407
  · rw [if_pos b3, if_pos b3]
    unfold esF Mo.blank
    obtain ⟨r, rfl⟩ : ∃ r, j = 8204 + r := ⟨j - 8204, by omega⟩
    rw [show 8204 + r - 8204 = r from by omega]
    dsimp only
    rw [if_neg (show r / 3 ≠ 400 from by omega), if_neg (show r / 3 ≠ 400 from by omega)]
    by_cases c : r % 3 = 0
    · rw [if_pos c, if_pos c]; rfl
    · rw [if_neg c, if_neg c, ite_self]; rfl
  rw [if_neg b3, if_neg b3, if_pos (by omega), if_pos (by omega)]
/-- A new model; its memory is asked for. -/
def NewMo (mp order size : Nat) (a o f d s k : Int) (w : World) (e : Ending) (w' : World) : Prop := ∃ mo ab mb b q, e = .returned (.tuple #[.pointer (some ⟨mo, 0, none⟩), .int .i64 0]) ∧ MoAt w' mo ab mb mp (Mo.fresh order size) ∧ b = a + 20480 + (size + 12) ∧ MtN w' mp b o f d s q ∧ k ≤ q ∧ q ≤ max k b ∧ w.heap.size ≤ ab ∧ w.heap.size ≤ mb ∧ w.heap.size ≤ mo ∧ Fr [mp] w w'
set_option maxRecDepth 100000 in
set_option maxHeartbeats 4000000 in
theorem mnew (w : World) (mp order size : Nat) (a o f d s k : Int) (M : MtN w mp a o f d s k) (ha : 0 ≤ a) (ha2 : a ≤ 100000000) (h1 : 2048 ≤ size) (h2 : size ≤ 65536) (h3 : 2 ≤ order) (h4 : order ≤ 64) :
    Calls Tryz.prog 31 #[.int .i64 order, .int .i64 size, .pointer (some ⟨mp, 0, none⟩)] w (NewMo mp order size a o f d s k w) := by
  have HM := Lib.hid (mem_m M 20480 (by omega) ha (by omega))
  have hI1 : (2048 : Int) ≤ (size : Int) := by omega
  have hI2 : (size : Int) ≤ 65536 := by omega
  have hI3 : (2 : Int) ≤ (order : Int) := by omega
  have hI4 : (order : Int) ≤ 64 := by omega
  have HS := Lib.hid (And.intro h1 h2)
  have HO := Lib.hid (And.intro h3 h4)
  have HA := Lib.hid (And.intro ha ha2)
  clear M h1 h2 h3 h4 ha ha2
  go_enter Tryz.func31, Tryz.ntmps31
  go_upto_region 9 with (first
    | (go_at_call 52; refine (anew_any w1 mp size _ _ _ _ _ _ M1 (by have := HA.out.1; omega) (by have := HA.out.2; omega) HS.out.1 HS.out.2).mono ?_; rintro e w2 ⟨ab, mb, rfl, hA2, M2, hab, hmb, F2⟩)
    | (go_at_call 50; refine HM.out.mono ?_; rintro e w1 ⟨rfl, M1, F1⟩))
  have c1 := M2.lt
  go_upto_region 10 with fail
  obtain ⟨mo, hmo⟩ : ∃ mo, mo = w2.heap.size := ⟨_, rfl⟩
  obtain ⟨w3, hw3⟩ : ∃ w3, w3 = w2.alloc (.cells (moZ order ab mp) 127) := ⟨_, rfl⟩
  have hb3 : Blk w3 mo 127 9921 (moG (Mo.blank order size) ab mp) := by rw [hw3, hmo]; exact Blk.new _ _ _ _ _ (moZ_at order size ab mp).1 (moZ_at order size ab mp).2
  have F3 : Fr [] w2 w3 := hw3 ▸ (Fr.refl _ _).alloc _
  have hx : w2.alloc (.cells ((((((((Tryz.zeroCells127.setIfInBounds 0 (.pointer (some ⟨ab, 0, none⟩))).setIfInBounds 1 (.pointer (some ⟨mp, 0, none⟩))).setIfInBounds 2 (.int .i64 order)).setIfInBounds 9404 (.int .u16 0)).setIfInBounds 9405 (.int .u8 7)).setIfInBounds 9406 (.int .u8 64)).setIfInBounds 9919 (.int .i64 (-1))).setIfInBounds 9920 (.bool true)) 127) = w3 := hw3.symm
  rw [hx, ← hmo]
  have HZ : Value.agg ((((((((Tryz.zeroCells127.setIfInBounds 0 (.pointer (some ⟨ab, 0, none⟩))).setIfInBounds 1 (.pointer (some ⟨mp, 0, none⟩))).setIfInBounds 2 (.int .i64 order)).setIfInBounds 9404 (.int .u16 0)).setIfInBounds 9405 (.int .u8 7)).setIfInBounds 9406 (.int .u8 64)).setIfInBounds 9919 (.int .i64 (-1))).setIfInBounds 9920 (.bool true)) = Value.agg (moZ order ab mp) := rfl
  rw [HZ]
  generalize Value.agg (moZ order ab mp) = ZV
  have h2l := hA2.blk.lt
  have HMO := Lib.hid hmo
  have h2m := hA2.mem.lt
  have HN := Lib.hid (show mo ≠ ab ∧ mo ≠ mb ∧ mp ≠ mo ∧ mp ≠ ab ∧ mp ≠ mb from ⟨by omega, by omega, by have := M2.lt; omega, by have := M1.lt; omega, by have := M1.lt; omega⟩)
  have HA3 := Lib.hid (hA2.fr F3 (by simp) (by simp))
  have HM3 := Lib.hid (M2.fr F3 (by simp))
  have HR := Lib.hid (rows_any hb3)
  clear hb3 hx HZ hmo hw3 c1 hA2 M2 h2l h2m
  go_upto_region 11 with (go_at_call 54; refine HR.out.mono ?_; rintro e w4 ⟨rfl, hb4, F4⟩)
  have hmo4 : MoAt w4 mo ab mb mp (Mo.blank order size) := ⟨hb4.eq (moG_rows _ ab mp), HA3.out.fr F4 (by simpa using Ne.symm HN.out.1) (by simpa using Ne.symm HN.out.2.1), HN.out.1, HN.out.2.1⟩
  have HR2 := Lib.hid (mrestart_any hmo4 (restart_fit ⟨HS.out.2, rfl, by show (0 : Nat) ≤ _; omega, by show (0 : Nat) ≤ _; omega, by show (0 : Nat) ≤ _; omega, by show (0 : Nat) ≤ _; omega, by show (0 : Nat) < _; omega⟩) HS.out.1 HO.out ⟨by show (-1 : Int) ≤ -1; decide, by show (-1 : Int) ≤ 1000000000; decide⟩)
  have HM4 := Lib.hid (HM3.out.fr F4 (by simpa using HN.out.2.2.1))
  have HGE := Lib.hid (show w.heap.size ≤ ab ∧ w.heap.size ≤ mb ∧ w.heap.size ≤ mo from ⟨by have := F1.size; omega, by have := F1.size; omega, by have := F1.size; have := F2.size; have := HMO.out; omega⟩)
  have HF4 := Lib.hid (((F1.trans F2 (fun i hi => .inl hi)).trans0 F3).trans F4 (fun i hi => .inr (by have := HGE.out.2.2; simp at hi; omega)))
  clear hb4 hmo4 HR HA3 HM3 F4 F3 F2 F1 M1 HM
  go_wp2_with (go_at_call 55; refine HR2.out.mono ?_; rintro e w5 ⟨rfl, H5, F5⟩)
  go_ret2
  refine ⟨mo, ab, mb, _, _, rfl, H5, rfl, HM4.out.fr F5 (by simpa using ⟨HN.out.2.2.1, HN.out.2.2.2⟩), ?_, ?_, HGE.out.1, HGE.out.2.1, HGE.out.2.2, HF4.out.trans F5 (fun i hi => .inr (by have := HGE.out; simp at hi; omega))⟩
  · repeat' split
    all_goals omega
  · repeat' split
    all_goals omega
end Go.Proofs.YtjfoccbbjhigbaaGreat
