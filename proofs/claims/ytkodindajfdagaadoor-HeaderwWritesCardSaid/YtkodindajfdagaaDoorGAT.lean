/- Contracts of the reference's PutBits, PutTold, and of PutTold. No condition but that lengths fit. -/
import Derived.Test.YtkodindajfdagaaDoorGAK
import Derived.Test.YtkodindajfdagaaDoorGAS
import Derived.Test.YtkodindajfdagaaDoorGAH
import Derived.Test.YtkodindajfdagaaDoorWSumsM
namespace Go.Proofs.YtkodindajfdagaaDoor
open Go.RowKit

set_option maxHeartbeats 1000000 in
theorem refputbits_any (w : World) (v1 v2 : Value) (b : List UInt8) (row : List Bool) (h : Sl w v1 (bv b)) (h2 : Sl w v2 (tv row)) (hb : b.length ≤ 140737488355000 - row.length) (hr : row.length ≤ 140737488355000) :
    Calls Tryd.prog 35 #[v1, v2] w (NewBytes (b ++ packBits row) w) := by
  obtain ⟨ao2, cap2, rfl, hc1, hc2, hel⟩ := h2.out
  rw [tv_length] at *
  have HEL := Lib.hid hel
  clear hel h2
  go_enter Tryd.func35, Tryd.ntmps35
  go_wp2_with (at_builtin; refine wpList_append_new sty_u8 rfl _ _ rfl rfl _ (bv b) rfl h (bv_one _) ?_ ?_ ?_)
  · rw [bv_length]; omega
  · rw [bv_length]; omega
  intro v3 w3 hown3 hf3
  rw [bv_length] at hown3
  clear h
  go_wp2_with fail
  go_loopw [5, 6] (fun out i wr => ∃ j : Nat, j ≤ (row.length + 7) / 8 ∧ i = .int .i64 ((8 * j : Nat) : Int) ∧ wr.ownsRow w.heap.size 5 1 out (b.length + j) (bv (b ++ packF (bitAt row) j)) ∧ Fr [] w wr) (fun _ i _ => row.length + 8 - (intOf i).toNat)
  case atStart => exact ⟨0, Nat.zero_le _, rfl, by simpa [packF] using hown3, hf3⟩
  case round =>
    obtain ⟨j, hj, rfl, hown, hF⟩ := hrel
    clear hown3 hf3
    by_cases hlt : 8 * j < row.length
    · obtain ⟨I, hI⟩ : ∃ I, I = 8 * j := ⟨_, rfl⟩
      rw [← hI] at hlt ⊢
      have hlt' : (I : Int) < (row.length : Int) := by omega
      have HI := Lib.hid hI
      clear hI
      go_wp2_with fail
      go_loop [7, 8] (fun v k => ∃ t : Nat, t ≤ 8 ∧ k = .int .i64 t ∧ v = .int .i64 (chunk (bitAt row) I t)) (fun _ k => 8 - (intOf k).toNat)
      case atStart => exact ⟨0, by omega, rfl, rfl⟩
      case round =>
        obtain ⟨t, ht, rfl, rfl⟩ := hrel
        have hcl := chunk_lt (bitAt row) I t
        obtain ⟨V, hV⟩ : ∃ V, V = chunk (bitAt row) I t := ⟨_, rfl⟩
        have hVb : V < 256 := by
          have : 2 ^ t ≤ 2 ^ 8 := Nat.pow_le_pow_right (by decide) ht
          omega
        have hnx : chunk (bitAt row) I (t + 1) = 2 * V + (bitAt row (I + t)).toNat := by rw [hV]; rfl
        rw [← hV]
        by_cases ht8 : t < 8
        · have ht8' : (t : Int) < 8 := by omega
          by_cases hin : I + t < row.length
          · have hin' : (I : Int) + (t : Int) < (row.length : Int) := by omega
            obtain ⟨b1, of1, rfl, hbl, cc⟩ := HEL.out (I + t) hin
            obtain ⟨x, hx⟩ := some_get row (I + t) hin
            have hfx : bitAt row (I + t) = x := by unfold bitAt; simp [hx]
            have d1 : wr.cell? ⟨b1, of1 + (I + t), none⟩ = some (.bool x) := by rw [hF.cell (p := ⟨b1, of1 + (I + t), none⟩) hbl (by simp), cc _ hin, tv_get _ _ _ hx]
            rw [hfx] at hnx
            have HNX := Lib.hid hnx
            have HV := Lib.hid hV
            clear cc hx hfx hnx hV hcl
            cases x <;> go_wp2_with fail
            all_goals
              go_round
              case rel =>
                refine ⟨t + 1, by omega, by go_num, ?_⟩
                rw [HNX.out]
                simp
                try omega
              case measure => simp [intOf]; omega
          · have hin' : (row.length : Int) ≤ (I : Int) + (t : Int) := by omega
            have hfx : bitAt row (I + t) = false := by unfold bitAt; rw [List.getD_eq_getElem?_getD, List.getElem?_eq_none (by omega)]; rfl
            rw [hfx] at hnx
            have HNX := Lib.hid hnx
            have HV := Lib.hid hV
            clear hfx hnx hV hcl
            go_wp2_with fail
            go_round
            case rel =>
              refine ⟨t + 1, by omega, by go_num, ?_⟩
              rw [HNX.out]
              simp
              try omega
            case measure => simp [intOf]; omega
        · have ht8' : (8 : Int) ≤ (t : Int) := by omega
          have hVB : V = byteOf (bitAt row) j := by rw [hV, show t = 8 from by omega, HI.out, chunk_byte]
          have HVB := Lib.hid hVB
          clear hVB hV hnx hcl
          go_wp2_with (at_builtin; refine wpList_append_one sty_u8 rfl _ _ rfl hF _ _ _ (by rfl) hown _ (by rfl) (by rfl) ?_ ?_ ?_)
          · omega
          · omega
          intro v4 w4 hown4 hF4
          clear hown hF
          go_wp2_with fail
          go_roundw
          case rel =>
            refine ⟨j + 1, by have := HI.out; omega, ?_, ?_, hF4⟩
            · have := HI.out; rw [show ((8 * (j + 1) : Nat) : Int) = (I : Int) + 8 from by omega]
            · rw [packF_succ, ← List.append_assoc, ← HVB.out, bv_ofNat _ _ hVb]
              exact hown4
          case measure => simp [intOf]; omega
    · have hlt' : (row.length : Int) ≤ ((8 * j : Nat) : Int) := by omega
      have hlt'' : (row.length : Int) ≤ 8 * (j : Int) := by omega
      have hjm : j = (row.length + 7) / 8 := by omega
      have HJ := Lib.hid hjm
      clear hjm
      go_wp2_with fail
      go_ret
      refine ⟨_, rfl, ?_, hF⟩
      rw [HJ.out] at hown
      have e : (b ++ packBits row).length = b.length + (row.length + 7) / 8 := by simp [packBits, packF_length]
      rw [e]
      exact hown

theorem refputtold_any (w : World) (v1 v2 : Value) (b : List UInt8) (row : List Bool) (h : Sl w v1 (bv b)) (h2 : Sl w v2 (tv row)) (hb : b.length ≤ 140737488354000 - row.length) (hr : row.length ≤ 140737488354000) :
    Calls Tryd.prog 36 #[v1, v2] w (NewBytes (putTold b row) w) := by
  obtain ⟨ao, cap, rfl, hc1, hc2, hel⟩ := h2.out
  rw [tv_length] at *
  have HEL := Lib.hid hel
  clear hel
  go_enter Tryd.func36, Tryd.ntmps36
  go_wp2_with fail
  go_loop [5, 6] (fun a i => ∃ (k : Nat) (x : Bool), k ≤ row.length ∧ i = .int .i64 k ∧ a = .bool x ∧ Hid (x = (row.take k).all id)) (fun _ i => row.length - (intOf i).toNat)
  case atStart => exact ⟨0, true, Nat.zero_le _, rfl, rfl, by show true = (row.take 0).all id; simp⟩
  case round =>
    obtain ⟨k, x, hk, rfl, rfl, hall⟩ := hrel
    by_cases hlt : k < row.length
    · have hlt' : (k : Int) < (row.length : Int) := by omega
      obtain ⟨b1, of1, rfl, hbl, cc⟩ := HEL.out k hlt
      obtain ⟨y, hy⟩ := some_get row k hlt
      have d1 : w.cell? ⟨b1, of1 + k, none⟩ = some (.bool y) := by rw [cc _ hlt, tv_get _ _ _ hy]
      have HY := Lib.hid hy
      clear cc hy h h2
      cases x
      · go_wp2_with fail
        go_round
        case rel => exact ⟨k + 1, false, by omega, by go_num, rfl, by show false = (row.take (k + 1)).all id; rw [all_take row k y HY.out, ← hall.out]; rfl⟩
        case measure => simp [intOf]; omega
      · go_wp2_with fail
        go_round
        case rel => exact ⟨k + 1, y, by omega, by go_num, rfl, by show y = (row.take (k + 1)).all id; rw [all_take row k y HY.out, ← hall.out]; simp⟩
        case measure => simp [intOf]; omega
    · have hlt' : (row.length : Int) ≤ (k : Int) := by omega
      have hall' := hall.out
      rw [List.take_of_length_le (by omega)] at hall'
      have HA := Lib.hid hall'
      clear hall' hall
      cases x
      · have e : putTold b row = (b ++ [0]) ++ packBits row := by unfold putTold; rw [← HA.out]; rfl
        have HE := Lib.hid e
        clear e
        go_wp2_with (at_builtin; refine wpList_append_new sty_u8 rfl _ _ rfl rfl _ (bv b) rfl h (bv_one _) ?_ ?_ ?_)
        · rw [bv_length]; omega
        · rw [bv_length]; omega
        intro v3 w3 hown3 hf3
        rw [bv_length] at hown3
        clear h
        go_wp2_with (at_builtin; refine wpList_append_one sty_u8 rfl _ _ rfl hf3 _ _ _ (by rfl) hown3 _ (by rfl) (by rfl) ?_ ?_ ?_)
        · omega
        · omega
        intro v4 w4 hown4 hF4
        have e1 : bv b ++ [Value.int .u8 0] = bv (b ++ [0]) := by rw [bv_append]; rfl
        rw [e1] at hown4
        have h2' := h2.fr0 hF4
        have hz := hF4.size
        clear hown3 hf3 h2 e1
        go_wp2_with fail
        refine (refputbits_any w4 _ _ _ row (Sl.of_own hown4) h2' (by simp; omega) (by omega)).mono ?_
        rintro e w5 ⟨r5, rfl, hown5, hf5⟩
        clear hown4 h2'
        go_wp2_with fail
        go_ret
        rw [HE.out]
        exact ⟨_, rfl, own_mono hown5 hz, hF4.trans0 hf5⟩
      · have e : putTold b row = b ++ [1] := by unfold putTold; rw [← HA.out]; rfl
        have HE := Lib.hid e
        clear e
        go_wp2_with (at_builtin; refine wpList_append_new sty_u8 rfl _ _ rfl rfl _ (bv b) rfl h (bv_one _) ?_ ?_ ?_)
        · rw [bv_length]; omega
        · rw [bv_length]; omega
        intro v3 w3 hown3 hf3
        rw [bv_length] at hown3
        clear h
        go_wp2_with (at_builtin; refine wpList_append_one sty_u8 rfl _ _ rfl hf3 _ _ _ (by rfl) hown3 _ (by rfl) (by rfl) ?_ ?_ ?_)
        · omega
        · omega
        intro v4 w4 hown4 hF4
        clear hown3 hf3
        go_wp2_with fail
        go_ret
        rw [HE.out]
        refine ⟨_, rfl, ?_, hF4⟩
        rw [bv_append, List.length_append]
        exact hown4
end Go.Proofs.YtkodindajfdagaaDoor
/- Rows of the call's own, side by side; bytes that a reference puts. No condition. -/
namespace Go.Proofs.YtkodindajfdagaaDoor
open Go.RowKit

/-- A row of one-cell elements. -/
structure RowD where
  e : TypeId
  v : Value
  n : Nat
  xs : List Value
/-- Rows of the call's own, no two in one block. -/
structure OwnL (base : Nat) (w : World) (L : List RowD) : Prop where
  own : ∀ (i : Nat) r, L[i]? = some r → w.ownsRow base r.e 1 r.v r.n r.xs
  apart : ∀ (i j : Nat) a b, i ≠ j → L[i]? = some a → L[j]? = some b → ∀ k, a.v.ownBlock = some k → b.v.ownBlock ≠ some k
theorem OwnL.fr {base : Nat} {w w' : World} {L : List RowD} (h : OwnL base w L) (F : Fr [] w w') : OwnL base w' L :=
  ⟨fun i r hr => own_frS (h.own i r hr) F (by simp), h.apart⟩
/-- One row has turned; what it was may be touched, the others not. -/
theorem OwnL.turn {base : Nat} {w w' : World} {L : List RowD} {i : Nat} {r : RowD} {v' : Value} {n' : Nat} {xs' : List Value} (h : OwnL base w L) (hi : L[i]? = some r) (F : Fr r.v.ownBlock.toList w w') (own : w'.ownsRow base r.e 1 v' n' xs') (hat : ∀ k, v'.ownBlock = some k → r.v.ownBlock = some k ∨ w.heap.size ≤ k) :
    OwnL base w' (L.set i ⟨r.e, v', n', xs'⟩) := by
  have hil : i < L.length := (List.getElem?_eq_some_iff.1 hi).1
  refine ⟨fun j s hs => ?_, fun j m a b hjm ha hb k hk => ?_⟩
  · rw [List.getElem?_set] at hs
    by_cases e : i = j
    · rw [if_pos e, if_pos hil] at hs
      obtain rfl := Option.some.inj hs
      exact own
    · rw [if_neg e] at hs
      refine own_frS (h.own j s hs) F (fun k hk hm => ?_)
      exact h.apart j i s r (fun e2 => e e2.symm) hs hi k hk (by simpa using hm)
  · rw [List.getElem?_set] at ha hb
    by_cases e : i = j
    · have e2 : i ≠ m := fun e2 => hjm (e ▸ e2)
      rw [if_pos e, if_pos hil] at ha
      rw [if_neg e2] at hb
      obtain rfl := Option.some.inj ha
      intro hbk
      rcases hat k hk with h1 | h1
      · exact h.apart i m r b e2 hi hb k h1 hbk
      · have := (own_ltS (h.own m b hb) k hbk).2
        omega
    · rw [if_neg e] at ha
      by_cases e2 : i = m
      · rw [if_pos e2, if_pos hil] at hb
        obtain rfl := Option.some.inj hb
        intro hbk
        rcases hat k hbk with h1 | h1
        · exact h.apart j i a r (fun e3 => e e3.symm) ha hi k hk h1
        · have := (own_ltS (h.own j a ha) k hk).2
          omega
      · rw [if_neg e2] at hb
        exact h.apart j m a b hjm ha hb k hk

/-- What a reference leaves that puts bytes behind a row of the call's own: bytes of the call's own; nothing else is touched but that row. -/
def PutB (base : Nat) (w : World) (v : Value) (cs : List UInt8) (e : Ending) (w' : World) : Prop :=
  ∃ r, e = .returned r ∧ w'.ownsRow base 5 1 r cs.length (bv cs) ∧ Fr v.ownBlock.toList w w' ∧ ∀ k, r.ownBlock = some k → v.ownBlock = some k ∨ w.heap.size ≤ k
theorem PutB.mono {base : Nat} {w wx w' : World} {v vx : Value} {cs : List UInt8} {e : Ending} (h : PutB base wx vx cs e w') (F : Fr v.ownBlock.toList w wx) (hk : ∀ k, vx.ownBlock = some k → v.ownBlock = some k ∨ w.heap.size ≤ k) : PutB base w v cs e w' := by
  obtain ⟨r, he, own, F2, h2⟩ := h
  refine ⟨r, he, own, F.trans F2 (fun i hi => ?_), fun k hkk => ?_⟩
  · rcases hk i (by simpa using hi) with h | h
    · exact .inl (by simp [h])
    · exact .inr h
  · rcases h2 k hkk with h | h
    · exact hk k h
    · exact .inr (Nat.le_trans F.size h)
/-- Fresh bytes behind other steps. -/
theorem NewBytes.put {base : Nat} {w wx w' : World} {v : Value} {cs : List UInt8} {e : Ending} (h : NewBytes cs wx e w') (F : Fr v.ownBlock.toList w wx) (hb : base ≤ w.heap.size) : PutB base w v cs e w' := by
  obtain ⟨r, he, own, F2⟩ := h
  exact ⟨r, he, own_mono own (Nat.le_trans hb F.size), F.trans0 F2, fun k hk => .inr (Nat.le_trans F.size (own_ltS own k hk).1)⟩

set_option maxRecDepth 100000 in
theorem rnum_any (w : World) (v1 : Value) (b : List UInt8) (n : Nat) (h : Sl w v1 (bv b)) (hb : b.length ≤ 140737488354000) (hn : n < 18446744073709551616) :
    Calls Tryd.prog 30 #[v1, .int .u64 n] w (NewBytes (b ++ shortN n) w) := by
  have HC := Lib.hid (refputnumber_any w v1 b n h hb hn)
  rw [putNumber_short] at HC
  generalize b ++ shortN n = cs at *
  obtain ⟨ao, cap, rfl, -, -, -⟩ := h.out
  clear h
  go_enter Tryd.func30, Tryd.ntmps30
  go_wp2_with (go_at_call 60; refine HC.out.mono ?_; rintro e w1 ⟨r, rfl, own, F1⟩; obtain ⟨ro, rc, rfl, -⟩ := own_out own)
  go_ret
  exact ⟨_, rfl, own, F1⟩
end Go.Proofs.YtkodindajfdagaaDoor
