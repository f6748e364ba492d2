/- Contracts of the reference's PutBits, PutTold, and of PutTold. No condition but that lengths fit. -/
import Derived.Test.YtklbocdeifebkaaRowA
import Derived.Test.YtklbocdeifebkaaRefPut
namespace Go.Proofs.Ytklbocdeifebkaa
open Go.RowKit

set_option maxHeartbeats 1000000 in
theorem refputbits_any (w : World) (v1 v2 : Value) (b : List UInt8) (row : List Bool) (h : Sl w v1 (bv b)) (h2 : Sl w v2 (tv row)) (hb : b.length ≤ 140737488355000 - row.length) (hr : row.length ≤ 140737488355000) :
    Calls Try.prog 29 #[v1, v2] w (NewBytes (b ++ packBits row) w) := by
  obtain ⟨ao2, cap2, rfl, hc1, hc2, hel⟩ := h2.out
  rw [tv_length] at *
  have HEL := Lib.hid hel
  clear hel h2
  go_enter Try.func29, Try.ntmps29
  go_wp2_with (at_builtin; refine wpList_append_new sty_u8 rfl _ _ rfl rfl _ (bv b) rfl h (bv_one _) ?_ ?_ ?_)
  · rw [bv_length]; omega
  · rw [bv_length]; omega
  intro v3 w3 hown3 hf3
  rw [bv_length] at hown3
  clear h
  go_wp2_with fail
  go_loopw [5, 6] (fun out i wr => ∃ j : Nat, j ≤ (row.length + 7) / 8 ∧ i = .int .i64 ((8 * j : Nat) : Int) ∧ wr.ownsRow w.heap.size 5 1 out (b.length + j) (bv (b ++ packF (bitAt row) j)) ∧ Fr [] w wr) (fun _ i _ => row.length + 8 - (intOf i).toNat)
  case atStart => exact ⟨0, Nat.zero_le _, rfl, by simpa [packF] using hown3, hf3⟩
  case round =>
    obtain ⟨j, hj, rfl, hown, hF⟩ := hrel
    clear hown3 hf3
    by_cases hlt : 8 * j < row.length
    · obtain ⟨I, hI⟩ : ∃ I, I = 8 * j := ⟨_, rfl⟩
      rw [← hI] at hlt ⊢
      have hlt' : (I : Int) < (row.length : Int) := by omega
      have HI := Lib.hid hI
      clear hI
      go_wp2_with fail
      go_loop [7, 8] (fun v k => ∃ t : Nat, t ≤ 8 ∧ k = .int .i64 t ∧ v = .int .i64 (chunk (bitAt row) I t)) (fun _ k => 8 - (intOf k).toNat)
      case atStart => exact ⟨0, by omega, rfl, rfl⟩
      case round =>
        obtain ⟨t, ht, rfl, rfl⟩ := hrel
        have hcl := chunk_lt (bitAt row) I t
        obtain ⟨V, hV⟩ : ∃ V, V = chunk (bitAt row) I t := ⟨_, rfl⟩
        have hVb : V < 256 := by
          have : 2 ^ t ≤ 2 ^ 8 := Nat.pow_le_pow_right (by decide) ht
          omega
        have hnx : chunk (bitAt row) I (t + 1) = 2 * V + (bitAt row (I + t)).toNat := by rw [hV]; rfl
        rw [← hV]
        by_cases ht8 : t < 8
        · have ht8' : (t : Int) < 8 := by omega
          by_cases hin : I + t < row.length
          · have hin' : (I : Int) + (t : Int) < (row.length : Int) := by omega
            obtain ⟨b1, of1, rfl, hbl, cc⟩ := HEL.out (I + t) hin
            obtain ⟨x, hx⟩ := some_get row (I + t) hin
            have hfx : bitAt row (I + t) = x := by unfold bitAt; simp [hx]
            have d1 : wr.cell? ⟨b1, of1 + (I + t), none⟩ = some (.bool x) := by rw [hF.cell (p := ⟨b1, of1 + (I + t), none⟩) hbl (by simp), cc _ hin, tv_get _ _ _ hx]
            rw [hfx] at hnx
            have HNX := Lib.hid hnx
            have HV := Lib.hid hV
            clear cc hx hfx hnx hV hcl
            cases x <;> go_wp2_with fail
            all_goals
              go_round
              case rel =>
                refine ⟨t + 1, by omega, by go_num, ?_⟩
                rw [HNX.out]
                simp
                try omega
              case measure => simp [intOf]; omega
          · have hin' : (row.length : Int) ≤ (I : Int) + (t : Int) := by omega
            have hfx : bitAt row (I + t) = false := by unfold bitAt; rw [List.getD_eq_getElem?_getD, List.getElem?_eq_none (by omega)]; rfl
            rw [hfx] at hnx
            have HNX := Lib.hid hnx
            have HV := Lib.hid hV
            clear hfx hnx hV hcl
            go_wp2_with fail
            go_round
            case rel =>
              refine ⟨t + 1, by omega, by go_num, ?_⟩
              rw [HNX.out]
              simp
              try omega
            case measure => simp [intOf]; omega
        · have ht8' : (8 : Int) ≤ (t : Int) := by omega
          have hVB : V = byteOf (bitAt row) j := by rw [hV, show t = 8 from by omega, HI.out, chunk_byte]
          have HVB := Lib.hid hVB
          clear hVB hV hnx hcl
          go_wp2_with (at_builtin; refine wpList_append_one sty_u8 rfl _ _ rfl hF _ _ _ (by rfl) hown _ (by rfl) (by rfl) ?_ ?_ ?_)
          · omega
          · omega
          intro v4 w4 hown4 hF4
          clear hown hF
          go_wp2_with fail
          go_roundw
          case rel =>
            refine ⟨j + 1, by have := HI.out; omega, ?_, ?_, hF4⟩
            · have := HI.out; rw [show ((8 * (j + 1) : Nat) : Int) = (I : Int) + 8 from by omega]
            · rw [packF_succ, ← List.append_assoc, ← HVB.out, bv_ofNat _ _ hVb]
              exact hown4
          case measure => simp [intOf]; omega
    · have hlt' : (row.length : Int) ≤ ((8 * j : Nat) : Int) := by omega
      have hlt'' : (row.length : Int) ≤ 8 * (j : Int) := by omega
      have hjm : j = (row.length + 7) / 8 := by omega
      have HJ := Lib.hid hjm
      clear hjm
      go_wp2_with fail
      go_ret
      refine ⟨_, rfl, ?_, hF⟩
      rw [HJ.out] at hown
      have e : (b ++ packBits row).length = b.length + (row.length + 7) / 8 := by simp [packBits, packF_length]
      rw [e]
      exact hown

theorem not_all (row : List Bool) (k : Nat) (h : row[k]? = some false) : row.all id = false := by
  rw [List.all_eq_false]
  exact ⟨false, List.mem_of_getElem? h, by simp⟩

/-- Where the first false stands; -1: nowhere. -/
def IdxPost (row : List Bool) (w : World) (e : Ending) (w' : World) : Prop :=
  ∃ n : Int, e = .returned (.int .i64 n) ∧ decide (0 ≤ n) = !row.all id ∧ w = w'

theorem index_any (w : World) (v : Value) (row : List Bool) (h : Sl w v (tv row)) :
    Calls Try.prog 56 #[v, .bool false] w (IdxPost row w) := by
  obtain ⟨ao, cap, rfl, hc1, hc2, hel⟩ := h.out
  rw [tv_length] at *
  have HEL := Lib.hid hel
  clear hel h
  go_enter Try.func56, Try.ntmps56
  go_wp2
  go_loop [8] (fun i => ∃ k : Nat, k ≤ row.length ∧ i = .int .i64 k ∧ Hid ((row.take k).all id = true)) (fun i => row.length - (intOf i).toNat)
  case atStart => exact ⟨0, Nat.zero_le _, rfl, by show (row.take 0).all id = true; simp⟩
  case round =>
    obtain ⟨k, hk, rfl, hall⟩ := hrel
    by_cases hlt : k < row.length
    · have hlt' : (k : Int) < (row.length : Int) := by omega
      obtain ⟨b1, of1, rfl, hbl, cc⟩ := HEL.out k hlt
      obtain ⟨x, hx⟩ := some_get row k hlt
      have d1 : w.cell? ⟨b1, of1 + k, none⟩ = some (.bool x) := by rw [cc _ hlt, tv_get _ _ _ hx]
      have HX := Lib.hid hx
      clear cc hx
      cases x
      · go_wp2
        go_ret
        exact ⟨k, rfl, by rw [not_all row k HX.out]; simp, rfl⟩
      · go_wp2
        go_round
        case rel => exact ⟨k + 1, by omega, by go_num, by show (row.take (k + 1)).all id = true; rw [all_take row k true HX.out, hall.out]; rfl⟩
        case measure => simp [intOf]; omega
    · have hlt' : (row.length : Int) ≤ (k : Int) := by omega
      go_wp2
      go_ret
      have hall' := hall.out
      rw [List.take_of_length_le (by omega)] at hall'
      exact ⟨-1, rfl, by rw [hall']; rfl, rfl⟩

theorem contains_any (w : World) (v : Value) (row : List Bool) (h : Sl w v (tv row)) :
    Calls Try.prog 51 #[v, .bool false] w fun e w' => e = .returned (.bool (!row.all id)) ∧ w = w' := by
  go_enter Try.func51, Try.ntmps51
  go_wp2_with fail
  refine (index_any w v row h).mono ?_
  rintro e w1 ⟨n, rfl, hn, rfl⟩
  have HN := Lib.hid hn
  clear hn
  go_wp2_with fail
  go_ret
  exact ⟨by rw [← HN.out]; rfl, rfl⟩

theorem puttold_any (w : World) (v1 v2 : Value) (b : List UInt8) (row : List Bool) (h : Sl w v1 (bv b)) (h2 : Sl w v2 (tv row)) (hb : b.length ≤ 140737488354000 - row.length) (hr : row.length ≤ 140737488354000) :
    Calls Try.prog 30 #[v1, v2] w (NewBytes (putTold b row) w) := by
  by_cases ha : row.all id = true
  · have e : putTold b row = b ++ [1] := by unfold putTold; rw [if_pos ha]
    rw [e]
    have HA := Lib.hid ha
    clear ha e
    go_enter Try.func30, Try.ntmps30
    go_wp2_with fail
    refine (contains_any w v2 row h2).mono ?_
    rintro e w1 ⟨rfl, rfl⟩
    rw [HA.out]
    go_wp2_with fail
    refine (clone_any w v1 b h (by omega)).mono ?_
    rintro e w1 ⟨r, rfl, hown1, hf1⟩
    clear h h2
    go_wp2_with (at_builtin; refine wpList_append_one sty_u8 rfl _ _ rfl hf1 _ _ _ (by rfl) hown1 _ (by rfl) (by rfl) ?_ ?_ ?_)
    · omega
    · omega
    intro v4 w4 hown4 hF4
    clear hown1 hf1
    go_wp2_with fail
    go_ret
    refine ⟨_, rfl, ?_, hF4⟩
    rw [bv_append, List.length_append]
    exact hown4
  · have ha' : row.all id = false := by simpa using ha
    have e : putTold b row = (b ++ [0]) ++ packBits row := by unfold putTold; rw [if_neg ha]
    rw [e]
    have HA := Lib.hid ha'
    clear ha e ha'
    go_enter Try.func30, Try.ntmps30
    go_wp2_with fail
    refine (contains_any w v2 row h2).mono ?_
    rintro e w1 ⟨rfl, rfl⟩
    rw [HA.out]
    go_wp2_with fail
    refine (clone_any w v1 b h (by omega)).mono ?_
    rintro e w1 ⟨r, rfl, hown1, hf1⟩
    clear h
    go_wp2_with (at_builtin; refine wpList_append_one sty_u8 rfl _ _ rfl hf1 _ _ _ (by rfl) hown1 _ (by rfl) (by rfl) ?_ ?_ ?_)
    · omega
    · omega
    intro v4 w4 hown4 hF4
    have e1 : bv b ++ [Value.int .u8 0] = bv (b ++ [0]) := by rw [bv_append]; rfl
    rw [e1] at hown4
    have h2' := h2.fr0 hF4
    have hz := hF4.size
    clear hown1 hf1 h2 e1
    go_wp2_with fail
    refine (putbits_any w4 _ _ _ row (Sl.of_own hown4) h2' (by simp; omega) (by omega)).mono ?_
    rintro e w5 ⟨r5, rfl, hown5, hf5⟩
    clear hown4 h2'
    go_wp2_with fail
    go_ret
    exact ⟨_, rfl, own_mono hown5 hz, hF4.trans0 hf5⟩

theorem refputtold_any (w : World) (v1 v2 : Value) (b : List UInt8) (row : List Bool) (h : Sl w v1 (bv b)) (h2 : Sl w v2 (tv row)) (hb : b.length ≤ 140737488354000 - row.length) (hr : row.length ≤ 140737488354000) :
    Calls Try.prog 31 #[v1, v2] w (NewBytes (putTold b row) w) := by
  obtain ⟨ao, cap, rfl, hc1, hc2, hel⟩ := h2.out
  rw [tv_length] at *
  have HEL := Lib.hid hel
  clear hel
  go_enter Try.func31, Try.ntmps31
  go_wp2_with fail
  go_loop [5, 6] (fun a i => ∃ (k : Nat) (x : Bool), k ≤ row.length ∧ i = .int .i64 k ∧ a = .bool x ∧ Hid (x = (row.take k).all id)) (fun _ i => row.length - (intOf i).toNat)
  case atStart => exact ⟨0, true, Nat.zero_le _, rfl, rfl, by show true = (row.take 0).all id; simp⟩
  case round =>
    obtain ⟨k, x, hk, rfl, rfl, hall⟩ := hrel
    by_cases hlt : k < row.length
    · have hlt' : (k : Int) < (row.length : Int) := by omega
      obtain ⟨b1, of1, rfl, hbl, cc⟩ := HEL.out k hlt
      obtain ⟨y, hy⟩ := some_get row k hlt
      have d1 : w.cell? ⟨b1, of1 + k, none⟩ = some (.bool y) := by rw [cc _ hlt, tv_get _ _ _ hy]
      have HY := Lib.hid hy
      clear cc hy h h2
      cases x
      · go_wp2_with fail
        go_round
        case rel => exact ⟨k + 1, false, by omega, by go_num, rfl, by show false = (row.take (k + 1)).all id; rw [all_take row k y HY.out, ← hall.out]; rfl⟩
        case measure => simp [intOf]; omega
      · go_wp2_with fail
        go_round
        case rel => exact ⟨k + 1, y, by omega, by go_num, rfl, by show y = (row.take (k + 1)).all id; rw [all_take row k y HY.out, ← hall.out]; simp⟩
        case measure => simp [intOf]; omega
    · have hlt' : (row.length : Int) ≤ (k : Int) := by omega
      have hall' := hall.out
      rw [List.take_of_length_le (by omega)] at hall'
      have HA := Lib.hid hall'
      clear hall' hall
      cases x
      · have e : putTold b row = (b ++ [0]) ++ packBits row := by unfold putTold; rw [← HA.out]; rfl
        have HE := Lib.hid e
        clear e
        go_wp2_with (at_builtin; refine wpList_append_new sty_u8 rfl _ _ rfl rfl _ (bv b) rfl h (bv_one _) ?_ ?_ ?_)
        · rw [bv_length]; omega
        · rw [bv_length]; omega
        intro v3 w3 hown3 hf3
        rw [bv_length] at hown3
        clear h
        go_wp2_with (at_builtin; refine wpList_append_one sty_u8 rfl _ _ rfl hf3 _ _ _ (by rfl) hown3 _ (by rfl) (by rfl) ?_ ?_ ?_)
        · omega
        · omega
        intro v4 w4 hown4 hF4
        have e1 : bv b ++ [Value.int .u8 0] = bv (b ++ [0]) := by rw [bv_append]; rfl
        rw [e1] at hown4
        have h2' := h2.fr0 hF4
        have hz := hF4.size
        clear hown3 hf3 h2 e1
        go_wp2_with fail
        refine (refputbits_any w4 _ _ _ row (Sl.of_own hown4) h2' (by simp; omega) (by omega)).mono ?_
        rintro e w5 ⟨r5, rfl, hown5, hf5⟩
        clear hown4 h2'
        go_wp2_with fail
        go_ret
        rw [HE.out]
        exact ⟨_, rfl, own_mono hown5 hz, hF4.trans0 hf5⟩
      · have e : putTold b row = b ++ [1] := by unfold putTold; rw [← HA.out]; rfl
        have HE := Lib.hid e
        clear e
        go_wp2_with (at_builtin; refine wpList_append_new sty_u8 rfl _ _ rfl rfl _ (bv b) rfl h (bv_one _) ?_ ?_ ?_)
        · rw [bv_length]; omega
        · rw [bv_length]; omega
        intro v3 w3 hown3 hf3
        rw [bv_length] at hown3
        clear h
        go_wp2_with (at_builtin; refine wpList_append_one sty_u8 rfl _ _ rfl hf3 _ _ _ (by rfl) hown3 _ (by rfl) (by rfl) ?_ ?_ ?_)
        · omega
        · omega
        intro v4 w4 hown4 hF4
        clear hown3 hf3
        go_wp2_with fail
        go_ret
        rw [HE.out]
        refine ⟨_, rfl, ?_, hF4⟩
        rw [bv_append, List.length_append]
        exact hown4
end Go.Proofs.Ytklbocdeifebkaa
