/- Contract: PutBits. No condition but that lengths fit. -/
import Derived.Test.YtkodindajfdagaaDoorGAG
import Derived.Test.YtkodindajfdagaaDoorGAC
import Derived.Test.YtkodindajfdagaaDoorGAD
namespace Go.Proofs.YtkodindajfdagaaDoor
open Go.RowKit

theorem bv_ofNat (l : List UInt8) (n : Nat) (h : n < 256) : bv (l ++ [UInt8.ofNat n]) = bv l ++ [.int .u8 (n : Int)] := by
  rw [bv_snoc, show ((n : Int) % 256) = n from by omega]

theorem bv_set_last (l : List UInt8) (y : UInt8) (n : Nat) (h : n < 256) (i : Nat) (hi : i = l.length) : (bv (l ++ [y])).set i (.int .u8 (n : Int)) = bv (l ++ [UInt8.ofNat n]) := by
  subst hi
  rw [bv_ofNat _ _ h, bv_append, List.set_append_right _ _ (by simp [bv_length])]
  simp [bv]

theorem putbits_any (w : World) (v1 v2 : Value) (b : List UInt8) (row : List Bool) (h : Sl w v1 (bv b)) (h2 : Sl w v2 (tv row)) (hb : b.length ≤ 140737488355000 - row.length) (hr : row.length ≤ 140737488355000) :
    Calls Tryd.prog 56 #[v1, v2] w (NewBytes (b ++ packBits row) w) := by
  obtain ⟨ao2, cap2, rfl, hc1, hc2, hel⟩ := h2.out
  rw [tv_length] at *
  have HEL := Lib.hid hel
  clear hel h2
  go_enter Tryd.func56, Tryd.ntmps56
  go_wp2_with fail
  refine (clone_any w v1 b h (by omega)).mono ?_
  rintro e w1 ⟨r, rfl, hown1, hf1⟩
  clear h
  go_wp2_with fail
  go_loopw [5, 12] (fun out i wr => ∃ k : Nat, k ≤ row.length ∧ i = .int .i64 k ∧ wr.ownsRow w.heap.size 5 1 out (b.length + (k + 7) / 8) (bv (b ++ packF (upTo (bitAt row) k) ((k + 7) / 8))) ∧ Fr [] w wr) (fun _ i _ => row.length - (intOf i).toNat)
  case atStart => exact ⟨0, Nat.zero_le _, rfl, by simpa [packF] using hown1, hf1⟩
  case round =>
    obtain ⟨k, hk, rfl, hown, hF⟩ := hrel
    clear hown1 hf1
    by_cases hlt : k < row.length
    · have hlt' : (k : Int) < (row.length : Int) := by omega
      obtain ⟨b1, of1, rfl, hbl, cc⟩ := HEL.out k hlt
      obtain ⟨x, hx⟩ := some_get row k hlt
      have hfx : bitAt row k = x := by unfold bitAt; simp [hx]
      have d1 : wr.cell? ⟨b1, of1 + k, none⟩ = some (.bool x) := by rw [hF.cell (p := ⟨b1, of1 + k, none⟩) hbl (by simp), cc _ hlt, tv_get _ _ _ hx]
      have hz := hF.size
      obtain ⟨L, hL⟩ : ∃ L, L = b.length + (k + 7) / 8 := ⟨_, rfl⟩
      have hLb : L ≤ 140737488355100 := by omega
      rw [← hL] at hown
      have HLL := Lib.hid hL
      clear cc hx hL
      by_cases h8 : k % 8 = 0
      · have t0 : ((k : Int) % 8 == 0) = true := by simp; omega
        have hop := pack_open (bitAt row) k h8
        rw [hfx] at hop
        have HOP := Lib.hid hop
        have H8 := Lib.hid h8
        clear hop h8 hfx
        go_wp2_with (at_builtin; refine wpList_append_sl sty_u8 rfl _ _ rfl w.heap.size _ _ _ rfl (hown.alloc _) _ _ rfl (sl_one _ _ _) ?_ ?_ ?_ ?_ ?_)
        · simp [Value.oneCell']
        · simp; omega
        · simp; omega
        · simp; omega
        intro v3 w3 hown3 hg3
        have hF3 : Fr [] w w3 := (hF.alloc _).grown hg3 (fun k hk => .inr (hown.lt k hk).1)
        clear hg3 hown hF hz d1
        cases x with
        | false =>
          go_wp2_with fail
          go_roundw
          case rel =>
            refine ⟨k + 1, by omega, by go_num, ?_, hF3⟩
            rw [HOP.out, ← List.append_assoc, bv_ofNat _ _ (by simp), show b.length + (k + 1 + 7) / 8 = L + 1 from by have := H8.out; have := HLL.out; omega]
            exact hown3
          case measure => simp [intOf]; omega
        | true =>
          obtain ⟨ao3, cap3, rfl, hd1, hd2, hd3⟩ := own_out hown3
          obtain ⟨g, rfl, hg, -⟩ := hd3 (by omega)
          have hlen : (bv (b ++ packF (upTo (bitAt row) k) ((k + 7) / 8))).length = L := by rw [bv_length]; simp [packF_length]; exact HLL.out.symm
          have hcell : w3.cell? ⟨g, L, none⟩ = some (.int .u8 0) := by
            rw [hown3.cellAt L (by omega), List.getElem?_append_right (by omega), hlen, Nat.sub_self]; rfl
          have hfz := hown3.frozenAt L
          have HLN := Lib.hid hlen
          clear hd3 hlen
          go_wp2_with fail
          go_roundw
          case rel =>
            refine ⟨k + 1, by omega, by go_num, ?_, hF3.setCell (.inr hg) _⟩
            have eb : bits BinOp.or IntKind.u8 0 (128 / 2 ^ 0) = ((128 : Nat) : Int) := by decide +kernel
            rw [H8.out, eb, HOP.out, if_pos rfl, ← List.append_assoc, show b.length + (k + 1 + 7) / 8 = L + 1 from by have := H8.out; have := HLL.out; omega]
            have hst := (hown3.stored L (.int .u8 ((128 : Nat) : Int))).1
            have e2 : bv (b ++ packF (upTo (bitAt row) k) ((k + 7) / 8)) ++ [Value.int IntKind.u8 0] = bv (b ++ packF (upTo (bitAt row) k) ((k + 7) / 8) ++ [0]) := by rw [bv_append _ [0]]; rfl
            rw [e2, bv_set_last _ 0 128 (by decide) L (by rw [← HLN.out, bv_length])] at hst
            exact hst
          case measure => simp [intOf]; omega
      · have t0 : ((k : Int) % 8 == 0) = false := by simp; omega
        obtain ⟨hop1, hop2⟩ := pack_in (bitAt row) k h8
        rw [hfx] at hop1
        have hlow := byteOf_low (bitAt row) k
        have hlt8 := byteOf_lt (upTo (bitAt row) k) (k / 8)
        have hb1 : b.length + (k + 1 + 7) / 8 = L := by have := HLL.out; omega
        have hL1 : 0 < L := by have := HLL.out; omega
        have hlen : (bv (b ++ packF (upTo (bitAt row) k) (k / 8))).length = L - 1 := by rw [bv_length]; simp [packF_length]; have := HLL.out; omega
        rw [hop2, ← List.append_assoc] at hown
        obtain ⟨y, hy⟩ : ∃ y, y = byteOf (upTo (bitAt row) k) (k / 8) := ⟨_, rfl⟩
        rw [← hy] at hop1 hlow hlt8 hown
        have HOP := Lib.hid hop1
        have HLN := Lib.hid hlen
        have H1 := Lib.hid hb1
        clear hop1 hop2 h8 hfx hy hb1
        obtain ⟨ao3, cap3, rfl, hd1, hd2, hd3⟩ := own_out hown
        obtain ⟨g, rfl, hg, -⟩ := hd3 (by omega)
        clear hd3
        cases x with
        | false =>
          go_wp2_with fail
          go_roundw
          case rel =>
            refine ⟨k + 1, by omega, by go_num, ?_, hF⟩
            rw [HOP.out, ← List.append_assoc, H1.out]
            exact hown
          case measure => simp [intOf]; omega
        | true =>
          have hcell : wr.cell? ⟨g, L - 1, none⟩ = some (.int .u8 y) := by
            rw [hown.cellAt (L - 1) (by omega), bv_ofNat _ _ hlt8, List.getElem?_append_right (by omega), hlen, Nat.sub_self]; rfl
          have hfz := hown.frozenAt (L - 1)
          obtain ⟨M, hM⟩ : ∃ M, M + 1 = L := ⟨L - 1, by omega⟩
          have hM' : L - 1 = M := by omega
          rw [hM'] at hcell hfz HLN
          subst hM
          clear hM' hlen
          go_wp2_with fail
          go_roundw
          case rel =>
            refine ⟨k + 1, by omega, by go_num, ?_, hF.setCell (.inr hg) _⟩
            obtain ⟨eb, ey⟩ := or_bit y (k % 8) hlt8 (by omega) hlow
            rw [eb, HOP.out, if_pos rfl, ← List.append_assoc, H1.out]
            have hst := (hown.stored M (.int .u8 ((y + 128 / 2 ^ (k % 8) : Nat) : Int))).1
            rw [bv_set_last _ _ _ ey M (by rw [← HLN.out, bv_length])] at hst
            exact hst
          case measure => simp [intOf]; omega
    · have hlt' : (row.length : Int) ≤ (k : Int) := by omega
      have hkr : k = row.length := by omega
      have HK := Lib.hid hkr
      clear hkr
      go_wp2_with fail
      go_ret
      refine ⟨_, rfl, ?_, hF⟩
      rw [HK.out, packBits_upTo] at hown
      have e : (b ++ packBits row).length = b.length + (row.length + 7) / 8 := by simp [packBits, packF_length]
      rw [e]
      exact hown
end Go.Proofs.YtkodindajfdagaaDoor
/- Contracts: slices.Contains of a bool, PutTold. No condition but that lengths fit. -/
namespace Go.Proofs.YtkodindajfdagaaDoor
open Go.RowKit

theorem not_all (row : List Bool) (k : Nat) (h : row[k]? = some false) : row.all id = false := by
  rw [List.all_eq_false]
  exact ⟨false, List.mem_of_getElem? h, by simp⟩

/-- Where the first false stands; -1: nowhere. -/
def IdxPost (row : List Bool) (w : World) (e : Ending) (w' : World) : Prop :=
  ∃ n : Int, e = .returned (.int .i64 n) ∧ decide (0 ≤ n) = !row.all id ∧ w = w'

theorem index_any (w : World) (v : Value) (row : List Bool) (h : Sl w v (tv row)) :
    Calls Tryd.prog 76 #[v, .bool false] w (IdxPost row w) := by
  obtain ⟨ao, cap, rfl, hc1, hc2, hel⟩ := h.out
  rw [tv_length] at *
  have HEL := Lib.hid hel
  clear hel h
  go_enter Tryd.func76, Tryd.ntmps76
  go_wp2
  go_loop [8] (fun i => ∃ k : Nat, k ≤ row.length ∧ i = .int .i64 k ∧ Hid ((row.take k).all id = true)) (fun i => row.length - (intOf i).toNat)
  case atStart => exact ⟨0, Nat.zero_le _, rfl, by show (row.take 0).all id = true; simp⟩
  case round =>
    obtain ⟨k, hk, rfl, hall⟩ := hrel
    by_cases hlt : k < row.length
    · have hlt' : (k : Int) < (row.length : Int) := by omega
      obtain ⟨b1, of1, rfl, hbl, cc⟩ := HEL.out k hlt
      obtain ⟨x, hx⟩ := some_get row k hlt
      have d1 : w.cell? ⟨b1, of1 + k, none⟩ = some (.bool x) := by rw [cc _ hlt, tv_get _ _ _ hx]
      have HX := Lib.hid hx
      clear cc hx
      cases x
      · go_wp2
        go_ret
        exact ⟨k, rfl, by rw [not_all row k HX.out]; simp, rfl⟩
      · go_wp2
        go_round
        case rel => exact ⟨k + 1, by omega, by go_num, by show (row.take (k + 1)).all id = true; rw [all_take row k true HX.out, hall.out]; rfl⟩
        case measure => simp [intOf]; omega
    · have hlt' : (row.length : Int) ≤ (k : Int) := by omega
      go_wp2
      go_ret
      have hall' := hall.out
      rw [List.take_of_length_le (by omega)] at hall'
      exact ⟨-1, rfl, by rw [hall']; rfl, rfl⟩

theorem contains_any (w : World) (v : Value) (row : List Bool) (h : Sl w v (tv row)) :
    Calls Tryd.prog 57 #[v, .bool false] w fun e w' => e = .returned (.bool (!row.all id)) ∧ w = w' := by
  go_enter Tryd.func57, Tryd.ntmps57
  go_wp2_with fail
  refine (index_any w v row h).mono ?_
  rintro e w1 ⟨n, rfl, hn, rfl⟩
  have HN := Lib.hid hn
  clear hn
  go_wp2_with fail
  go_ret
  exact ⟨by rw [← HN.out]; rfl, rfl⟩

theorem puttold_any (w : World) (v1 v2 : Value) (b : List UInt8) (row : List Bool) (h : Sl w v1 (bv b)) (h2 : Sl w v2 (tv row)) (hb : b.length ≤ 140737488354000 - row.length) (hr : row.length ≤ 140737488354000) :
    Calls Tryd.prog 59 #[v1, v2] w (NewBytes (putTold b row) w) := by
  by_cases ha : row.all id = true
  · have e : putTold b row = b ++ [1] := by unfold putTold; rw [if_pos ha]
    rw [e]
    have HA := Lib.hid ha
    clear ha e
    go_enter Tryd.func59, Tryd.ntmps59
    go_wp2_with fail
    refine (contains_any w v2 row h2).mono ?_
    rintro e w1 ⟨rfl, rfl⟩
    rw [HA.out]
    go_wp2_with fail
    refine (clone_any w v1 b h (by omega)).mono ?_
    rintro e w1 ⟨r, rfl, hown1, hf1⟩
    clear h h2
    go_wp2_with (at_builtin; refine wpList_append_one sty_u8 rfl _ _ rfl hf1 _ _ _ (by rfl) hown1 _ (by rfl) (by rfl) ?_ ?_ ?_)
    · omega
    · omega
    intro v4 w4 hown4 hF4
    clear hown1 hf1
    go_wp2_with fail
    go_ret
    refine ⟨_, rfl, ?_, hF4⟩
    rw [bv_append, List.length_append]
    exact hown4
  · have ha' : row.all id = false := by simpa using ha
    have e : putTold b row = (b ++ [0]) ++ packBits row := by unfold putTold; rw [if_neg ha]
    rw [e]
    have HA := Lib.hid ha'
    clear ha e ha'
    go_enter Tryd.func59, Tryd.ntmps59
    go_wp2_with fail
    refine (contains_any w v2 row h2).mono ?_
    rintro e w1 ⟨rfl, rfl⟩
    rw [HA.out]
    go_wp2_with fail
    refine (clone_any w v1 b h (by omega)).mono ?_
    rintro e w1 ⟨r, rfl, hown1, hf1⟩
    clear h
    go_wp2_with (at_builtin; refine wpList_append_one sty_u8 rfl _ _ rfl hf1 _ _ _ (by rfl) hown1 _ (by rfl) (by rfl) ?_ ?_ ?_)
    · omega
    · omega
    intro v4 w4 hown4 hF4
    have e1 : bv b ++ [Value.int .u8 0] = bv (b ++ [0]) := by rw [bv_append]; rfl
    rw [e1] at hown4
    have h2' := h2.fr0 hF4
    have hz := hF4.size
    clear hown1 hf1 h2 e1
    go_wp2_with fail
    refine (putbits_any w4 _ _ _ row (Sl.of_own hown4) h2' (by simp; omega) (by omega)).mono ?_
    rintro e w5 ⟨r5, rfl, hown5, hf5⟩
    clear hown4 h2'
    go_wp2_with fail
    go_ret
    exact ⟨_, rfl, own_mono hown5 hz, hF4.trans0 hf5⟩
end Go.Proofs.YtkodindajfdagaaDoor
/- Contract: slices.Contains of a true. No condition. -/
namespace Go.Proofs.YtkodindajfdagaaDoor
open Go.RowKit

def IdxTrue (row : List Bool) (w : World) (e : Ending) (w' : World) : Prop :=
  ∃ n : Int, e = .returned (.int .i64 n) ∧ decide (0 ≤ n) = decide (true ∈ row) ∧ w = w'

theorem indext_any (w : World) (v : Value) (row : List Bool) (h : Sl w v (tv row)) :
    Calls Tryd.prog 76 #[v, .bool true] w (IdxTrue row w) := by
  obtain ⟨ao, cap, rfl, hc1, hc2, hel⟩ := h.out
  rw [tv_length] at *
  have HEL := Lib.hid hel
  clear hel h
  go_enter Tryd.func76, Tryd.ntmps76
  go_wp2
  go_loop [8] (fun i => ∃ k : Nat, k ≤ row.length ∧ i = .int .i64 k ∧ Hid (true ∉ row.take k)) (fun i => row.length - (intOf i).toNat)
  case atStart => exact ⟨0, Nat.zero_le _, rfl, by show true ∉ row.take 0; simp⟩
  case round =>
    obtain ⟨k, hk, rfl, hall⟩ := hrel
    by_cases hlt : k < row.length
    · have hlt' : (k : Int) < (row.length : Int) := by omega
      obtain ⟨b1, of1, rfl, hbl, cc⟩ := HEL.out k hlt
      obtain ⟨x, hx⟩ := some_get row k hlt
      have d1 : w.cell? ⟨b1, of1 + k, none⟩ = some (.bool x) := by rw [cc _ hlt, tv_get _ _ _ hx]
      have HX := Lib.hid hx
      clear cc hx
      cases x
      · go_wp2
        go_round
        case rel => exact ⟨k + 1, by omega, by go_num, by show true ∉ row.take (k + 1); rw [List.take_add_one, HX.out]; have := hall.out; simp [this]⟩
        case measure => simp [intOf]; omega
      · go_wp2
        go_ret
        exact ⟨k, rfl, by rw [decide_eq_true (List.mem_of_getElem? HX.out)]; simp, rfl⟩
    · have hlt' : (row.length : Int) ≤ (k : Int) := by omega
      go_wp2
      go_ret
      have hall' := hall.out
      rw [List.take_of_length_le (by omega)] at hall'
      exact ⟨-1, rfl, by rw [decide_eq_false hall']; rfl, rfl⟩

theorem containst_any (w : World) (v : Value) (row : List Bool) (h : Sl w v (tv row)) :
    Calls Tryd.prog 57 #[v, .bool true] w fun e w' => e = .returned (.bool (decide (true ∈ row))) ∧ w = w' := by
  go_enter Tryd.func57, Tryd.ntmps57
  go_wp2_with fail
  refine (indext_any w v row h).mono ?_
  rintro e w1 ⟨n, rfl, hn, rfl⟩
  have HN := Lib.hid hn
  clear hn
  go_wp2_with fail
  go_ret
  exact ⟨by rw [← HN.out]; rfl, rfl⟩
end Go.Proofs.YtkodindajfdagaaDoor
