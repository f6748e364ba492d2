/- Contract: Put. No condition but that lengths fit. -/
import Derived.Test.YtjfoccbbjhigbaaGreatSrcDa
namespace Go.Proofs.YtjfoccbbjhigbaaGreat
open Go.RowKit

theorem put_any (w : World) (v1 : Value) (b : List UInt8) (size : Int) (v : Nat) (h : Sl w v1 (bv b)) (hb : b.length ≤ 140737488355000) (hv : v < 18446744073709551616) :
    Calls Tryz.prog 49 #[v1, .int .i64 size, .int .u64 v] w (NewBytes (put b size v) w) := by
  by_cases hn : Cur.sized size = true
  · have hr : 0 ≤ size ∧ size ≤ 8 := by unfold Cur.sized at hn; simp at hn; omega
    obtain ⟨k, rfl⟩ := Int.eq_ofNat_of_zero_le hr.1
    have hk8 : k ≤ 8 := by omega
    have e : put b k v = b ++ leBytes k v := by unfold put; rw [if_pos hn]; rfl
    rw [e]
    have HN := Lib.hid hn
    clear hn e
    go_enter Tryz.func49, Tryz.ntmps49
    go_wp2_with fail
    refine (clone_any w v1 b h (by omega)).mono ?_
    rintro e w1 ⟨r, rfl, hown1, hf1⟩
    clear h
    go_wp2_with fail
    refine (sized_any w1 _).mono ?_
    rintro e w2 ⟨rfl, rfl⟩
    rw [HN.out]
    go_wp2_with fail
    go_loopw [2, 7, 15] (fun vv out i wr => ∃ j : Nat, j ≤ k ∧ i = .int .i64 j ∧ vv = .int .u64 ((v / 256 ^ j : Nat) : Int) ∧ wr.ownsRow w.heap.size 5 1 out (b.length + j) (bv (b ++ leBytes j v)) ∧ Fr [] w wr) (fun _ _ i _ => k - (intOf i).toNat)
    case atStart => exact ⟨0, Nat.zero_le _, rfl, by simp, by simpa [bv, leBytes] using hown1, hf1⟩
    case round =>
      obtain ⟨j, hj, rfl, rfl, hown, hf⟩ := hrel
      clear hown1 hf1
      by_cases hlt : j < k
      · have hlt' : (j : Int) < (k : Int) := by omega
        obtain ⟨q, hq⟩ : ∃ q, q = v / 256 ^ j := ⟨_, rfl⟩
        rw [← hq]
        have hqv : q < 18446744073709551616 := Nat.lt_of_le_of_lt (hq ▸ Nat.div_le_self _ _) hv
        have hsn := leBytes_snoc j v
        rw [← hq] at hsn
        have hdd : v / 256 ^ (j + 1) = q / 256 := by rw [hq, Nat.div_div_eq_div_mul, Nat.pow_succ]
        have HS := Lib.hid hsn
        have HD := Lib.hid hdd
        have hz := hf.size
        clear hq hsn hdd
        go_wp2_with (at_builtin; refine wpList_append_sl sty_u8 rfl _ _ rfl w.heap.size _ _ _ rfl (hown.alloc _) _ _ rfl (sl_one _ _ _) ?_ ?_ ?_ ?_ ?_)
        · simp [Value.oneCell']
        · simp; omega
        · simp; omega
        · simp; omega
        · intro v3 w3 hown3 hg3
          have hf3 : Fr [] w w3 := (hf.alloc _).grown hg3 (fun k hk => .inr (hown.lt k hk).1)
          clear hg3 hown hf hz
          go_wp2_with fail
          go_roundw
          case rel =>
            refine ⟨j + 1, by omega, by go_num, ?_, ?_, hf3⟩
            · rw [HD.out]; rfl
            · rw [HS.out, ← List.append_assoc, bv_snoc]
              exact hown3
          case measure => simp [intOf]; omega
      · have hjk : j = k := by omega
        have HJ := Lib.hid hjk
        clear hjk
        go_wp2_with fail
        go_ret
        refine ⟨_, rfl, ?_, hf⟩
        rw [HJ.out] at hown
        have e : (b ++ leBytes k v).length = b.length + k := by simp [leBytes_length]
        rw [e]
        exact hown
  · have hn' : Cur.sized size = false := by simpa using hn
    have e : put b size v = b := by unfold put; rw [if_neg hn]
    rw [e]
    have HN := Lib.hid hn'
    clear hn e hn'
    go_enter Tryz.func49, Tryz.ntmps49
    go_wp2_with fail
    refine (clone_any w v1 b h (by omega)).mono ?_
    rintro e w1 ⟨r, rfl, hown1, hf1⟩
    clear h
    go_wp2_with fail
    refine (sized_any w1 _).mono ?_
    rintro e w2 ⟨rfl, rfl⟩
    rw [HN.out]
    go_wp2_with fail
    go_ret
    exact ⟨_, rfl, hown1, hf1⟩
end Go.Proofs.YtjfoccbbjhigbaaGreat
