/- What a header's writer puts, in plain Lean. No condition. -/
import Derived.Test.YtkodindajfdagaaDoorGAE
import Derived.Test.YtkodindajfdagaaDoorGAD
import Derived.Test.YtkodindajfdagaaDoorGAC
import Derived.Test.YtkodindajfdagaaDoorGAF
import Derived.Test.YtkodindajfdagaaDoorBaseM
namespace Go.Proofs.YtkodindajfdagaaDoor
open Go.RowKit

def shortN (v : Nat) : List UInt8 := firstByte v :: leBytes (extra v) v
theorem putNumber_short (b : List UInt8) (v : Nat) : putNumber b v = b ++ shortN v := rfl
theorem shortN_le (v : Nat) : (shortN v).length ≤ 9 := by
  have := extra_le v
  simp [shortN, leBytes_length]; omega
def toldN (row : List Bool) : List UInt8 := if row.all id then [1] else 0 :: packBits row
theorem putTold_told (b : List UInt8) (row : List Bool) : putTold b row = b ++ toldN row := by
  unfold putTold toldN
  split
  · rfl
  · simp
theorem put_le (b : List UInt8) (k v : Nat) (h : Cur.sized (k : Int) = true) : put b (k : Int) v = b ++ leBytes k v := by
  unfold put
  rw [if_pos h]
  rfl
def ckB (c : Ck) : List UInt8 := if c.has then leBytes 4 c.sum.toNat else []
/-- The sums of checks. -/
def sumsW (cs : List Ck) : List UInt8 := if true ∈ cs.map (·.has) then 10 :: (toldN (cs.map (·.has)) ++ cs.flatMap ckB) else []
/-- A part of what is said of files. -/
def partW (id : UInt8) (x : List UInt8) : List UInt8 := id :: (shortN x.length ++ x)
def unitsB (us : List Nat) : List UInt8 := us.flatMap (leBytes 2)
def nameU (l : List UInt8) : List Nat := unitsR ((runesL l).getD [])
def nameB (l : List UInt8) : List UInt8 := unitsB (nameU l ++ [0])
def namesW (F : List Fil) : List UInt8 := 0 :: F.flatMap fun f => nameB f.name
def emptyB (F : List Fil) : List Bool := F.map fun f => !f.stream
def plainB (F : List Fil) : List Bool := (F.filter fun f => !f.stream).map fun f => !f.dir
def rowsW (F : List Fil) : List UInt8 := (if plainB F = [] then [] else partW 14 (packBits (emptyB F))) ++ (if true ∈ plainB F then partW 15 (packBits (plainB F)) else [])
def timeOf (f : Fil) : Nat × Bool := (f.time.toNat, f.hasTime)
def attrOf (f : Fil) : Nat × Bool := (f.attr.toNat, f.hasAttr)
def hasV (of : Fil → Nat × Bool) (F : List Fil) : List Bool := F.map fun f => (of f).2
def valsV (of : Fil → Nat × Bool) (size : Nat) (F : List Fil) : List UInt8 := F.flatMap fun f => if (of f).2 then leBytes size (of f).1 else []
def numsW (id : UInt8) (size : Nat) (of : Fil → Nat × Bool) (F : List Fil) : List UInt8 :=
  if true ∈ hasV of F then partW id ((toldN (hasV of F) ++ [0]) ++ valsV of size F) else []
def filesW (F : List Fil) : List UInt8 :=
  if F = [] then [] else 5 :: (shortN F.length ++ (rowsW F ++ (partW 17 (namesW F) ++ (numsW 20 8 timeOf F ++ (numsW 21 4 attrOf F ++ [0])))))
/-- May a file be? -/
def mayFil (f : Fil) : Bool := (runesL f.name).isSome && !(decide ((0 : UInt8) ∈ f.name)) && !(f.stream && f.dir) && (f.hasAttr || f.attr == 0) && (f.hasTime || f.time == 0)
end Go.Proofs.YtkodindajfdagaaDoor
/- Contracts of the cursor's small functions, and of the references' Bytes. No condition but that lengths fit. -/
namespace Go.Proofs.YtkodindajfdagaaDoor
open Go.RowKit

theorem info_u8 : (Tryd.prog.info? 5).map (fun i => (i.zero, i.size, i.bytes)) = some (some (.int .u8 0), 1, 1) := by kernel_rfl
theorem sty_u8 : SlTy Tryd.prog 32 5 (.int .u8 0) 1 := ⟨Tryd.underlying32, by obtain ⟨i, h⟩ := info_parts info_u8; exact ⟨i, h⟩, rfl⟩

/-- The value is new, reads as these bytes, and the old memory is as it was. -/
def NewBytes (bs : List UInt8) (w : World) (e : Ending) (w' : World) : Prop :=
  ∃ r, e = .returned r ∧ w'.ownsRow w.heap.size 5 1 r bs.length (bv bs) ∧ Fr [] w w'

theorem clone_any (w : World) (v : Value) (bs : List UInt8) (h : Sl w v (bv bs)) (hb : bs.length ≤ 140737488355328) :
    Calls Tryd.prog 75 #[v] w (NewBytes bs w) := by
  have hq := @Lib.run_eql_slice_nil
  have hS := h
  obtain ⟨ao, cap, rfl, h1, h2, h3, _⟩ := h
  rw [bv_length] at h1
  cases ao with
  | none =>
    have := h3 rfl
    subst this
    have : bs = [] := List.eq_nil_of_length_eq_zero (by omega)
    subst this
    go_enter Tryd.func75, Tryd.ntmps75
    go_wp2_with fail
    go_ret
    exact ⟨_, rfl, World.ownsRow_nil w w.heap.size 5 1, Fr.refl _ _⟩
  | some ad =>
    have hy : Sl (w.alloc (.cells #[] 5)) (.slice (some ad) (bv bs).length cap) (bv bs) := hS.fr0 ((Fr.refl _ _).alloc _)
    have hbv := bv_length bs
    have hone := bv_one bs
    clear h3 hS
    go_enter Tryd.func75, Tryd.ntmps75
    go_wp2_with (at_builtin; refine wpList_append_sl sty_u8 rfl _ _ rfl w.heap.size _ 0 [] rfl (own_empty w _) _ (bv bs) rfl hy hone ?_ ?_ ?_ ?_)
    all_goals first | omega | skip
    · simp
    · intro v' w' hown hg
      have hF : Fr [] w w' := ((Fr.refl [] w).alloc _).grown hg (by simp [Value.ownBlock])
      clear hone hg hy
      go_wp2
      go_ret
      exact ⟨_, rfl, by simpa [bv_length] using hown, hF⟩
end Go.Proofs.YtkodindajfdagaaDoor
/- Contracts: least, Num, New. No condition but that lengths fit. -/
namespace Go.Proofs.YtkodindajfdagaaDoor
open Go.RowKit

theorem sized_any (w : World) (n : Int) :
    Calls Tryd.prog 77 #[.int .i64 n] w fun e w' => e = .returned (.bool (Cur.sized n)) ∧ w = w' := by
  by_cases h1 : n = 1
  · subst h1
    go_enter Tryd.func77, Tryd.ntmps77
    go_wp2
    go_ret
    exact ⟨rfl, rfl⟩
  · by_cases h2 : n = 2
    · subst h2
      go_enter Tryd.func77, Tryd.ntmps77
      go_wp2
      go_ret
      exact ⟨rfl, rfl⟩
    · by_cases h4 : n = 4
      · subst h4
        go_enter Tryd.func77, Tryd.ntmps77
        go_wp2
        go_ret
        exact ⟨rfl, rfl⟩
      · have b1 : (n == 1) = false := by simpa using h1
        have b2 : (n == 2) = false := by simpa using h2
        have b4 : (n == 4) = false := by simpa using h4
        have e : Cur.sized n = (n == 8) := by simp [Cur.sized, b1, b2, b4]
        rw [e]
        clear h1 h2 h4 e
        go_enter Tryd.func77, Tryd.ntmps77
        go_wp2
        go_ret
        exact ⟨rfl, rfl⟩
end Go.Proofs.YtkodindajfdagaaDoor
/- Contract: the references' Bytes. No condition. -/
namespace Go.Proofs.YtkodindajfdagaaDoor
open Go.RowKit

theorem bytes_any (w : World) (v1 v2 : Value) (a b : List UInt8) (h1 : Sl w v1 (bv a)) (h2 : Sl w v2 (bv b)) :
    Calls Tryd.prog 10 #[v1, v2] w fun e w' => e = .returned (.bool (decide (a = b))) ∧ Same w w' := by
  obtain ⟨ao1, cap1, rfl, g1, m1, o1⟩ := h1.out
  obtain ⟨ao2, cap2, rfl, g2, m2, o2⟩ := h2.out
  clear h1 h2
  simp only [bv_length] at *
  by_cases hl : a.length = b.length
  · have hb : ((a.length : Int) != (b.length : Int)) = false := by simp [hl]
    have HL := Lib.hid hl
    clear hl
    go_enter Tryd.func10, Tryd.ntmps10
    go_wp2
    go_loopw [5] (fun i wr => ∃ k : Nat, k ≤ a.length ∧ i = .int .i64 k ∧ a.take k = b.take k ∧ Same w wr) (fun i _ => a.length - (intOf i).toNat)
    case atStart => exact ⟨0, Nat.zero_le _, rfl, rfl, Same.refl w⟩
    case round =>
      obtain ⟨k, hk, rfl, htk, hsw⟩ := hrel
      by_cases hlt : k < a.length
      · obtain ⟨b1, of1, rfl, -, c1⟩ := o1 k hlt
        obtain ⟨b2, of2, rfl, -, c2⟩ := o2 k (by rw [← HL.out]; exact hlt)
        obtain ⟨x, hx⟩ := some_get a k hlt
        obtain ⟨y, hy⟩ := some_get b k (by rw [← HL.out]; exact hlt)
        have d1 : wr.cell? ⟨b1, of1 + k, none⟩ = some (.int .u8 x.toNat) := by rw [hsw.cell, c1 k hlt, bv_get _ _ _ hx]
        have d2 : wr.cell? ⟨b2, of2 + k, none⟩ = some (.int .u8 y.toNat) := by rw [hsw.cell, c2 k (by rw [← HL.out]; exact hlt), bv_get _ _ _ hy]
        have hlt2 : (k : Int) < (b.length : Int) := by have := HL.out; omega
        have hlt1 : (k : Int) < (a.length : Int) := by omega
        have HX := Lib.hid hx
        have HY := Lib.hid hy
        have HT := Lib.hid htk
        clear o1 o2 c1 c2 hx hy htk
        by_cases hxy : x = y
        · have hne : ((x.toNat : Int) != (y.toNat : Int)) = false := by simp [hxy]
          have HXY := Lib.hid hxy
          clear hxy
          go_wp2
          go_quiet (fail)
          go_wp2
          go_roundw
          case rel => exact ⟨k + 1, by omega, by go_num, take_eq_step _ _ _ _ _ HX.out HY.out HT.out HXY.out, hsw.trans (Same.drewN _)⟩
          case measure => simp [intOf]; omega
        · have hne : ((x.toNat : Int) != (y.toNat : Int)) = true := by
            rw [bne_iff_ne]; intro h; exact hxy (UInt8.toNat_inj.1 (by omega))
          have HXY := Lib.hid hxy
          clear hxy
          go_wp2
          go_quiet (fail)
          go_wp2
          go_ret
          exact ⟨by simp [ne_at _ _ _ _ _ HX.out HY.out HXY.out], hsw.trans (Same.drewN _)⟩
      · clear o1 o2
        have hk2 : k = a.length := by omega
        have HT := Lib.hid htk
        have HK := Lib.hid hk2
        clear htk hk2
        go_wp2
        go_ret
        refine ⟨?_, hsw⟩
        have e : a = b := by
          have := HT.out
          rw [HK.out, List.take_of_length_le (Nat.le_refl _), HL.out, List.take_of_length_le (Nat.le_refl _)] at this
          exact this
        simp [e]
  · have hb : ((a.length : Int) != (b.length : Int)) = true := by rw [bne_iff_ne]; omega
    have hne : a ≠ b := by rintro rfl; exact hl rfl
    have HN := Lib.hid hne
    clear hl hne o1 o2
    go_enter Tryd.func10, Tryd.ntmps10
    go_wp2
    go_ret
    exact ⟨by simp [HN.out], Same.refl w⟩
end Go.Proofs.YtkodindajfdagaaDoor
/- Nothing of its own: the seat has no cursor. -/
namespace Go.Proofs.YtkodindajfdagaaDoor
end Go.Proofs.YtkodindajfdagaaDoor
/- Contracts: Put, PutNumber. No condition but that lengths fit. -/
namespace Go.Proofs.YtkodindajfdagaaDoor
open Go.RowKit

theorem u8_ofNat (v : Nat) : Value.int .u8 (IntKind.u8.wrap (v : Int)) = Value.int .u8 ((UInt8.ofNat v).toNat : Int) := by
  rw [IntKind.wrap_u8]
  simp

theorem bv_snoc (l : List UInt8) (q : Nat) : bv (l ++ [UInt8.ofNat q]) = bv l ++ [.int .u8 ((q : Int) % 256)] := by
  simp [bv]

theorem putnumber_any (w : World) (v1 : Value) (b : List UInt8) (v : Nat) (h : Sl w v1 (bv b)) (hb : b.length ≤ 140737488355000) (hv : v < 18446744073709551616) :
    Calls Tryd.prog 54 #[v1, .int .u64 v] w (NewBytes (putNumber b v) w) := by
  have hx8 := extra_le v
  go_enter Tryd.func54, Tryd.ntmps54
  go_wp2
  go_loop [5] (fun i => ∃ k : Nat, k ≤ extra v ∧ i = .int .i64 k) (fun i => 8 - (intOf i).toNat)
  case atStart => exact ⟨0, Nat.zero_le _, rfl⟩
  case round =>
    obtain ⟨k, hk, rfl⟩ := hrel
    by_cases hlt : k < extra v
    · obtain ⟨h8, hne⟩ := extra_lt v k hlt
      have hk8 : (k : Int) < 8 := by omega
      have t0 := shr_ne v _ hne
      clear hne
      go_wp2_with fail
      go_round
      case rel => exact ⟨k + 1, by omega, by go_num⟩
      case measure => simp [intOf]; omega
    · have hke : k = extra v := by omega
      have HK := Lib.hid hke
      have hk8 : k ≤ 8 := by omega
      have t0 : k < 8 → ((v : Int) / 2 ^ (7 * k + 7) != 0) = false := fun h => shr_eq _ _ (by rw [hke]; exact extra_at v (by omega))
      have hexit : (k = 8) ∨ (k < 8) := by omega
      clear hke hlt hk hx8
      rcases hexit with h8 | h8
      case' inl =>
        have h8' : (8 : Int) ≤ (k : Int) := by omega
        have h7 : ¬ k < 7 := by omega
        have E := Lib.hid (first_ge v k HK.out h7)
        clear h8 t0 h7
        go_wp2_with fail
        rw [E.out]
        clear E h8'
      case' inr => by_cases h7 : k < 7
      case' pos =>
        have h8' : (k : Int) < 8 := by omega
        have t1 := t0 h8
        clear t0
        have h7' : (k : Int) < 7 := by omega
        have E := Lib.hid (first_lt v k HK.out h7)
        clear h7
        go_wp2_with fail
        rw [E.out]
        clear E t1 h8 h8' h7'
      case' neg =>
        have h8' : (k : Int) < 8 := by omega
        have t1 := t0 h8
        clear t0
        have h7' : (7 : Int) ≤ (k : Int) := by omega
        have E := Lib.hid (first_ge v k HK.out h7)
        clear h7
        go_wp2_with fail
        rw [E.out]
        clear E t1 h8 h8' h7'
      all_goals
        refine (clone_any w v1 b h (by omega)).mono ?_
        rintro e w1 ⟨r, rfl, hown, hf1⟩
        clear h
        have hz := hf1.size
        go_wp2_with (at_builtin; refine wpList_append_sl sty_u8 rfl _ _ rfl w.heap.size _ _ _ rfl (hown.alloc _) _ _ rfl (sl_one _ _ _) ?_ ?_ ?_ ?_ ?_)
        · simp [Value.oneCell']
        · simp; omega
        · simp; omega
        · simp; omega
        · intro v2 w2 hown2 hg2
          have hf2 : Fr [] w w2 := (hf1.alloc _).grown hg2 (fun k hk => .inr (hown.lt k hk).1)
          clear hg2 hown hf1 hz
          go_wp2_with fail
          go_loopw [1, 7, 41] (fun vv out i wr => ∃ j : Nat, j ≤ k ∧ i = .int .i64 j ∧ vv = .int .u64 ((v / 256 ^ j : Nat) : Int) ∧ wr.ownsRow w.heap.size 5 1 out (b.length + 1 + j) (bv (b ++ firstByte v :: leBytes j v)) ∧ Fr [] w wr) (fun _ _ i _ => k - (intOf i).toNat)
          case atStart => exact ⟨0, Nat.zero_le _, rfl, by simp, by simpa [bv, leBytes] using hown2, hf2⟩
          case round =>
            obtain ⟨j, hj, rfl, rfl, hown, hf⟩ := hrel
            clear hown2 hf2
            by_cases hlt : j < k
            · have hlt' : (j : Int) < (k : Int) := by omega
              obtain ⟨q, hq⟩ : ∃ q, q = v / 256 ^ j := ⟨_, rfl⟩
              rw [← hq]
              have hqv : q < 18446744073709551616 := Nat.lt_of_le_of_lt (hq ▸ Nat.div_le_self _ _) hv
              have hsn := leBytes_snoc j v
              rw [← hq] at hsn
              have hdd : v / 256 ^ (j + 1) = q / 256 := by rw [hq, Nat.div_div_eq_div_mul, Nat.pow_succ]
              have HS := Lib.hid hsn
              have HD := Lib.hid hdd
              have hz := hf.size
              clear hq hsn hdd
              go_wp2_with (at_builtin; refine wpList_append_sl sty_u8 rfl _ _ rfl w.heap.size _ _ _ rfl (hown.alloc _) _ _ rfl (sl_one _ _ _) ?_ ?_ ?_ ?_ ?_)
              · simp [Value.oneCell']
              · simp; omega
              · simp; omega
              · simp; omega
              · intro v3 w3 hown3 hg3
                have hf3 : Fr [] w w3 := (hf.alloc _).grown hg3 (fun k hk => .inr (hown.lt k hk).1)
                clear hg3 hown hf hz
                go_wp2_with fail
                go_roundw
                case rel =>
                  refine ⟨j + 1, by omega, by go_num, ?_, ?_, hf3⟩
                  · rw [HD.out]; rfl
                  · rw [HS.out, ← List.cons_append, ← List.append_assoc, bv_snoc]
                    exact hown3
                case measure => simp [intOf]; omega
            · have hjk : j = k := by omega
              have HJ := Lib.hid hjk
              clear hjk
              go_wp2_with fail
              go_ret
              refine ⟨_, rfl, ?_, hf⟩
              rw [HJ.out, HK.out] at hown
              have e : (putNumber b v).length = b.length + 1 + extra v := putNumber_length b v
              rw [e]
              exact hown
end Go.Proofs.YtkodindajfdagaaDoor
/- Contract: Put. No condition but that lengths fit. -/
namespace Go.Proofs.YtkodindajfdagaaDoor
open Go.RowKit

theorem put_any (w : World) (v1 : Value) (b : List UInt8) (size : Int) (v : Nat) (h : Sl w v1 (bv b)) (hb : b.length ≤ 140737488355000) (hv : v < 18446744073709551616) :
    Calls Tryd.prog 58 #[v1, .int .i64 size, .int .u64 v] w (NewBytes (put b size v) w) := by
  by_cases hn : Cur.sized size = true
  · have hr : 0 ≤ size ∧ size ≤ 8 := by unfold Cur.sized at hn; simp at hn; omega
    obtain ⟨k, rfl⟩ := Int.eq_ofNat_of_zero_le hr.1
    have hk8 : k ≤ 8 := by omega
    have e : put b k v = b ++ leBytes k v := by unfold put; rw [if_pos hn]; rfl
    rw [e]
    have HN := Lib.hid hn
    clear hn e
    go_enter Tryd.func58, Tryd.ntmps58
    go_wp2_with fail
    refine (clone_any w v1 b h (by omega)).mono ?_
    rintro e w1 ⟨r, rfl, hown1, hf1⟩
    clear h
    go_wp2_with fail
    refine (sized_any w1 _).mono ?_
    rintro e w2 ⟨rfl, rfl⟩
    rw [HN.out]
    go_wp2_with fail
    go_loopw [2, 7, 15] (fun vv out i wr => ∃ j : Nat, j ≤ k ∧ i = .int .i64 j ∧ vv = .int .u64 ((v / 256 ^ j : Nat) : Int) ∧ wr.ownsRow w.heap.size 5 1 out (b.length + j) (bv (b ++ leBytes j v)) ∧ Fr [] w wr) (fun _ _ i _ => k - (intOf i).toNat)
    case atStart => exact ⟨0, Nat.zero_le _, rfl, by simp, by simpa [bv, leBytes] using hown1, hf1⟩
    case round =>
      obtain ⟨j, hj, rfl, rfl, hown, hf⟩ := hrel
      clear hown1 hf1
      by_cases hlt : j < k
      · have hlt' : (j : Int) < (k : Int) := by omega
        obtain ⟨q, hq⟩ : ∃ q, q = v / 256 ^ j := ⟨_, rfl⟩
        rw [← hq]
        have hqv : q < 18446744073709551616 := Nat.lt_of_le_of_lt (hq ▸ Nat.div_le_self _ _) hv
        have hsn := leBytes_snoc j v
        rw [← hq] at hsn
        have hdd : v / 256 ^ (j + 1) = q / 256 := by rw [hq, Nat.div_div_eq_div_mul, Nat.pow_succ]
        have HS := Lib.hid hsn
        have HD := Lib.hid hdd
        have hz := hf.size
        clear hq hsn hdd
        go_wp2_with (at_builtin; refine wpList_append_sl sty_u8 rfl _ _ rfl w.heap.size _ _ _ rfl (hown.alloc _) _ _ rfl (sl_one _ _ _) ?_ ?_ ?_ ?_ ?_)
        · simp [Value.oneCell']
        · simp; omega
        · simp; omega
        · simp; omega
        · intro v3 w3 hown3 hg3
          have hf3 : Fr [] w w3 := (hf.alloc _).grown hg3 (fun k hk => .inr (hown.lt k hk).1)
          clear hg3 hown hf hz
          go_wp2_with fail
          go_roundw
          case rel =>
            refine ⟨j + 1, by omega, by go_num, ?_, ?_, hf3⟩
            · rw [HD.out]; rfl
            · rw [HS.out, ← List.append_assoc, bv_snoc]
              exact hown3
          case measure => simp [intOf]; omega
      · have hjk : j = k := by omega
        have HJ := Lib.hid hjk
        clear hjk
        go_wp2_with fail
        go_ret
        refine ⟨_, rfl, ?_, hf⟩
        rw [HJ.out] at hown
        have e : (b ++ leBytes k v).length = b.length + k := by simp [leBytes_length]
        rw [e]
        exact hown
  · have hn' : Cur.sized size = false := by simpa using hn
    have e : put b size v = b := by unfold put; rw [if_neg hn]
    rw [e]
    have HN := Lib.hid hn'
    clear hn e hn'
    go_enter Tryd.func58, Tryd.ntmps58
    go_wp2_with fail
    refine (clone_any w v1 b h (by omega)).mono ?_
    rintro e w1 ⟨r, rfl, hown1, hf1⟩
    clear h
    go_wp2_with fail
    refine (sized_any w1 _).mono ?_
    rintro e w2 ⟨rfl, rfl⟩
    rw [HN.out]
    go_wp2_with fail
    go_ret
    exact ⟨_, rfl, hown1, hf1⟩
end Go.Proofs.YtkodindajfdagaaDoor
