/- What is put behind bytes, in plain Lean. No condition. -/
import Derived.Test.YthbkcjlpelihlaaGreatDoorGAB
import Derived.Test.YthbkcjlpelihlaaGreatDoorHCrcPM
import Derived.Test.YthbkcjlpelihlaaGreatDoorGAC
namespace Go.Proofs.YthbkcjlpelihlaaGreatDoor
open Go.RowKit

/-- A number as k bytes, the least first. -/
def leBytes : Nat → Nat → List UInt8
  | 0, _ => []
  | k + 1, v => UInt8.ofNat v :: leBytes k (v / 256)

theorem leBytes_length (k v : Nat) : (leBytes k v).length = k := by
  induction k generalizing v with
  | zero => rfl
  | succ k ih => simp [leBytes, ih]

theorem leBytes_snoc (k v : Nat) : leBytes (k + 1) v = leBytes k v ++ [UInt8.ofNat (v / 256 ^ k)] := by
  induction k generalizing v with
  | zero => simp [leBytes]
  | succ k ih =>
    rw [leBytes, ih, leBytes, Nat.div_div_eq_div_mul, Nat.pow_succ, Nat.mul_comm 256]
    rfl

theorem leNat_leBytes (k v : Nat) (h : v < 256 ^ k) : leNat (leBytes k v) = v := by
  induction k generalizing v with
  | zero => simp at h; subst h; rfl
  | succ k ih =>
    have h2 : v / 256 < 256 ^ k := by rw [Nat.div_lt_iff_lt_mul (by decide), ← Nat.pow_succ]; exact h
    simp only [leBytes, leNat, ih _ h2]
    have : (UInt8.ofNat v).toNat = v % 256 := by simp
    omega

theorem leNat_leBytes_mod (k v : Nat) : leNat (leBytes k v) = v % 256 ^ k := by
  induction k generalizing v with
  | zero => simp [leBytes, leNat, Nat.mod_one]
  | succ k ih =>
    simp only [leBytes, leNat, ih]
    have : (UInt8.ofNat v).toNat = v % 256 := by simp
    rw [this, Nat.pow_succ, Nat.mul_comm (256 ^ k), Nat.mod_mul]

/-- How many bytes stand behind a short number's first one. -/
def extra (v : Nat) : Nat := if v < 128 then 0 else if v < 16384 then 1 else if v < 2097152 then 2 else if v < 268435456 then 3 else if v < 34359738368 then 4 else if v < 4398046511104 then 5 else if v < 562949953421312 then 6 else if v < 72057594037927936 then 7 else 8

theorem extra_le (v : Nat) : extra v ≤ 8 := by
  unfold extra
  repeat' split
  all_goals omega

theorem extra_lt (v k : Nat) (h : k < extra v) : k < 8 ∧ v / 2 ^ (7 * k + 7) ≠ 0 := by
  have h8 := extra_le v
  refine ⟨by omega, ?_⟩
  have hk : k = 0 ∨ k = 1 ∨ k = 2 ∨ k = 3 ∨ k = 4 ∨ k = 5 ∨ k = 6 ∨ k = 7 := by omega
  rcases hk with rfl | rfl | rfl | rfl | rfl | rfl | rfl | rfl <;> simp only [Nat.reduceMul, Nat.reduceAdd, Nat.reducePow] <;> unfold extra at h <;> repeat' split at h
  all_goals omega

theorem extra_at (v : Nat) (h : extra v < 8) : v / 2 ^ (7 * extra v + 7) = 0 := by
  unfold extra at *
  repeat' split
  all_goals first | (simp only [Nat.reduceMul, Nat.reduceAdd, Nat.reducePow]; omega) | (exfalso; simp_all)

/-- A short number's first byte. -/
def firstByte (v : Nat) : UInt8 := UInt8.ofNat (65280 / 2 ^ extra v % 256 + if extra v < 7 then v / 256 ^ extra v else 0)

def putNumber (b : List UInt8) (v : Nat) : List UInt8 := b ++ firstByte v :: leBytes (extra v) v

def put (b : List UInt8) (size : Int) (v : Nat) : List UInt8 := if Cur.sized size then b ++ leBytes size.toNat v else b

theorem putNumber_length (b : List UInt8) (v : Nat) : (putNumber b v).length = b.length + 1 + extra v := by
  simp [putNumber, leBytes_length]; omega

theorem shr_ne (v m : Nat) (h : v / 2 ^ m ≠ 0) : ((v : Int) / 2 ^ m != 0) = true := by
  rw [bne_iff_ne]; intro e; apply h
  have : ((v / 2 ^ m : Nat) : Int) = 0 := by push_cast; exact e
  omega

theorem shr_eq (v m : Nat) (h : v / 2 ^ m = 0) : ((v : Int) / 2 ^ m != 0) = false := by
  have : ((v / 2 ^ m : Nat) : Int) = 0 := by omega
  push_cast at this
  simp [this]

theorem or_first (k y : Nat) (hk : k < 7) (hy : y < 2 ^ (7 - k)) : bits BinOp.or IntKind.u8 (65280 / 2 ^ k % 256) (y : Int) = ((65280 / 2 ^ k % 256 + y : Nat) : Int) := by
  have h : ∀ (j : Fin 7) (z : Fin 128), z.val < 2 ^ (7 - j.val) → bits BinOp.or IntKind.u8 (65280 / 2 ^ j.val % 256) (z.val : Int) = ((65280 / 2 ^ j.val % 256 + z.val : Nat) : Int) := by decide +kernel
  have h7 : 2 ^ (7 - k) ≤ 2 ^ 7 := Nat.pow_le_pow_right (by decide) (by omega)
  exact h ⟨k, hk⟩ ⟨y, by omega⟩ hy

theorem first_small (k y : Nat) (hk : k < 7) (hy : y < 2 ^ (7 - k)) : 65280 / 2 ^ k % 256 + y < 256 := by
  have h : ∀ (j : Fin 7) (z : Fin 128), z.val < 2 ^ (7 - j.val) → 65280 / 2 ^ j.val % 256 + z.val < 256 := by decide +kernel
  have h7 : 2 ^ (7 - k) ≤ 2 ^ 7 := Nat.pow_le_pow_right (by decide) (by omega)
  exact h ⟨k, hk⟩ ⟨y, by omega⟩ hy

theorem first_ge (v k : Nat) (hk : k = extra v) (h7 : ¬ k < 7) : (65280 / 2 ^ k % 256 : Int) = ((firstByte v).toNat : Int) := by
  unfold firstByte
  rw [← hk, if_neg h7]
  have : 65280 / 2 ^ k % 256 < 256 := Nat.mod_lt _ (by decide)
  simp

theorem first_lt (v k : Nat) (hk : k = extra v) (h7 : k < 7) : bits BinOp.or IntKind.u8 (65280 / 2 ^ k % 256) ((v : Int) / 2 ^ (8 * k) % 256) = ((firstByte v).toNat : Int) := by
  have h0 := extra_at v (by omega)
  rw [← hk] at h0
  have hlt : v / 2 ^ (8 * k) < 2 ^ (7 - k) := by
    have h1 : v < 2 ^ (7 * k + 7) := (Nat.div_eq_zero_iff_lt (Nat.pow_pos (by decide))).1 h0
    rw [Nat.div_lt_iff_lt_mul (Nat.pow_pos (by decide)), ← Nat.pow_add, show 7 - k + 8 * k = 7 * k + 7 from by omega]
    exact h1
  have hs := first_small k _ h7 hlt
  have e : ((v : Int) / 2 ^ (8 * k) % 256) = ((v / 2 ^ (8 * k) : Nat) : Int) := by
    have : ((v / 2 ^ (8 * k) % 256 : Nat) : Int) = ((v / 2 ^ (8 * k) : Nat) : Int) := by rw [Nat.mod_eq_of_lt]; omega
    rw [← this, Int.natCast_emod, Int.natCast_ediv, Int.natCast_pow]; rfl
  rw [e, or_first k _ h7 hlt]
  unfold firstByte
  rw [← hk, if_pos h7, pow256]
  congr 1
  simp
  omega
end Go.Proofs.YthbkcjlpelihlaaGreatDoor
/- Lemmas: bytes behind bytes. No condition. -/
namespace Go.Proofs.YthbkcjlpelihlaaGreatDoor
open Go.RowKit

theorem u8_ofNat (v : Nat) : Value.int .u8 (IntKind.u8.wrap (v : Int)) = Value.int .u8 ((UInt8.ofNat v).toNat : Int) := by
  rw [IntKind.wrap_u8]
  simp

theorem bv_snoc (l : List UInt8) (q : Nat) : bv (l ++ [UInt8.ofNat q]) = bv l ++ [.int .u8 ((q : Int) % 256)] := by
  simp [bv]
end Go.Proofs.YthbkcjlpelihlaaGreatDoor
/- Contract: Put. No condition but that lengths fit. -/
namespace Go.Proofs.YthbkcjlpelihlaaGreatDoor
open Go.RowKit

theorem put_any (w : World) (v1 : Value) (b : List UInt8) (size : Int) (v : Nat) (h : Sl w v1 (bv b)) (hb : b.length ≤ 140737488355000) (hv : v < 18446744073709551616) :
    Calls Tryz.prog 27 #[v1, .int .i64 size, .int .u64 v] w (NewBytes (put b size v) w) := by
  by_cases hn : Cur.sized size = true
  · have hr : 0 ≤ size ∧ size ≤ 8 := by unfold Cur.sized at hn; simp at hn; omega
    obtain ⟨k, rfl⟩ := Int.eq_ofNat_of_zero_le hr.1
    have hk8 : k ≤ 8 := by omega
    have e : put b k v = b ++ leBytes k v := by unfold put; rw [if_pos hn]; rfl
    rw [e]
    have HN := Lib.hid hn
    clear hn e
    go_enter Tryz.func27, Tryz.ntmps27
    go_wp2_with fail
    refine (clone_any w v1 b h (by omega)).mono ?_
    rintro e w1 ⟨r, rfl, hown1, hf1⟩
    clear h
    go_wp2_with fail
    refine (sized_any w1 _).mono ?_
    rintro e w2 ⟨rfl, rfl⟩
    rw [HN.out]
    go_wp2_with fail
    go_loopw [2, 7, 15] (fun vv out i wr => ∃ j : Nat, j ≤ k ∧ i = .int .i64 j ∧ vv = .int .u64 ((v / 256 ^ j : Nat) : Int) ∧ wr.ownsRow w.heap.size 5 1 out (b.length + j) (bv (b ++ leBytes j v)) ∧ Fr [] w wr) (fun _ _ i _ => k - (intOf i).toNat)
    case atStart => exact ⟨0, Nat.zero_le _, rfl, by simp, by simpa [bv, leBytes] using hown1, hf1⟩
    case round =>
      obtain ⟨j, hj, rfl, rfl, hown, hf⟩ := hrel
      clear hown1 hf1
      by_cases hlt : j < k
      · have hlt' : (j : Int) < (k : Int) := by omega
        obtain ⟨q, hq⟩ : ∃ q, q = v / 256 ^ j := ⟨_, rfl⟩
        rw [← hq]
        have hqv : q < 18446744073709551616 := Nat.lt_of_le_of_lt (hq ▸ Nat.div_le_self _ _) hv
        have hsn := leBytes_snoc j v
        rw [← hq] at hsn
        have hdd : v / 256 ^ (j + 1) = q / 256 := by rw [hq, Nat.div_div_eq_div_mul, Nat.pow_succ]
        have HS := Lib.hid hsn
        have HD := Lib.hid hdd
        have hz := hf.size
        clear hq hsn hdd
        go_wp2_with (at_builtin; refine wpList_append_sl sty_u8 rfl _ _ rfl w.heap.size _ _ _ rfl (hown.alloc _) _ _ rfl (sl_one _ _ _) ?_ ?_ ?_ ?_ ?_)
        · simp [Value.oneCell']
        · simp; omega
        · simp; omega
        · simp; omega
        · intro v3 w3 hown3 hg3
          have hf3 : Fr [] w w3 := (hf.alloc _).grown hg3 (fun k hk => .inr (hown.lt k hk).1)
          clear hg3 hown hf hz
          go_wp2_with fail
          go_roundw
          case rel =>
            refine ⟨j + 1, by omega, by go_num, ?_, ?_, hf3⟩
            · rw [HD.out]; rfl
            · rw [HS.out, ← List.append_assoc, bv_snoc]
              exact hown3
          case measure => simp [intOf]; omega
      · have hjk : j = k := by omega
        have HJ := Lib.hid hjk
        clear hjk
        go_wp2_with fail
        go_ret
        refine ⟨_, rfl, ?_, hf⟩
        rw [HJ.out] at hown
        have e : (b ++ leBytes k v).length = b.length + k := by simp [leBytes_length]
        rw [e]
        exact hown
  · have hn' : Cur.sized size = false := by simpa using hn
    have e : put b size v = b := by unfold put; rw [if_neg hn]
    rw [e]
    have HN := Lib.hid hn'
    clear hn e hn'
    go_enter Tryz.func27, Tryz.ntmps27
    go_wp2_with fail
    refine (clone_any w v1 b h (by omega)).mono ?_
    rintro e w1 ⟨r, rfl, hown1, hf1⟩
    clear h
    go_wp2_with fail
    refine (sized_any w1 _).mono ?_
    rintro e w2 ⟨rfl, rfl⟩
    rw [HN.out]
    go_wp2_with fail
    go_ret
    exact ⟨_, rfl, hown1, hf1⟩
end Go.Proofs.YthbkcjlpelihlaaGreatDoor
/- Sums of layer 2, plain: a byte that is another one gives another sum. No condition. -/
namespace Go.Proofs.YthbkcjlpelihlaaGreatDoor

theorem xor_same {a b p : Nat} (h : a ^^^ p = b ^^^ p) : a = b := by
  have := congrArg (· ^^^ p) h
  simpa [Nat.xor_assoc] using this
theorem poly_top {y : Nat} (hy : y < 2147483648) : 2147483648 ≤ y ^^^ 3988292384 := by
  refine Nat.le_of_not_lt fun h => ?_
  have h2 : (y ^^^ 3988292384) ^^^ y < 2 ^ 31 := Nat.xor_lt_two_pow h hy
  rw [Nat.xor_comm y, Nat.xor_assoc, Nat.xor_self, Nat.xor_zero] at h2
  omega
theorem bit1_inj {x y : Nat} (hx : x < 4294967296) (hy : y < 4294967296) (h : bit1 x = bit1 y) : x = y := by
  unfold bit1 at h
  have tx : x / 2 < 2147483648 := by omega
  have ty : y / 2 < 2147483648 := by omega
  have px := poly_top tx
  have py := poly_top ty
  split at h
  · split at h
    · have := xor_same h
      omega
    · omega
  · split at h
    · omega
    · omega
theorem bitN_inj {x y : Nat} (hx : x < 4294967296) (hy : y < 4294967296) : ∀ k, bitN k x = bitN k y → x = y
  | 0, h => h
  | k + 1, h => bitN_inj hx hy k (bit1_inj (bitN_lt hx k) (bitN_lt hy k) h)
theorem crcStep_inj {x y : Nat} {b : UInt8} (hx : x < 4294967296) (hy : y < 4294967296) (h : crcStep x b = crcStep y b) : x = y := by
  have hb := b.toNat_lt
  exact xor_same (bitN_inj (Nat.xor_lt_two_pow (n := 32) hx (by omega)) (Nat.xor_lt_two_pow (n := 32) hy (by omega)) 8 h)
theorem crcStep_byte {x : Nat} {b c : UInt8} (hx : x < 4294967296) (h : crcStep x b = crcStep x c) : b = c := by
  have hb := b.toNat_lt
  have hc := c.toNat_lt
  have h1 := bitN_inj (Nat.xor_lt_two_pow (n := 32) hx (by omega)) (Nat.xor_lt_two_pow (n := 32) hx (by omega)) 8 h
  rw [Nat.xor_comm x, Nat.xor_comm x] at h1
  exact UInt8.toNat_inj.1 (xor_same h1)
theorem crcGo_inj : ∀ (l : List UInt8) {x y : Nat}, x < 4294967296 → y < 4294967296 → crcGo x l = crcGo y l → x = y
  | [], _, _, _, _, h => h
  | b :: t, _, _, hx, hy, h => crcStep_inj hx hy (crcGo_inj t (crcStep_lt hx b) (crcStep_lt hy b) h)
/-- Rows of bytes that differ in one place have different sums. -/
theorem crcL_turn (l t : List UInt8) (b c : UInt8) (h : b ≠ c) : crcL (l ++ b :: t) ≠ crcL (l ++ c :: t) := by
  intro e
  have h0 : crcGo 4294967295 l < 4294967296 := crcGo_lt l (by omega)
  unfold crcL at e
  have h1 : crcGo 4294967295 (l ++ b :: t) < 4294967296 := crcGo_lt _ (by omega)
  have h2 : crcGo 4294967295 (l ++ c :: t) < 4294967296 := crcGo_lt _ (by omega)
  have h3 : crcGo 4294967295 (l ++ b :: t) = crcGo 4294967295 (l ++ c :: t) := by omega
  unfold crcGo at h3 h0
  rw [List.foldl_append, List.foldl_append, List.foldl_cons, List.foldl_cons] at h3
  exact h (crcStep_byte h0 (crcGo_inj t (crcStep_lt h0 b) (crcStep_lt h0 c) h3))
end Go.Proofs.YthbkcjlpelihlaaGreatDoor
/- An archive of an area and a header, in plain Lean: what Open tells of it. No condition. -/
namespace Go.Proofs.YthbkcjlpelihlaaGreatDoor

def sealStart (n m s : Nat) : List UInt8 := leBytes 8 n ++ (leBytes 8 m ++ leBytes 4 s)
def sealHead (n m s : Nat) : List UInt8 := [55, 122, 188, 175, 39, 28, 0, 4] ++ (leBytes 4 (crcL (sealStart n m s)) ++ sealStart n m s)
def sealA (area head : List UInt8) : List UInt8 := if head = [] then [] else area
def sealL (area head : List UInt8) : List UInt8 := sealHead (sealA area head).length head.length (crcL head) ++ (sealA area head ++ head)
theorem sealStart_len (n m s : Nat) : (sealStart n m s).length = 20 := by simp [sealStart, leBytes_length]
theorem sealHead_len (n m s : Nat) : (sealHead n m s).length = 32 := by simp [sealHead, leBytes_length, sealStart_len]
theorem take_exact {α : Type} {a c : List α} {k : Nat} (h : a.length = k) : (a ++ c).take k = a := by subst h; simp
theorem drop_exact {α : Type} {a c : List α} {k : Nat} (h : a.length = k) : (a ++ c).drop k = c := by subst h; simp
/-- What Open reads ahead of the area. -/
theorem seal_parts (n m s : Nat) (T : List UInt8) (hn : n < 18446744073709551616) (hm : m < 18446744073709551616) (hs : s < 4294967296) :
    let b := sealHead n m s ++ T
    b.drop 32 = T ∧ opPlace b = n ∧ opSize b = m ∧ opSum b = s ∧ opCode b = opTail n m s T.length (crcL (T.drop n)) := by
  intro b
  have hb : b = [55, 122, 188, 175, 39, 28, 0, 4] ++ (leBytes 4 (crcL (sealStart n m s)) ++ (leBytes 8 n ++ (leBytes 8 m ++ (leBytes 4 s ++ T)))) := by
    simp [b, sealHead, sealStart]
  have h32 : b.drop 32 = T := drop_exact (sealHead_len n m s)
  have h8 : b.drop 8 = leBytes 4 (crcL (sealStart n m s)) ++ (leBytes 8 n ++ (leBytes 8 m ++ (leBytes 4 s ++ T))) := by rw [hb]; exact drop_exact rfl
  have h12 : b.drop 12 = leBytes 8 n ++ (leBytes 8 m ++ (leBytes 4 s ++ T)) := by
    rw [show (12 : Nat) = 8 + 4 from rfl, ← List.drop_drop, h8]; exact drop_exact (leBytes_length _ _)
  have h20 : b.drop 20 = leBytes 8 m ++ (leBytes 4 s ++ T) := by
    rw [show (20 : Nat) = 12 + 8 from rfl, ← List.drop_drop, h12]; exact drop_exact (leBytes_length _ _)
  have h28 : b.drop 28 = leBytes 4 s ++ T := by
    rw [show (28 : Nat) = 20 + 8 from rfl, ← List.drop_drop, h20]; exact drop_exact (leBytes_length _ _)
  have hP : opPlace b = n := by
    unfold opPlace; rw [h12, take_exact (leBytes_length _ _), leNat_leBytes 8 n (by simpa using hn)]
  have hZ : opSize b = m := by
    unfold opSize; rw [h20, take_exact (leBytes_length _ _), leNat_leBytes 8 m (by simpa using hm)]
  have hS : opSum b = s := by
    unfold opSum; rw [h28, take_exact (leBytes_length _ _), leNat_leBytes 4 s (by simpa using hs)]
  have hlen : b.length = 32 + T.length := by simp [b, sealHead_len]
  have hst : (b.drop 12).take 20 = sealStart n m s := by
    rw [h12, show leBytes 8 n ++ (leBytes 8 m ++ (leBytes 4 s ++ T)) = sealStart n m s ++ T by simp [sealStart]]
    exact take_exact (sealStart_len n m s)
  refine ⟨h32, hP, hZ, hS, ?_⟩
  have hc : crcL (sealStart n m s) < 4294967296 := by unfold crcL; omega
  rw [opCode_t, hP, hZ, hS, hlen]
  · rw [show 32 + T.length - 32 = T.length by omega, show b.drop (32 + n) = T.drop n by rw [← List.drop_drop, h32]]
  · rw [hlen, show min 6 (32 + T.length) = 6 by omega, hb]; rfl
  · omega
  · rw [hb]; show ¬((0 : UInt8).toNat ≠ 0 ∨ 4 < (4 : UInt8).toNat); decide
  · rw [h8, take_exact (leBytes_length _ _), leNat_leBytes 4 _ (by simpa using hc), hst]; simp
theorem magic_ok (X : List UInt8) : ((([55, 122, 188, 175, 39, 28, 0, 4] : List UInt8) ++ X).take (min 6 (([55, 122, 188, 175, 39, 28, 0, 4] : List UInt8) ++ X).length) == magicL.take (min 6 (([55, 122, 188, 175, 39, 28, 0, 4] : List UInt8) ++ X).length)) = true := by
  have h : min 6 (([55, 122, 188, 175, 39, 28, 0, 4] : List UInt8) ++ X).length = 6 := by rw [List.length_append]; show min 6 (8 + X.length) = 6; omega
  rw [h]; rfl
theorem crcL_nil : crcL [] = 0 := rfl
theorem crc_small (l : List UInt8) : crcL l < 4294967296 := by unfold crcL; omega
theorem sealA_len (area head : List UInt8) : (sealA area head).length ≤ area.length := by unfold sealA; split <;> simp
/-- The archive is opened. -/
theorem seal_open (area head : List UInt8) (ha : area.length ≤ 16384) (hh : head.length ≤ 16384) :
    opCode (sealL area head) = 0 ∧ opArea (sealL area head) = sealA area head ∧ opHead (sealL area head) = head := by
  have hl := sealA_len area head
  obtain ⟨h1, h2, h3, h4, h5⟩ := seal_parts (sealA area head).length head.length (crcL head) (sealA area head ++ head) (by omega) (by omega) (crc_small _)
  have h0 : opCode (sealL area head) = 0 := by
    unfold sealL
    rw [h5, drop_exact rfl, List.length_append]
    unfold opTail
    rw [if_neg (by omega), if_neg ?_, if_neg (by omega), if_neg (by omega), if_neg (by simp)]
    rintro ⟨e1, e2⟩
    have : head = [] := List.eq_nil_of_length_eq_zero e1
    subst this
    simp [sealA, crcL_nil] at e2
  refine ⟨h0, ?_, ?_⟩
  · unfold opArea; rw [if_pos h0]; unfold sealL; rw [h1, h2]; exact take_exact rfl
  · unfold opHead; rw [if_pos h0]; unfold sealL; rw [h2, ← List.drop_drop, h1]; exact drop_exact rfl
/-- With a byte behind it is told: Trail. -/
theorem seal_trail (area head : List UInt8) (t : UInt8) (ha : area.length ≤ 16384) (hh : head.length ≤ 16384) : opCode (sealL area head ++ [t]) = 19 := by
  have hl := sealA_len area head
  obtain ⟨h1, h2, h3, h4, h5⟩ := seal_parts (sealA area head).length head.length (crcL head) (sealA area head ++ head ++ [t]) (by omega) (by omega) (crc_small _)
  rw [show sealL area head ++ [t] = sealHead (sealA area head).length head.length (crcL head) ++ (sealA area head ++ head ++ [t]) by simp [sealL], h5]
  unfold opTail
  rw [if_neg (by omega), if_neg ?_, if_neg (by simp <;> omega), if_pos (by simp <;> omega)]
  rintro ⟨e1, e2⟩
  have : head = [] := List.eq_nil_of_length_eq_zero e1
  subst this
  simp [sealA, crcL_nil] at e2
/-- Of one fewer: Short. -/
theorem seal_short (area head : List UInt8) (ha : area.length ≤ 16384) (hh : head.length ≤ 16384) : opCode ((sealL area head).take ((sealL area head).length - 1)) = 3 := by
  have hl := sealA_len area head
  have hlen : (sealL area head).length = 32 + ((sealA area head).length + head.length) := by simp [sealL, sealHead_len]
  by_cases hz : (sealA area head).length + head.length = 0
  · rw [hlen, hz]
    refine opCode_s ?_ ?_
    · have : (sealL area head).take 31 = [55, 122, 188, 175, 39, 28, 0, 4] ++ ((sealL area head).drop 8).take 23 := by
        rw [show (31 : Nat) = 8 + 23 from rfl, List.take_add, show (sealL area head).take 8 = [55, 122, 188, 175, 39, 28, 0, 4] by simp [sealL, sealHead]]
      rw [show 32 + 0 - 1 = 31 from rfl, this]
      exact magic_ok _
    · simp <;> omega
  · obtain ⟨h1, h2, h3, h4, h5⟩ := seal_parts (sealA area head).length head.length (crcL head) ((sealA area head ++ head).take ((sealA area head).length + head.length - 1)) (by omega) (by omega) (crc_small _)
    have he : (sealL area head).take ((sealL area head).length - 1) = sealHead (sealA area head).length head.length (crcL head) ++ (sealA area head ++ head).take ((sealA area head).length + head.length - 1) := by
      rw [hlen]
      unfold sealL
      rw [List.take_append, sealHead_len, List.take_of_length_le (by rw [sealHead_len]; omega), show 32 + ((sealA area head).length + head.length) - 1 - 32 = (sealA area head).length + head.length - 1 by omega]
    rw [he, h5]
    unfold opTail
    rw [if_neg (by omega), if_neg ?_, if_pos (by simp <;> omega)]
    rintro ⟨e1, e2⟩
    have : head = [] := List.eq_nil_of_length_eq_zero e1
    subst this
    simp [sealA, crcL_nil] at e2
/-- A byte of the header turned: Crc. -/
theorem seal_turn (area l t : List UInt8) (x y : UInt8) (hx : x ≠ y) (ha : area.length ≤ 16384) (hh : (l ++ x :: t).length ≤ 16384) :
    opCode (sealHead (sealA area (l ++ x :: t)).length (l ++ x :: t).length (crcL (l ++ x :: t)) ++ (sealA area (l ++ x :: t) ++ (l ++ y :: t))) = 4 := by
  have hl := sealA_len area (l ++ x :: t)
  have hq : (l ++ y :: t).length = (l ++ x :: t).length := by simp
  have hp : 0 < (l ++ x :: t).length := by rw [List.length_append, List.length_cons]; omega
  have hc := crcL_turn l t y x (Ne.symm hx)
  obtain ⟨h1, h2, h3, h4, h5⟩ := seal_parts (sealA area (l ++ x :: t)).length (l ++ x :: t).length (crcL (l ++ x :: t)) (sealA area (l ++ x :: t) ++ (l ++ y :: t)) (by omega) (by omega) (crc_small _)
  rw [h5, drop_exact rfl, show (sealA area (l ++ x :: t) ++ (l ++ y :: t)).length = (sealA area (l ++ x :: t)).length + (l ++ x :: t).length by rw [List.length_append, hq]]
  generalize (l ++ x :: t).length = m at *
  unfold opTail
  rw [if_neg (by omega), if_neg (by omega), if_neg (by omega), if_neg (by omega), if_pos ⟨hp, hc⟩]
end Go.Proofs.YthbkcjlpelihlaaGreatDoor
