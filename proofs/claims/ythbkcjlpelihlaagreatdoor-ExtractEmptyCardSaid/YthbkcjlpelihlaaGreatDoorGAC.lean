/- Contracts: the sums of layer 2: once; bytes; the sum. No condition. -/
import Derived.Test.YthbkcjlpelihlaaGreatDoorHCrcM
import Derived.Deep.DeepCutAuto
import Derived.Test.YthbkcjlpelihlaaGreatDoorHOpenSM
namespace Go.Proofs.YthbkcjlpelihlaaGreatDoor
open Go.RowKit

theorem load_any (a : Addr) (d : Nat) (w : World) (h0 : w.cell? a = some (.int .u32 (d : Int))) :
    Calls Tryz.prog 162 #[.pointer (some a)] w fun e w' => e = .returned (.bool ((d : Int) != 0)) ∧ w' = w := by
  have hl := run_call_load (P := Tryz.prog) Tryz.func209 (by kernel_rfl) (by kernel_rfl) (by kernel_rfl) .u32 (by kernel_rfl) h0
  go_enter Tryz.func162, Tryz.ntmps162
  go_wp2_with fail
  go_ret
  exact ⟨rfl, rfl⟩

set_option maxRecDepth 100000 in
set_option maxHeartbeats 1600000 in
theorem slow_any (w : World) (p now : Nat) (h : SumAt w p 0 0 now 0) :
    Calls Tryz.prog 163 #[.pointer (some ⟨p, 0, none⟩), .func (.func 113) #[.pointer (some ⟨p, 0, none⟩)] #[]] w fun e w' => e = .returned (.tuple #[]) ∧ SumAt w' p 1 0 now 256 ∧ Fr [p] w w' := by
  have H1 := h.lock 1
  obtain ⟨c0, c1, -, -, cf, -⟩ := h.cells
  have k0 := H1.cells.1
  have HF := Lib.hid (fill_any _ p 0 1 now H1)
  have HL := Lib.hid (load_any ⟨p, 0, none⟩ 0 _ k0)
  have HLo := Lib.hid (lock_free ⟨p, 1, none⟩ w c1 (cf _))
  have hnot : ∀ (x : Bool) (w : World), (Op.unary .not (.bool x)).run Tryz.prog w = .ok (.bool (!x)) w := fun _ _ => rfl
  clear h H1 c0 c1 cf k0
  go_enter_defers Tryz.func163, Tryz.ntmps163
  go_wp2_with (first
    | (go_at_call 113; refine HF.out.mono ?_; rintro e w3 ⟨rfl, S3, F3⟩)
    | (go_at_call 162; refine HL.out.mono ?_; rintro e w2 ⟨rfl, rfl⟩)
    | (go_at_call 210; refine HLo.out.mono ?_; rintro e w1 ⟨rfl, rfl⟩))
  unfold bodyPostD
  have S3d : SumAt w3.drew p 0 1 now 256 := S3.fr (S := []) ((Fr.refl _ _).drew) (by simp)
  obtain ⟨j0, -, -, -, jf, -⟩ := S3.cells
  have S4 := S3d.did 1
  obtain ⟨-, m1, -, -, mf, -⟩ := S4.cells
  refine leaves_cons (f := 212) (args := #[.pointer (some ⟨p, 0, none⟩), .bool true]) (by simp) (by simp [go_sem]) ?_
  refine (store_deferred ⟨p, 0, none⟩ _ .returning _ j0 (jf _)).mono ?_
  rintro e u' w'' ⟨rfl, rfl, rfl⟩
  refine leaves_cons (f := 211) (args := #[.pointer (some ⟨p, 1, none⟩)]) (by simp [settle]) (by simp [go_sem]) ?_
  refine (unlock_deferred ⟨p, 1, none⟩ _ _ m1 (mf _)).mono ?_
  rintro e u' w'' ⟨rfl, rfl, rfl⟩
  simp [Leaves, settle, results, Tryz.results163]
  exact ⟨S4.lock 0, ((((Fr.refl [p] w).setCell (by simp) _).trans F3 (by simp)).drew.setCell (by simp) _).setCell (by simp) _⟩

/-- The table is made, or nothing of it is. -/
def Ready (w : World) (p now : Nat) : Prop := SumAt w p 0 0 now 0 ∨ SumAt w p 1 0 now 256
theorem Ready.fr {w w' : World} {p now : Nat} {S : List Nat} (h : Ready w p now) (F : Fr S w w') (hS : p ∉ S) : Ready w' p now := h.imp (·.fr F hS) (·.fr F hS)
theorem Ready.lt {w : World} {p now : Nat} (h : Ready w p now) : p < w.heap.size := h.elim (·.lt) (·.lt)

set_option maxRecDepth 100000 in
theorem do_any (w : World) (p now : Nat) (h : Ready w p now) :
    Calls Tryz.prog 112 #[.pointer (some ⟨p, 0, none⟩), .func (.func 113) #[.pointer (some ⟨p, 0, none⟩)] #[]] w fun e w' => e = .returned (.tuple #[]) ∧ SumAt w' p 1 0 now 256 ∧ Fr [p] w w' := by
  rcases h with h | h
  · have HL := Lib.hid (load_any ⟨p, 0, none⟩ 0 _ h.cells.1)
    have HS := Lib.hid (slow_any w p now h)
    clear h
    go_enter Tryz.func112, Tryz.ntmps112
    go_wp2_with (first
      | (go_at_call 163; refine HS.out.mono ?_; rintro e w3 ⟨rfl, S3, F3⟩)
      | (go_at_call 162; refine HL.out.mono ?_; rintro e w2 ⟨rfl, rfl⟩))
    go_end0
    exact ⟨rfl, S3, F3⟩
  · have HL := Lib.hid (load_any ⟨p, 0, none⟩ 1 _ h.cells.1)
    have H := Lib.hid h
    clear h
    go_enter Tryz.func112, Tryz.ntmps112
    go_wp2_with (go_at_call 162; refine HL.out.mono ?_; rintro e w2 ⟨rfl, rfl⟩)
    go_end0
    exact ⟨rfl, H.out, Fr.refl _ _⟩

theorem sumbyte_num (now : Nat) (b : UInt8) (hn : now < 4294967296) :
    bits .xor .u8 (IntKind.u8.wrap (now : Int)) (b.toNat : Int) = (((now % 256) ^^^ b.toNat : Nat) : Int) ∧ (now % 256) ^^^ b.toNat < 256 ∧ bits .xor .u32 (bitN 8 ((now % 256) ^^^ b.toNat) : Int) ((now : Int) / 256) = (crcStep now b : Int) := by
  have hb := b.toNat_lt
  have hj : (now % 256) ^^^ b.toNat < 256 := Nat.xor_lt_two_pow (n := 8) (by omega) (by omega)
  refine ⟨by rw [show IntKind.u8.wrap (now : Int) = ((now % 256 : Nat) : Int) by simp [IntKind.wrap, IntKind.bits, IntKind.signed]]; exact xor_u8_nat _ _ (by omega) (by omega), hj, ?_⟩
  rw [show ((now : Int) / 256) = ((now / 256 : Nat) : Int) by omega, xor_u32_nat _ _ (bitN_lt (by omega) 8) (by omega), crcStep_table]

set_option maxRecDepth 100000 in
set_option maxHeartbeats 1600000 in
theorem sumbyte_any (w : World) (p now : Nat) (b : UInt8) (hn : now < 4294967296) (h : Ready w p now) :
    Calls Tryz.prog 76 #[.pointer (some ⟨p, 0, none⟩), .int .u8 (b.toNat : Int)] w fun e w' => e = .returned (.tuple #[]) ∧ Ready w' p (crcStep now b) ∧ Fr [p] w w' := by
  have HD := Lib.hid (do_any w p now h)
  obtain ⟨e2, hj, e3⟩ := sumbyte_num now b hn
  have E3 := Lib.hid e3
  clear h e3
  obtain ⟨j, hjj⟩ : ∃ j, (now % 256) ^^^ b.toNat = j := ⟨_, rfl⟩
  rw [hjj] at e2 hj E3
  have hj0 : (0 : Int) ≤ (j : Int) := by omega
  have hjI : (j : Int) < 256 := by omega
  clear hjj
  go_enter Tryz.func76, Tryz.ntmps76
  go_wp2_with (go_at_call 112; refine HD.out.mono ?_; rintro e w3 ⟨rfl, S3, F3⟩; obtain ⟨-, -, cn, ⟨c, cc⟩, cf, -, ct⟩ := S3.cells; have cj := ct j hj; clear ct)
  go_still_tail 21, (by kernel_rfl)
  change wpList _ _ _ _ _ w3.drew
  rw [E3.out]
  obtain ⟨w4, hw4⟩ : ∃ w4, w4 = w3.drew := ⟨_, rfl⟩
  rw [← hw4]
  have F4 : Fr [p] w w4 := hw4 ▸ F3.drew
  have S4 : SumAt w4 p 1 0 now 256 := hw4 ▸ S3.fr (S := []) ((Fr.refl _ _).drew) (by simp)
  clear hw4 cn cc cf cj S3 F3 e2
  obtain ⟨-, -, cn, -, cf, -, -⟩ := S4.cells
  have S5 := S4.now' (by omega) (crcStep now b)
  have F5 : Fr [p] w (w4.setCell ⟨p, 259, none⟩ (.int .u32 (crcStep now b : Int))) := F4.setCell (.inl (by simp)) _
  obtain ⟨w5, hw5⟩ : ∃ w5, w5 = w4.setCell ⟨p, 259, none⟩ (.int .u32 (crcStep now b : Int)) := ⟨_, rfl⟩
  rw [← hw5] at S5 F5
  obtain ⟨-, -, -, ⟨c, cc⟩, cg, -, -⟩ := S5.cells
  go_upto_region 2 with fail
  rw [← hw5]
  clear hw5 cn cf
  go_wp2_with fail
  go_end0
  exact ⟨rfl, .inr (S5.count (by omega) _), F5.setCell (.inl (by simp)) _⟩

set_option maxRecDepth 100000 in
set_option maxHeartbeats 1600000 in
theorem sumadd_any (w0 w : World) (p now : Nat) (v : Value) (l : List UInt8) (hv : Sl w0 v (bv l)) (F0 : Fr [] w0 w) (hp : w0.heap.size ≤ p) (hn : now < 4294967296) (h : Ready w p now) (_hl : l.length ≤ 140737488355328) :
    Calls Tryz.prog 50 #[.pointer (some ⟨p, 0, none⟩), v] w fun e w' => e = .returned (.tuple #[]) ∧ Ready w' p (crcGo now l) ∧ Fr [p] w w' := by
  have HV := Lib.hid hv
  have HR := Lib.hid h
  obtain ⟨ao, cap, rfl, hcm, hcb, ho⟩ := hv.out
  simp only [bv_length] at *
  have HO := Lib.hid ho
  clear hv h ho
  go_enter Tryz.func50, Tryz.ntmps50
  go_wp2_with fail
  go_loopw [8] (fun i wr => ∃ k : Nat, k ≤ l.length ∧ i = .int .i64 (k : Int) ∧ Ready wr p (crcGo now (l.take k)) ∧ Fr [p] w wr) (fun i _ => l.length - (intOf i).toNat)
  case atStart => exact ⟨0, Nat.zero_le _, rfl, HR.out, Fr.refl _ _⟩
  case round =>
    obtain ⟨k, hk, rfl, R, F⟩ := hrel
    have FW : Fr [] w0 wr := F0.trans F (by simp; exact hp)
    have HRR := Lib.hid R
    clear R
    by_cases hlt : k < l.length
    · have hltI : (k : Int) < (l.length : Int) := by omega
      obtain ⟨b1, of1, rfl, hb1, c1⟩ := HO.out k hlt
      obtain ⟨x, hx⟩ := some_get l k hlt
      have d1 : wr.cell? ⟨b1, of1 + k, none⟩ = some (.int .u8 x.toNat) := by
        rw [FW.cell (p := ⟨b1, of1 + k, none⟩) hb1 (by simp), c1 k hlt, bv_get _ _ _ hx]
      have HB := Lib.hid (sumbyte_any wr p _ x (crcGo_lt (l.take k) hn) HRR.out)
      have HT := Lib.hid (show crcStep (crcGo now (l.take k)) x = crcGo now (l.take (k + 1)) by
        rw [← crcGo_snoc, List.take_add_one, hx]; rfl)
      rw [HT.out] at HB
      clear c1 hx
      go_wp2_with (go_at_call 76; refine HB.out.mono ?_; rintro e w3 ⟨rfl, R3, F3⟩)
      go_roundw
      case rel => exact ⟨k + 1, by omega, by go_num, R3, F.trans F3 (by simp)⟩
      case measure => simp [intOf]; omega
    · have hltI : ¬ (k : Int) < (l.length : Int) := by omega
      obtain rfl : k = l.length := by omega
      go_wp2_with fail
      go_end0
      exact ⟨rfl, by have := HRR.out; rwa [List.take_of_length_le (Nat.le_refl _)] at this, F⟩

theorem Ready.now {w : World} {p now : Nat} (h : Ready w p now) : w.cell? ⟨p, 259, none⟩ = some (.int .u32 (now : Int)) := by
  rcases h with h | h
  · exact h.cells.2.2.1
  · exact h.cells.2.2.1

theorem not_u32 (now : Nat) (h : now < 4294967296) : bits .xor .u32 IntKind.u32.max (now : Int) = ((4294967295 - now : Nat) : Int) := by
  have e : IntKind.u32.max = ((4294967295 : Nat) : Int) := by decide
  rw [e, xor_u32_nat _ _ (by decide) h]
  have : 4294967295 - now = 4294967295 ^^^ now := by
    have h1 := Nat.testBit_two_pow_sub_succ (x := now) (n := 32) h
    refine Nat.eq_of_testBit_eq fun i => ?_
    have h2 := h1 i
    rw [show 4294967295 - now = 2 ^ 32 - (now + 1) by omega, h2, Nat.testBit_xor, show (4294967295 : Nat) = 2 ^ 32 - 1 by decide, Nat.testBit_two_pow_sub_one]
    by_cases hi : i < 32
    · simp [hi]
    · have : now.testBit i = false := Nat.testBit_lt_two_pow (Nat.lt_of_lt_of_le h (Nat.pow_le_pow_right (by decide) (by omega) : 2 ^ 32 ≤ 2 ^ i))
      simp [hi, this]
  rw [this]

set_option maxRecDepth 100000 in
theorem sumvalue_any (w : World) (p now : Nat) (hn : now < 4294967296) (h : Ready w p now) :
    Calls Tryz.prog 51 #[.pointer (some ⟨p, 0, none⟩)] w fun e w' => e = .returned (.int .u32 ((4294967295 - now : Nat) : Int)) ∧ w' = w := by
  have c0 := h.now
  have HN := Lib.hid (not_u32 now hn)
  clear h
  go_enter Tryz.func51, Tryz.ntmps51
  go_wp2_with fail
  go_ret
  exact ⟨by show Ending.returned (.int .u32 (bits .xor .u32 IntKind.u32.max (now : Int))) = _; rw [HN.out], rfl⟩

set_option maxRecDepth 100000 in
theorem crcof_any (w : World) (v : Value) (l : List UInt8) (hv : Sl w v (bv l)) (hl : l.length ≤ 140737488355328) :
    Calls Tryz.prog 28 #[v] w fun e w' => e = .returned (.int .u32 (crcL l : Int)) ∧ Fr [] w w' := by
  have HV := Lib.hid hv
  obtain ⟨ao, cap, rfl, -⟩ := hv.out
  clear hv
  have HG := Lib.hid (crcGo_lt l (x := 4294967295) (by decide))
  go_enter Tryz.func28, Tryz.ntmps28
  go_wp2_with (first
    | (have hq := R2; go_at_call 51; refine (sumvalue_any _ w.heap.size _ HG.out R2).mono ?_; rintro e w3 ⟨rfl, rfl⟩)
    | (have hq := S1; go_at_call 50; refine (sumadd_any w w1 w.heap.size 4294967295 _ l HV.out F1 (Nat.le_refl _) (by decide) (.inl S1) hl).mono ?_; rintro e w2 ⟨rfl, R2, F2⟩)
    | (go_at_call 49; refine (crcnew_any w).mono ?_; rintro e w1 ⟨rfl, S1, F1⟩))
  go_ret
  exact ⟨rfl, F1.trans F2 (by simp)⟩
end Go.Proofs.YthbkcjlpelihlaaGreatDoor
/- Open, in plain Lean; bytes.Clone. No condition. -/
namespace Go.Proofs.YthbkcjlpelihlaaGreatDoor
open Go.RowKit

def opTail (place size sum rest hc : Nat) : Nat :=
  if 1099511627776 < place ∨ 1099511627776 < size then 7 else if size = 0 ∧ (0 < place ∨ 0 < sum) then 7 else if rest < place + size then 3 else if place + size < rest then 19 else if 0 < size ∧ hc ≠ sum then 4 else 0
def opPlace (b : List UInt8) : Nat := leNat ((b.drop 12).take 8)
def opSize (b : List UInt8) : Nat := leNat ((b.drop 20).take 8)
def opSum (b : List UInt8) : Nat := leNat ((b.drop 28).take 4)
/-- The code that Open tells. -/
def opCode (b : List UInt8) : Nat :=
  if (b.take (min 6 b.length) == magicL.take (min 6 b.length)) = false then 1 else if b.length < 32 then 3 else if (b.getD 6 0).toNat ≠ 0 ∨ 4 < (b.getD 7 0).toNat then 2
  else if leNat ((b.drop 8).take 4) ≠ crcL ((b.drop 12).take 20) then 4
  else opTail (opPlace b) (opSize b) (opSum b) (b.length - 32) (crcL (b.drop (32 + opPlace b)))
def opArea (b : List UInt8) : List UInt8 := if opCode b = 0 then (b.drop 32).take (opPlace b) else []
def opHead (b : List UInt8) : List UInt8 := if opCode b = 0 then b.drop (32 + opPlace b) else []

theorem opCode_m {b : List UInt8} (h : (b.take (min 6 b.length) == magicL.take (min 6 b.length)) = false) : opCode b = 1 := by unfold opCode; rw [if_pos h]
theorem opCode_s {b : List UInt8} (h : (b.take (min 6 b.length) == magicL.take (min 6 b.length)) = true) (h2 : b.length < 32) : opCode b = 3 := by unfold opCode; rw [if_neg (by rw [h]; simp), if_pos h2]
theorem opCode_v {b : List UInt8} (h : (b.take (min 6 b.length) == magicL.take (min 6 b.length)) = true) (h2 : ¬ b.length < 32) (h3 : (b.getD 6 0).toNat ≠ 0 ∨ 4 < (b.getD 7 0).toNat) : opCode b = 2 := by
  unfold opCode; rw [if_neg (by rw [h]; simp), if_neg h2, if_pos h3]
theorem opCode_c {b : List UInt8} (h : (b.take (min 6 b.length) == magicL.take (min 6 b.length)) = true) (h2 : ¬ b.length < 32) (h3 : ¬ ((b.getD 6 0).toNat ≠ 0 ∨ 4 < (b.getD 7 0).toNat)) (h4 : leNat ((b.drop 8).take 4) ≠ crcL ((b.drop 12).take 20)) : opCode b = 4 := by
  unfold opCode; rw [if_neg (by rw [h]; simp), if_neg h2, if_neg h3, if_pos h4]
theorem opCode_t {b : List UInt8} (h : (b.take (min 6 b.length) == magicL.take (min 6 b.length)) = true) (h2 : ¬ b.length < 32) (h3 : ¬ ((b.getD 6 0).toNat ≠ 0 ∨ 4 < (b.getD 7 0).toNat)) (h4 : ¬ leNat ((b.drop 8).take 4) ≠ crcL ((b.drop 12).take 20)) : opCode b = opTail (opPlace b) (opSize b) (opSum b) (b.length - 32) (crcL (b.drop (32 + opPlace b))) := by
  unfold opCode; rw [if_neg (by rw [h]; simp), if_neg h2, if_neg h3, if_neg h4]

def OpenR (w : World) (b : List UInt8) (e : Ending) (w' : World) : Prop :=
  ∃ v1 v2, e = .returned (.tuple #[v1, v2, .int .i64 (opCode b : Int)]) ∧ Sl w' v1 (bv (opArea b)) ∧ Sl w' v2 (bv (opHead b)) ∧ Fr [] w w'
theorem OpenR.bad {w w' : World} {b : List UInt8} {k : Nat} (F : Fr [] w w') (h : opCode b = k) (hk : k ≠ 0) : OpenR w b (.returned (.tuple #[.slice none 0 0, .slice none 0 0, .int .i64 (k : Int)])) w' := by
  refine ⟨_, _, by rw [h], ?_, ?_, F⟩
  · unfold opArea; rw [if_neg (by omega)]; exact Sl.nil _
  · unfold opHead; rw [if_neg (by omega)]; exact Sl.nil _

set_option maxRecDepth 100000 in
theorem bclone_any (w : World) (v : Value) (bs : List UInt8) (h : Sl w v (bv bs)) (hb : bs.length ≤ 140737488355328) :
    Calls Tryz.prog 33 #[v] w fun e w' => (∃ r, e = .returned r ∧ Sl w' r (bv bs)) ∧ Fr [] w w' := by
  have hq := @Lib.run_eql_slice_nil
  have hS := h
  obtain ⟨ao, cap, rfl, h1, h2, h3, _⟩ := h
  rw [bv_length] at h1
  cases ao with
  | none =>
    have := h3 rfl
    subst this
    have : bs = [] := List.eq_nil_of_length_eq_zero (by omega)
    subst this
    go_enter Tryz.func33, Tryz.ntmps33
    go_wp2_with fail
    go_ret
    exact ⟨⟨_, rfl, Sl.nil _⟩, Fr.refl _ _⟩
  | some ad =>
    have hy : Sl (w.alloc (.cells #[] 5)) (.slice (some ad) (bv bs).length cap) (bv bs) := hS.fr0 ((Fr.refl _ _).alloc _)
    have hbv := bv_length bs
    have hone := bv_one bs
    clear h3 hS
    go_enter Tryz.func33, Tryz.ntmps33
    go_wp2_with (at_builtin; refine wpList_append_sl sty_u8 rfl _ _ rfl w.heap.size _ 0 [] rfl (own_empty w _) _ (bv bs) rfl hy hone ?_ ?_ ?_ ?_)
    all_goals first | omega | skip
    · simp
    · intro v' w' hown hg
      have hF : Fr [] w w' := ((Fr.refl [] w).alloc _).grown hg (by simp [Value.ownBlock])
      clear hone hg hy
      go_wp2
      go_ret
      exact ⟨⟨_, rfl, Sl.of_own (by simpa using hown)⟩, hF⟩

theorem num_at (bs : List UInt8) (at_ k : Nat) (hk : Cur.sized (k : Int) = true) (h : at_ + k ≤ bs.length) : (Cur.num ⟨bs, at_, 0⟩ (k : Int)) = (leNat ((bs.drop at_).take k), ⟨bs, at_ + k, 0⟩) := by
  unfold Cur.num Cur.take Cur.left
  rw [if_pos hk]
  simp
  rw [if_neg (by omega)]
  simp
end Go.Proofs.YthbkcjlpelihlaaGreatDoor
