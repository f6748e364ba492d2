/- Contracts: the sums of layer 2: once; bytes; the sum. No condition. -/
import Derived.Test.YtcnangcbffoabaaGreatDoorHCrc
import Derived.Deep.DeepCutAuto
namespace Go.Proofs.YtcnangcbffoabaaGreatDoor
open Go.RowKit

theorem load_any (a : Addr) (d : Nat) (w : World) (h0 : w.cell? a = some (.int .u32 (d : Int))) :
    Calls Tryz.prog 123 #[.pointer (some a)] w fun e w' => e = .returned (.bool ((d : Int) != 0)) ∧ w' = w := by
  have hl := run_call_load (P := Tryz.prog) Tryz.func160 (by kernel_rfl) (by kernel_rfl) (by kernel_rfl) .u32 (by kernel_rfl) h0
  go_enter Tryz.func123, Tryz.ntmps123
  go_wp2_with fail
  go_ret
  exact ⟨rfl, rfl⟩

set_option maxRecDepth 100000 in
set_option maxHeartbeats 1600000 in
theorem slow_any (w : World) (p now : Nat) (h : SumAt w p 0 0 now 0) :
    Calls Tryz.prog 124 #[.pointer (some ⟨p, 0, none⟩), .func (.func 85) #[.pointer (some ⟨p, 0, none⟩)] #[]] w fun e w' => e = .returned (.tuple #[]) ∧ SumAt w' p 1 0 now 256 ∧ Fr [p] w w' := by
  have H1 := h.lock 1
  obtain ⟨c0, c1, -, -, cf, -⟩ := h.cells
  have k0 := H1.cells.1
  have HF := Lib.hid (fill_any _ p 0 1 now H1)
  have HL := Lib.hid (load_any ⟨p, 0, none⟩ 0 _ k0)
  have HLo := Lib.hid (lock_free ⟨p, 1, none⟩ w c1 (cf _))
  have hnot : ∀ (x : Bool) (w : World), (Op.unary .not (.bool x)).run Tryz.prog w = .ok (.bool (!x)) w := fun _ _ => rfl
  clear h H1 c0 c1 cf k0
  go_enter_defers Tryz.func124, Tryz.ntmps124
  go_wp2_with (first
    | (go_at_call 85; refine HF.out.mono ?_; rintro e w3 ⟨rfl, S3, F3⟩)
    | (go_at_call 123; refine HL.out.mono ?_; rintro e w2 ⟨rfl, rfl⟩)
    | (go_at_call 161; refine HLo.out.mono ?_; rintro e w1 ⟨rfl, rfl⟩))
  unfold bodyPostD
  have S3d : SumAt w3.drew p 0 1 now 256 := S3.fr (S := []) ((Fr.refl _ _).drew) (by simp)
  obtain ⟨j0, -, -, -, jf, -⟩ := S3.cells
  have S4 := S3d.did 1
  obtain ⟨-, m1, -, -, mf, -⟩ := S4.cells
  refine leaves_cons (f := 163) (args := #[.pointer (some ⟨p, 0, none⟩), .bool true]) (by simp) (by simp [go_sem]) ?_
  refine (store_deferred ⟨p, 0, none⟩ _ .returning _ j0 (jf _)).mono ?_
  rintro e u' w'' ⟨rfl, rfl, rfl⟩
  refine leaves_cons (f := 162) (args := #[.pointer (some ⟨p, 1, none⟩)]) (by simp [settle]) (by simp [go_sem]) ?_
  refine (unlock_deferred ⟨p, 1, none⟩ _ _ m1 (mf _)).mono ?_
  rintro e u' w'' ⟨rfl, rfl, rfl⟩
  simp [Leaves, settle, results, Tryz.results124]
  exact ⟨S4.lock 0, ((((Fr.refl [p] w).setCell (by simp) _).trans F3 (by simp)).drew.setCell (by simp) _).setCell (by simp) _⟩

/-- The table is made, or nothing of it is. -/
def Ready (w : World) (p now : Nat) : Prop := SumAt w p 0 0 now 0 ∨ SumAt w p 1 0 now 256
theorem Ready.fr {w w' : World} {p now : Nat} {S : List Nat} (h : Ready w p now) (F : Fr S w w') (hS : p ∉ S) : Ready w' p now := h.imp (·.fr F hS) (·.fr F hS)
theorem Ready.lt {w : World} {p now : Nat} (h : Ready w p now) : p < w.heap.size := h.elim (·.lt) (·.lt)

set_option maxRecDepth 100000 in
theorem do_any (w : World) (p now : Nat) (h : Ready w p now) :
    Calls Tryz.prog 84 #[.pointer (some ⟨p, 0, none⟩), .func (.func 85) #[.pointer (some ⟨p, 0, none⟩)] #[]] w fun e w' => e = .returned (.tuple #[]) ∧ SumAt w' p 1 0 now 256 ∧ Fr [p] w w' := by
  rcases h with h | h
  · have HL := Lib.hid (load_any ⟨p, 0, none⟩ 0 _ h.cells.1)
    have HS := Lib.hid (slow_any w p now h)
    clear h
    go_enter Tryz.func84, Tryz.ntmps84
    go_wp2_with (first
      | (go_at_call 124; refine HS.out.mono ?_; rintro e w3 ⟨rfl, S3, F3⟩)
      | (go_at_call 123; refine HL.out.mono ?_; rintro e w2 ⟨rfl, rfl⟩))
    go_end0
    exact ⟨rfl, S3, F3⟩
  · have HL := Lib.hid (load_any ⟨p, 0, none⟩ 1 _ h.cells.1)
    have H := Lib.hid h
    clear h
    go_enter Tryz.func84, Tryz.ntmps84
    go_wp2_with (go_at_call 123; refine HL.out.mono ?_; rintro e w2 ⟨rfl, rfl⟩)
    go_end0
    exact ⟨rfl, H.out, Fr.refl _ _⟩

theorem sumbyte_num (now : Nat) (b : UInt8) (hn : now < 4294967296) :
    bits .xor .u8 (IntKind.u8.wrap (now : Int)) (b.toNat : Int) = (((now % 256) ^^^ b.toNat : Nat) : Int) ∧ (now % 256) ^^^ b.toNat < 256 ∧ bits .xor .u32 (bitN 8 ((now % 256) ^^^ b.toNat) : Int) ((now : Int) / 256) = (crcStep now b : Int) := by
  have hb := b.toNat_lt
  have hj : (now % 256) ^^^ b.toNat < 256 := Nat.xor_lt_two_pow (n := 8) (by omega) (by omega)
  refine ⟨by rw [show IntKind.u8.wrap (now : Int) = ((now % 256 : Nat) : Int) by simp [IntKind.wrap, IntKind.bits, IntKind.signed]]; exact xor_u8_nat _ _ (by omega) (by omega), hj, ?_⟩
  rw [show ((now : Int) / 256) = ((now / 256 : Nat) : Int) by omega, xor_u32_nat _ _ (bitN_lt (by omega) 8) (by omega), crcStep_table]

set_option maxRecDepth 100000 in
set_option maxHeartbeats 1600000 in
theorem sumbyte_any (w : World) (p now : Nat) (b : UInt8) (hn : now < 4294967296) (h : Ready w p now) :
    Calls Tryz.prog 49 #[.pointer (some ⟨p, 0, none⟩), .int .u8 (b.toNat : Int)] w fun e w' => e = .returned (.tuple #[]) ∧ Ready w' p (crcStep now b) ∧ Fr [p] w w' := by
  have HD := Lib.hid (do_any w p now h)
  obtain ⟨e2, hj, e3⟩ := sumbyte_num now b hn
  have E3 := Lib.hid e3
  clear h e3
  obtain ⟨j, hjj⟩ : ∃ j, (now % 256) ^^^ b.toNat = j := ⟨_, rfl⟩
  rw [hjj] at e2 hj E3
  have hj0 : (0 : Int) ≤ (j : Int) := by omega
  have hjI : (j : Int) < 256 := by omega
  clear hjj
  go_enter Tryz.func49, Tryz.ntmps49
  go_wp2_with (go_at_call 84; refine HD.out.mono ?_; rintro e w3 ⟨rfl, S3, F3⟩; obtain ⟨-, -, cn, ⟨c, cc⟩, cf, -, ct⟩ := S3.cells; have cj := ct j hj; clear ct)
  go_still_tail 21, (by kernel_rfl)
  change wpList _ _ _ _ _ w3.drew
  rw [E3.out]
  obtain ⟨w4, hw4⟩ : ∃ w4, w4 = w3.drew := ⟨_, rfl⟩
  rw [← hw4]
  have F4 : Fr [p] w w4 := hw4 ▸ F3.drew
  have S4 : SumAt w4 p 1 0 now 256 := hw4 ▸ S3.fr (S := []) ((Fr.refl _ _).drew) (by simp)
  clear hw4 cn cc cf cj S3 F3 e2
  obtain ⟨-, -, cn, -, cf, -, -⟩ := S4.cells
  have S5 := S4.now' (by omega) (crcStep now b)
  have F5 : Fr [p] w (w4.setCell ⟨p, 259, none⟩ (.int .u32 (crcStep now b : Int))) := F4.setCell (.inl (by simp)) _
  obtain ⟨w5, hw5⟩ : ∃ w5, w5 = w4.setCell ⟨p, 259, none⟩ (.int .u32 (crcStep now b : Int)) := ⟨_, rfl⟩
  rw [← hw5] at S5 F5
  obtain ⟨-, -, -, ⟨c, cc⟩, cg, -, -⟩ := S5.cells
  go_upto_region 2 with fail
  rw [← hw5]
  clear hw5 cn cf
  go_wp2_with fail
  go_end0
  exact ⟨rfl, .inr (S5.count (by omega) _), F5.setCell (.inl (by simp)) _⟩

set_option maxRecDepth 100000 in
set_option maxHeartbeats 1600000 in
theorem sumadd_any (w0 w : World) (p now : Nat) (v : Value) (l : List UInt8) (hv : Sl w0 v (bv l)) (F0 : Fr [] w0 w) (hp : w0.heap.size ≤ p) (hn : now < 4294967296) (h : Ready w p now) (_hl : l.length ≤ 140737488355328) :
    Calls Tryz.prog 54 #[.pointer (some ⟨p, 0, none⟩), v] w fun e w' => e = .returned (.tuple #[]) ∧ Ready w' p (crcGo now l) ∧ Fr [p] w w' := by
  have HV := Lib.hid hv
  have HR := Lib.hid h
  obtain ⟨ao, cap, rfl, hcm, hcb, ho⟩ := hv.out
  simp only [bv_length] at *
  have HO := Lib.hid ho
  clear hv h ho
  go_enter Tryz.func54, Tryz.ntmps54
  go_wp2_with fail
  go_loopw [8] (fun i wr => ∃ k : Nat, k ≤ l.length ∧ i = .int .i64 (k : Int) ∧ Ready wr p (crcGo now (l.take k)) ∧ Fr [p] w wr) (fun i _ => l.length - (intOf i).toNat)
  case atStart => exact ⟨0, Nat.zero_le _, rfl, HR.out, Fr.refl _ _⟩
  case round =>
    obtain ⟨k, hk, rfl, R, F⟩ := hrel
    have FW : Fr [] w0 wr := F0.trans F (by simp; exact hp)
    have HRR := Lib.hid R
    clear R
    by_cases hlt : k < l.length
    · have hltI : (k : Int) < (l.length : Int) := by omega
      obtain ⟨b1, of1, rfl, hb1, c1⟩ := HO.out k hlt
      obtain ⟨x, hx⟩ := some_get l k hlt
      have d1 : wr.cell? ⟨b1, of1 + k, none⟩ = some (.int .u8 x.toNat) := by
        rw [FW.cell (p := ⟨b1, of1 + k, none⟩) hb1 (by simp), c1 k hlt, bv_get _ _ _ hx]
      have HB := Lib.hid (sumbyte_any wr p _ x (crcGo_lt (l.take k) hn) HRR.out)
      have HT := Lib.hid (show crcStep (crcGo now (l.take k)) x = crcGo now (l.take (k + 1)) by
        rw [← crcGo_snoc, List.take_add_one, hx]; rfl)
      rw [HT.out] at HB
      clear c1 hx
      go_wp2_with (go_at_call 49; refine HB.out.mono ?_; rintro e w3 ⟨rfl, R3, F3⟩)
      go_roundw
      case rel => exact ⟨k + 1, by omega, by go_num, R3, F.trans F3 (by simp)⟩
      case measure => simp [intOf]; omega
    · have hltI : ¬ (k : Int) < (l.length : Int) := by omega
      obtain rfl : k = l.length := by omega
      go_wp2_with fail
      go_end0
      exact ⟨rfl, by have := HRR.out; rwa [List.take_of_length_le (Nat.le_refl _)] at this, F⟩

theorem Ready.now {w : World} {p now : Nat} (h : Ready w p now) : w.cell? ⟨p, 259, none⟩ = some (.int .u32 (now : Int)) := by
  rcases h with h | h
  · exact h.cells.2.2.1
  · exact h.cells.2.2.1

theorem not_u32 (now : Nat) (h : now < 4294967296) : bits .xor .u32 IntKind.u32.max (now : Int) = ((4294967295 - now : Nat) : Int) := by
  have e : IntKind.u32.max = ((4294967295 : Nat) : Int) := by decide
  rw [e, xor_u32_nat _ _ (by decide) h]
  have : 4294967295 - now = 4294967295 ^^^ now := by
    have h1 := Nat.testBit_two_pow_sub_succ (x := now) (n := 32) h
    refine Nat.eq_of_testBit_eq fun i => ?_
    have h2 := h1 i
    rw [show 4294967295 - now = 2 ^ 32 - (now + 1) by omega, h2, Nat.testBit_xor, show (4294967295 : Nat) = 2 ^ 32 - 1 by decide, Nat.testBit_two_pow_sub_one]
    by_cases hi : i < 32
    · simp [hi]
    · have : now.testBit i = false := Nat.testBit_lt_two_pow (Nat.lt_of_lt_of_le h (Nat.pow_le_pow_right (by decide) (by omega) : 2 ^ 32 ≤ 2 ^ i))
      simp [hi, this]
  rw [this]

set_option maxRecDepth 100000 in
theorem sumvalue_any (w : World) (p now : Nat) (hn : now < 4294967296) (h : Ready w p now) :
    Calls Tryz.prog 55 #[.pointer (some ⟨p, 0, none⟩)] w fun e w' => e = .returned (.int .u32 ((4294967295 - now : Nat) : Int)) ∧ w' = w := by
  have c0 := h.now
  have HN := Lib.hid (not_u32 now hn)
  clear h
  go_enter Tryz.func55, Tryz.ntmps55
  go_wp2_with fail
  go_ret
  exact ⟨by show Ending.returned (.int .u32 (bits .xor .u32 IntKind.u32.max (now : Int))) = _; rw [HN.out], rfl⟩

set_option maxRecDepth 100000 in
theorem crcof_any (w : World) (v : Value) (l : List UInt8) (hv : Sl w v (bv l)) (hl : l.length ≤ 140737488355328) :
    Calls Tryz.prog 23 #[v] w fun e w' => e = .returned (.int .u32 (crcL l : Int)) ∧ Fr [] w w' := by
  have HV := Lib.hid hv
  obtain ⟨ao, cap, rfl, -⟩ := hv.out
  clear hv
  have HG := Lib.hid (crcGo_lt l (x := 4294967295) (by decide))
  go_enter Tryz.func23, Tryz.ntmps23
  go_wp2_with (first
    | (have hq := R2; go_at_call 55; refine (sumvalue_any _ w.heap.size _ HG.out R2).mono ?_; rintro e w3 ⟨rfl, rfl⟩)
    | (have hq := S1; go_at_call 54; refine (sumadd_any w w1 w.heap.size 4294967295 _ l HV.out F1 (Nat.le_refl _) (by decide) (.inl S1) hl).mono ?_; rintro e w2 ⟨rfl, R2, F2⟩)
    | (go_at_call 46; refine (crcnew_any w).mono ?_; rintro e w1 ⟨rfl, S1, F1⟩))
  go_ret
  exact ⟨rfl, F1.trans F2 (by simp)⟩
end Go.Proofs.YtcnangcbffoabaaGreatDoor
