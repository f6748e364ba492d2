/- The law HeaderCuts: the walk. No condition. -/
import Derived.Test.YthdfjbliafdchaaHExtBM
namespace Go.Proofs.Ythdfjbliafdchaa
open Go.RowKit Go.Maps

/-- Parse's code alone. -/
theorem parse_code_val (w : World) (v : Value) (b : List UInt8) (h : Sl w v (bv b)) (hb : b.length ≤ 8192) (k : Nat) (e : (parseL b).2 = k) :
    Calls Try.prog 12 #[v] w fun e w' => ∃ pk pl n1 n2 n3 n4 n5 pao pcap cao ccap fao fcap sao scap eao ecap,
      e = .returned (.tuple #[.agg #[.bool pk, .int .u64 pl, .slice pao n1 pcap, .slice cao n2 ccap, .slice fao n3 fcap, .slice sao n4 scap, .slice eao n5 ecap], .int .i64 (k : Int)]) ∧ Fr [] w w' := by
  refine (parse_val w v b h hb _ _ _ _ _ _ _ k rfl rfl rfl rfl rfl rfl rfl e).mono ?_
  rintro e w' ⟨pao, pcap, cao, ccap, fao, fcap, sao, scap, eao, ecap, rfl, -, F⟩
  exact ⟨_, _, _, _, _, _, _, pao, pcap, cao, ccap, fao, fcap, sao, scap, eao, ecap, rfl, F⟩

theorem own_empty2 (w : World) (o : Obj) (e : TypeId) : ((w.alloc o).alloc (.cells #[] e)).ownsRow (w.heap.size + 1) e 1 (.slice (some ⟨w.heap.size + 1, 0, none⟩) 0 0) 0 [] := by
  have := own_empty (w.alloc o) e
  rw [World.size_alloc] at this
  exact this
theorem bv_one_eq (x : UInt8) : bv [x] = [.int .u8 x.toNat] := rfl

set_option maxRecDepth 100000 in
set_option maxHeartbeats 4000000 in
theorem walk_HeaderCuts (w : World) (v : Value) (b : List UInt8) (c : Int) (hv : Sl w v (bv b)) (hc : 0 ≤ c ∧ c ≤ 65535) :
    Calls Try.prog 5 #[v, .int .u16 c] w fun e w' => e = .returned (.bool true) ∧ Fr [] w w' := by
  obtain ⟨c, rfl⟩ := Int.eq_ofNat_of_zero_le hc.1
  have HV := Lib.hid hv
  obtain ⟨ao, cap, rfl, hcap, hcm, -⟩ := hv.out
  clear hv
  rw [bv_length] at HV hcap ⊢
  have hcI : (b.length : Int) ≤ (cap : Int) := by omega
  go_enter Try.func5, Try.ntmps5
  go_wp2_with fail
  refine (awake_any w).mono ?_
  rintro e w1 ⟨rfl, F1⟩
  by_cases hb : b.length ≤ 2000
  rotate_left
  · have t0 : (2000 : Int) < (b.length : Int) := by omega
    clear hb
    go_wp2_with fail
    go_ret
    exact ⟨rfl, F1⟩
  have t0 : ¬ (2000 : Int) < (b.length : Int) := by omega
  by_cases hb0 : b.length = 0
  · have h0 : ((b.length : Int) == 0) = true := by rw [hb0]; rfl
    clear hb
    go_wp2_with fail
    go_ret
    exact ⟨rfl, F1⟩
  have h0 : ((b.length : Int) == 0) = false := by rw [beq_eq_false_iff_ne]; omega
  have hne : b ≠ [] := fun e => hb0 (by rw [e]; rfl)
  have HA := Lib.hid (fun k e => parse_code_val w1 _ b (HV.out.fr0 F1) (by omega) k e)
  by_cases hk : (parseL b).2 = 0
  rotate_left
  · have HA := Lib.hid (HA.out _ rfl)
    generalize (parseL b).2 = k at *
    have t1 : ((k : Int) == 0) = false := by rw [beq_eq_false_iff_ne]; omega
    have t2 : ((k : Int) != 0) = true := by simp; omega
    clear hk hb hb0 hne
    go_wp2_with (go_at_call 12; refine HA.out.mono ?_; rintro e w2 ⟨pk, pl, n1, n2, n3, n4, n5, pao, pcap, cao, ccap, fao, fcap, sao, scap, eao, ecap, rfl, F2⟩)
    go_ret
    exact ⟨rfl, (F1.trans0 F2).alloc _⟩
  have HA := Lib.hid (HA.out 0 hk)
  -- the two others
  have hlt : c % b.length < b.length := Nat.mod_lt _ (by omega)
  have HM := Lib.hid (show (c : Int) % (b.length : Int) = ((c % b.length : Nat) : Int) by omega)
  have HMI := Lib.hid hlt
  have HL2 := Lib.hid (show (b.take (c % b.length)).length = c % b.length by simp; omega)
  have HFn := Lib.hid (show c % b.length ≠ 0 → (parseL (b.take (c % b.length))).2 ≠ 0 from fun h e => by
    have h1 : b.take (c % b.length) ≠ [] := fun e => by
      have := HL2.out
      rw [e] at this
      exact h this.symm
    have h2 : b.drop (c % b.length) ≠ [] := fun e => by
      have := List.length_drop (l := b) (i := c % b.length)
      rw [e] at this
      simp at this
      omega
    have h3 := parse_more _ _ h1 h2 e
    rw [List.take_append_drop, hk] at h3
    cases h3)
  have HG := Lib.hid (show (parseL (b ++ [UInt8.ofNat (c % 256)])).2 = 5 from parse_more b [UInt8.ofNat (c % 256)] hne (by simp) hk)
  have HP2 := Lib.hid (fun wy (S : Sl wy (.slice ao (c % b.length) cap) (bv (b.take (c % b.length)))) k e => parse_code_val wy _ (b.take (c % b.length)) S (by rw [HL2.out]; omega) k e)
  have HP3 := Lib.hid (fun wy v3 (S : Sl wy v3 (bv (b ++ [UInt8.ofNat (c % 256)]))) => parse_code_val wy v3 (b ++ [UInt8.ofNat (c % 256)]) S (by simp; omega) 5 HG.out)
  have hw8 : IntKind.u8.wrap (c : Int) = ((c % 256 : Nat) : Int) := by simp [IntKind.wrap, IntKind.bits, IntKind.signed]
  have HCut := Lib.hid (fun wy (F : Fr [] w wy) => (show Sl wy (.slice ao (c % b.length) cap) (bv (b.take (c % b.length))) by
    have := (HV.out.fr0 F).first (c % b.length) (by omega)
    rw [← bv_take] at this
    exact this))
  have HVB := Lib.hid (show ((UInt8.ofNat (c % 256)).toNat : Int) = ((c % 256 : Nat) : Int) by simp)
  have HVB2 := Lib.hid (show (c : Int) % 256 = ((UInt8.ofNat (c % 256)).toNat : Int) by simp)
  have HBL := Lib.hid hb
  obtain ⟨f, hf⟩ : ∃ f, (parseL (b.take (c % b.length))).2 = f := ⟨_, rfl⟩
  have HP2 := Lib.hid (fun wy (F : Fr [] w wy) => HP2.out wy (HCut.out wy F) f hf)
  rw [hf] at HFn
  clear hf hk hb hne HL2 HG
  have hq1 : (c : Int) % (b.length : Int) ≤ (cap : Int) := by rw [HM.out]; omega
  have hq0 : 0 ≤ (c : Int) % (b.length : Int) := by rw [HM.out]; omega
  have hbcap : b.length + 1 ≤ 2001 := by have := HBL.out; omega
  have HBC := Lib.hid hbcap
  have hfin : (((c : Int) % (b.length : Int) == 0) = true) ∨ ((((c : Int) % (b.length : Int) == 0) = false) ∧ ((f : Int) == 0) = false ∧ ((f : Int) != 0) = true) := by
    by_cases h : c % b.length = 0
    · left; rw [HM.out, h]; rfl
    · right
      have := HFn.out h
      refine ⟨by rw [HM.out, beq_eq_false_iff_ne]; omega, by rw [beq_eq_false_iff_ne]; omega, by simp; omega⟩
  clear hlt hbcap
  rcases hfin with t1 | ⟨t1, t2, t3⟩
  all_goals
    go_wp2_with (first
      | (have hq := own5; go_at_call 12; refine (HP3.out _ _ (Sl.of_own own5)).mono ?_; rintro e w6 ⟨pk6, pl6, m1, m2, m3, m4, m5, pao6, pcap6, cao6, ccap6, fao6, fcap6, sao6, scap6, eao6, ecap6, rfl, F6⟩)
      | (have hq := own4; at_builtin; refine wpList_append_one sty_u8 rfl _ _ rfl F4 _ _ _ (by rfl) own4 _ (by rfl) (by rfl) (by have := HBC.out; omega) (by have := HBC.out; omega) ?_; intro v5 w5 own5 F5; (first | rw [HVB2.out] at own5 | rw [← HVB.out] at own5); rw [← bv_one_eq, ← bv_append] at own5)
      | (have hq := F3; at_builtin; refine wpList_append_sl sty_u8 rfl _ _ (by rfl) (w3.heap.size + 1) _ 0 [] (by rfl) (own_empty2 w3 _ _) _ (bv b) (by rfl) ((((HV.out.fr0 ((F1.trans0 F2).alloc _)).fr0 F3).fr0 ((Fr.refl _ _).alloc _)).fr0 ((Fr.refl _ _).alloc _)) (bv_one _) (by rw [bv_length]; have := HBC.out; omega) (by rw [bv_length]; have := HBC.out; omega) (by rw [World.size_alloc, World.size_alloc]; omega) ?_; intro v4 w4 own4 g4; rw [bv_length, Nat.zero_add, List.nil_append] at own4; have F4 : Fr [] w3 w4 := (((Fr.refl _ _).alloc _).alloc _).grown g4 (fun k hk => .inr (by simp [Value.ownBlock] at hk; omega)); have own4 := own_mono own4 (Nat.le_succ w3.heap.size))
      | (have hq := F2; go_at_call 12; refine (HP2.out _ ((F1.trans0 F2).alloc _)).mono ?_; rintro e w3 ⟨pk3, pl3, k1, k2, k3, k4, k5, pao3, pcap3, cao3, ccap3, fao3, fcap3, sao3, scap3, eao3, ecap3, rfl, F3⟩)
      | (go_at_call 12; refine HA.out.mono ?_; rintro e w2 ⟨pk, pl, n1, n2, n3, n4, n5, pao, pcap, cao, ccap, fao, fcap, sao, scap, eao, ecap, rfl, F2⟩))
    all_goals
      go_ret
      exact ⟨rfl, (((((F1.trans0 F2).alloc _).trans0 F3).trans0 F5).trans0 F6).alloc _⟩
end Go.Proofs.Ythdfjbliafdchaa
