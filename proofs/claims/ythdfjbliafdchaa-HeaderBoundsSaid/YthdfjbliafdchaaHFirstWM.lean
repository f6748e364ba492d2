/- The law HeaderFirst: the walk. No condition. -/
import Derived.Test.YthdfjbliafdchaaJG
namespace Go.Proofs.Ythdfjbliafdchaa
open Go.RowKit Go.Maps

theorem ParseR.out {b : List UInt8} {w : World} {e : Ending} {w' : World} (h : ParseR b w e w') : ∃ v, e = .returned (.tuple #[v, .int .i64 ((parseL b).2 : Int)]) ∧ DescM w' (w.heap.size + 1) v (parseL b).1 ∧ Fr [] w w' := h
/-- A description's value, written out. -/
theorem DescM.val {w : World} {lo : Nat} {v : Value} {r : Bool × Strm × List Fil} (h : DescM w lo v r) : ∃ pao pcap cao ccap fao fcap sao scap eao ecap,
    v = .agg #[.bool r.1, .int .u64 (r.2.1.pl : Int), .slice pao r.2.1.ps.length pcap, .slice cao r.2.1.cs.length ccap, .slice fao r.2.1.fo.length fcap, .slice sao r.2.1.ss.length scap, .slice eao r.2.2.length ecap] := by
  obtain ⟨psv, csv, fv, sv, es, rows, svs, rfl, h1, h2, h3, h4, h5, h6⟩ := h.ex
  obtain ⟨pao, pcap, rfl, -, -, -⟩ := h1.out
  obtain ⟨cao, ccap, rfl, -, -, -⟩ := h2.out
  obtain ⟨fao, fcap, rfl, -, -⟩ := own_outS h3.own
  obtain ⟨sao, scap, rfl, -, -⟩ := own_outS h4
  obtain ⟨eao, ecap, rfl, -, -⟩ := own_outS h6
  rw [h3.rw.len, h5.len]
  exact ⟨pao, pcap, cao, ccap, fao, fcap, sao, scap, eao, ecap, rfl⟩

/-- Parse, its answer written out. -/
theorem parse_val (w : World) (v : Value) (b : List UInt8) (h : Sl w v (bv b)) (hb : b.length ≤ 8192) (pk : Bool) (pl n1 n2 n3 n4 n5 k : Nat)
    (e0 : (parseL b).1.1 = pk) (e1 : (parseL b).1.2.1.pl = pl) (e2 : (parseL b).1.2.1.ps.length = n1) (e3 : (parseL b).1.2.1.cs.length = n2) (e4 : (parseL b).1.2.1.fo.length = n3) (e5 : (parseL b).1.2.1.ss.length = n4) (e6 : (parseL b).1.2.2.length = n5) (e7 : (parseL b).2 = k) :
    Calls Try.prog 12 #[v] w fun e w' => ∃ pao pcap cao ccap fao fcap sao scap eao ecap,
      e = .returned (.tuple #[.agg #[.bool pk, .int .u64 (pl : Int), .slice pao n1 pcap, .slice cao n2 ccap, .slice fao n3 fcap, .slice sao n4 scap, .slice eao n5 ecap], .int .i64 (k : Int)]) ∧
      DescM w' (w.heap.size + 1) (.agg #[.bool pk, .int .u64 (pl : Int), .slice pao n1 pcap, .slice cao n2 ccap, .slice fao n3 fcap, .slice sao n4 scap, .slice eao n5 ecap]) (parseL b).1 ∧ Fr [] w w' := by
  subst e0 e1 e2 e3 e4 e5 e6 e7
  refine (parse_any w v b h hb).mono ?_
  intro e w' hr
  obtain ⟨v, rfl, hD, F⟩ := hr.out
  obtain ⟨pao, pcap, cao, ccap, fao, fcap, sao, scap, eao, ecap, rfl⟩ := hD.val
  exact ⟨pao, pcap, cao, ccap, fao, fcap, sao, scap, eao, ecap, rfl, hD, F⟩

theorem first_byte (x : UInt8) (t : List UInt8) : (newRs (x :: t)).byte.1 = x.toNat ∧ (newRs (x :: t)).byte.2.k = 0 := by
  refine ⟨?_, rfl⟩
  show leNat ((newRs (x :: t)).c.take 1).1 = _
  unfold Cur.take
  rw [if_neg (by simp [newRs, Cur.left])]
  simp [newRs, leNat]
theorem parse_other (x : UInt8) (t : List UInt8) (h1 : x.toNat ≠ 1) (h2 : x.toNat ≠ 23) : (parseL (x :: t)).2 = 5 := by
  obtain ⟨e1, e2⟩ := first_byte x t
  have hp : parseBody (newRs (x :: t)) = ((false, noStrm, []), (newRs (x :: t)).byte.2.fail 5) := by
    unfold parseBody
    rw [e1, if_neg h1, if_neg h2]
  have hk : ((newRs (x :: t)).byte.2.fail 5).k = 5 := Rs.fail_k e2
  have ho := Rs.fail_ok (s := (newRs (x :: t)).byte.2) (e := 5) (by decide)
  have hpe : ((newRs (x :: t)).byte.2.fail 5).partEnd = (newRs (x :: t)).byte.2.fail 5 := by
    unfold Rs.partEnd
    rw [ho, if_neg (by rw [hk]; simp)]
  have ht : parseTail ((false, noStrm, []), (newRs (x :: t)).byte.2.fail 5) = (newRs (x :: t)).byte.2.fail 5 := by
    unfold parseTail
    dsimp only
    rw [hpe, ho, if_neg (by rw [hk]; simp)]
  unfold parseL
  rw [if_neg (by simp), hp, ht, if_neg (by rw [hk]; decide)]
  exact hk

set_option maxRecDepth 100000 in
set_option maxHeartbeats 4000000 in
theorem walk_HeaderFirst (w : World) (v : Value) (b : List UInt8) (hv : Sl w v (bv b)) :
    Calls Try.prog 7 #[v] w fun e w' => e = .returned (.bool true) ∧ Fr [] w w' := by
  have HV := Lib.hid hv
  obtain ⟨ao, cap, rfl, -⟩ := hv.out
  clear hv
  rw [bv_length] at HV ⊢
  go_enter Try.func7, Try.ntmps7
  go_wp2_with fail
  refine (awake_any w).mono ?_
  rintro e w1 ⟨rfl, F1⟩
  by_cases hb : b.length ≤ 8192
  rotate_left
  · have t0 : (8192 : Int) < (b.length : Int) := by omega
    clear hb
    go_wp2_with fail
    go_ret
    exact ⟨rfl, F1⟩
  have t0 : ¬ (8192 : Int) < (b.length : Int) := by omega
  by_cases hb0 : b = []
  · subst hb0
    rw [List.length_nil] at HV t0 ⊢
    have HA := Lib.hid (parse_val w1 _ [] (HV.out.fr0 F1) (by simp) false 0 0 0 0 0 0 0 rfl rfl rfl rfl rfl rfl rfl rfl)
    clear hb
    generalize (parseL []).1 = r at HA
    go_wp2_with (go_at_call 12; refine HA.out.mono ?_; rintro e w2 ⟨pao, pcap, cao, ccap, fao, fcap, sao, scap, eao, ecap, rfl, -, F2⟩)
    go_ret
    exact ⟨rfl, (F1.trans0 F2).alloc _⟩
  obtain ⟨x, t, rfl⟩ : ∃ x t, b = x :: t := by
    cases b with
    | nil => exact absurd rfl hb0
    | cons x t => exact ⟨x, t, rfl⟩
  have h0 : (((x :: t).length : Int) == 0) = false := by rw [beq_eq_false_iff_ne]; rw [List.length_cons]; omega
  have h1 : (0 : Int) < ((x :: t).length : Int) := by rw [List.length_cons]; omega
  have hx : ∀ wy, Fr [] w wy → ∃ bb oo, ao = some ⟨bb, oo, none⟩ ∧ wy.cell? ⟨bb, oo, none⟩ = some (.int .u8 (x.toNat : Int)) := fun wy F => by
    obtain ⟨a2, c2, he, -, -, ho⟩ := (HV.out.fr0 F).out
    obtain ⟨bb, oo, rfl, -, hc⟩ := ho 0 (by simp [bv])
    injection he with he _ _
    exact ⟨bb, oo, he, (hc 0 (by simp [bv]))⟩
  obtain ⟨bb, oo, rfl, -⟩ := hx w (Fr.refl _ _)
  have hx2 : ∀ wy, Fr [] w wy → wy.cell? ⟨bb, oo, none⟩ = some (.int .u8 (x.toNat : Int)) := fun wy F => by
    obtain ⟨b2, o2, he, hc⟩ := hx wy F
    injection he with he
    injection he with h1 h2 _
    subst h1 h2
    exact hc
  have HX := Lib.hid hx2
  have HP5 := Lib.hid (parse_other x t)
  have HA := Lib.hid (parse_val w1 _ (x :: t) (HV.out.fr0 F1) hb _ _ _ _ _ _ _ _ rfl rfl rfl rfl rfl rfl rfl rfl)
  clear hx hx2 hb hb0
  generalize (parseL (x :: t)).2 = k at *
  generalize (parseL (x :: t)).1 = r at *
  generalize r.1 = pk at *
  generalize r.2.1.pl = pl at *
  generalize r.2.1.ps.length = n1 at *
  generalize r.2.1.cs.length = n2 at *
  generalize r.2.1.fo.length = n3 at *
  generalize r.2.1.ss.length = n4 at *
  generalize r.2.2.length = n5 at *
  generalize (x :: t).length = bl at *
  by_cases g1 : x.toNat = 1
  · have t1 : ((x.toNat : Int) == 1) = true := by rw [g1]; rfl
    clear g1
    go_wp2_with (go_at_call 12; refine HA.out.mono ?_; rintro e w2 ⟨pao, pcap, cao, ccap, fao, fcap, sao, scap, eao, ecap, rfl, -, F2⟩; have c0 := HX.out w2 (F1.trans0 F2); have c1 := HX.out _ ((F1.trans0 F2).alloc (.cells #[.bool pk, .int .u64 (pl : Int), .slice pao n1 pcap, .slice cao n2 ccap, .slice fao n3 fcap, .slice sao n4 scap, .slice eao n5 ecap] 36)))
    go_ret
    exact ⟨rfl, (F1.trans0 F2).alloc _⟩
  have t1 : ((x.toNat : Int) == 1) = false := by rw [beq_eq_false_iff_ne]; omega
  by_cases g2 : x.toNat = 23
  · have t2 : ((x.toNat : Int) == 23) = true := by rw [g2]; rfl
    clear g1 g2
    go_wp2_with (go_at_call 12; refine HA.out.mono ?_; rintro e w2 ⟨pao, pcap, cao, ccap, fao, fcap, sao, scap, eao, ecap, rfl, -, F2⟩; have c0 := HX.out w2 (F1.trans0 F2); have c1 := HX.out _ ((F1.trans0 F2).alloc (.cells #[.bool pk, .int .u64 (pl : Int), .slice pao n1 pcap, .slice cao n2 ccap, .slice fao n3 fcap, .slice sao n4 scap, .slice eao n5 ecap] 36)))
    go_ret
    exact ⟨rfl, (F1.trans0 F2).alloc _⟩
  have t2 : ((x.toNat : Int) == 23) = false := by rw [beq_eq_false_iff_ne]; omega
  have hk := HP5.out g1 g2
  subst hk
  clear g1 g2
  go_wp2_with (go_at_call 12; refine HA.out.mono ?_; rintro e w2 ⟨pao, pcap, cao, ccap, fao, fcap, sao, scap, eao, ecap, rfl, -, F2⟩; have c0 := HX.out w2 (F1.trans0 F2); have c1 := HX.out _ ((F1.trans0 F2).alloc (.cells #[.bool pk, .int .u64 (pl : Int), .slice pao n1 pcap, .slice cao n2 ccap, .slice fao n3 fcap, .slice sao n4 scap, .slice eao n5 ecap] 36)))
  go_ret
  exact ⟨rfl, (F1.trans0 F2).alloc _⟩
end Go.Proofs.Ythdfjbliafdchaa
