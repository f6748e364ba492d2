/- Contract: the reader's packs. No condition but that lengths fit. -/
import Derived.Test.YthdfjbliafdchaaHRdC
import Derived.Deep.DeepCutAuto
namespace Go.Proofs.Ythdfjbliafdchaa
open Go.RowKit

def packsGo : Nat → Nat → Rs → List UInt64 → Bool × List UInt64 × Rs
  | 0, _, s, P => (false, P, s)
  | m + 1, sum, s, P =>
    if (if s.size.2.k = 0 ∧ 1099511627776 < sum + s.size.1 then s.size.2.fail 7 else s.size.2).k ≠ 0 then (true, P, if s.size.2.k = 0 ∧ 1099511627776 < sum + s.size.1 then s.size.2.fail 7 else s.size.2)
    else packsGo m (sum + s.size.1) s.size.2 (P ++ [UInt64.ofNat s.size.1])
def Rs.packsEnd (P : List UInt64) (n id : Nat) (s : Rs) : List Ck × Rs :=
  if (s.at (id == 10)).1 then (((s.at (id == 10)).2.sums n).1, ((s.at (id == 10)).2.sums n).2.byte.2.end_ ((s.at (id == 10)).2.sums n).2.byte.1)
  else (List.replicate P.length ⟨false, 0⟩, (s.at (id == 10)).2.end_ id)
def Rs.packsA (n id place : Nat) (s : Rs) : (Nat × List UInt64 × List Ck) × Rs :=
  if (s.at (id == 9)).1 then
    if (packsGo n 0 (s.at (id == 9)).2 []).1 then ((place, (packsGo n 0 (s.at (id == 9)).2 []).2.1, []), (packsGo n 0 (s.at (id == 9)).2 []).2.2)
    else ((place, (packsGo n 0 (s.at (id == 9)).2 []).2.1, (Rs.packsEnd (packsGo n 0 (s.at (id == 9)).2 []).2.1 n (packsGo n 0 (s.at (id == 9)).2 []).2.2.byte.1 (packsGo n 0 (s.at (id == 9)).2 []).2.2.byte.2).1), (Rs.packsEnd (packsGo n 0 (s.at (id == 9)).2 []).2.1 n (packsGo n 0 (s.at (id == 9)).2 []).2.2.byte.1 (packsGo n 0 (s.at (id == 9)).2 []).2.2.byte.2).2)
  else
    ((place, [], (Rs.packsEnd [] n id (if ((s.at (id == 9)).2.at (decide (0 < n))).1 then ((s.at (id == 9)).2.at (decide (0 < n))).2.fail 5 else ((s.at (id == 9)).2.at (decide (0 < n))).2)).1),
      (Rs.packsEnd [] n id (if ((s.at (id == 9)).2.at (decide (0 < n))).1 then ((s.at (id == 9)).2.at (decide (0 < n))).2.fail 5 else ((s.at (id == 9)).2.at (decide (0 < n))).2)).2)
def Rs.packs (s : Rs) : (Nat × List UInt64 × List Ck) × Rs := Rs.packsA s.size.2.things.1 s.size.2.things.2.byte.1 s.size.1 s.size.2.things.2.byte.2

theorem packsA_true {n id pl : Nat} {s u : Rs} (h : s.at (id == 9) = (true, u)) : Rs.packsA n id pl s = if (packsGo n 0 u []).1 then ((pl, (packsGo n 0 u []).2.1, []), (packsGo n 0 u []).2.2)
    else ((pl, (packsGo n 0 u []).2.1, (Rs.packsEnd (packsGo n 0 u []).2.1 n (packsGo n 0 u []).2.2.byte.1 (packsGo n 0 u []).2.2.byte.2).1), (Rs.packsEnd (packsGo n 0 u []).2.1 n (packsGo n 0 u []).2.2.byte.1 (packsGo n 0 u []).2.2.byte.2).2) := by
  unfold Rs.packsA
  rw [h]
  simp only [if_true]
theorem packsA_false {n id pl : Nat} {s u : Rs} (h : s.at (id == 9) = (false, u)) : Rs.packsA n id pl s =
    ((pl, [], (Rs.packsEnd [] n id (if (u.at (decide (0 < n))).1 then (u.at (decide (0 < n))).2.fail 5 else (u.at (decide (0 < n))).2)).1),
      (Rs.packsEnd [] n id (if (u.at (decide (0 < n))).1 then (u.at (decide (0 < n))).2.fail 5 else (u.at (decide (0 < n))).2)).2) := by
  unfold Rs.packsA
  rw [h]
  simp only [Bool.false_eq_true, if_false]

theorem made_list (z : Array Value) (m : Nat) (hm : z.size = m) (n : Nat) : (madeCells z (n * m)).toList = (List.replicate n z.toList).flatten := by
  subst hm
  have key : ∀ k : Nat, (madeCells z k).toList = (List.range k).map fun i => z[i % z.size]! := fun k => by simp [madeCells]
  have hz : ∀ t : Nat, (List.range z.size).map (fun j => z[(t * z.size + j) % z.size]!) = z.toList := fun t => by
    refine List.ext_getElem? fun i => ?_
    by_cases h : i < z.size
    · have e : (t * z.size + i) % z.size = i := by rw [Nat.add_comm, Nat.add_mul_mod_self_right]; exact Nat.mod_eq_of_lt h
      rw [List.getElem?_map, List.getElem?_range h]
      simp only [Option.map_some, e]
      rw [getElem!_pos z i h]
      simp [h]
    · rw [List.getElem?_eq_none (by simp; omega), List.getElem?_eq_none (by simp; omega)]
  induction n with
  | zero => simp [key]
  | succ n ih =>
    rw [key] at ih ⊢
    rw [Nat.succ_mul, List.range_add, List.map_append, ih, List.map_map, List.replicate_succ', List.flatten_append]
    congr 1
    have := hz n
    simpa [Function.comp_def] using this
theorem made_ck (n : Nat) : (madeCells (Value.cells (.agg #[.bool false, .int .u32 0])) (n * 2)).toList = ckV (List.replicate n ⟨false, 0⟩) := by
  rw [made_list _ 2 rfl n]
  induction n with
  | zero => rfl
  | succ n ih =>
    rw [List.replicate_succ, List.flatten_cons, ih, List.replicate_succ]
    rfl

theorem info_u64 : (Try.prog.info? 29).map (fun i => (i.zero, i.size, i.bytes)) = some (some (.int .u64 0), 1, 8) := by kernel_rfl
theorem sty_u64 : SlTyM Try.prog 30 29 (.int .u64 0) 1 8 := ⟨Try.underlying30, by obtain ⟨i, h⟩ := info_parts info_u64; exact ⟨i, h⟩, rfl, by decide⟩

def PacksR (w : World) (p cp : Nat) (q : Option Nat) (r : (Nat × List UInt64 × List Ck) × Rs) (d : DV) (e : Ending) (w' : World) : Prop :=
  e = .returned (.tuple #[]) ∧ (∃ ps cs, RdAt w' p cp q r.2 { d with pl := .int .u64 (r.1.1 : Int), ps := ps, cs := cs } ∧ Sm w' w.heap.size 29 1 ps r.1.2.1.length (u64v r.1.2.1) ∧ Sm w' w.heap.size 45 2 cs r.1.2.2.length (ckV r.1.2.2)) ∧ Fr [p, cp] w w'

set_option maxRecDepth 100000 in
set_option maxHeartbeats 4000000 in
theorem packs_any (w : World) (p cp : Nat) (q : Option Nat) (s : Rs) (d : DV) (h : RdAt w p cp q s d) (hb : s.c.b.length ≤ 10000000) (hps : d.ps = .slice none 0 0) (hcs : d.cs = .slice none 0 0) :
    Calls Try.prog 51 #[.pointer (some ⟨p, 0, none⟩)] w (PacksR w p cp q s.packs d) := by
  obtain ⟨c0, -, -, c3, -, -, -, -, -, cf⟩ := cells9 h.blk
  have HR0 := Lib.hid h
  have HB := Lib.hid hb
  have HLT := Lib.hid (And.intro h.lt h.cur.lt)
  have HLQ := Lib.hid h.ql
  have HPS := Lib.hid (And.intro hps hcs)
  have HS := Lib.hid (show s.packs = Rs.packsA s.size.2.things.1 s.size.2.things.2.byte.1 s.size.1 s.size.2.things.2.byte.2 from rfl)
  have HA1 := Lib.hid (fun w d (h : RdAt w p cp q s d) => size_ok w p cp q s d h HB.out)
  have HB1 := Lib.hid (show s.size.2.c.b.length ≤ 10000000 by rw [size_b]; exact hb)
  have HA2 := Lib.hid (fun w d (h : RdAt w p cp q s.size.2 d) => things_ok w p cp q s.size.2 d h HB1.out)
  have HB2 := Lib.hid (show s.size.2.things.2.c.b.length ≤ 10000000 by rw [things_b]; exact HB1.out)
  have HA3 := Lib.hid (fun w d (h : RdAt w p cp q s.size.2.things.2 d) => byte_any w p cp q s.size.2.things.2 d h HB2.out)
  have HB3 := Lib.hid (show s.size.2.things.2.byte.2.c.b.length ≤ 10000000 by rw [byte_b]; exact HB2.out)
  have HNL := Lib.hid (show s.size.2.things.1 ≤ 10000000 from Nat.le_trans (things_le _) HB1.out)
  clear h hb hps hcs
  generalize s.size.2.things.2.byte.2 = s3 at *
  generalize s.size.2.things.2.byte.1 = id at *
  generalize s.size.2.things.2 = s2 at *
  generalize s.size.2.things.1 = n at *
  generalize hs1 : s.size.2 = s1 at *
  generalize hpl : s.size.1 = pl at *
  clear hs1 hpl
  go_enter Try.func51, Try.ntmps51
  go_upto_region 3 with (first
    | (have hq := R2; go_at_call 28; refine (HA3.out _ _ R2).mono ?_; rintro e w3 ⟨rfl, R3, F3⟩)
    | (have hq := R1; go_at_call 58; refine (HA2.out _ _ (R1.put3 _)).mono ?_; rintro e w2 ⟨rfl, R2, F2⟩)
    | (go_at_call 61; refine (HA1.out _ _ HR0.out).mono ?_; rintro e w1 ⟨rfl, R1, F1⟩; obtain ⟨-, -, -, e3, -, -, -, -, -, ef⟩ := cells9 R1.blk))
  have F03 : Fr [p, cp] w w3 := ((F1.setCell (p := ⟨p, 3, none⟩) (by simp) _).tr2 F2).tr2 F3.two2
  clear e3 ef F1 F2 F3 R1 R2
  obtain ⟨D, hD⟩ : ∃ D, D = ({ d with pl := .int .u64 (pl : Int) } : DV) := ⟨_, rfl⟩
  have hR3 : RdAt w3 p cp q s3 D := by rw [hD]; exact R3
  have HPS2 := Lib.hid (show D.ps = .slice none 0 0 ∧ D.cs = .slice none 0 0 by rw [hD]; exact HPS.out)
  have HDD := Lib.hid hD
  have HDX := Lib.hid (show ∀ ps cs, ({ d with pl := .int .u64 (pl : Int), ps := ps, cs := cs } : DV) = { D with ps := ps, cs := cs } by intro ps cs; rw [hD])
  clear R3 hD
  go_cut [21] (fun v wx => v = .bool (s3.at (id == 9)).1 ∧ RdAt wx p cp q (s3.at (id == 9)).2 D ∧ Fr [p, cp] w wx)
  case first =>
    by_cases h9 : id = 9
    · subst h9
      have HA := Lib.hid (show s3.at (9 == 9) = (s3.ok.k == 0, s3.ok) from rfl)
      go_wp2_with (go_at_call 31; refine (ok_any _ p cp q s3 D hR3).mono ?_; rintro e w4 ⟨rfl, R4, F4⟩)
      go_meet
      case rel => exact ⟨by rw [HA.out], by rw [HA.out]; exact R4, F03.tr2 F4.two1⟩
    · have t0 : ((id : Int) == 9) = false := by rw [beq_eq_false_iff_ne]; omega
      have HA := Lib.hid (show s3.at (id == 9) = (false, s3) by rw [show (id == 9) = false from by simpa using h9]; rfl)
      clear h9
      go_wp2_with fail
      go_meet
      case rel => exact ⟨by rw [HA.out], by rw [HA.out]; exact hR3, F03⟩
  case rest =>
  obtain ⟨rfl, R4, F4⟩ := hcut
  clear hR3 F03
  obtain ⟨⟨b, u0⟩, ha⟩ : ∃ a, s3.at (id == 9) = a := ⟨_, rfl⟩
  have HUB0 := Lib.hid (show u0.c.b.length ≤ 10000000 by have := Rs.at_c s3 (id == 9); rw [ha] at this; rw [this]; exact HB3.out)
  have HAE := Lib.hid ha
  rw [ha] at R4 ⊢
  clear ha
  dsimp only at R4 ⊢
  go_upto_if 21 with fail
  go_cut [3, 4, 5] (fun v3 v4 v5 wx => ∃ (id2 : Nat) (P : List UInt64) (t : Rs) (psV : Value), v3 = .int .i64 (id2 : Int) ∧ s.packs = ((pl, P, (Rs.packsEnd P n id2 t).1), (Rs.packsEnd P n id2 t).2) ∧ t.c.b.length ≤ 10000000 ∧ P.length ≤ 10000000 ∧ wx.ownsRow w.heap.size 29 1 psV P.length (u64v P) ∧ RdAt wx p cp q t { D with ps := psV } ∧ Fr [p, cp] w wx)
  case first =>
    cases b with
    | true =>
      have HSA := Lib.hid (HS.out.trans (packsA_true HAE.out))
      have hnM : (n : Int) ≤ 10000000 := by have := HNL.out; omega
      go_wp2_with fail
      go_loopw [4, 23] (fun sm i wr => ∃ (k sum : Nat) (u : Rs) (P : List UInt64) (psV : Value), k ≤ n ∧ i = .int .i64 (k : Int) ∧ sm = .int .u64 (sum : Int) ∧ sum ≤ 1099511627776 ∧ packsGo n 0 u0 [] = packsGo (n - k) sum u P ∧ P.length = k ∧ u.c.b.length ≤ 10000000 ∧ wr.ownsRow w.heap.size 29 1 psV k (u64v P) ∧ RdAt wr p cp q u { D with ps := psV } ∧ Fr [p, cp] w wr) (fun _ i _ => n - (intOf i).toNat)
      case atStart => exact ⟨0, 0, u0, [], .slice none 0 0, Nat.zero_le _, rfl, rfl, by simp, by simp, rfl, HUB0.out, World.ownsRow_nil _ _ _ _, by rw [← HPS2.out.1]; exact R4, F4⟩
      case round =>
        obtain ⟨k, sum, u, P, psV, hk, rfl, rfl, hsum, hgo, hPk, hub, own, RU, F⟩ := hrel
        have HGo := Lib.hid hgo
        have HPk := Lib.hid hPk
        have HUB := Lib.hid hub
        have HOwn := Lib.hid own
        have HF := Lib.hid F
        have HRU := Lib.hid RU
        have HSumL := Lib.hid hsum
        obtain ⟨oao, ocap, rfl, -⟩ := own_outS own
        clear hgo hPk hub own F RU hsum
        by_cases hlt : k < n
        · have hltI : (k : Int) < (n : Int) := by omega
          have e1 : n - k = (n - (k + 1)) + 1 := by omega
          have HG1 := Lib.hid (show packsGo n 0 u0 [] = if (if u.size.2.k = 0 ∧ 1099511627776 < sum + u.size.1 then u.size.2.fail 7 else u.size.2).k ≠ 0 then (true, P, if u.size.2.k = 0 ∧ 1099511627776 < sum + u.size.1 then u.size.2.fail 7 else u.size.2) else packsGo (n - (k + 1)) (sum + u.size.1) u.size.2 (P ++ [UInt64.ofNat u.size.1]) by rw [HGo.out, e1]; rfl)
          have HSZ := Lib.hid (fun w d (h : RdAt w p cp q u d) => size_ok w p cp q u d h HUB.out)
          have HV := Lib.hid (size_le u)
          have HTB := Lib.hid (show u.size.2.c.b.length ≤ 10000000 by rw [size_b]; exact HUB.out)
          have HTO := Lib.hid (show u.size.2.ok = u.size.2 from lim_ok _ _ _ (by decide))
          clear e1
          generalize u.size.2 = t at *
          generalize u.size.1 = v at *
          obtain ⟨sm2, hsm2⟩ : ∃ sm2, sum + v = sm2 := ⟨_, rfl⟩
          have hw : IntKind.u64.wrap ((sum : Int) + (v : Int)) = (sm2 : Int) := by rw [← hsm2, IntWalk.u64_in _ (by have := HV.out; have := HSumL.out; omega)]; omega
          rw [hsm2] at HG1
          clear hsm2
          by_cases hz : t.k = 0
          · have HK := Lib.hid (show (t.k == 0) = true by rw [hz]; rfl)
            by_cases hbig : 1099511627776 < sm2
            · have aB : (1099511627776 : Int) < (sm2 : Int) := by omega
              have HFO := Lib.hid (Rs.fail_ok (s := t) (e := 7) (by decide))
              have HFK := Lib.hid (show ((t.fail 7).k == 0) = false by rw [Rs.fail_k hz]; rfl)
              have HG := Lib.hid (show packsGo n 0 u0 [] = (true, P, t.fail 7) by rw [HG1.out, show (if t.k = 0 ∧ 1099511627776 < sm2 then t.fail 7 else t) = t.fail 7 from if_pos ⟨hz, hbig⟩, if_pos (by rw [Rs.fail_k hz]; decide)])
              have HRes := Lib.hid (show s.packs = ((pl, P, []), t.fail 7) by rw [HSA.out, HG.out]; rfl)
              clear hz hbig
              go_wp2_with (first
                | (have hq := R8; go_at_call 31; refine (ok_any _ p cp q (t.fail 7) { D with ps := .slice oao k ocap } R8).mono ?_; rw [HFO.out, HFK.out]; rintro e w9 ⟨rfl, R9, F9⟩; have FW9 := FW8.tr2 F9.two1)
                | (go_at_call 32; refine (rfail_any _ p cp q t { D with ps := .slice oao k ocap } 7 R7).mono ?_; rintro e w8 ⟨rfl, R8, F8⟩; have FW8 := FW7.tr2 F8.two1)
                | (have hq := R6; go_at_call 31; refine (ok_any _ p cp q t { D with ps := .slice oao k ocap } R6).mono ?_; rw [HTO.out, HK.out]; rintro e w7 ⟨rfl, R7, F7⟩; have FW7 := F67.tr2 F7.two1)
                | (go_at_call 61; refine (HSZ.out _ _ HRU.out).mono ?_; rintro e w6 ⟨rfl, R6, F67⟩))
              go_end0
              exact ⟨rfl, ⟨.slice oao k ocap, .slice none 0 0, by rw [HRes.out]; rw [HDX.out, ← HPS2.out.2]; exact R9, by rw [HRes.out]; dsimp only; rw [HPk.out]; exact Sm.of_own w.heap.size (own_frB HOwn.out FW9 (two_lt HLT.out)) (Nat.le_refl _), by rw [HRes.out]; exact Sm.nil _ _ _ _⟩, HF.out.tr2 FW9⟩
            · have aB : (sm2 : Int) ≤ (1099511627776 : Int) := by omega
              have HG := Lib.hid (show packsGo n 0 u0 [] = packsGo (n - (k + 1)) sm2 t (P ++ [UInt64.ofNat v]) by rw [HG1.out, show (if t.k = 0 ∧ 1099511627776 < sm2 then t.fail 7 else t) = t from if_neg (fun h => hbig h.2), if_neg (by simp [hz])])
              have HSM := Lib.hid (show sm2 ≤ 1099511627776 by omega)
              have HVN := Lib.hid (show ((UInt64.ofNat v).toNat : Int) = (v : Int) by have := HV.out; simp; omega)
              clear hz hbig
              go_wp2_with (first
                | (at_builtin; refine wpList_append_struct sty_u64 rfl _ _ (by rfl) w.heap.size _ _ _ (by rfl) own9 w9.heap.size [.int .u64 (v : Int)] (by rfl) hgS rfl rfl (by omega) (by decide) sz9 ?_; intro v2 wa owna ga; obtain ⟨vao2, vcap2, rfl, -⟩ := own_outS owna; have Fa : Fr [p, cp] w wa := ((HF.out.tr2 FW9).alloc _).grown ga (fun t ht => .inr (own_ltS own9 t ht).1); have Ra := (R9.fr0 ((Fr.refl _ _).alloc _)).grownB ga own9 HLT.out.1 HLT.out.2 HLQ.out; obtain ⟨-, -, -, -, a4, -, -, -, -, af⟩ := cells9 Ra.blk; have Rb := Ra.put4 (.slice vao2 (k + 1) vcap2); have ownb := own_frB owna ((Fr.refl [p, cp] wa).setCell (p := ⟨p, 4, none⟩) (by simp) (.slice vao2 (k + 1) vcap2)) (two_lt HLT.out); have Fb := Fa.setCell (p := ⟨p, 4, none⟩) (by simp) (.slice vao2 (k + 1) vcap2))
                | (have hq := R7; go_at_call 31; refine (ok_any _ p cp q t { D with ps := .slice oao k ocap } R7).mono ?_; rw [HTO.out, HK.out]; rintro e w9 ⟨rfl, R9, F9⟩; have FW9 := FW7.tr2 F9.two1; obtain ⟨-, -, -, -, g4, -, -, -, -, gf⟩ := cells9 R9.blk; have own9 := own_frB HOwn.out (FW9.alloc (.cells #[.int .u64 (v : Int)] 29)) (two_lt HLT.out); have hgS := heap_alloc_new w9 (.cells #[.int .u64 (v : Int)] 29); have sz9 : w.heap.size ≤ (w9.alloc (.cells #[.int .u64 (v : Int)] 29)).heap.size := (by rw [World.size_alloc]; have := HF.out.size; have := FW9.size; omega))
                | (have hq := R6; go_at_call 31; refine (ok_any _ p cp q t { D with ps := .slice oao k ocap } R6).mono ?_; rw [HTO.out, HK.out]; rintro e w7 ⟨rfl, R7, F7⟩; have FW7 := F67.tr2 F7.two1)
                | (go_at_call 61; refine (HSZ.out _ _ HRU.out).mono ?_; rintro e w6 ⟨rfl, R6, F67⟩))
              go_roundw
              case rel => exact ⟨k + 1, sm2, t, P ++ [UInt64.ofNat v], .slice vao2 (k + 1) vcap2, by omega, by go_num, rfl, HSM.out, HG.out, by rw [List.length_append, HPk.out]; rfl, HTB.out, by rw [show u64v (P ++ [UInt64.ofNat v]) = u64v P ++ [.int .u64 (v : Int)] by simp only [u64v, List.map_append, List.map_cons, List.map_nil, HVN.out]]; exact ownb, Rb, Fb⟩
              case measure => simp [intOf]; omega
          · have HK := Lib.hid (show (t.k == 0) = false by rw [beq_eq_false_iff_ne]; exact hz)
            have HG := Lib.hid (show packsGo n 0 u0 [] = (true, P, t) by rw [HG1.out, show (if t.k = 0 ∧ 1099511627776 < sm2 then t.fail 7 else t) = t from if_neg (fun h => hz h.1), if_pos hz])
            have HRes := Lib.hid (show s.packs = ((pl, P, []), t) by rw [HSA.out, HG.out]; rfl)
            clear hz
            go_wp2_with (first
              | (have hq := R7; go_at_call 31; refine (ok_any _ p cp q t { D with ps := .slice oao k ocap } R7).mono ?_; rw [HTO.out, HK.out]; rintro e w9 ⟨rfl, R9, F9⟩; have FW9 := FW7.tr2 F9.two1)
              | (have hq := R6; go_at_call 31; refine (ok_any _ p cp q t { D with ps := .slice oao k ocap } R6).mono ?_; rw [HTO.out, HK.out]; rintro e w7 ⟨rfl, R7, F7⟩; have FW7 := F67.tr2 F7.two1)
              | (go_at_call 61; refine (HSZ.out _ _ HRU.out).mono ?_; rintro e w6 ⟨rfl, R6, F67⟩))
            go_end0
            exact ⟨rfl, ⟨.slice oao k ocap, .slice none 0 0, by rw [HRes.out]; rw [HDX.out, ← HPS2.out.2]; exact R9, by rw [HRes.out]; dsimp only; rw [HPk.out]; exact Sm.of_own w.heap.size (own_frB HOwn.out FW9 (two_lt HLT.out)) (Nat.le_refl _), by rw [HRes.out]; exact Sm.nil _ _ _ _⟩, HF.out.tr2 FW9⟩
        · have hke : k = n := by omega
          have HG := Lib.hid (show packsGo n 0 u0 [] = (false, P, u) by rw [HGo.out, hke, Nat.sub_self]; rfl)
          have HBY := Lib.hid (byte_any wr p cp q u { D with ps := .slice oao k ocap } HRU.out HUB.out)
          have HRes := Lib.hid (show s.packs = ((pl, P, (Rs.packsEnd P n u.byte.1 u.byte.2).1), (Rs.packsEnd P n u.byte.1 u.byte.2).2) by rw [HSA.out, HG.out]; rfl)
          have HTB := Lib.hid (show u.byte.2.c.b.length ≤ 10000000 by rw [byte_b]; exact HUB.out)
          have hltI : (n : Int) ≤ (k : Int) := by omega
          go_wp2_with (go_at_call 28; refine HBY.out.mono ?_; rintro e w6 ⟨rfl, R6, F6⟩)
          go_meet
          case rel => exact ⟨u.byte.1, P, u.byte.2, .slice oao k ocap, rfl, HRes.out, HTB.out, by have := HPk.out; have := HNL.out; omega, by rw [HPk.out]; exact own_frB HOwn.out F6.two2 (two_lt HLT.out), R6, HF.out.tr2 F6.two2⟩
    | false =>
      have HSA := Lib.hid (HS.out.trans (packsA_false HAE.out))
      cases hn : decide (0 < n) with
      | true =>
        have hnI : (0 : Int) < (n : Int) := by simp at hn; omega
        rw [hn] at HSA
        clear hn
        by_cases hk : u0.ok.k = 0
        · have HK := Lib.hid (show (u0.ok.k == 0) = true by rw [hk]; rfl)
          have HO := Lib.hid (Rs.ok_of_zero hk)
          clear hk
          go_wp2_with (first
            | (have hq := R5; go_at_call 32; refine (rfail_any _ p cp q u0 D 5 R5).mono ?_; rintro e w6 ⟨rfl, R6, F6⟩)
            | (go_at_call 31; refine (ok_any _ p cp q u0 D R4).mono ?_; rw [HK.out, HO.out]; rintro e w5 ⟨rfl, R5, F5⟩))
          go_meet
          case rel => exact ⟨id, [], u0.fail 5, _, rfl, by rw [HSA.out, Rs.at_true, HK.out, HO.out]; rfl, HUB0.out, by simp, World.ownsRow_nil _ _ _ _, by rw [← HPS2.out.1]; exact R6, (F4.tr2 F5.two1).tr2 F6.two1⟩
        · have HK := Lib.hid (show (u0.ok.k == 0) = false by rw [beq_eq_false_iff_ne]; exact hk)
          clear hk
          go_wp2_with (go_at_call 31; refine (ok_any _ p cp q u0 D R4).mono ?_; rw [HK.out]; rintro e w5 ⟨rfl, R5, F5⟩)
          go_meet
          case rel => exact ⟨id, [], u0.ok, _, rfl, by rw [HSA.out, Rs.at_true]; simp only [HK.out, Bool.false_eq_true, if_false], HUB0.out, by simp, World.ownsRow_nil _ _ _ _, by rw [← HPS2.out.1]; exact R5, F4.tr2 F5.two1⟩
      | false =>
        have hnI : (n : Int) ≤ 0 := by simp at hn; omega
        rw [hn] at HSA
        clear hn
        go_wp2_with fail
        go_meet
        case rel => exact ⟨id, [], u0, _, rfl, by rw [HSA.out, Rs.at_false]; simp only [Bool.false_eq_true, if_false], HUB0.out, by simp, World.ownsRow_nil _ _ _ _, by rw [← HPS2.out.1]; exact R4, F4⟩
  case rest =>
  obtain ⟨id2, P, t, psV, rfl, hspec, htb, hpl, own, R5, F5⟩ := hcut
  have HSP := Lib.hid hspec
  have HTB := Lib.hid htb
  have HPL := Lib.hid hpl
  have hplI : (P.length : Int) ≤ 10000000 := by omega
  obtain ⟨oao, ocap, rfl, -⟩ := own_outS own
  have HOwn := Lib.hid own
  obtain ⟨i0, hi0, hz0, hs0, hb0⟩ := info_parts info_ck
  have hb0' : i0.bytes * P.length ≤ 281474976710656 := by rw [hb0]; omega
  obtain ⟨-, -, -, -, g4, g5, -, -, -, gf⟩ := cells9 R5.blk
  obtain ⟨M, hM⟩ : ∃ M, P.length = M := ⟨_, rfl⟩
  have HM := Lib.hid hM
  rw [hM] at hplI hb0' HOwn g4 R5 HPL
  dsimp only at g4 g5
  clear hspec htb hpl own hM
  go_upto_region 18 with (at_make; refine wpList_make_full _ rfl _ _ _ rfl wc.heap.size _ i0 _ _ Try.underlying31 hi0 hz0 hs0 _ _ _ _ M (by rfl) (by rfl) rfl rfl hb0' (by unfold maxLen; omega) (Nat.le_refl _) ?_; rw [made_ck]; intro w6 own6 g6; have F6 := (Fr.refl [] wc).grown g6 (by simp); have R6 := R5.fr0 F6; obtain ⟨-, -, -, -, -, k5, -, -, -, kf⟩ := cells9 R6.blk)
  obtain ⟨w7, hw7⟩ : ∃ w7, w7 = w6.setCell ⟨p, 5, none⟩ (.slice (some ⟨wc.heap.size, 0, none⟩) M M) := ⟨_, rfl⟩
  have R7 := R6.put5 (.slice (some ⟨wc.heap.size, 0, none⟩) M M)
  rw [← hw7] at R7 ⊢
  have F67 : Fr [p, cp] w6 w7 := hw7 ▸ (Fr.refl _ _).setCell (by simp) _
  have HCs := Lib.hid (own_frB own6 F67 (two_lt (by have := HLT.out; have := F5.size; omega)))
  have HPs := Lib.hid (own_frB HOwn.out ((F6.mono (by simp) : Fr [p, cp] wc w6).tr2 F67) (two_lt HLT.out))
  have FW7 : Fr [p, cp] w w7 := (F5.trans0 F6).tr2 F67
  have hcw : w.heap.size ≤ wc.heap.size := F5.size
  have HLC := Lib.hid (show p < w7.heap.size ∧ cp < w7.heap.size by have := HLT.out; have := FW7.size; omega)
  clear hw7 g4 g5 gf k5 kf own6 g6 F6 R6 R5 hi0 hz0 hs0 hb0 hb0' F67
  by_cases h10 : id2 = 10
  · subst h10
    by_cases hk : t.ok.k = 0
    · have HK := Lib.hid (show (t.ok.k == 0) = true by rw [hk]; rfl)
      have HO := Lib.hid (Rs.ok_of_zero hk)
      have HNN := Lib.hid (show n ≤ 10000000 from HNL.out)
      have HE := Lib.hid (show Rs.packsEnd P n 10 t = ((t.sums n).1, (t.sums n).2.byte.2.end_ (t.sums n).2.byte.1) by
        unfold Rs.packsEnd
        rw [show t.at (10 == 10) = (true, t) by rw [← Rs.ok_of_zero hk]; show ((t.ok.ok.k == 0), t.ok.ok) = _; rw [Rs.ok_ok, hk]; rfl]
        simp only [if_true])
      have HSB := Lib.hid (show (t.sums n).2.c.b.length ≤ 10000000 by rw [sums_b]; exact HTB.out)
      clear hk
      go_wp2_with (first
        | (have hq := R11; go_at_call 50; refine (end_any _ p cp q _ _ _ R11).mono ?_; rintro e wd ⟨rfl, Rd, Fd⟩)
        | (have hq := R10; go_at_call 28; refine (byte_any _ p cp q _ _ R10 HSB.out).mono ?_; rintro e wb ⟨rfl, R11, Fb⟩)
        | (have hq := R8; go_at_call 62; refine (sums_any _ p cp q t _ n R8 HTB.out HNN.out).mono ?_; rintro e w9 ⟨⟨cv, rfl, hcv⟩, R9, F9⟩; obtain ⟨cao, ccap, rfl, -⟩ := hcv.out; obtain ⟨-, -, -, -, -, l5, -, -, -, lf⟩ := cells9 R9.blk; have R10 := R9.put5 (.slice cao (t.sums n).1.length ccap))
        | (go_at_call 31; refine (ok_any _ p cp q t _ R7).mono ?_; rw [HK.out, HO.out]; rintro e w8 ⟨rfl, R8, F8⟩))
      go_end0
      have Fe : Fr [p, cp] w7 wd := ((((F8.two1.tr2 F9).setCell (p := ⟨p, 5, none⟩) (by simp) (.slice cao (t.sums n).1.length ccap)).tr2 Fb.two2).tr2 Fd)
      refine ⟨rfl, ⟨_, _, by rw [HSP.out, HE.out]; rw [HDX.out]; exact Rd, by rw [HSP.out]; dsimp only; rw [HM.out]; exact Sm.of_own w.heap.size (own_frB HPs.out Fe (two_lt HLT.out)) (Nat.le_refl _), ?_⟩, FW7.tr2 Fe⟩
      rw [HSP.out, HE.out]
      exact ((hcv.two ((((Fr.refl [p, cp] w9).setCell (p := ⟨p, 5, none⟩) (by simp) (.slice cao (t.sums n).1.length ccap)).tr2 Fb.two2).tr2 Fd) (by have := HLC.out; have := F8.size; omega) (by have := HLC.out; have := F8.size; omega))).mono (by have := FW7.size; have := F8.size; omega)
    · have HK := Lib.hid (show (t.ok.k == 0) = false by rw [beq_eq_false_iff_ne]; exact hk)
      have HE := Lib.hid (show Rs.packsEnd P n 10 t = (List.replicate P.length ⟨false, 0⟩, t.ok.end_ 10) by
        unfold Rs.packsEnd
        rw [show t.at (10 == 10) = (false, t.ok) by show ((t.ok.k == 0), t.ok) = _; rw [beq_eq_false_iff_ne.2 hk]]
        simp only [Bool.false_eq_true, if_false])
      clear hk
      go_wp2_with (first
        | (have hq := R8; go_at_call 50; refine (end_any _ p cp q t.ok _ 10 R8).mono ?_; rintro e wd ⟨rfl, Rd, Fd⟩)
        | (go_at_call 31; refine (ok_any _ p cp q t _ R7).mono ?_; rw [HK.out]; rintro e w8 ⟨rfl, R8, F8⟩))
      go_end0
      have Fe : Fr [p, cp] w7 wd := F8.two1.tr2 Fd
      refine ⟨rfl, ⟨_, _, by rw [HSP.out, HE.out]; rw [HDX.out]; exact Rd, by rw [HSP.out]; dsimp only; rw [HM.out]; exact Sm.of_own w.heap.size (own_frB HPs.out Fe (two_lt HLT.out)) (Nat.le_refl _), ?_⟩, FW7.tr2 Fe⟩
      rw [HSP.out, HE.out]
      dsimp only
      rw [List.length_replicate, HM.out]
      exact Sm.of_own w.heap.size (own_frB HCs.out Fe (two_lt (by have := HLT.out; omega))) hcw
  · have t0 : ((id2 : Int) == 10) = false := by rw [beq_eq_false_iff_ne]; omega
    have HE := Lib.hid (show Rs.packsEnd P n id2 t = (List.replicate P.length ⟨false, 0⟩, t.end_ id2) by
      unfold Rs.packsEnd
      rw [show (id2 == 10) = false from by simpa using h10, Rs.at_false]
      simp only [Bool.false_eq_true, if_false])
    clear h10
    go_wp2_with (go_at_call 50; refine (end_any _ p cp q t _ id2 R7).mono ?_; rintro e wd ⟨rfl, Rd, Fd⟩)
    go_end0
    refine ⟨rfl, ⟨_, _, by rw [HSP.out, HE.out]; rw [HDX.out]; exact Rd, by rw [HSP.out]; dsimp only; rw [HM.out]; exact Sm.of_own w.heap.size (own_frB HPs.out Fd (two_lt HLT.out)) (Nat.le_refl _), ?_⟩, FW7.tr2 Fd⟩
    rw [HSP.out, HE.out]
    dsimp only
    rw [List.length_replicate, HM.out]
    exact Sm.of_own w.heap.size (own_frB HCs.out Fd (two_lt (by have := HLT.out; omega))) hcw
end Go.Proofs.Ythdfjbliafdchaa
