/- Contract: graph.Check. No condition but that lengths fit. -/
import Derived.Test.YtfnblemlcjdnhaaGreatGPlain
import Derived.Test.YtfnblemlcjdnhaaGreatGConcat
namespace Go.Proofs.YtfnblemlcjdnhaaGreat
open Go.RowKit

theorem any_of {α : Type} (l : List α) (p : α → Bool) (k : Nat) (x : α) (h : l[k]? = some x) (hp : p x = true) : l.any p = true :=
  List.any_eq_true.2 ⟨x, List.mem_of_getElem? h, hp⟩

theorem any_step {α : Type} (l : List α) (p : α → Bool) (k : Nat) (x : α) (h : l[k]? = some x) (h0 : (l.take k).any p = false) (hp : p x = false) : (l.take (k + 1)).any p = false := by
  rw [take_succ3 _ _ _ h, List.any_append, h0]; simp [hp]

def bigP (s : UInt64) : Bool := decide (1099511627776 < s.toNat)
def badP (c : Coder) : Bool := !propsOk c.method c.props
def oddP (f : Folder) (np : List UInt64) (k : Nat) : Bool := !f.evenAt np k (f.coders.getD k ⟨0, []⟩).method

theorem codeP_graph {f : Folder} {np : List UInt64} (h : ¬ Hangs f np.length) : codeP f np = 10 := by unfold codeP; rw [if_neg h]
theorem codeP_big {f : Folder} {np : List UInt64} (h : Hangs f np.length) (hb : (f.sizes ++ np).any bigP = true) : codeP f np = 7 := by
  unfold codeP; rw [if_pos h]; exact if_pos hb
theorem codeP_props {f : Folder} {np : List UInt64} (h : Hangs f np.length) (hb : (f.sizes ++ np).any bigP = false) (hp : f.coders.any badP = true) : codeP f np = 11 := by
  unfold codeP; rw [if_pos h]; exact (if_neg (by rw [show (f.sizes ++ np).any (fun s => decide (1099511627776 < s.toNat)) = false from hb]; simp)).trans (if_pos hp)
theorem codeP_sizes {f : Folder} {np : List UInt64} (h : Hangs f np.length) (hb : (f.sizes ++ np).any bigP = false) (hp : f.coders.any badP = false) (ho : (List.range f.coders.length).any (oddP f np) = true) : codeP f np = 13 := by
  unfold codeP; rw [if_pos h]; exact (if_neg (by rw [show (f.sizes ++ np).any (fun s => decide (1099511627776 < s.toNat)) = false from hb]; simp)).trans ((if_neg (by rw [show f.coders.any (fun c => !propsOk c.method c.props) = false from hp]; simp)).trans (if_pos ho))
theorem codeP_ok {f : Folder} {np : List UInt64} (h : Hangs f np.length) (hb : (f.sizes ++ np).any bigP = false) (hp : f.coders.any badP = false) (ho : (List.range f.coders.length).any (oddP f np) = false) : codeP f np = 0 := by
  unfold codeP; rw [if_pos h]; exact (if_neg (by rw [show (f.sizes ++ np).any (fun s => decide (1099511627776 < s.toNat)) = false from hb]; simp)).trans ((if_neg (by rw [show f.coders.any (fun c => !propsOk c.method c.props) = false from hp]; simp)).trans (if_neg (by rw [show (List.range f.coders.length).any (fun k => !f.evenAt np k (f.coders.getD k ⟨0, []⟩).method) = false from ho]; simp)))

set_option maxRecDepth 100000 in
theorem check_any (w : World) (v pv : Value) (f : Folder) (hf : Fo w v f) (hs : Small f) (hpr : ∀ c ∈ f.coders, c.props.length ≤ 2000) (np : List UInt64) (hp : Sl w pv (u64v np)) (hnp : np.length ≤ 400) :
    Calls Tryz.prog 16 #[v, pv] w fun e w' => e = .returned (.int .i64 (codeP f np)) ∧ Fr [] w w' := by
  have HF := Lib.hid hf
  have HP := Lib.hid hp
  obtain ⟨pao, pcap, rfl, -⟩ := hp.out
  obtain ⟨cv, bv', p, s, h, k0, rfl, hV⟩ := hf
  obtain ⟨ao, cap, rfl, -, -, o⟩ := hV.co.out
  obtain ⟨aos, caps, rfl, -, -, -⟩ := hV.si.out
  have HSI := Lib.hid hV.si
  simp only [u64v_length] at *
  have HS := Lib.hid hs
  have HPR := Lib.hid hpr
  have F0 : Fr [] w (w.alloc (.cells #[.slice ao f.coders.length cap, bv', p, .slice aos f.sizes.length caps, h, k0] 37)) := (Fr.refl _ _).alloc _
  have hn := hs.co
  have hn2 := hs.si
  clear hV hp hs hpr
  by_cases hH : Hangs f np.length
  · have HH := Lib.hid hH
    have HFed := Lib.hid (fun k hk => hH.fed k hk)
    clear hH
    go_enter Tryz.func16, Tryz.ntmps16
    go_wp2_with (first
      | (go_at_call 30; refine (hangs_any _ _ _ f (HF.out.fr F0) HS.out np.length ⟨_, _, rfl⟩).mono ?_; rintro e w1 ⟨r, rfl, hr, F1⟩; obtain rfl : r = true := hr.2 HH.out; clear hr; obtain ⟨d0, d1, d2, d3, d4, d5⟩ := box6 F1)
      | (go_at_call 31; refine (concat_any _ _ (by simp) _ _ f.sizes np (by simp) (by simp) (HSI.out.fr0 ((F0.trans0 F1).alloc _)) (HP.out.fr0 ((F0.trans0 F1).alloc _)) (by omega) (by omega)).mono ?_; rintro e w2 ⟨r2, rfl, hr2, F2⟩; obtain ⟨rao, rcap, rfl, -, -, ro⟩ := hr2.out; clear d0 d1 d2 d3 d4 d5; replace F1 := (F1.alloc _).trans0 F2; clear F2))
    simp only [u64v_length, List.length_append] at ro ⊢
    generalize hLL : f.sizes.length + np.length = LL at ro ⊢
    have HLL := Lib.hid hLL
    have hLm : LL ≤ 1000 := by omega
    clear hLL
    go_loopw [21] (fun i wr => ∃ k : Nat, k ≤ LL ∧ i = .int .i64 k ∧ ((f.sizes ++ np).take k).any bigP = false ∧ wr = w2) (fun i _ => LL - (intOf i).toNat)
    case atStart => exact ⟨0, Nat.zero_le _, rfl, by simp, rfl⟩
    case round =>
      obtain ⟨k, hk, rfl, hK, rfl⟩ := hrel
      have HRO := Lib.hid ro
      by_cases hlt : k < LL
      · obtain ⟨b1, o1, rfl, hb1, c1⟩ := ro k hlt
        obtain ⟨x, hx⟩ := some_get (f.sizes ++ np) k (by rw [List.length_append, HLL.out]; exact hlt)
        have e1 : wr.cell? ⟨b1, o1 + k, none⟩ = some (.int .u64 x.toNat) := by rw [c1 k hlt, u64v_get _ _ _ hx]
        have HX := Lib.hid hx
        have HK := Lib.hid hK
        clear ro c1 hx hK o
        by_cases hbig : 1099511627776 < x.toNat
        · have E := Lib.hid (codeP_big HH.out (any_of _ bigP k x HX.out (by simp [bigP, hbig])))
          have hbi : (1099511627776 : Int) < (x.toNat : Int) := by omega
          clear hbig
          go_wp2
          go_ret
          exact ⟨by rw [E.out]; rfl, F0.trans0 F1⟩
        · have E := Lib.hid (any_step _ bigP k x HX.out HK.out (by simp [bigP, hbig]))
          have hbi : (x.toNat : Int) ≤ 1099511627776 := by omega
          clear hbig
          go_wp2
          go_roundw
          case rel => exact ⟨k + 1, by omega, by go_num, E.out, by trivial⟩
          case measure => simp [intOf]; omega
      · rw [List.take_of_length_le (by rw [List.length_append, HLL.out]; omega)] at hK
        have HB := Lib.hid hK
        clear hK ro HRO hr2
        obtain ⟨d0, d1, d2, d3, d4, d5⟩ := box6 F1
        go_wp2_with fail
        go_loopw [31] (fun i w3 => ∃ k : Nat, k ≤ f.coders.length ∧ i = .int .i64 k ∧ (f.coders.take k).any badP = false ∧ Fr [] (w.alloc (.cells #[.slice ao f.coders.length cap, bv', p, .slice aos f.sizes.length caps, h, k0] 37)) w3) (fun i _ => f.coders.length - (intOf i).toNat)
        case atStart => exact ⟨0, Nat.zero_le _, rfl, by simp, F1⟩
        case round =>
          clear d0 d1 d2 d3 d4 d5
          obtain ⟨k2, hk2, rfl, hK, F⟩ := hrel
          clear F1 hlt hk
          by_cases hlt : k2 < f.coders.length
          · obtain ⟨x, hx⟩ := some_get f.coders k2 hlt
            obtain ⟨b1, o1, pv, rfl, hb1, hC⟩ := o k2 x hx
            obtain ⟨pao2, pcap2, rfl, -⟩ := hC.2.2.out
            have hC2 := hC.fr hb1 (F0.trans0 F)
            obtain ⟨c0, c1, -⟩ := hC2
            have HSl := Lib.hid hC.2.2
            have HX := Lib.hid hx
            have HK := Lib.hid hK
            have HL := Lib.hid (HPR.out x (List.mem_of_getElem? hx))
            clear o hx hK hC
            cases hok : propsOk x.method x.props with
            | true =>
              have E := Lib.hid (any_step _ badP k2 x HX.out HK.out (by simp [badP, hok]))
              have HO := Lib.hid hok
              clear hok
              go_wp2_with (go_at_call 32; refine (props_any _ _ _ x.props (HSl.out.fr0 ((F0.trans0 F).alloc _)) HL.out).mono ?_; rw [HO.out]; dsimp only [codeOf]; rintro e w4 ⟨rfl, F4⟩)
              go_roundw
              case rel => exact ⟨k2 + 1, by omega, by go_num, E.out, (F.alloc _).trans0 F4⟩
              case measure => simp [intOf]; omega
            | false =>
              have E := Lib.hid (codeP_props HH.out HB.out (any_of _ badP k2 x HX.out (by simp [badP, hok])))
              have HO := Lib.hid hok
              clear hok
              go_wp2_with (go_at_call 32; refine (props_any _ _ _ x.props (HSl.out.fr0 ((F0.trans0 F).alloc _)) HL.out).mono ?_; rw [HO.out]; dsimp only [codeOf]; rintro e w4 ⟨rfl, F4⟩)
              go_ret
              exact ⟨by rw [E.out]; rfl, ((F0.trans0 F).alloc _).trans0 F4⟩
          · rw [List.take_of_length_le (by omega)] at hK
            have HQ := Lib.hid hK
            clear hK
            obtain ⟨d0, d1, d2, d3, d4, d5⟩ := box6 F
            go_wp2_with fail
            go_loopw [44] (fun i w3 => ∃ k : Nat, k ≤ f.coders.length ∧ i = .int .i64 k ∧ ((List.range f.coders.length).take k).any (oddP f np) = false ∧ Fr [] (w.alloc (.cells #[.slice ao f.coders.length cap, bv', p, .slice aos f.sizes.length caps, h, k0] 37)) w3) (fun i _ => f.coders.length - (intOf i).toNat)
            case atStart => exact ⟨0, Nat.zero_le _, rfl, by simp, F⟩
            case round =>
              clear d0 d1 d2 d3 d4 d5
              obtain ⟨k3, hk3, rfl, hK, F3⟩ := hrel
              clear F hlt hk2
              obtain ⟨d0, d1, d2, d3, d4, d5⟩ := box6 F3
              by_cases hlt : k3 < f.coders.length
              · obtain ⟨x, hx⟩ := some_get f.coders k3 hlt
                have hrg : (List.range f.coders.length)[k3]? = some k3 := by simp [hlt]
                have hgd : f.coders.getD k3 ⟨0, []⟩ = x := by rw [List.getD_eq_getElem?_getD, hx]; rfl
                have HX := Lib.hid hx
                have HFd := Lib.hid (HFed.out k3 hlt)
                have HK := Lib.hid hK
                have HR := Lib.hid hrg
                clear o hx hK hrg
                cases hev : f.evenAt np k3 x.method with
                | true =>
                  have E := Lib.hid (any_step _ (oddP f np) k3 k3 HR.out HK.out (by unfold oddP; rw [hgd, hev]; rfl))
                  have HE := Lib.hid hev
                  clear hev hgd
                  go_wp2_with (go_at_call 33; refine (even_any _ _ _ f (HF.out.fr (F0.trans0 F3)) hn np (HP.out.fr0 (F0.trans0 F3)) k3 x HX.out HFd.out).mono ?_; rw [HE.out]; rintro e w4 ⟨rfl, F4⟩)
                  go_roundw
                  case rel => exact ⟨k3 + 1, by omega, by go_num, E.out, F3.trans0 F4⟩
                  case measure => simp [intOf]; omega
                | false =>
                  have E := Lib.hid (codeP_sizes HH.out HB.out HQ.out (any_of _ (oddP f np) k3 k3 HR.out (by unfold oddP; rw [hgd, hev]; rfl)))
                  have HE := Lib.hid hev
                  clear hev hgd
                  go_wp2_with (go_at_call 33; refine (even_any _ _ _ f (HF.out.fr (F0.trans0 F3)) hn np (HP.out.fr0 (F0.trans0 F3)) k3 x HX.out HFd.out).mono ?_; rw [HE.out]; rintro e w4 ⟨rfl, F4⟩)
                  go_ret
                  exact ⟨by rw [E.out]; rfl, (F0.trans0 F3).trans0 F4⟩
              · rw [List.take_of_length_le (by simp; omega)] at hK
                have E := Lib.hid (codeP_ok HH.out HB.out HQ.out hK)
                clear hK o
                go_wp2_with fail
                go_ret
                exact ⟨by rw [E.out]; rfl, F0.trans0 F3⟩
  · have HN := Lib.hid (codeP_graph hH)
    have HH := Lib.hid hH
    clear hH o
    go_enter Tryz.func16, Tryz.ntmps16
    go_wp2_with (go_at_call 30; refine (hangs_any _ _ _ f (HF.out.fr F0) HS.out np.length ⟨_, _, rfl⟩).mono ?_; rintro e w1 ⟨r, rfl, hr, F1⟩; obtain rfl : r = false := Bool.eq_false_iff.2 (fun hh => HH.out (hr.1 hh)); clear hr)
    go_ret
    exact ⟨by rw [HN.out]; rfl, F0.trans0 F1⟩
end Go.Proofs.YtfnblemlcjdnhaaGreat
