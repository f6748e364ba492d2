/- Contract: graph's named. No condition but that lengths fit. -/
import Derived.Test.YtfnblemlcjdnhaaGreatGMap
import Derived.StillTailTactics
namespace Go.Proofs.YtfnblemlcjdnhaaGreat
open Go.RowKit Go.Maps

/-- Each stream is named once, and no coder twice. -/
structure Named (f : Folder) (all : Nat) : Prop where
  binds : ∀ b ∈ f.binds, (0 ≤ b.1 ∧ b.1 < all) ∧ 0 ≤ b.2 ∧ b.2 < f.coders.length
  packs : ∀ p ∈ f.packs, 0 ≤ p ∧ p < all
  ins : (f.binds.map (·.1) ++ f.packs).Nodup
  outs : (f.binds.map (·.2)).Nodup
  all : f.binds.length + f.packs.length = all

theorem take_succ3 {α : Type} (l : List α) (k : Nat) (x : α) (h : l[k]? = some x) : l.take (k + 1) = l.take k ++ [x] := by
  rw [List.take_add_one, h]; rfl

theorem nodup_at {l : List Int} {k : Nat} {x : Int} (h : l[k]? = some x) (hm : x ∈ l.take k) : ¬ l.Nodup := by
  intro hn
  have hk : k < l.length := (List.getElem?_eq_some_iff.1 h).1
  have e : l = l.take k ++ x :: l.drop (k + 1) := by
    have := List.drop_eq_getElem_cons hk
    rw [(List.getElem?_eq_some_iff.1 h).2] at this
    rw [← this, List.take_append_drop]
  rw [e] at hn
  exact (List.nodup_append.1 hn).2.2 x hm x (by simp) rfl

/-- .. of the first k binds. -/
structure Part (f : Folder) (all k : Nat) : Prop where
  binds : ∀ b ∈ f.binds.take k, (0 ≤ b.1 ∧ b.1 < all) ∧ 0 ≤ b.2 ∧ b.2 < f.coders.length
  ins : ((f.binds.map (·.1)).take k).Nodup
  outs : ((f.binds.map (·.2)).take k).Nodup

/-- The answer is a bool, true just if p. -/
def Tells (p : Prop) (w : World) (e : Ending) (w' : World) : Prop := ∃ r : Bool, e = .returned (.bool r) ∧ (r = true ↔ p) ∧ Fr [] w w'

theorem named_any (w : World) (v : Value) (f : Folder) (hf : Fo w v f) (hb : f.binds.length ≤ 100) (hp : f.packs.length ≤ 400) (hc : f.coders.length ≤ 100) (all : Nat) (ha : all ≤ 1000) :
    Calls Tryz.prog 53 #[v, .int .i64 all] w (Tells (Named f all) w) := by
  obtain ⟨cv, bv', p, s, h, k0, rfl, hV⟩ := hf
  obtain ⟨aoc, capc, rfl, gc, mc, -⟩ := hV.co.out
  obtain ⟨ao, cap, rfl, g, m, o⟩ := hV.bi.out
  obtain ⟨aop, capp, rfl, gp, mp, op⟩ := hV.pa.out
  simp only [iv_length] at *
  have F0 : Fr [] w (w.alloc (.cells #[.slice aoc f.coders.length capc, .slice ao f.binds.length cap, .slice aop f.packs.length capp, s, h, k0] 37)) := (Fr.refl _ _).alloc _
  have hmm := @run_makeMap Tryz.prog
  go_enter Tryz.func53, Tryz.ntmps53
  go_wp2_with fail
  clear hmm
  go_loopw [16] (fun i wr => ∃ k : Nat, k ≤ f.binds.length ∧ i = .int .i64 k ∧ Part f all k ∧ BSet wr (w.heap.size + 1) ((f.binds.map (·.1)).take k) ∧ BSet wr (w.heap.size + 1 + 1) ((f.binds.map (·.2)).take k) ∧
    Fr [] (w.alloc (.cells #[.slice aoc f.coders.length capc, .slice ao f.binds.length cap, .slice aop f.packs.length capp, s, h, k0] 37)) wr) (fun i _ => f.binds.length - (intOf i).toNat)
  case atStart => 
    refine ⟨0, Nat.zero_le _, rfl, ⟨by simp, by simp, by simp⟩, ?_, ?_, ((Fr.refl _ _).alloc _).alloc _⟩
    · have m1 := (BSet.made (w.alloc (.cells #[.slice aoc f.coders.length capc, .slice ao f.binds.length cap, .slice aop f.packs.length capp, s, h, k0] 37))).alloc (.map #[] 0)
      simpa using m1
    · have m1 := BSet.made ((w.alloc (.cells #[.slice aoc f.coders.length capc, .slice ao f.binds.length cap, .slice aop f.packs.length capp, s, h, k0] 37)).alloc (.map #[] 0))
      simpa using m1
  case round =>
    obtain ⟨k, hk, rfl, hP, S1, S2, F⟩ := hrel
    obtain ⟨d0, d1, d2, d3, d4, d5⟩ := box6 F
    have d0' := fun o => (box6 (F.alloc o)).1
    have hlen : ((f.binds.map (·.1)).take k).length = k ∧ ((f.binds.map (·.2)).take k).length = k := by simp; omega
    by_cases hlt : k < f.binds.length
    · obtain ⟨⟨y1, y2⟩, hy⟩ := some_get f.binds k hlt
      have hbi := hV.bi.fr (F0.trans0 F)
      obtain ⟨ao', cap', e', -, -, o'⟩ := hbi.out
      injection e' with e1 e2 e3
      subst e1 e3
      obtain ⟨b1, o1, rfl, -, c0, c1⟩ := o' k _ hy
      clear o o' hbi e2
      dsimp only at c0 c1
      have hym : (y1, y2) ∈ f.binds := List.mem_of_getElem? hy
      have hy1 : (f.binds.map (·.1))[k]? = some y1 := by simp [hy]
      have hy2 : (f.binds.map (·.2))[k]? = some y2 := by simp [hy]
      have HP1 := Lib.hid hy1
      have HP2 := Lib.hid hy2
      have HM := Lib.hid hym
      have HV := Lib.hid hV
      have HY := Lib.hid hy
      clear hy1 hy2 hym hV hy
      by_cases q1 : y1 < 0
      · have HN := Lib.hid (show ¬ Named f all from fun N => by have := (N.binds _ HM.out).1.1; dsimp only at this; omega)
        clear hP hlen HP1 HP2
        go_wp2_with fail
        go_ret
        exact ⟨false, rfl, by simp [HN.out], (F0.trans0 F).alloc _⟩
      have q1' : 0 ≤ y1 := by omega
      by_cases q2 : (all : Int) ≤ y1
      · have HN := Lib.hid (show ¬ Named f all from fun N => by have := (N.binds _ HM.out).1.2; dsimp only at this; omega)
        clear hP hlen HP1 HP2
        go_wp2_with fail
        go_ret
        exact ⟨false, rfl, by simp [HN.out], (F0.trans0 F).alloc _⟩
      have q2' : y1 < (all : Int) := by omega
      by_cases q3 : y2 < 0
      · have HN := Lib.hid (show ¬ Named f all from fun N => by have := (N.binds _ HM.out).2.1; dsimp only at this; omega)
        clear hP hlen HP1 HP2
        go_wp2_with fail
        go_ret
        exact ⟨false, rfl, by simp [HN.out], (F0.trans0 F).alloc _⟩
      have q3' : 0 ≤ y2 := by omega
      by_cases q4 : (f.coders.length : Int) ≤ y2
      · have HN := Lib.hid (show ¬ Named f all from fun N => by have := (N.binds _ HM.out).2.2; dsimp only at this; omega)
        clear hP hlen HP1 HP2
        go_wp2_with fail
        go_ret
        exact ⟨false, rfl, by simp [HN.out], (F0.trans0 F).alloc _⟩
      have q4' : y2 < (f.coders.length : Int) := by omega
      have L1 := fun o => (S1.alloc o).look (x := y1) q1' (by omega)
      have L2 := fun o => (S2.alloc o).look (x := y2) q3' (by omega)
      by_cases q5 : y1 ∈ (f.binds.map (·.1)).take k
      · simp only [q5, decide_true] at L1
        have HN := Lib.hid (show ¬ Named f all from fun N => nodup_at HP1.out q5 (List.nodup_append.1 N.ins).1)
        clear hP hlen HP1 HP2
        go_wp2_with fail
        go_ret
        exact ⟨false, rfl, by simp [HN.out], (F0.trans0 F).alloc _⟩
      simp only [q5, decide_false] at L1
      by_cases q6 : y2 ∈ (f.binds.map (·.2)).take k
      · simp only [q6, decide_true] at L2
        have HN := Lib.hid (show ¬ Named f all from fun N => nodup_at HP2.out q6 N.outs)
        clear hP hlen HP1 HP2
        go_wp2_with fail
        go_ret
        exact ⟨false, rfl, by simp [HN.out], (F0.trans0 F).alloc _⟩
      simp only [q6, decide_false] at L2
      have hT1 := take_succ3 _ _ _ HP1.out
      have hT2 := take_succ3 _ _ _ HP2.out
      have HNP := Lib.hid (show Part f all (k + 1) from
        ⟨fun b hb => by
          rw [take_succ3 _ _ _ HY.out] at hb
          rcases List.mem_append.1 hb with hb | hb
          · exact hP.binds b hb
          · rw [List.mem_singleton] at hb; subst hb; exact ⟨⟨q1', q2'⟩, q3', q4'⟩,
        by rw [hT1]; exact List.nodup_append.2 ⟨hP.ins, by simp, fun a ha b hb => by rw [List.mem_singleton] at hb; subst hb; rintro rfl; exact q5 ha⟩,
        by rw [hT2]; exact List.nodup_append.2 ⟨hP.outs, by simp, fun a ha b hb => by rw [List.mem_singleton] at hb; subst hb; rintro rfl; exact q6 ha⟩⟩)
      have HT1 := Lib.hid hT1
      have HT2 := Lib.hid hT2
      have HL := Lib.hid hlen
      clear hP hlen hT1 hT2
      go_wp2_with fail
      obtain ⟨wa, hwa⟩ : ∃ wa, wa = wr.alloc (.cells #[.int .i64 y1, .int .i64 y2] 58) := ⟨_, rfl⟩
      have a0 : wa.cell? ⟨wr.heap.size, 0, none⟩ = some (.int .i64 y1) := by rw [hwa]; simp
      have a1 : wa.cell? ⟨wr.heap.size, 1, none⟩ = some (.int .i64 y2) := by rw [hwa]; simp
      have F2 : Fr [] _ wa.drew := (hwa ▸ F.alloc _ : Fr [] _ wa).drew
      have T1 : BSet wa.drew _ _ := hwa ▸ (S1.alloc _).same Same.drew
      have T2 : BSet wa.drew _ _ := hwa ▸ (S2.alloc _).same Same.drew
      have hsz : wr.heap.size < wa.heap.size := by rw [hwa]; simp
      rw [← hwa]
      have hsz2 := F.size
      simp only [World.size_alloc] at hsz2
      clear hwa L1 L2 d0 d0' d1 d2 d3 d4 d5 c0 c1
      obtain ⟨w3, E1, T3, g3⟩ := T1.update q5 q1' (by omega) (by have := HL.out; omega)
      have T2' := T2.kept g3 (by simp)
      have F3 := F2.grown g3 (fun k hk => .inr (by cases hk; simp))
      have a1' : w3.cell? ⟨wr.heap.size, 1, none⟩ = some (.int .i64 y2) := by
        rw [← a1]; exact World.cell?_of_block (w := wa.drew) (g3.block _ hsz (by have := S1.lt; intro h; injection h with h; dsimp only at h; omega))
      obtain ⟨w4, E2, T4, g4⟩ := T2'.update q6 q3' (by omega) (by have := HL.out; omega)
      have T3' := T3.kept g4 (by simp)
      have F4 := F3.grown g4 (fun k hk => .inr (by cases hk; simp))
      rw [← HT1.out] at T3'
      rw [← HT2.out] at T4
      have HX := Lib.hid (And.intro T3' (And.intro T4 F4))
      clear T1 T2 T2' T3 T3' T4 F2 F3 F4 g3 g4 S1 S2 F F0 hsz hsz2
      go_region
      all_goals
        go_wp2_with fail
        go_roundw
        case rel => exact ⟨k + 1, by omega, by go_num, HNP.out, HX.out.1, HX.out.2.1, HX.out.2.2⟩
        case measure => simp [intOf]; omega
    · have hk2 : k = f.binds.length := by omega
      subst hk2
      clear o S2 hlen d0'
      have S3 : BSet wr (w.heap.size + 1) (f.binds.map (·.1) ++ f.packs.take 0) := by
        rw [List.take_of_length_le (by simp)] at S1; simpa using S1
      clear S1 hk hlt
      have HP := Lib.hid hP
      have HV := Lib.hid hV
      clear hP hV
      go_wp2_with fail
      go_loopw [64] (fun i wr => ∃ k : Nat, k ≤ f.packs.length ∧ i = .int .i64 k ∧ (∀ p ∈ f.packs.take k, 0 ≤ p ∧ p < (all : Int)) ∧ (f.binds.map (·.1) ++ f.packs.take k).Nodup ∧ BSet wr (w.heap.size + 1) (f.binds.map (·.1) ++ f.packs.take k) ∧
        Fr [] (w.alloc (.cells #[.slice aoc f.coders.length capc, .slice ao f.binds.length cap, .slice aop f.packs.length capp, s, h, k0] 37)) wr) (fun i _ => f.packs.length - (intOf i).toNat)
      case atStart =>
        refine ⟨0, Nat.zero_le _, rfl, by simp, ?_, S3, F⟩
        have := HP.out.ins
        rw [List.take_of_length_le (by simp)] at this
        simpa using this
      case round =>
        clear d0 d1 d2 d3 d4 d5 S3 F
        obtain ⟨k, hk, rfl, hP, hN, S1, F⟩ := hrel
        by_cases hlt : k < f.packs.length
        · obtain ⟨x, hx⟩ := some_get f.packs k hlt
          obtain ⟨b1, o1, rfl, hb1, c1⟩ := op k hlt
          have d1 : wr.cell? ⟨b1, o1 + k, none⟩ = some (.int .i64 x) := by
            rw [(F0.trans0 F).cell (p := ⟨b1, _, none⟩) hb1 (by simp), c1 k hlt, iv_get _ _ _ hx]
          have hL : (f.binds.map (·.1) ++ f.packs)[f.binds.length + k]? = some x := by
            rw [List.getElem?_append_right (by simp), List.length_map, Nat.add_sub_cancel_left, hx]
          have hT : (f.binds.map (·.1) ++ f.packs).take (f.binds.length + k) = f.binds.map (·.1) ++ f.packs.take k := by
            rw [List.take_append, List.length_map, Nat.add_sub_cancel_left, List.take_of_length_le (by simp)]
          have hT3 := take_succ3 _ _ _ hx
          have HX := Lib.hid hx
          have HL := Lib.hid hL
          have HT := Lib.hid hT
          have HN := Lib.hid hN
          have HQ := Lib.hid hP
          clear op c1 hx hL hT hN hP
          by_cases q1 : x < 0
          · have HF := Lib.hid (show ¬ Named f all from fun N => by have := (N.packs x (List.mem_of_getElem? HX.out)).1; omega)
            go_wp2_with fail
            go_ret
            exact ⟨false, rfl, by simp [HF.out], F0.trans0 F⟩
          have q1' : 0 ≤ x := by omega
          by_cases q2 : (all : Int) ≤ x
          · have HF := Lib.hid (show ¬ Named f all from fun N => by have := (N.packs x (List.mem_of_getElem? HX.out)).2; omega)
            go_wp2_with fail
            go_ret
            exact ⟨false, rfl, by simp [HF.out], F0.trans0 F⟩
          have q2' : x < (all : Int) := by omega
          have L1 := S1.look (x := x) q1' (by omega)
          by_cases q3 : x ∈ f.binds.map (·.1) ++ f.packs.take k
          · have HF := Lib.hid (show ¬ Named f all from fun N => nodup_at HL.out (HT.out ▸ q3) N.ins)
            simp only [q3, decide_true] at L1
            go_wp2_with fail
            go_ret
            exact ⟨false, rfl, by simp [HF.out], F0.trans0 F⟩
          simp only [q3, decide_false] at L1
          have HA := Lib.hid (show f.binds.map (·.1) ++ f.packs.take (k + 1) = (f.binds.map (·.1) ++ f.packs.take k) ++ [x] by rw [hT3, List.append_assoc])
          have HB := Lib.hid (show ∀ p ∈ f.packs.take (k + 1), 0 ≤ p ∧ p < (all : Int) from fun p hp => by
            rw [hT3] at hp
            rcases List.mem_append.1 hp with hp | hp
            · exact HQ.out p hp
            · rw [List.mem_singleton] at hp; subst hp; exact ⟨q1', q2'⟩)
          have HC := Lib.hid (show (f.binds.map (·.1) ++ f.packs.take (k + 1)).Nodup by
            rw [HA.out]
            exact List.nodup_append.2 ⟨HN.out, by simp, fun a ha b hb => by rw [List.mem_singleton] at hb; subst hb; rintro rfl; exact q3 ha⟩)
          clear hT3
          have hlen : (f.binds.map (·.1) ++ f.packs.take k).length ≤ 1000000 := by simp; omega
          have HLEN := Lib.hid hlen
          clear hlen
          go_wp2_with (at_mapUpdate; refine wpList_bset rfl _ _ _ rfl rfl S1 (by rfl) (by rfl) q3 q1' (by omega) HLEN.out ?_)
          intro w3 T3 g3
          have F3 := F.grown g3 (fun k hk => .inr (by cases hk; simp))
          replace T3 : BSet w3 (w.heap.size + 1) (f.binds.map (·.1) ++ f.packs.take (k + 1)) := by rw [HA.out]; first | exact T3 | (rw [List.append_assoc]; exact T3)
          go_wp2_with fail
          go_roundw
          case rel => exact ⟨k + 1, by omega, by go_num, HB.out, HC.out, T3, F3⟩
          case measure => simp [intOf]; omega
        · have hk2 : k = f.packs.length := by omega
          subst hk2
          rw [List.take_of_length_le (Nat.le_refl _)] at hP hN S1
          have HQ := Lib.hid hP
          have HN := Lib.hid hN
          clear op hP hN
          go_wp2_with (at_len; refine wpList_bset_len rfl _ rfl (by rfl) S1 ?_)
          go_wp2_with fail
          go_ret
          refine ⟨_, rfl, ?_, F0.trans0 F⟩
          constructor
          · intro h
            have hp := HP.out
            have h2 : f.binds.length + f.packs.length = all := by simp at h; omega
            refine ⟨fun b hb => hp.binds b (by rwa [List.take_of_length_le (Nat.le_refl _)]), HQ.out, HN.out, ?_, h2⟩
            have := hp.outs
            rwa [List.take_of_length_le (by simp)] at this
          · intro N
            have := N.all
            simp
            omega
end Go.Proofs.YtfnblemlcjdnhaaGreat
