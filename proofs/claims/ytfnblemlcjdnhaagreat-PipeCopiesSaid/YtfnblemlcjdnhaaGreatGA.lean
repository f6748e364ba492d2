/- Contracts: graph's First, From. No condition but that lengths fit. -/
import Derived.Test.YtfnblemlcjdnhaaGreatGBase
namespace Go.Proofs.YtfnblemlcjdnhaaGreat
open Go.RowKit

theorem take_succ'' {α : Type} (l : List α) (k : Nat) (x : α) (h : l[k]? = some x) : l.take (k + 1) = l.take k ++ [x] := by
  rw [List.take_add_one, h]; rfl

theorem first_any (w : World) (v : Value) (f : Folder) (hf : Fo w v f) (hn : f.coders.length ≤ 100) (c : Nat) (hc : c ≤ 1000) :
    Calls Tryz.prog 19 #[v, .int .i64 c] w fun e w' => e = .returned (.int .i64 (f.first c)) ∧ Fr [] w w' := by
  obtain ⟨cv, b, p, s, h, k0, rfl, hV⟩ := hf
  obtain ⟨ao, cap, rfl, g, m, o⟩ := hV.co.out
  go_enter Tryz.func19, Tryz.ntmps19
  go_wp2_with fail
  go_loopw [5, 6] (fun at_ i wr => ∃ k : Nat, k ≤ c ∧ i = .int .i64 k ∧ at_ = .int .i64 (f.first k) ∧ k ≤ f.coders.length ∧ Fr [] (w.alloc (.cells #[.slice ao f.coders.length cap, b, p, s, h, k0] 37)) wr) (fun _ i _ => c - (intOf i).toNat)
  case atStart => exact ⟨0, Nat.zero_le _, rfl, rfl, Nat.zero_le _, Fr.refl _ _⟩
  case round =>
    obtain ⟨k, hk, rfl, rfl, hkn, F⟩ := hrel
    obtain ⟨d0, -, -, -, -, -⟩ := box6 F
    have hV' := hV.fr (((Fr.refl _ _).alloc _).trans0 F)
    by_cases hlt : k < c
    · by_cases hlt2 : k < f.coders.length
      · obtain ⟨x, hx⟩ := some_get f.coders k hlt2
        obtain ⟨ao', cap', e', -, -, o'⟩ := hV'.co.out
        injection e' with e1 e2 e3
        subst e1 e3
        obtain ⟨b1, o1, pv, rfl, -, c0, c1, -⟩ := o' k x hx
        have HX := Lib.hid (f.first_succ k x hx)
        have hle := f.first_le k
        generalize f.first k = s0 at *
        clear o o' hx hV hV' e2
        go_wp2_with (go_at_call 20; refine (ins_any _ _ _).mono ?_; rintro e w1 ⟨rfl, F1⟩)
        have := ins_le x.method
        go_wp2_with fail
        go_roundw
        case rel => exact ⟨k + 1, by omega, by go_num, by rw [HX.out]; exact congrArg _ (wrap_nat _ _ (by omega)), by omega, F.trans0 F1⟩
        case measure => simp [intOf]; omega
      · have HK := Lib.hid (show k = f.coders.length by omega)
        have HF := Lib.hid (f.first_min c (by omega))
        clear o hV hV'
        go_wp2_with fail
        go_ret
        exact ⟨by rw [HF.out, ← HK.out]; rfl, ((Fr.refl _ _).alloc _).trans0 F⟩
    · have HK := Lib.hid (show k = c by omega)
      clear o hV hV'
      go_wp2_with fail
      go_ret
      exact ⟨by rw [HK.out]; rfl, ((Fr.refl _ _).alloc _).trans0 F⟩

theorem index_any (w : World) (v : Value) (l : List Int) (hl : Sl w v (iv l)) (x : Int) :
    Calls Tryz.prog 36 #[v, .int .i64 x] w fun e w' => e = .returned (.int .i64 (fidx l x)) ∧ Same w w' := by
  obtain ⟨ao, cap, rfl, g, m, o⟩ := hl.out
  clear hl
  simp only [iv_length] at *
  go_enter Tryz.func36, Tryz.ntmps36
  go_wp2
  go_loopw [8] (fun i wr => ∃ k : Nat, k ≤ l.length ∧ i = .int .i64 k ∧ (l.take k).findIdx? (· == x) = none ∧ Same w wr) (fun i _ => l.length - (intOf i).toNat)
  case atStart => exact ⟨0, Nat.zero_le _, rfl, by simp, Same.refl w⟩
  case round =>
    obtain ⟨k, hk, rfl, htk, hsw⟩ := hrel
    by_cases hlt : k < l.length
    · obtain ⟨b1, of1, rfl, -, c1⟩ := o k hlt
      obtain ⟨y, hy⟩ := some_get l k hlt
      have d1 : wr.cell? ⟨b1, of1 + k, none⟩ = some (.int .i64 y) := by rw [hsw.cell, c1 k hlt, iv_get _ _ _ hy]
      have HT := Lib.hid htk
      have HY := Lib.hid hy
      clear o c1 htk hy
      by_cases hxy : y = x
      · subst hxy
        have HF := Lib.hid (show fidx l y = k by simp [fidx, find_at HY.out HT.out])
        go_wp2
        go_ret
        exact ⟨by rw [HF.out]; rfl, hsw⟩
      · have HF := Lib.hid (find_step HY.out HT.out hxy)
        have hb : (x == y) = false := by simp [Ne.symm hxy]
        clear hxy
        go_wp2
        go_roundw
        case rel => exact ⟨k + 1, by omega, by go_num, HF.out, hsw⟩
        case measure => simp [intOf]; omega
    · have HF := Lib.hid (show fidx l x = -1 by rw [List.take_of_length_le (by omega)] at htk; simp [fidx, htk])
      clear htk o
      go_wp2
      go_ret
      exact ⟨by rw [HF.out]; rfl, hsw⟩

/-- The first bind that a stream has, among the first k. -/
theorem from_any (w : World) (v : Value) (f : Folder) (hf : Fo w v f) (x : Int) :
    Calls Tryz.prog 21 #[v, .int .i64 x] w fun e w' => e = .returned (.tuple #[.int .i64 (f.from_ x).1, .int .i64 (f.from_ x).2]) ∧ Fr [] w w' := by
  obtain ⟨c, bv', p, s, h, k0, rfl, hV⟩ := hf
  obtain ⟨ao, cap, rfl, g, m, -⟩ := hV.bi.out
  go_enter Tryz.func21, Tryz.ntmps21
  go_wp2_with fail
  go_loopw [11] (fun i wr => ∃ k : Nat, k ≤ f.binds.length ∧ i = .int .i64 k ∧ (f.binds.take k).find? (fun y => y.1 == x) = none ∧ Fr [] (w.alloc (.cells #[c, .slice ao f.binds.length cap, p, s, h, k0] 37)) wr) (fun i _ => f.binds.length - (intOf i).toNat)
  case atStart => exact ⟨0, Nat.zero_le _, rfl, by simp, Fr.refl _ _⟩
  case round =>
    obtain ⟨k, hk, rfl, hfk, F⟩ := hrel
    obtain ⟨d0, d1, d2, d3, d4, d5⟩ := box6 F
    have hV' := hV.fr (((Fr.refl _ _).alloc _).trans0 F)
    by_cases hlt : k < f.binds.length
    · obtain ⟨y, hy⟩ := some_get f.binds k hlt
      obtain ⟨ao', cap', e', -, -, o'⟩ := hV'.bi.out
      injection e' with e1 e2 e3
      subst e1 e3
      obtain ⟨b1, o1, rfl, -, c0, c1⟩ := o' k y hy
      have HT := Lib.hid hfk
      have HY := Lib.hid hy
      clear o' hV hV' e2 hfk hy
      obtain ⟨y1, y2⟩ := y
      dsimp only at c0 c1
      by_cases hxy : y1 = x
      · subst hxy
        have HF := Lib.hid (show f.from_ y1 = (y2, -1) by
          have e : f.binds = f.binds.take k ++ f.binds.drop k := (List.take_append_drop k f.binds).symm
          have hk' : k < f.binds.length := hlt
          have e2 : f.binds.drop k = (y1, y2) :: f.binds.drop (k + 1) := by
            have := List.drop_eq_getElem_cons hk'
            rwa [(List.getElem?_eq_some_iff.1 HY.out).2] at this
          have : f.fromB y1 = some y2 := by unfold Folder.fromB; rw [e, List.find?_append, HT.out, e2]; simp
          simp [Folder.from_, this])
        go_wp2_with fail
        go_ret2
        exact ⟨by rw [HF.out]; rfl, (((Fr.refl _ _).alloc _).trans0 F).alloc _⟩
      · have HF := Lib.hid (show (f.binds.take (k + 1)).find? (fun y => y.1 == x) = none by
          rw [take_succ'' _ _ _ HY.out, List.find?_append, HT.out]; simp [hxy])
        have hb : (y1 == x) = false := by simp [hxy]
        clear hxy
        go_wp2_with fail
        go_roundw
        case rel => exact ⟨k + 1, by omega, by go_num, HF.out, F.alloc _⟩
        case measure => simp [intOf]; omega
    · have HF := Lib.hid (show f.from_ x = (-1, f.fromP x) by
        have : f.fromB x = none := by unfold Folder.fromB; rw [← List.take_of_length_le (l := f.binds) (i := k) (by omega), hfk]; rfl
        simp [Folder.from_, this])
      have hP := hV'.pa
      clear hfk hV hV'
      go_wp2_with (go_at_call 36; refine (index_any _ _ _ hP _).mono ?_; rintro e w1 ⟨rfl, F1⟩)
      go_wp2_with fail
      go_ret2
      exact ⟨by rw [HF.out]; rfl, (((Fr.refl _ _).alloc _).trans0 F).trans0 F1.fr⟩

theorem findIdx_lt {l : List Int} {x : Int} : fidx l x < l.length := by
  unfold fidx
  split
  · rename_i k h
    have := (List.findIdx?_eq_some_iff_findIdx_eq.1 h).1
    omega
  · omega

theorem info_int : (Tryz.prog.info? 3).map (fun i => (i.zero, i.size, i.bytes)) = some (some (.int .i64 0), 1, 8) := by kernel_rfl
theorem sty_int : SlTy Tryz.prog 31 3 (.int .i64 0) 8 := ⟨Tryz.underlying31, by obtain ⟨i, h⟩ := info_parts info_int; exact ⟨i, h⟩, rfl⟩

/-- A new slice of ints that the call itself has made. -/
def NewInts (l : List Int) (w : World) (e : Ending) (w' : World) : Prop :=
  ∃ r, e = .returned r ∧ w'.ownsRow w.heap.size 3 1 r l.length (iv l) ∧ Fr [] w w'

theorem feedersTo_succ (f : Folder) (c k : Nat) : f.feedersTo c (k + 1) = f.feedersTo c k ++ (if 0 ≤ (f.from_ ((f.first c + k : Nat) : Int)).1 then [(f.from_ ((f.first c + k : Nat) : Int)).1] else []) := by
  unfold Folder.feedersTo
  rw [List.range_succ, List.map_append, List.filter_append]
  congr 1
  by_cases h : 0 ≤ (f.from_ ((f.first c + k : Nat) : Int)).1
  · rw [if_pos h]; exact List.filter_cons_of_pos (by simpa using h)
  · rw [if_neg h]; exact List.filter_cons_of_neg (by simpa using h)

theorem feedersTo_len (f : Folder) (c k : Nat) : (f.feedersTo c k).length ≤ k := by
  unfold Folder.feedersTo
  exact Nat.le_trans (List.length_filter_le _ _) (by rw [List.length_map, List.length_range]; exact Nat.le_refl _)

theorem feeders_any (w : World) (v : Value) (f : Folder) (hf : Fo w v f) (hn : f.coders.length ≤ 100) (c : Nat) (hc : c < f.coders.length) :
    Calls Tryz.prog 35 #[v, .int .i64 c] w (NewInts (f.feeders c) w) := by
  have hf0 := hf
  obtain ⟨cv, bv', p, s, h, k0, rfl, hV⟩ := hf
  obtain ⟨ao, cap, rfl, g, m, o⟩ := hV.co.out
  obtain ⟨x, hx⟩ := some_get f.coders c hc
  obtain ⟨b1, o1, pv, rfl, hb1, hC⟩ := o c x hx
  have HE := Lib.hid (show f.feeders c = f.feedersTo c (ins x.method) by simp [Folder.feeders, Folder.insOf, hx])
  have HL := f.first_le c
  have HI := ins_le x.method
  clear o hx hV
  have F0 : Fr [] w (w.alloc (.cells #[.slice (some ⟨b1, o1, none⟩) f.coders.length cap, bv', p, s, h, k0] 37)) := (Fr.refl _ _).alloc _
  go_enter Tryz.func35, Tryz.ntmps35
  go_wp2_with (first
    | (go_at_call 19; refine (first_any _ _ f (hf0.fr F0) hn c (by omega)).mono ?_; rintro e w1 ⟨rfl, F1⟩; obtain ⟨d0, d1, d2, d3, d4, d5⟩ := box6 F1; obtain ⟨c0, c1, -⟩ := hC.fr hb1 (F0.trans0 F1))
    | (go_at_call 20; refine (ins_any _ _ _).mono ?_; rintro e w2 ⟨rfl, F2⟩; clear d0 d1 d2 d3 d4 d5 c0 c1; replace F1 := F1.trans0 F2; clear F2))
  generalize hm : f.first c = s0 at HL ⊢
  generalize ins x.method = n at HE HI ⊢
  have HM := Lib.hid hm
  clear hm
  go_loopw [5, 19] (fun out i wr => ∃ k : Nat, k ≤ n ∧ i = .int .i64 k ∧ wr.ownsRow (w.heap.size + 1) 3 1 out (f.feedersTo c k).length (iv (f.feedersTo c k)) ∧ Fr [] (w.alloc (.cells #[.slice (some ⟨b1, o1, none⟩) f.coders.length cap, bv', p, s, h, k0] 37)) wr) (fun _ i _ => n - (intOf i).toNat)
  case atStart => exact ⟨0, Nat.zero_le _, rfl, World.ownsRow_nil _ _ _ _, F1⟩
  case round =>
    obtain ⟨k, hk, rfl, hown, F⟩ := hrel
    obtain ⟨d0, d1, d2, d3, d4, d5⟩ := box6 F
    have hS := feedersTo_succ f c k
    have hL := feedersTo_len f c k
    rw [HM.out] at hS
    by_cases hlt : k < n
    · generalize hfr : f.from_ ((s0 + k : Nat) : Int) = r at hS
      obtain ⟨r1, r2⟩ := r
      by_cases hr : 0 ≤ r1
      · rw [if_pos hr] at hS
        have HS := Lib.hid hS
        have HF := Lib.hid hfr
        clear hS hfr
        go_wp2_with (first
          | (go_at_call 21; rw [show ((s0 : Int) + (k : Int)) = ((s0 + k : Nat) : Int) from (Int.natCast_add s0 k).symm]; refine (from_any _ _ f (hf0.fr (F0.trans0 F)) _).mono ?_; rw [HF.out]; dsimp only; rintro e w2 ⟨rfl, F2⟩; clear d0 d1 d2 d3 d4 d5; have hown2 := own_fr hown F2 (by simp); replace F := F.trans0 F2; clear F2)
          | (at_builtin; refine wpList_append_sl sty_int rfl _ _ (by rfl) (w.heap.size + 1) _ _ _ (by rfl) (hown2.alloc _) _ [.int .i64 r1] (by rfl) (sl_one _ _ _) (by intro u hu; simp at hu; subst hu; rfl) (by simp; omega) (by simp; omega) (by have := F0.size; have := F.size; simp; omega) ?_))
        intro v' w3 hown3 hg
        have F3 := (F.alloc _).grown hg (fun k hk => .inr (by have := (hown2.lt k hk).1; simp; omega))
        go_wp2_with fail
        go_roundw
        case rel => exact ⟨k + 1, by omega, by go_num, by rw [HS.out]; simp only [List.length_append, List.length_singleton, iv, List.map_append, List.map_cons, List.map_nil] at hown3 ⊢; exact hown3, F3⟩
        case measure => simp [intOf]; omega
      · rw [if_neg hr, List.append_nil] at hS
        have HS := Lib.hid hS
        have HF := Lib.hid hfr
        clear hS hfr
        go_wp2_with (first
          | (go_at_call 21; rw [show ((s0 : Int) + (k : Int)) = ((s0 + k : Nat) : Int) from (Int.natCast_add s0 k).symm]; refine (from_any _ _ f (hf0.fr (F0.trans0 F)) _).mono ?_; rw [HF.out]; dsimp only; rintro e w2 ⟨rfl, F2⟩; clear d0 d1 d2 d3 d4 d5; have hown2 := own_fr hown F2 (by simp); replace F := F.trans0 F2; clear F2))
        go_roundw
        case rel => exact ⟨k + 1, by omega, by go_num, by rw [HS.out]; exact hown2, F⟩
        case measure => simp [intOf]; omega
    · have hk2 : k = n := by omega
      subst hk2
      clear hS
      go_wp2_with fail
      go_ret
      exact ⟨_, rfl, by rw [HE.out]; exact own_mono hown (by omega), F0.trans0 F⟩
end Go.Proofs.YtfnblemlcjdnhaaGreat
