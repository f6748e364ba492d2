/- Contract: header.Main, of a folder whose binds name no coder twice. No condition but that lengths fit. -/
import Derived.Test.YtfnblemlcjdnhaaGreatGNamed
namespace Go.Proofs.YtfnblemlcjdnhaaGreat
open Go.RowKit Go.Maps

/-- The least coder that nothing is bound to. -/
def mainIdx (f : Folder) : Option Nat := (List.range f.coders.length).find? fun i => decide ((i : Int) ∉ f.binds.map (·.2))
def mainOf (f : Folder) : Int := match mainIdx f with | some i => (i : Int) | none => -1

theorem main_any (w : World) (v : Value) (f : Folder) (hf : Fo w v f) (hn : f.coders.length ≤ 100) (hb : f.binds.length ≤ 100) (hout : ∀ b ∈ f.binds, 0 ≤ b.2 ∧ b.2 < (f.coders.length : Int)) (hnd : (f.binds.map (·.2)).Nodup) :
    Calls Tryz.prog 24 #[v] w fun e w' => e = .returned (.int .i64 (mainOf f)) ∧ Fr [] w w' := by
  obtain ⟨cv, bv', p, s, h, k0, rfl, hV⟩ := hf
  obtain ⟨ao, cap, rfl, -, -, -⟩ := hV.co.out
  obtain ⟨aob, capb, rfl, -, -, o⟩ := hV.bi.out
  have HO := Lib.hid hout
  have HD := Lib.hid hnd
  clear hV hout hnd
  obtain ⟨wB, hwB⟩ : ∃ wB, wB = w.alloc (.cells #[.slice ao f.coders.length cap, .slice aob f.binds.length capb, p, s, h, k0] 37) := ⟨_, rfl⟩
  have F0 : Fr [] w wB := hwB ▸ (Fr.refl _ _).alloc _
  have sB : wB.heap.size = w.heap.size + 1 := by rw [hwB]; simp
  have HBX := Lib.hid (fun wx (F : Fr [] wB wx) => box6 (hwB ▸ F : Fr [] (w.alloc (.cells #[.slice ao f.coders.length cap, .slice aob f.binds.length capb, p, s, h, k0] 37)) wx))
  have hmm := @run_makeMap Tryz.prog
  go_enter Tryz.func24, Tryz.ntmps24
  go_wp2_with fail
  clear hmm
  rw [← hwB]
  clear hwB
  go_loopw [11] (fun i wr => ∃ k : Nat, k ≤ f.binds.length ∧ i = .int .i64 k ∧ BSet wr (w.heap.size + 1) ((f.binds.map (·.2)).take k) ∧ Fr [] wB wr) (fun i _ => f.binds.length - (intOf i).toNat)
  case atStart =>
    refine ⟨0, Nat.zero_le _, rfl, ?_, (Fr.refl _ _).alloc _⟩
    have m1 := BSet.made wB
    rw [sB] at m1
    simpa using m1
  case round =>
    obtain ⟨k, hk, rfl, S1, F⟩ := hrel
    obtain ⟨d0, d1, d2, d3, d4, d5⟩ := HBX.out _ F
    by_cases hlt : k < f.binds.length
    · obtain ⟨y, hy⟩ := some_get f.binds k hlt
      obtain ⟨b1, o1, rfl, hb1, e0, e1⟩ := o k y hy
      have c0 := ((F0.trans0 F).cell (p := ⟨b1, o1 + k * 2, none⟩) hb1 (by simp)).trans e0
      have c1 := ((F0.trans0 F).cell (p := ⟨b1, o1 + k * 2 + 1, none⟩) hb1 (by simp)).trans e1
      have hy2 : (f.binds.map (·.2))[k]? = some y.2 := by simp [hy]
      have hbo := HO.out y (List.mem_of_getElem? hy)
      have HT := Lib.hid (take_succ3 _ _ _ hy2)
      have HNM := Lib.hid (fun hm => nodup_at hy2 hm HD.out)
      have HL := Lib.hid (show ((f.binds.map (·.2)).take k).length ≤ 1000000 by simp; omega)
      clear o hy hy2 e0 e1
      obtain ⟨y1, y2⟩ := y
      dsimp only at c0 c1 hbo HT HNM
      go_wp2_with (at_mapUpdate; refine wpList_bset rfl _ _ _ rfl rfl (S1.alloc _) (by rfl) (by rfl) HNM.out hbo.1 (by omega) HL.out ?_)
      intro w3 T3 g3
      have F3 := (F.alloc (.cells #[.int .i64 y1, .int .i64 y2] 58)).grown g3 (fun k hk => .inr (by cases hk; omega))
      rw [← HT.out] at T3
      go_wp2_with fail
      go_roundw
      case rel => exact ⟨k + 1, by omega, by go_num, T3, F3⟩
      case measure => simp [intOf]; omega
    · rw [List.take_of_length_le (by simp; omega)] at S1
      clear o hk
      go_wp2_with fail
      clear hlt d0 d1 d2 d3 d4 d5
      go_loopw [22] (fun i w5 => ∃ k : Nat, k ≤ f.coders.length ∧ i = .int .i64 k ∧ (∀ j, j < k → (j : Int) ∈ f.binds.map (·.2)) ∧ w5 = wr) (fun i _ => f.coders.length - (intOf i).toNat)
      case atStart => exact ⟨0, Nat.zero_le _, rfl, fun _ h => by omega, rfl⟩
      case round =>
        obtain ⟨k, hk, rfl, hA, hw⟩ := hrel
        subst hw
        by_cases hlt : k < f.coders.length
        · have L := S1.look (x := (k : Int)) (by omega) (by omega)
          have HA := Lib.hid hA
          clear hA
          by_cases hm : (k : Int) ∈ f.binds.map (·.2)
          · have HA2 := Lib.hid (show ∀ j, j < k + 1 → (j : Int) ∈ f.binds.map (·.2) from fun j hj => by
              by_cases e : j = k
              · rw [e]; exact hm
              · exact HA.out j (by omega))
            simp only [hm, decide_true] at L
            clear hm
            go_wp2_with fail
            go_roundw
            case rel => exact ⟨k + 1, by omega, by go_num, HA2.out, by trivial⟩
            case measure => simp [intOf]; omega
          · have HE := Lib.hid (show mainOf f = (k : Int) by
              have e : mainIdx f = some k := by
                unfold mainIdx
                rw [List.find?_range_eq_some]
                refine ⟨by simpa using hm, by simpa using hlt, fun j hj => ?_⟩
                simpa using HA.out j hj
              unfold mainOf
              rw [e])
            simp only [hm, decide_false] at L
            clear hm
            go_wp2_with fail
            go_ret
            exact ⟨by rw [HE.out]; rfl, F0.trans0 F⟩
        · have HE := Lib.hid (show mainOf f = -1 by
            have e : mainIdx f = none := by
              unfold mainIdx
              rw [List.find?_eq_none]
              intro i hi
              rw [List.mem_range] at hi
              simpa using hA i (by omega)
            unfold mainOf
            rw [e])
          clear hA
          go_wp2_with fail
          go_ret
          exact ⟨by rw [HE.out]; rfl, F0.trans0 F⟩
end Go.Proofs.YtfnblemlcjdnhaaGreat
