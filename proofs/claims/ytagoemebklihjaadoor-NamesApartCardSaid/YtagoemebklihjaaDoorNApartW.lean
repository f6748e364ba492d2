/- The law NamesApart: the walk. No condition but what the package variables hold. -/
import Derived.Test.YtagoemebklihjaaDoorNPair
import Derived.Test.YtagoemebklihjaaDoorNRApart
import Derived.Test.YtagoemebklihjaaDoorNAwake
namespace Go.Proofs.YtagoemebklihjaaDoor
open Go.RowKit

set_option maxRecDepth 100000 in
set_option maxHeartbeats 2000000 in
theorem walk_NamesApart (w : World) (v : Value) (l : List Nm) (hG : Gl w) (hv : Nms w v l) :
    Calls Tryd.prog 5 #[v] w fun e w' => e = .returned (.bool true) ∧ Fr [] w w' := by
  have HG := Lib.hid hG
  have HV := Lib.hid hv
  obtain ⟨ao, cap, rfl, hcap, hc⟩ := hv
  have HC := Lib.hid hc
  clear hG hc
  obtain ⟨n, hn⟩ : ∃ n, l.length = n := ⟨_, rfl⟩
  rw [hn] at hcap HV ⊢
  have HN := Lib.hid hn
  clear hn
  by_cases hl : 60 < n
  · have a1 : (60 : Int) < (n : Int) := by omega
    clear hl
    go_enter Tryd.func5, Tryd.ntmps5
    go_wp2_with (go_at_call 9; refine (awake_any _ HG.out).mono ?_; rintro e w1 ⟨rfl, F1⟩)
    go_ret
    exact ⟨rfl, F1⟩
  have a1 : (n : Int) ≤ 60 := by omega
  have HL := Lib.hid (show n ≤ 100 by omega)
  clear hl
  go_enter Tryd.func5, Tryd.ntmps5
  go_wp2_with (go_at_call 9; refine (awake_any _ HG.out).mono ?_; rintro e w1 ⟨rfl, F1⟩)
  go_loopw [3, 4] (fun v i wr => ∃ k : Nat, k ≤ n ∧ i = .int .i64 ((k : Int) - 1) ∧ (∀ m ∈ l.drop k, m.path.length ≤ 1200) ∧ wr.ownsRow w1.heap.size 31 2 v (n - k) (nmV (l.drop k).reverse) ∧ Fr [] w1 wr) (fun _ i _ => (intOf i + 1).toNat)
  case atStart => exact ⟨n, Nat.le_refl _, rfl, by rw [List.drop_of_length_le (by rw [HN.out]; exact Nat.le_refl _)]; simp, by rw [List.drop_of_length_le (by rw [HN.out]; exact Nat.le_refl _), Nat.sub_self]; exact World.ownsRow_nil _ _ _ _, Fr.refl _ _⟩
  case round =>
    obtain ⟨k, hk, rfl, hall, own, F⟩ := hrel
    obtain ⟨vao, vcap, rfl, -⟩ := own_outS own
    have HOwn := Lib.hid own
    have HAll := Lib.hid hall
    clear own hall
    cases k with
    | succ j =>
      obtain ⟨m, hm⟩ := some_get l j (by rw [HN.out]; omega)
      obtain ⟨b, o, rfl, hb, c0, c1⟩ := HC.out j m hm
      have HX4 := Lib.hid (fun wz (FZ : Fr [] w wz) => show wz.cell? ⟨b, o + j * 2, none⟩ = some (.string ⟨m.path.toArray⟩) ∧ wz.cell? ⟨b, o + j * 2 + 1, none⟩ = some (.bool m.dir) from
        ⟨(FZ.cell (p := ⟨b, o + j * 2, none⟩) hb (by simp)).trans c0, (FZ.cell (p := ⟨b, o + j * 2 + 1, none⟩) hb (by simp)).trans c1⟩)
      obtain ⟨d0, d1⟩ := HX4.out _ (F1.trans0 F)
      have hltI : (j : Int) < (n : Int) := by omega
      have hj0 : (0 : Int) ≤ (j : Int) := by omega
      have ej : (((j + 1 : Nat) : Int) - 1) = (j : Int) := by omega
      rw [ej]
      clear ej c0 c1
      have HD := Lib.hid (show l.drop j = m :: l.drop (j + 1) by
        rw [List.drop_eq_getElem_cons (by rw [HN.out]; omega), (List.getElem?_eq_some_iff.1 hm).2])
      clear hm
      by_cases hp : 1200 < m.path.length
      · have hpI : (1200 : Int) < (m.path.length : Int) := by omega
        clear hp
        go_wp2_with fail
        go_ret
        exact ⟨rfl, F1.trans0 F⟩
      have hpI : (m.path.length : Int) ≤ 1200 := by omega
      have HAll2 := Lib.hid (show ∀ x ∈ l.drop j, x.path.length ≤ 1200 by
        rw [HD.out]
        intro x hx
        rcases List.mem_cons.1 hx with rfl | hx
        · omega
        · exact HAll.out x hx)
      clear hp
      have hA : Fr [] w1 (wr.alloc (.cells #[.string ⟨m.path.toArray⟩, .bool m.dir] 31)) := F.alloc _
      have HF4 := Lib.hid hA
      have HS4 := Lib.hid (heap_alloc_new wr (.cells #[.string ⟨m.path.toArray⟩, .bool m.dir] 31))
      have HO4 := Lib.hid (own_frS HOwn.out ((Fr.refl [] wr).alloc (.cells #[.string ⟨m.path.toArray⟩, .bool m.dir] 31)) (by simp))
      clear hA
      go_wp2_with (at_builtin; refine wpList_append_pair sty_nm rfl _ _ (by rfl) w1.heap.size _ _ _ (by rfl) HO4.out _ _ _ (by rfl) HS4.out (by rfl) (by rfl) (by omega) (by decide) HF4.out.size ?_; intro v2 w4 own4 g4; obtain ⟨vao2, vcap2, rfl, -⟩ := own_outS own4; have F4 : Fr [] w1 w4 := HF4.out.grown g4 (fun t ht => .inr (own_ltS HO4.out t ht).1))
      go_roundw
      case rel => exact ⟨j, by omega, rfl, HAll2.out, by
        have e : n - (j + 1) + 1 = n - j := by omega
        rw [e] at own4 ⊢
        rw [HD.out, List.reverse_cons, nmV_append]
        exact own4, F4⟩
      case measure => simp [intOf]
    | zero =>
      have HAll2 := Lib.hid (show ∀ x ∈ l, x.path.length ≤ 100000 from fun x hx => Nat.le_trans (HAll.out x (by simpa using hx)) (by decide))
      have HAll3 := Lib.hid (show ∀ x ∈ l.reverse, x.path.length ≤ 100000 from fun x hx => HAll2.out x (by simpa using hx))
      have HLL := Lib.hid (show l.length ≤ 100 by rw [HN.out]; exact HL.out)
      have HLR := Lib.hid (show l.reverse.length ≤ 100 by rw [List.length_reverse]; exact HLL.out)
      have HVF := Lib.hid (HV.out.fr (F1.trans0 F))
      have HNB := Lib.hid (nms_of_own l.reverse (by rw [List.length_reverse, HN.out]) (by have := HOwn.out; rwa [List.drop_zero] at this))
      have HG1 := Lib.hid (HG.out.fr (F1.trans0 F))
      have HE1 := Lib.hid (apart_eq l)
      have HE2 := Lib.hid (show apartL l.reverse = apartN l by rw [apart_eq, apartN_rev])
      go_wp2_with (first
        | (go_at_call 13; refine (rapart_any _ _ l HVF.out HLL.out HAll2.out).mono ?_; rintro e w5 ⟨rfl, F5⟩)
        | (have hq := F6; go_at_call 14; refine (apart_any _ _ l.reverse (HG1.out.fr F6) (HNB.out.fr F6) HLR.out HAll3.out).mono ?_; rw [HE2.out]; rintro e w7 ⟨rfl, F7⟩; have F7 := F6.trans0 F7)
        | (go_at_call 14; refine (apart_any _ _ l (HG1.out.fr F5) (HVF.out.fr F5) HLL.out HAll2.out).mono ?_; rw [HE1.out]; rintro e w6 ⟨rfl, F6⟩; have F6 := F5.trans0 F6))
      go_ret
      exact ⟨rfl, (F1.trans0 F).trans0 F7⟩
end Go.Proofs.YtagoemebklihjaaDoor
