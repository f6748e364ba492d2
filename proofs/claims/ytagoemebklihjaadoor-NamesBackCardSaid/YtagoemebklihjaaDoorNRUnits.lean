/- Contract: the reference's Units. No condition but that lengths fit. -/
import Derived.Test.YtagoemebklihjaaDoorNUnits
import Derived.Test.YtagoemebklihjaaDoorNRunes
import Derived.Deep.RegionHeld3
namespace Go.Proofs.YtagoemebklihjaaDoor
open Go.RowKit

theorem runes_scal (n : Nat) : ∀ (l : List UInt8) (rs : List Nat), l.length ≤ n → runesL l = some rs → (∀ r ∈ rs, scal r) ∧ rs.length ≤ l.length := by
  induction n with
  | zero =>
    intro l rs hl h
    obtain rfl : l = [] := List.eq_nil_of_length_eq_zero (by omega)
    rw [runesL_nil] at h
    obtain rfl : [] = rs := Option.some.inj h
    exact ⟨by simp, by simp⟩
  | succ n ih =>
    intro l rs hl h
    by_cases h0 : l = []
    · subst h0
      rw [runesL_nil] at h
      obtain rfl : [] = rs := Option.some.inj h
      exact ⟨by simp, by simp⟩
    cases hs : stepL l with
    | none => rw [runesL_none h0 hs] at h; cases h
    | some r =>
      obtain ⟨v, k⟩ := r
      have hlen : 1 ≤ l.length := by cases l with | nil => exact absurd rfl h0 | cons x t => simp
      obtain ⟨e1, e2, e3, e4, e5⟩ := stepN_some _ _ _ _ _ v k hlen (bt_lt l 0) hs
      obtain ⟨hv, -, -⟩ := enc_step h0 hs
      rw [runesL_some h0 hs] at h
      obtain ⟨y, hy, rfl⟩ := Option.map_eq_some_iff.1 h
      obtain ⟨g1, g2⟩ := ih (l.drop k) y (by simp; omega) hy
      refine ⟨fun r hr => ?_, ?_⟩
      · rcases List.mem_cons.1 hr with rfl | hr
        · exact hv
        · exact g1 r hr
      · simp at g2 ⊢
        omega

theorem nvv_get {l : List Nat} {j x : Nat} (h : l[j]? = some x) : (nvv l)[j]? = some (.int .i64 (x : Int)) := by simp [nvv, h]

set_option maxRecDepth 100000 in
set_option maxHeartbeats 1000000 in
theorem runits_any (w : World) (l : List UInt8) (hl : l.length ≤ 100000) : Calls Tryd.prog 16 #[.string ⟨l.toArray⟩] w (UnitsR l w) := by
  have HL := Lib.hid hl
  go_enter Tryd.func16, Tryd.ntmps16
  go_wp2_with (go_at_call 23; refine (runes_any _ l HL.out).mono ?_; rintro e w1 (⟨rs, v, h1, rfl, hS, F1⟩ | ⟨h1, rfl, F1⟩))
  rotate_left
  · go_ret2
    exact .inr ⟨h1, rfl, F1⟩
  obtain ⟨hsc, hrl⟩ := runes_scal _ l rs (Nat.le_refl _) h1
  have HSc := Lib.hid hsc
  have HRL := Lib.hid hrl
  have HRS := Lib.hid h1
  obtain ⟨ao, cap, rfl, -, -, oc⟩ := (Sl.of_own hS).out
  simp only [nvv_len] at *
  have HO := Lib.hid oc
  clear hS oc hsc hrl h1 hl
  go_loopw [6, 7] (fun v i wr => ∃ k : Nat, k ≤ rs.length ∧ i = .int .i64 k ∧ (unitsR (rs.take k)).length ≤ 2 * k ∧ wr.ownsRow w1.heap.size 42 1 v (unitsR (rs.take k)).length (hv (unitsR (rs.take k))) ∧ Fr [] w1 wr) (fun _ i _ => rs.length - (intOf i).toNat)
  case atStart => exact ⟨0, Nat.zero_le _, rfl, by simp [unitsR], World.ownsRow_nil _ _ _ _, Fr.refl _ _⟩
  case round =>
    obtain ⟨k, hk, rfl, hul, own, F⟩ := hrel
    obtain ⟨vao, vcap, rfl, -⟩ := own_out own
    by_cases hlt : k < rs.length
    · obtain ⟨b, of, rfl, hb, hcl⟩ := HO.out k hlt
      obtain ⟨v, hv0⟩ := some_get rs k hlt
      have HCell := Lib.hid ((hcl k hlt).trans (nvv_get hv0))
      have c0 : wr.cell? ⟨b, of + k, none⟩ = some (.int .i64 (v : Int)) := (F.cell (p := ⟨b, of + k, none⟩) hb (by simp)).trans ((hcl k hlt).trans (nvv_get hv0))
      have hvs := HSc.out v (List.mem_of_getElem? hv0)
      have HUD := Lib.hid (show unitsR (rs.take (k + 1)) = unitsR (rs.take k) ++ unitsN v by rw [List.take_add_one, hv0, unitsR_app]; simp [unitsR_one])
      have HUL := Lib.hid hul
      have HLT := Lib.hid hlt
      have HOwn := Lib.hid own
      have hlt' : (k : Int) < (rs.length : Int) := by omega
      have hkI : (k : Int) ≤ 100000 := by have := HRL.out; have := HL.out; omega
      have HVM := Lib.hid (show v ≤ 1114111 by unfold scal at hvs; omega)
      clear hcl hv0 hvs hul hlt own hk
      generalize rs.take k = done at *
      by_cases h1 : v < 65536
      · have h1' : decide ((v : Int) < 65536) = true := decide_eq_true (by omega)
        have e4 : IntKind.u16.wrap (v : Int) = (v : Int) := IntWalk.u16_in _ (by omega)
        have HUN := Lib.hid (show unitsN v = [v] by unfold unitsN; rw [if_pos h1])
        clear h1
        go_wp2_with (at_builtin; refine wpList_append_sl sty_u16 rfl _ _ (by rfl) w1.heap.size _ _ _ (by rfl) (HOwn.out.alloc _) _ [.int .u16 v] (by rfl) (sl_one _ _ _) (by intro u hu; simp at hu; subst hu; rfl) (by have := HUL.out; have := HLT.out; have := HRL.out; have := HL.out; simp; omega) (by have := HUL.out; have := HLT.out; have := HRL.out; have := HL.out; simp; omega) (by have := F.size; simp; omega) ?_)
        intro v2 w4 own4 g4
        obtain ⟨vao2, vcap2, rfl, -⟩ := own_out own4
        have HF4 := Lib.hid (show Fr [] w1 w4 from (F.alloc _).grown g4 (fun t ht => .inr (HOwn.out.lt t ht).1))
        have HOwn4 := Lib.hid own4
        clear own4 g4 e4
        go_wp2_with fail
        go_roundw
        case rel => exact ⟨k + 1, by have := HLT.out; omega, by go_num, by rw [HUD.out, HUN.out]; have := HUL.out; simp; omega, by rw [HUD.out, HUN.out, hv_app, List.length_append]; exact HOwn4.out, HF4.out⟩
        case measure => have := HLT.out; simp [intOf]; omega
      · have h1' : decide ((v : Int) < 65536) = false := decide_eq_false (by omega)
        have HV := Lib.hid h1
        clear h1
        go_upto_region 10 with fail
        have h1 := HV.out
        clear h1'
        obtain ⟨x, hx⟩ : ∃ x, v = 65536 + x := ⟨v - 65536, by omega⟩
        have hx2 : x < 1048576 := by have := HVM.out; omega
        obtain ⟨a, ha⟩ : ∃ a, a = 55296 + x / 1024 := ⟨_, rfl⟩
        obtain ⟨c, hc⟩ : ∃ c, c = 56320 + x % 1024 := ⟨_, rfl⟩
        have HX := Lib.hid (show unitsN v = [a, c] by unfold unitsN; rw [if_neg h1, ha, hc, hx]; simp)
        have e1 : IntKind.i64.wrap ((v : Int) - 65536) = (x : Int) := by rw [hx, IntWalk.i64_in _ (by omega)]; omega
        have e2 : IntKind.u16.wrap (IntKind.i64.wrap (55296 + IntKind.i64.wrap ((x : Int) / 1024))) = (a : Int) := by
          rw [IntWalk.i64_in ((x : Int) / 1024) (by omega), IntWalk.i64_in _ (by omega), IntWalk.u16_in _ (by omega), ha]
          omega
        have e3 : IntKind.u16.wrap (IntKind.i64.wrap (56320 + ((x : Int)).tmod 1024)) = (c : Int) := by
          rw [Int.tmod_eq_emod_of_nonneg (by omega), IntWalk.i64_in _ (by omega), IntWalk.u16_in _ (by omega), hc]
          omega
        clear h1 hx hx2 ha hc
        go_region_held3 (fun w' => w'.cell? ⟨b, of + k, none⟩ = some (.int .i64 (v : Int))) (first | go_keep | (simp [go_sem, *]))
          (first | (refine step_append_sl sty_u16 rfl _ _ (by rfl) w1.heap.size _ _ _ (by rfl) (own_fr HOwn.out ((Fr.refl [] wr).alloc _).drew (by simp)) _ [.int .u16 a, .int .u16 c] (by rfl) (sl_lit _ _ [.int .u16 a, .int .u16 c] 2 rfl (by decide)) (by intro u hu; simp at hu; rcases hu with rfl | rfl <;> rfl) (by have := HUL.out; have := HLT.out; have := HRL.out; have := HL.out; simp; omega) (by have := HUL.out; have := HLT.out; have := HRL.out; have := HL.out; simp; omega) (by have := F.size; simp; omega) ?_; intro v2 w4 own4 g4; have HF4 := Lib.hid (show Fr [] w1 w4 from (F.alloc _).drew.grown g4 (fun t ht => .inr (HOwn.out.lt t ht).1)); have k0 := (HF4.out.cell (p := ⟨b, of + k, none⟩) hb (by simp)).trans (HCell.out)))
        obtain ⟨vao2, vcap2, rfl, -⟩ := own_out own4
        have HOwn4 := Lib.hid own4
        clear own4 g4 e1 e2 e3
        go_wp2_with fail
        go_roundw
        case rel => exact ⟨k + 1, by have := HLT.out; omega, by go_num, by rw [HUD.out, HX.out]; have := HUL.out; simp; omega, by rw [HUD.out, HX.out, hv_app, List.length_append]; exact HOwn4.out, HF4.out⟩
        case measure => have := HLT.out; simp [intOf]; omega
    · have hke : k = rs.length := by omega
      subst hke
      rw [List.take_length] at own
      have HSl := Lib.hid (Sl.of_own own)
      clear own hul
      go_wp2_with fail
      go_ret2
      exact .inl ⟨_, rs, HRS.out, rfl, by rw [List.take_length] at *; exact HSl.out, F1.trans0 F⟩
end Go.Proofs.YtagoemebklihjaaDoor
