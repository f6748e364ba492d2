/- Contract: the reference's runes. No condition but that lengths fit. -/
import Derived.Test.YtkodindajfdagaaDoorGAI
import Derived.Test.YtkodindajfdagaaDoorGAF
namespace Go.Proofs.YtkodindajfdagaaDoor
open Go.RowKit

theorem get_ba {l : List UInt8} {i : Nat} {x : UInt8} (h : l[i]? = some x) : ∀ hh, ((⟨l.toArray⟩ : ByteArray)[i]'hh) = x := fun _ => by
  have hi : i < l.length := (List.getElem?_eq_some_iff.1 h).1
  have := (List.getElem?_eq_some_iff.1 h).2
  show l.toArray[i]'(by simpa using hi) = x
  simpa using this
theorem bt_at (l : List UInt8) (pos j : Nat) (x : UInt8) (h : l[pos + j]? = some x) : bt (l.drop pos) j = x.toNat := by
  unfold bt
  rw [List.getD_eq_getElem?_getD, List.getElem?_drop, h]
  rfl
theorem info_intN : (Tryd.prog.info? 3).map (fun i => (i.zero, i.size, i.bytes)) = some (some (.int .i64 0), 1, 8) := by kernel_rfl
theorem sty_intN : SlTy Tryd.prog 42 3 (.int .i64 0) 8 := ⟨Tryd.underlying42, by obtain ⟨i, h⟩ := info_parts info_intN; exact ⟨i, h⟩, rfl⟩
def nvv (rs : List Nat) : List Value := rs.map fun (k : Nat) => .int .i64 (k : Int)
theorem nvv_snoc (rs : List Nat) (v : Nat) : nvv (rs ++ [v]) = nvv rs ++ [.int .i64 (v : Int)] := by simp [nvv]
theorem nvv_len (rs : List Nat) : (nvv rs).length = rs.length := by simp [nvv]

/-- What runes answers. -/
def RunesR (l : List UInt8) (w : World) (e : Ending) (w' : World) : Prop :=
  (∃ rs v, runesL l = some rs ∧ e = .returned (.tuple #[v, .bool true]) ∧ w'.ownsRow w.heap.size 3 1 v rs.length (nvv rs) ∧ Fr [] w w') ∨
    (runesL l = none ∧ e = .returned (.tuple #[.slice none 0 0, .bool false]) ∧ Fr [] w w')

theorem map_map_app (o : Option (List Nat)) (rs : List Nat) (v : Nat) : (o.map (v :: ·)).map (rs ++ ·) = o.map ((rs ++ [v]) ++ ·) := by
  cases o <;> simp

set_option maxRecDepth 100000 in
set_option maxHeartbeats 8000000 in
theorem runes_any (w : World) (l : List UInt8) (hl : l.length ≤ 100000) : Calls Tryd.prog 46 #[.string ⟨l.toArray⟩] w (RunesR l w) := by
  go_enter Tryd.func46, Tryd.ntmps46
  go_wp2_with fail
  obtain ⟨n, hn⟩ : ∃ n, l.length = n := ⟨_, rfl⟩
  have HN := Lib.hid hn
  rw [hn] at hl
  have hlen : (l.length : Int) = (n : Int) := by rw [hn]
  clear hn
  go_loopw [4, 5] (fun v iv' wr => ∃ (i : Nat) (rs : List Nat), i ≤ n ∧ iv' = .int .i64 i ∧ rs.length ≤ i ∧ runesL l = (runesL (l.drop i)).map (rs ++ ·) ∧ wr.ownsRow w.heap.size 3 1 v rs.length (nvv rs) ∧ Fr [] w wr) (fun _ iv' _ => n - (intOf iv').toNat)
  case atStart => exact ⟨0, [], Nat.zero_le _, rfl, Nat.le_refl _, by simp, World.ownsRow_nil _ _ _ _, Fr.refl _ _⟩
  case round =>
    obtain ⟨i, rs, hi, rfl, hrl, hru, own, F⟩ := hrel
    obtain ⟨vao, vcap, rfl, -⟩ := own_out own
    by_cases hlt : i < n
    rotate_left
    · have hie : i = n := by omega
      subst hie
      have HE := Lib.hid (show runesL l = some rs by rw [hru, List.drop_of_length_le (by rw [HN.out]; exact Nat.le_refl _)]; simp [runesL_nil])
      have HOwn := Lib.hid own
      clear hru own
      go_wp2_with fail
      go_ret2
      exact .inl ⟨rs, _, HE.out, rfl, HOwn.out, F⟩
    have hlt' : (i : Int) < (n : Int) := by omega
    obtain ⟨x, hx⟩ := some_get l i (by rw [HN.out]; exact hlt)
    obtain ⟨d, hd⟩ : ∃ d, l.drop i = d := ⟨_, rfl⟩
    have hd0 : d ≠ [] := by
      intro e
      have := congrArg List.length hd
      rw [e] at this
      simp [HN.out] at this
      omega
    have HDL := Lib.hid (show d.length = n - i by rw [← hd]; simp [HN.out])
    have HB0 := Lib.hid (show bt d 0 = x.toNat by rw [← hd]; exact bt_at l i 0 x (by simpa using hx))
    have HNone := Lib.hid (show stepL d = none → runesL l = none from fun h => by rw [hru, hd, runesL_none hd0 h]; rfl)
    have HSome := Lib.hid (show ∀ v k, stepL d = some (v, k) → runesL l = (runesL (l.drop (i + k))).map ((rs ++ [v]) ++ ·) from fun v k h => by rw [hru, hd, runesL_some hd0 h, map_map_app, ← List.drop_drop, hd])
    have HG := Lib.hid (show ∀ k, k < d.length → ∃ y, l[i + k]? = some y ∧ bt d k = y.toNat from fun k hk => by
      obtain ⟨y, hy⟩ := some_get l (i + k) (by rw [HN.out]; have := HDL.out; omega)
      exact ⟨y, hy, by rw [← hd]; exact bt_at l i k y hy⟩)
    have hg0 := get_ba hx
    have hxl : (x.toNat : Int) < 256 := by have := x.toNat_lt; omega
    have HOwn := Lib.hid own
    have HRL := Lib.hid (show rs.length ≤ 100000 by omega)
    clear hru hd hd0 hx own
    have tw : wrap64 (x.toNat : Int) = (x.toNat : Int) := by unfold wrap64; omega
    by_cases hasc : x.toNat < 128
    · have HS := Lib.hid (show stepL d = some (x.toNat, 1) by unfold stepL stepN; rw [HB0.out, if_pos hasc])
      have a1 : (x.toNat : Int) < 128 := by omega
      clear hasc
      go_wp2_with (at_builtin; refine wpList_append_sl sty_intN rfl _ _ (by rfl) w.heap.size _ _ _ (by rfl) (HOwn.out.alloc _) _ [.int .i64 ((x.toNat : Int))] (by rfl) (sl_one _ _ _) (by intro u hu; simp at hu; subst hu; rfl) (by have := HRL.out; simp; omega) (by have := HRL.out; simp; omega) (by have := F.size; simp; omega) ?_)
      intro v2 w2 own2 g2
      have F2 : Fr [] w w2 := (F.alloc _).grown g2 (fun j hj => .inr (HOwn.out.lt j hj).1)
      obtain ⟨vao2, vcap2, rfl, -⟩ := own_out own2
      go_wp2_with fail
      go_roundw
      case rel => exact ⟨i + 1, rs ++ [x.toNat], by omega, by go_num, by simp; omega, HSome.out _ _ HS.out, by rw [nvv_snoc, List.length_append]; exact own2, F2⟩
      case measure => simp [intOf]; omega
    by_cases hout : x.toNat < 194 ∨ 244 < x.toNat
    · have HR := Lib.hid (HNone.out (show stepL d = none by unfold stepL stepN; rw [HB0.out, if_neg hasc, if_pos hout]))
      have a1 : (128 : Int) ≤ (x.toNat : Int) := by omega
      rcases (show x.toNat < 194 ∨ (194 ≤ x.toNat ∧ 244 < x.toNat) by omega) with h1 | ⟨h1, h2⟩
      · have a2 : (x.toNat : Int) < 194 := by omega
        clear hasc hout h1
        go_wp2_with fail
        go_ret2
        exact .inr ⟨HR.out, rfl, F⟩
      · have a2 : (194 : Int) ≤ (x.toNat : Int) := by omega
        have a3 : (244 : Int) < (x.toNat : Int) := by omega
        clear hasc hout h1 h2
        go_wp2_with fail
        go_ret2
        exact .inr ⟨HR.out, rfl, F⟩
    have a1 : (194 : Int) ≤ (x.toNat : Int) := by omega
    have a2 : (x.toNat : Int) ≤ 244 := by omega
    clear hasc
    rcases (show (x.toNat < 208) ∨ (208 ≤ x.toNat ∧ x.toNat < 224) ∨ (224 ≤ x.toNat ∧ x.toNat < 240) ∨ 240 ≤ x.toNat by omega) with h1 | ⟨h1, h1b⟩ | ⟨h1, h1b⟩ | h1
    · have HC := Lib.hid (show Cls d 2 (x.toNat - 192) 128 by have := cls2 d (by rw [HB0.out]; omega) (by rw [HB0.out]; omega); rwa [HB0.out] at this)
      have f0 : (x.toNat : Int) < 208 := by omega
      have HU := Lib.hid (uAt_le (x.toNat - 192) d (by omega))
      clear h1 
      by_cases hsh : n < i + 2
      · have HR := Lib.hid (HNone.out (HC.out.short (by rw [HDL.out]; omega)))
        have s1 : (n : Int) < (i : Int) + 2 := by omega
        clear hsh
        go_wp2_with fail
        go_ret2
        exact .inr ⟨HR.out, rfl, F⟩
      have s1 : (i : Int) + 2 ≤ (n : Int) := by omega
      have HLen := Lib.hid (show 2 ≤ d.length by rw [HDL.out]; omega)
      clear hsh
      go_wp2_with fail
      have hv0 : ((x.toNat : Int) - 192) = ((uAt (x.toNat - 192) d 0 : Nat) : Int) := by show _ = ((x.toNat - 192 : Nat) : Int); omega
      rw [hv0]
      clear hg0
      go_loopw [7, 9] (fun vv kk wq => ∃ k : Nat, 1 ≤ k ∧ k ≤ 2 ∧ kk = .int .i64 k ∧ vv = .int .i64 ((uAt (x.toNat - 192) d (k - 1) : Nat) : Int) ∧ (∀ j, 1 ≤ j → j < k → ¬ badB (bt d j)) ∧ wq = wr) (fun _ kk _ => 2 - (intOf kk).toNat)
      case atStart => exact ⟨1, Nat.le_refl _, by omega, rfl, rfl, fun j h1 h2 => by omega, by trivial⟩
      case round =>
        obtain ⟨k, hk1, hk2, rfl, rfl, hgood, rfl⟩ := hrel
        by_cases hkn : k < 2
        · obtain ⟨y, hy, hby⟩ := HG.out k (by have := HLen.out; omega)
          have hgy := get_ba hy
          have hyl : (y.toNat : Int) < 256 := by have := y.toNat_lt; omega
          have twy : wrap64 (y.toNat : Int) = (y.toNat : Int) := by unfold wrap64; omega
          have hkI : (k : Int) < 2 := by omega
          have hik : (i : Int) + (k : Int) < (n : Int) := by omega
          have HBY := Lib.hid hby
          have HGood := Lib.hid hgood
          obtain ⟨U, hU⟩ : ∃ U, uAt (x.toNat - 192) d (k - 1) = U := ⟨_, rfl⟩
          have hUb : (U : Int) ≤ 1000000 := by
            have := HU.out
            rw [← hU]
            rcases (show k - 1 = 0 ∨ k - 1 = 1 ∨ k - 1 = 2 by omega) with e | e | e <;> rw [e] <;> omega
          have HU2 := Lib.hid (show uAt (x.toNat - 192) d k = U * 64 + (y.toNat - 128) by
            obtain ⟨k0, rfl⟩ : ∃ k0, k = k0 + 1 := ⟨k - 1, by omega⟩
            rw [← hU, ← hby]
            rfl)
          rw [hU]
          clear hy hby hgood hU
          by_cases hb : badB y.toNat
          · have HR := Lib.hid (HNone.out (HC.out.bad k HLen.out hk1 hkn (by rw [HBY.out]; exact hb)))
            unfold badB at hb
            rcases (show y.toNat < 128 ∨ (128 ≤ y.toNat ∧ 191 < y.toNat) by omega) with h1 | ⟨h1, h2⟩
            · have b1 : (y.toNat : Int) < 128 := by omega
              clear hb h1
              go_wp2_with fail
              go_ret2
              exact .inr ⟨HR.out, rfl, F⟩
            · have b1 : (128 : Int) ≤ (y.toNat : Int) := by omega
              have b2 : (191 : Int) < (y.toNat : Int) := by omega
              clear hb h1 h2
              go_wp2_with fail
              go_ret2
              exact .inr ⟨HR.out, rfl, F⟩
          · have HNB := Lib.hid hb
            unfold badB at hb
            have b1 : (128 : Int) ≤ (y.toNat : Int) := by omega
            have b2 : (y.toNat : Int) ≤ 191 := by omega
            clear hb
            go_wp2_with fail
            go_roundw
            case rel =>
              refine ⟨k + 1, by omega, by omega, by go_num, ?_, fun j h1 h2 => ?_, by trivial⟩
              · rw [show k + 1 - 1 = k from by omega, HU2.out]
                congr 1
                omega
              · by_cases hjk : j = k
                · subst hjk
                  rw [HBY.out]
                  exact HNB.out
                · exact HGood.out j h1 (by omega)
            case measure => simp [intOf]; omega
        · have hke : k = 2 := by omega
          subst hke
          have HGood := Lib.hid hgood
          obtain ⟨U, hU⟩ : ∃ U, uAt (x.toNat - 192) d (2 - 1) = U := ⟨_, rfl⟩
          have HUE := Lib.hid hU
          rw [hU]
          clear hgood hU
          by_cases hbv : badV 128 U
          · have HR := Lib.hid (HNone.out (HC.out.val HLen.out HGood.out (by rw [HUE.out]; exact hbv)))
            unfold badV at hbv
            rcases (show U < 128 ∨ (128 ≤ U ∧ 1114111 < U) ∨ (128 ≤ U ∧ 55296 ≤ U ∧ U < 57344) by omega) with h1 | ⟨h1, h2⟩ | ⟨h1, h2, h3⟩
            · have b1 : (U : Int) < 128 := by omega
              clear hbv h1
              go_wp2_with fail
              go_ret2
              exact .inr ⟨HR.out, rfl, F⟩
            · have b1 : (128 : Int) ≤ (U : Int) := by omega
              have b2 : (1114111 : Int) < (U : Int) := by omega
              clear hbv h1 h2
              go_wp2_with fail
              go_ret2
              exact .inr ⟨HR.out, rfl, F⟩
            · have b1 : decide ((U : Int) < 128) = false := decide_eq_false (by omega)
              have b2 : decide ((1114111 : Int) < (U : Int)) = false := decide_eq_false (by omega)
              have b3 : decide ((55296 : Int) ≤ (U : Int)) = true := decide_eq_true (by omega)
              have b4 : decide ((U : Int) < 57344) = true := decide_eq_true (by omega)
              clear hbv h1 h2 h3
              go_wp2_with fail
              go_ret2
              exact .inr ⟨HR.out, rfl, F⟩
          · have HS := Lib.hid (show stepL d = some (U, 2) by rw [← HUE.out]; exact HC.out.ok HLen.out HGood.out (by rw [HUE.out]; exact hbv))
            unfold badV at hbv
            have b1 : decide ((U : Int) < 128) = false := decide_eq_false (by omega)
            have b2 : decide ((1114111 : Int) < (U : Int)) = false := decide_eq_false (by omega)
            rcases (show U < 55296 ∨ 57344 ≤ U by omega) with h1 | h1
            · have b3 : decide ((55296 : Int) ≤ (U : Int)) = false := decide_eq_false (by omega)
              have b4 : True := trivial
              clear hbv h1
              go_wp2_with (at_builtin; refine wpList_append_sl sty_intN rfl _ _ (by rfl) w.heap.size _ _ _ (by rfl) (HOwn.out.alloc _) _ [.int .i64 ((U : Int))] (by rfl) (sl_one _ _ _) (by intro u hu; simp at hu; subst hu; rfl) (by have := HRL.out; simp; omega) (by have := HRL.out; simp; omega) (by have := F.size; simp; omega) ?_)
              intro v2 w2 own2 g2
              have F2 : Fr [] w w2 := (F.alloc _).grown g2 (fun j hj => .inr (HOwn.out.lt j hj).1)
              obtain ⟨vao2, vcap2, rfl, -⟩ := own_out own2
              clear b1 b2 b3 b4
              go_wp2_with fail
              go_roundw
              case rel => exact ⟨i + 2, rs ++ [U], by omega, by go_num, by simp; omega, HSome.out _ _ HS.out, by rw [nvv_snoc, List.length_append]; exact own2, F2⟩
              case measure => simp [intOf]; omega
            · have b3 : decide ((55296 : Int) ≤ (U : Int)) = true := decide_eq_true (by omega)
              have b4 : decide ((U : Int) < 57344) = false := decide_eq_false (by omega)
              clear hbv h1
              go_wp2_with (at_builtin; refine wpList_append_sl sty_intN rfl _ _ (by rfl) w.heap.size _ _ _ (by rfl) (HOwn.out.alloc _) _ [.int .i64 ((U : Int))] (by rfl) (sl_one _ _ _) (by intro u hu; simp at hu; subst hu; rfl) (by have := HRL.out; simp; omega) (by have := HRL.out; simp; omega) (by have := F.size; simp; omega) ?_)
              intro v2 w2 own2 g2
              have F2 : Fr [] w w2 := (F.alloc _).grown g2 (fun j hj => .inr (HOwn.out.lt j hj).1)
              obtain ⟨vao2, vcap2, rfl, -⟩ := own_out own2
              clear b1 b2 b3 b4
              go_wp2_with fail
              go_roundw
              case rel => exact ⟨i + 2, rs ++ [U], by omega, by go_num, by simp; omega, HSome.out _ _ HS.out, by rw [nvv_snoc, List.length_append]; exact own2, F2⟩
              case measure => simp [intOf]; omega
    · have HC := Lib.hid (show Cls d 2 (x.toNat - 192) 128 by have := cls2 d (by rw [HB0.out]; omega) (by rw [HB0.out]; omega); rwa [HB0.out] at this)
      have f0 : (208 : Int) ≤ (x.toNat : Int) := by omega
      have f1 : (x.toNat : Int) < 224 := by omega
      have HU := Lib.hid (uAt_le (x.toNat - 192) d (by omega))
      clear h1 h1b
      by_cases hsh : n < i + 2
      · have HR := Lib.hid (HNone.out (HC.out.short (by rw [HDL.out]; omega)))
        have s1 : (n : Int) < (i : Int) + 2 := by omega
        clear hsh
        go_wp2_with fail
        go_ret2
        exact .inr ⟨HR.out, rfl, F⟩
      have s1 : (i : Int) + 2 ≤ (n : Int) := by omega
      have HLen := Lib.hid (show 2 ≤ d.length by rw [HDL.out]; omega)
      clear hsh
      go_wp2_with fail
      have hv0 : ((x.toNat : Int) - 192) = ((uAt (x.toNat - 192) d 0 : Nat) : Int) := by show _ = ((x.toNat - 192 : Nat) : Int); omega
      rw [hv0]
      clear hg0
      go_loopw [7, 9] (fun vv kk wq => ∃ k : Nat, 1 ≤ k ∧ k ≤ 2 ∧ kk = .int .i64 k ∧ vv = .int .i64 ((uAt (x.toNat - 192) d (k - 1) : Nat) : Int) ∧ (∀ j, 1 ≤ j → j < k → ¬ badB (bt d j)) ∧ wq = wr) (fun _ kk _ => 2 - (intOf kk).toNat)
      case atStart => exact ⟨1, Nat.le_refl _, by omega, rfl, rfl, fun j h1 h2 => by omega, by trivial⟩
      case round =>
        obtain ⟨k, hk1, hk2, rfl, rfl, hgood, rfl⟩ := hrel
        by_cases hkn : k < 2
        · obtain ⟨y, hy, hby⟩ := HG.out k (by have := HLen.out; omega)
          have hgy := get_ba hy
          have hyl : (y.toNat : Int) < 256 := by have := y.toNat_lt; omega
          have twy : wrap64 (y.toNat : Int) = (y.toNat : Int) := by unfold wrap64; omega
          have hkI : (k : Int) < 2 := by omega
          have hik : (i : Int) + (k : Int) < (n : Int) := by omega
          have HBY := Lib.hid hby
          have HGood := Lib.hid hgood
          obtain ⟨U, hU⟩ : ∃ U, uAt (x.toNat - 192) d (k - 1) = U := ⟨_, rfl⟩
          have hUb : (U : Int) ≤ 1000000 := by
            have := HU.out
            rw [← hU]
            rcases (show k - 1 = 0 ∨ k - 1 = 1 ∨ k - 1 = 2 by omega) with e | e | e <;> rw [e] <;> omega
          have HU2 := Lib.hid (show uAt (x.toNat - 192) d k = U * 64 + (y.toNat - 128) by
            obtain ⟨k0, rfl⟩ : ∃ k0, k = k0 + 1 := ⟨k - 1, by omega⟩
            rw [← hU, ← hby]
            rfl)
          rw [hU]
          clear hy hby hgood hU
          by_cases hb : badB y.toNat
          · have HR := Lib.hid (HNone.out (HC.out.bad k HLen.out hk1 hkn (by rw [HBY.out]; exact hb)))
            unfold badB at hb
            rcases (show y.toNat < 128 ∨ (128 ≤ y.toNat ∧ 191 < y.toNat) by omega) with h1 | ⟨h1, h2⟩
            · have b1 : (y.toNat : Int) < 128 := by omega
              clear hb h1
              go_wp2_with fail
              go_ret2
              exact .inr ⟨HR.out, rfl, F⟩
            · have b1 : (128 : Int) ≤ (y.toNat : Int) := by omega
              have b2 : (191 : Int) < (y.toNat : Int) := by omega
              clear hb h1 h2
              go_wp2_with fail
              go_ret2
              exact .inr ⟨HR.out, rfl, F⟩
          · have HNB := Lib.hid hb
            unfold badB at hb
            have b1 : (128 : Int) ≤ (y.toNat : Int) := by omega
            have b2 : (y.toNat : Int) ≤ 191 := by omega
            clear hb
            go_wp2_with fail
            go_roundw
            case rel =>
              refine ⟨k + 1, by omega, by omega, by go_num, ?_, fun j h1 h2 => ?_, by trivial⟩
              · rw [show k + 1 - 1 = k from by omega, HU2.out]
                congr 1
                omega
              · by_cases hjk : j = k
                · subst hjk
                  rw [HBY.out]
                  exact HNB.out
                · exact HGood.out j h1 (by omega)
            case measure => simp [intOf]; omega
        · have hke : k = 2 := by omega
          subst hke
          have HGood := Lib.hid hgood
          obtain ⟨U, hU⟩ : ∃ U, uAt (x.toNat - 192) d (2 - 1) = U := ⟨_, rfl⟩
          have HUE := Lib.hid hU
          rw [hU]
          clear hgood hU
          by_cases hbv : badV 128 U
          · have HR := Lib.hid (HNone.out (HC.out.val HLen.out HGood.out (by rw [HUE.out]; exact hbv)))
            unfold badV at hbv
            rcases (show U < 128 ∨ (128 ≤ U ∧ 1114111 < U) ∨ (128 ≤ U ∧ 55296 ≤ U ∧ U < 57344) by omega) with h1 | ⟨h1, h2⟩ | ⟨h1, h2, h3⟩
            · have b1 : (U : Int) < 128 := by omega
              clear hbv h1
              go_wp2_with fail
              go_ret2
              exact .inr ⟨HR.out, rfl, F⟩
            · have b1 : (128 : Int) ≤ (U : Int) := by omega
              have b2 : (1114111 : Int) < (U : Int) := by omega
              clear hbv h1 h2
              go_wp2_with fail
              go_ret2
              exact .inr ⟨HR.out, rfl, F⟩
            · have b1 : decide ((U : Int) < 128) = false := decide_eq_false (by omega)
              have b2 : decide ((1114111 : Int) < (U : Int)) = false := decide_eq_false (by omega)
              have b3 : decide ((55296 : Int) ≤ (U : Int)) = true := decide_eq_true (by omega)
              have b4 : decide ((U : Int) < 57344) = true := decide_eq_true (by omega)
              clear hbv h1 h2 h3
              go_wp2_with fail
              go_ret2
              exact .inr ⟨HR.out, rfl, F⟩
          · have HS := Lib.hid (show stepL d = some (U, 2) by rw [← HUE.out]; exact HC.out.ok HLen.out HGood.out (by rw [HUE.out]; exact hbv))
            unfold badV at hbv
            have b1 : decide ((U : Int) < 128) = false := decide_eq_false (by omega)
            have b2 : decide ((1114111 : Int) < (U : Int)) = false := decide_eq_false (by omega)
            rcases (show U < 55296 ∨ 57344 ≤ U by omega) with h1 | h1
            · have b3 : decide ((55296 : Int) ≤ (U : Int)) = false := decide_eq_false (by omega)
              have b4 : True := trivial
              clear hbv h1
              go_wp2_with (at_builtin; refine wpList_append_sl sty_intN rfl _ _ (by rfl) w.heap.size _ _ _ (by rfl) (HOwn.out.alloc _) _ [.int .i64 ((U : Int))] (by rfl) (sl_one _ _ _) (by intro u hu; simp at hu; subst hu; rfl) (by have := HRL.out; simp; omega) (by have := HRL.out; simp; omega) (by have := F.size; simp; omega) ?_)
              intro v2 w2 own2 g2
              have F2 : Fr [] w w2 := (F.alloc _).grown g2 (fun j hj => .inr (HOwn.out.lt j hj).1)
              obtain ⟨vao2, vcap2, rfl, -⟩ := own_out own2
              clear b1 b2 b3 b4
              go_wp2_with fail
              go_roundw
              case rel => exact ⟨i + 2, rs ++ [U], by omega, by go_num, by simp; omega, HSome.out _ _ HS.out, by rw [nvv_snoc, List.length_append]; exact own2, F2⟩
              case measure => simp [intOf]; omega
            · have b3 : decide ((55296 : Int) ≤ (U : Int)) = true := decide_eq_true (by omega)
              have b4 : decide ((U : Int) < 57344) = false := decide_eq_false (by omega)
              clear hbv h1
              go_wp2_with (at_builtin; refine wpList_append_sl sty_intN rfl _ _ (by rfl) w.heap.size _ _ _ (by rfl) (HOwn.out.alloc _) _ [.int .i64 ((U : Int))] (by rfl) (sl_one _ _ _) (by intro u hu; simp at hu; subst hu; rfl) (by have := HRL.out; simp; omega) (by have := HRL.out; simp; omega) (by have := F.size; simp; omega) ?_)
              intro v2 w2 own2 g2
              have F2 : Fr [] w w2 := (F.alloc _).grown g2 (fun j hj => .inr (HOwn.out.lt j hj).1)
              obtain ⟨vao2, vcap2, rfl, -⟩ := own_out own2
              clear b1 b2 b3 b4
              go_wp2_with fail
              go_roundw
              case rel => exact ⟨i + 2, rs ++ [U], by omega, by go_num, by simp; omega, HSome.out _ _ HS.out, by rw [nvv_snoc, List.length_append]; exact own2, F2⟩
              case measure => simp [intOf]; omega
    · have HC := Lib.hid (show Cls d 3 (x.toNat - 224) 2048 by have := cls3 d (by rw [HB0.out]; omega) (by rw [HB0.out]; omega); rwa [HB0.out] at this)
      have f0 : (224 : Int) ≤ (x.toNat : Int) := by omega
      have f1 : (x.toNat : Int) < 240 := by omega
      have HU := Lib.hid (uAt_le (x.toNat - 224) d (by omega))
      clear h1 h1b
      by_cases hsh : n < i + 3
      · have HR := Lib.hid (HNone.out (HC.out.short (by rw [HDL.out]; omega)))
        have s1 : (n : Int) < (i : Int) + 3 := by omega
        clear hsh
        go_wp2_with fail
        go_ret2
        exact .inr ⟨HR.out, rfl, F⟩
      have s1 : (i : Int) + 3 ≤ (n : Int) := by omega
      have HLen := Lib.hid (show 3 ≤ d.length by rw [HDL.out]; omega)
      clear hsh
      go_wp2_with fail
      have hv0 : ((x.toNat : Int) - 192 - 32) = ((uAt (x.toNat - 224) d 0 : Nat) : Int) := by show _ = ((x.toNat - 224 : Nat) : Int); omega
      rw [hv0]
      clear hg0
      go_loopw [7, 9] (fun vv kk wq => ∃ k : Nat, 1 ≤ k ∧ k ≤ 3 ∧ kk = .int .i64 k ∧ vv = .int .i64 ((uAt (x.toNat - 224) d (k - 1) : Nat) : Int) ∧ (∀ j, 1 ≤ j → j < k → ¬ badB (bt d j)) ∧ wq = wr) (fun _ kk _ => 3 - (intOf kk).toNat)
      case atStart => exact ⟨1, Nat.le_refl _, by omega, rfl, rfl, fun j h1 h2 => by omega, by trivial⟩
      case round =>
        obtain ⟨k, hk1, hk2, rfl, rfl, hgood, rfl⟩ := hrel
        by_cases hkn : k < 3
        · obtain ⟨y, hy, hby⟩ := HG.out k (by have := HLen.out; omega)
          have hgy := get_ba hy
          have hyl : (y.toNat : Int) < 256 := by have := y.toNat_lt; omega
          have twy : wrap64 (y.toNat : Int) = (y.toNat : Int) := by unfold wrap64; omega
          have hkI : (k : Int) < 3 := by omega
          have hik : (i : Int) + (k : Int) < (n : Int) := by omega
          have HBY := Lib.hid hby
          have HGood := Lib.hid hgood
          obtain ⟨U, hU⟩ : ∃ U, uAt (x.toNat - 224) d (k - 1) = U := ⟨_, rfl⟩
          have hUb : (U : Int) ≤ 1000000 := by
            have := HU.out
            rw [← hU]
            rcases (show k - 1 = 0 ∨ k - 1 = 1 ∨ k - 1 = 2 by omega) with e | e | e <;> rw [e] <;> omega
          have HU2 := Lib.hid (show uAt (x.toNat - 224) d k = U * 64 + (y.toNat - 128) by
            obtain ⟨k0, rfl⟩ : ∃ k0, k = k0 + 1 := ⟨k - 1, by omega⟩
            rw [← hU, ← hby]
            rfl)
          rw [hU]
          clear hy hby hgood hU
          by_cases hb : badB y.toNat
          · have HR := Lib.hid (HNone.out (HC.out.bad k HLen.out hk1 hkn (by rw [HBY.out]; exact hb)))
            unfold badB at hb
            rcases (show y.toNat < 128 ∨ (128 ≤ y.toNat ∧ 191 < y.toNat) by omega) with h1 | ⟨h1, h2⟩
            · have b1 : (y.toNat : Int) < 128 := by omega
              clear hb h1
              go_wp2_with fail
              go_ret2
              exact .inr ⟨HR.out, rfl, F⟩
            · have b1 : (128 : Int) ≤ (y.toNat : Int) := by omega
              have b2 : (191 : Int) < (y.toNat : Int) := by omega
              clear hb h1 h2
              go_wp2_with fail
              go_ret2
              exact .inr ⟨HR.out, rfl, F⟩
          · have HNB := Lib.hid hb
            unfold badB at hb
            have b1 : (128 : Int) ≤ (y.toNat : Int) := by omega
            have b2 : (y.toNat : Int) ≤ 191 := by omega
            clear hb
            go_wp2_with fail
            go_roundw
            case rel =>
              refine ⟨k + 1, by omega, by omega, by go_num, ?_, fun j h1 h2 => ?_, by trivial⟩
              · rw [show k + 1 - 1 = k from by omega, HU2.out]
                congr 1
                omega
              · by_cases hjk : j = k
                · subst hjk
                  rw [HBY.out]
                  exact HNB.out
                · exact HGood.out j h1 (by omega)
            case measure => simp [intOf]; omega
        · have hke : k = 3 := by omega
          subst hke
          have HGood := Lib.hid hgood
          obtain ⟨U, hU⟩ : ∃ U, uAt (x.toNat - 224) d (3 - 1) = U := ⟨_, rfl⟩
          have HUE := Lib.hid hU
          rw [hU]
          clear hgood hU
          by_cases hbv : badV 2048 U
          · have HR := Lib.hid (HNone.out (HC.out.val HLen.out HGood.out (by rw [HUE.out]; exact hbv)))
            unfold badV at hbv
            rcases (show U < 2048 ∨ (2048 ≤ U ∧ 1114111 < U) ∨ (2048 ≤ U ∧ 55296 ≤ U ∧ U < 57344) by omega) with h1 | ⟨h1, h2⟩ | ⟨h1, h2, h3⟩
            · have b1 : (U : Int) < 2048 := by omega
              clear hbv h1
              go_wp2_with fail
              go_ret2
              exact .inr ⟨HR.out, rfl, F⟩
            · have b1 : (2048 : Int) ≤ (U : Int) := by omega
              have b2 : (1114111 : Int) < (U : Int) := by omega
              clear hbv h1 h2
              go_wp2_with fail
              go_ret2
              exact .inr ⟨HR.out, rfl, F⟩
            · have b1 : decide ((U : Int) < 2048) = false := decide_eq_false (by omega)
              have b2 : decide ((1114111 : Int) < (U : Int)) = false := decide_eq_false (by omega)
              have b3 : decide ((55296 : Int) ≤ (U : Int)) = true := decide_eq_true (by omega)
              have b4 : decide ((U : Int) < 57344) = true := decide_eq_true (by omega)
              clear hbv h1 h2 h3
              go_wp2_with fail
              go_ret2
              exact .inr ⟨HR.out, rfl, F⟩
          · have HS := Lib.hid (show stepL d = some (U, 3) by rw [← HUE.out]; exact HC.out.ok HLen.out HGood.out (by rw [HUE.out]; exact hbv))
            unfold badV at hbv
            have b1 : decide ((U : Int) < 2048) = false := decide_eq_false (by omega)
            have b2 : decide ((1114111 : Int) < (U : Int)) = false := decide_eq_false (by omega)
            rcases (show U < 55296 ∨ 57344 ≤ U by omega) with h1 | h1
            · have b3 : decide ((55296 : Int) ≤ (U : Int)) = false := decide_eq_false (by omega)
              have b4 : True := trivial
              clear hbv h1
              go_wp2_with (at_builtin; refine wpList_append_sl sty_intN rfl _ _ (by rfl) w.heap.size _ _ _ (by rfl) (HOwn.out.alloc _) _ [.int .i64 ((U : Int))] (by rfl) (sl_one _ _ _) (by intro u hu; simp at hu; subst hu; rfl) (by have := HRL.out; simp; omega) (by have := HRL.out; simp; omega) (by have := F.size; simp; omega) ?_)
              intro v2 w2 own2 g2
              have F2 : Fr [] w w2 := (F.alloc _).grown g2 (fun j hj => .inr (HOwn.out.lt j hj).1)
              obtain ⟨vao2, vcap2, rfl, -⟩ := own_out own2
              clear b1 b2 b3 b4
              go_wp2_with fail
              go_roundw
              case rel => exact ⟨i + 3, rs ++ [U], by omega, by go_num, by simp; omega, HSome.out _ _ HS.out, by rw [nvv_snoc, List.length_append]; exact own2, F2⟩
              case measure => simp [intOf]; omega
            · have b3 : decide ((55296 : Int) ≤ (U : Int)) = true := decide_eq_true (by omega)
              have b4 : decide ((U : Int) < 57344) = false := decide_eq_false (by omega)
              clear hbv h1
              go_wp2_with (at_builtin; refine wpList_append_sl sty_intN rfl _ _ (by rfl) w.heap.size _ _ _ (by rfl) (HOwn.out.alloc _) _ [.int .i64 ((U : Int))] (by rfl) (sl_one _ _ _) (by intro u hu; simp at hu; subst hu; rfl) (by have := HRL.out; simp; omega) (by have := HRL.out; simp; omega) (by have := F.size; simp; omega) ?_)
              intro v2 w2 own2 g2
              have F2 : Fr [] w w2 := (F.alloc _).grown g2 (fun j hj => .inr (HOwn.out.lt j hj).1)
              obtain ⟨vao2, vcap2, rfl, -⟩ := own_out own2
              clear b1 b2 b3 b4
              go_wp2_with fail
              go_roundw
              case rel => exact ⟨i + 3, rs ++ [U], by omega, by go_num, by simp; omega, HSome.out _ _ HS.out, by rw [nvv_snoc, List.length_append]; exact own2, F2⟩
              case measure => simp [intOf]; omega
    · have HC := Lib.hid (show Cls d 4 (x.toNat - 240) 65536 by have := cls4 d (by rw [HB0.out]; omega) (by rw [HB0.out]; omega); rwa [HB0.out] at this)
      have f0 : (240 : Int) ≤ (x.toNat : Int) := by omega
      have HU := Lib.hid (uAt_le (x.toNat - 240) d (by omega))
      clear h1 
      by_cases hsh : n < i + 4
      · have HR := Lib.hid (HNone.out (HC.out.short (by rw [HDL.out]; omega)))
        have s1 : (n : Int) < (i : Int) + 4 := by omega
        clear hsh
        go_wp2_with fail
        go_ret2
        exact .inr ⟨HR.out, rfl, F⟩
      have s1 : (i : Int) + 4 ≤ (n : Int) := by omega
      have HLen := Lib.hid (show 4 ≤ d.length by rw [HDL.out]; omega)
      clear hsh
      go_wp2_with fail
      have hv0 : ((x.toNat : Int) - 192 - 32 - 16) = ((uAt (x.toNat - 240) d 0 : Nat) : Int) := by show _ = ((x.toNat - 240 : Nat) : Int); omega
      rw [hv0]
      clear hg0
      go_loopw [7, 9] (fun vv kk wq => ∃ k : Nat, 1 ≤ k ∧ k ≤ 4 ∧ kk = .int .i64 k ∧ vv = .int .i64 ((uAt (x.toNat - 240) d (k - 1) : Nat) : Int) ∧ (∀ j, 1 ≤ j → j < k → ¬ badB (bt d j)) ∧ wq = wr) (fun _ kk _ => 4 - (intOf kk).toNat)
      case atStart => exact ⟨1, Nat.le_refl _, by omega, rfl, rfl, fun j h1 h2 => by omega, by trivial⟩
      case round =>
        obtain ⟨k, hk1, hk2, rfl, rfl, hgood, rfl⟩ := hrel
        by_cases hkn : k < 4
        · obtain ⟨y, hy, hby⟩ := HG.out k (by have := HLen.out; omega)
          have hgy := get_ba hy
          have hyl : (y.toNat : Int) < 256 := by have := y.toNat_lt; omega
          have twy : wrap64 (y.toNat : Int) = (y.toNat : Int) := by unfold wrap64; omega
          have hkI : (k : Int) < 4 := by omega
          have hik : (i : Int) + (k : Int) < (n : Int) := by omega
          have HBY := Lib.hid hby
          have HGood := Lib.hid hgood
          obtain ⟨U, hU⟩ : ∃ U, uAt (x.toNat - 240) d (k - 1) = U := ⟨_, rfl⟩
          have hUb : (U : Int) ≤ 1000000 := by
            have := HU.out
            rw [← hU]
            rcases (show k - 1 = 0 ∨ k - 1 = 1 ∨ k - 1 = 2 by omega) with e | e | e <;> rw [e] <;> omega
          have HU2 := Lib.hid (show uAt (x.toNat - 240) d k = U * 64 + (y.toNat - 128) by
            obtain ⟨k0, rfl⟩ : ∃ k0, k = k0 + 1 := ⟨k - 1, by omega⟩
            rw [← hU, ← hby]
            rfl)
          rw [hU]
          clear hy hby hgood hU
          by_cases hb : badB y.toNat
          · have HR := Lib.hid (HNone.out (HC.out.bad k HLen.out hk1 hkn (by rw [HBY.out]; exact hb)))
            unfold badB at hb
            rcases (show y.toNat < 128 ∨ (128 ≤ y.toNat ∧ 191 < y.toNat) by omega) with h1 | ⟨h1, h2⟩
            · have b1 : (y.toNat : Int) < 128 := by omega
              clear hb h1
              go_wp2_with fail
              go_ret2
              exact .inr ⟨HR.out, rfl, F⟩
            · have b1 : (128 : Int) ≤ (y.toNat : Int) := by omega
              have b2 : (191 : Int) < (y.toNat : Int) := by omega
              clear hb h1 h2
              go_wp2_with fail
              go_ret2
              exact .inr ⟨HR.out, rfl, F⟩
          · have HNB := Lib.hid hb
            unfold badB at hb
            have b1 : (128 : Int) ≤ (y.toNat : Int) := by omega
            have b2 : (y.toNat : Int) ≤ 191 := by omega
            clear hb
            go_wp2_with fail
            go_roundw
            case rel =>
              refine ⟨k + 1, by omega, by omega, by go_num, ?_, fun j h1 h2 => ?_, by trivial⟩
              · rw [show k + 1 - 1 = k from by omega, HU2.out]
                congr 1
                omega
              · by_cases hjk : j = k
                · subst hjk
                  rw [HBY.out]
                  exact HNB.out
                · exact HGood.out j h1 (by omega)
            case measure => simp [intOf]; omega
        · have hke : k = 4 := by omega
          subst hke
          have HGood := Lib.hid hgood
          obtain ⟨U, hU⟩ : ∃ U, uAt (x.toNat - 240) d (4 - 1) = U := ⟨_, rfl⟩
          have HUE := Lib.hid hU
          rw [hU]
          clear hgood hU
          by_cases hbv : badV 65536 U
          · have HR := Lib.hid (HNone.out (HC.out.val HLen.out HGood.out (by rw [HUE.out]; exact hbv)))
            unfold badV at hbv
            rcases (show U < 65536 ∨ (65536 ≤ U ∧ 1114111 < U) ∨ (65536 ≤ U ∧ 55296 ≤ U ∧ U < 57344) by omega) with h1 | ⟨h1, h2⟩ | ⟨h1, h2, h3⟩
            · have b1 : (U : Int) < 65536 := by omega
              clear hbv h1
              go_wp2_with fail
              go_ret2
              exact .inr ⟨HR.out, rfl, F⟩
            · have b1 : (65536 : Int) ≤ (U : Int) := by omega
              have b2 : (1114111 : Int) < (U : Int) := by omega
              clear hbv h1 h2
              go_wp2_with fail
              go_ret2
              exact .inr ⟨HR.out, rfl, F⟩
            · have b1 : decide ((U : Int) < 65536) = false := decide_eq_false (by omega)
              have b2 : decide ((1114111 : Int) < (U : Int)) = false := decide_eq_false (by omega)
              have b3 : decide ((55296 : Int) ≤ (U : Int)) = true := decide_eq_true (by omega)
              have b4 : decide ((U : Int) < 57344) = true := decide_eq_true (by omega)
              clear hbv h1 h2 h3
              go_wp2_with fail
              go_ret2
              exact .inr ⟨HR.out, rfl, F⟩
          · have HS := Lib.hid (show stepL d = some (U, 4) by rw [← HUE.out]; exact HC.out.ok HLen.out HGood.out (by rw [HUE.out]; exact hbv))
            unfold badV at hbv
            have b1 : decide ((U : Int) < 65536) = false := decide_eq_false (by omega)
            have b2 : decide ((1114111 : Int) < (U : Int)) = false := decide_eq_false (by omega)
            rcases (show U < 55296 ∨ 57344 ≤ U by omega) with h1 | h1
            · have b3 : decide ((55296 : Int) ≤ (U : Int)) = false := decide_eq_false (by omega)
              have b4 : True := trivial
              clear hbv h1
              go_wp2_with (at_builtin; refine wpList_append_sl sty_intN rfl _ _ (by rfl) w.heap.size _ _ _ (by rfl) (HOwn.out.alloc _) _ [.int .i64 ((U : Int))] (by rfl) (sl_one _ _ _) (by intro u hu; simp at hu; subst hu; rfl) (by have := HRL.out; simp; omega) (by have := HRL.out; simp; omega) (by have := F.size; simp; omega) ?_)
              intro v2 w2 own2 g2
              have F2 : Fr [] w w2 := (F.alloc _).grown g2 (fun j hj => .inr (HOwn.out.lt j hj).1)
              obtain ⟨vao2, vcap2, rfl, -⟩ := own_out own2
              clear b1 b2 b3 b4
              go_wp2_with fail
              go_roundw
              case rel => exact ⟨i + 4, rs ++ [U], by omega, by go_num, by simp; omega, HSome.out _ _ HS.out, by rw [nvv_snoc, List.length_append]; exact own2, F2⟩
              case measure => simp [intOf]; omega
            · have b3 : decide ((55296 : Int) ≤ (U : Int)) = true := decide_eq_true (by omega)
              have b4 : decide ((U : Int) < 57344) = false := decide_eq_false (by omega)
              clear hbv h1
              go_wp2_with (at_builtin; refine wpList_append_sl sty_intN rfl _ _ (by rfl) w.heap.size _ _ _ (by rfl) (HOwn.out.alloc _) _ [.int .i64 ((U : Int))] (by rfl) (sl_one _ _ _) (by intro u hu; simp at hu; subst hu; rfl) (by have := HRL.out; simp; omega) (by have := HRL.out; simp; omega) (by have := F.size; simp; omega) ?_)
              intro v2 w2 own2 g2
              have F2 : Fr [] w w2 := (F.alloc _).grown g2 (fun j hj => .inr (HOwn.out.lt j hj).1)
              obtain ⟨vao2, vcap2, rfl, -⟩ := own_out own2
              clear b1 b2 b3 b4
              go_wp2_with fail
              go_roundw
              case rel => exact ⟨i + 4, rs ++ [U], by omega, by go_num, by simp; omega, HSome.out _ _ HS.out, by rw [nvv_snoc, List.length_append]; exact own2, F2⟩
              case measure => simp [intOf]; omega
end Go.Proofs.YtkodindajfdagaaDoor
