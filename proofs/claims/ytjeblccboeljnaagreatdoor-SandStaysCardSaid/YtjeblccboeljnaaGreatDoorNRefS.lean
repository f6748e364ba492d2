/- Contract: the reference's Split. No condition but that lengths fit. -/
import Derived.Test.YtjeblccboeljnaaGreatDoorNRefA
namespace Go.Proofs.YtjeblccboeljnaaGreatDoor
open Go.RowKit

theorem info_string : (Tryz.prog.info? 9).map (fun i => (i.zero, i.size, i.bytes)) = some (some (.string ⟨#[]⟩), 1, 16) := by kernel_rfl
theorem sty_string : SlTy Tryz.prog 64 9 (.string ⟨#[]⟩) 16 := ⟨Tryz.underlying64, by obtain ⟨i, h⟩ := info_parts info_string; exact ⟨i, h⟩, rfl⟩

theorem extract_ba (l : List UInt8) (a b : Nat) : (⟨l.toArray⟩ : ByteArray).extract a b = ⟨((l.drop a).take (b - a)).toArray⟩ := by
  have h := Lib.extract_toList ⟨l.toArray⟩ a b
  rw [Lib.toList_data] at h
  rw [← Lib.mk_data ((⟨l.toArray⟩ : ByteArray).extract a b), h]

theorem stv_snoc (ps : List (List UInt8)) (p : List UInt8) : stv (ps ++ [p]) = stv ps ++ [.string ⟨p.toArray⟩] := by simp [stv]

/-- How far the reference's Split has come. -/
def SplitAt (l : List UInt8) (k f : Nat) (out : List (List UInt8)) : Prop :=
  out.length ≤ k ∧ ((k ≤ l.length ∧ f ≤ k ∧ splitL l = out ++ splitL (l.drop f) ∧ ∀ j, f ≤ j → j < k → l[j]? ≠ some 47) ∨ (k = l.length + 1 ∧ splitL l = out))

set_option maxHeartbeats 1000000 in
theorem rsplit_any (w : World) (l : List UInt8) (hl : l.length ≤ 100000) : Calls Tryz.prog 57 #[.string ⟨l.toArray⟩] w fun e w' => (∃ v, e = .returned v ∧ w'.ownsRow w.heap.size 9 1 v (splitL l).length (stv (splitL l))) ∧ Fr [] w w' := by
  go_enter Tryz.func57, Tryz.ntmps57
  go_wp2_with fail
  obtain ⟨n, hn⟩ : ∃ n, l.length = n := ⟨_, rfl⟩
  have HN := Lib.hid hn
  rw [hn] at hl
  clear hn
  go_loopw [3, 4, 5] (fun v fr i wr => ∃ (k f : Nat) (out : List (List UInt8)), k ≤ n + 1 ∧ i = .int .i64 k ∧ fr = .int .i64 f ∧ SplitAt l k f out ∧ wr.ownsRow w.heap.size 9 1 v out.length (stv out) ∧ Fr [] w wr) (fun _ _ i _ => n + 1 - (intOf i).toNat)
  case atStart => exact ⟨0, 0, [], Nat.zero_le _, rfl, rfl, ⟨by simp, .inl ⟨Nat.zero_le _, Nat.le_refl _, by simp, by omega⟩⟩, World.ownsRow_nil _ _ _ _, Fr.refl _ _⟩
  case round =>
    obtain ⟨k, f, out, hk, rfl, rfl, hS, own, F⟩ := hrel
    obtain ⟨vao, vcap, rfl, -⟩ := own_out own
    have hlen : (l.length : Int) = n := by rw [HN.out]
    by_cases hlt : k ≤ n
    · obtain ⟨ho, ⟨h1, h2, h3, h4⟩ | ⟨h1, -⟩⟩ := hS
      rotate_left
      · rw [HN.out] at h1; omega
      have k1 : (k : Int) ≤ (n : Int) := by omega
      have k2 : (f : Int) ≤ (k : Int) := by omega
      have HX := Lib.hid (extract_ba l f k)
      have HH := Lib.hid (And.intro h3 h4)
      clear h3 h4 h1
      by_cases hke : k = n
      · have t0 : ((k : Int) == (n : Int)) = true := by rw [hke]; simp
        have HE := Lib.hid hke
        have HS2 := Lib.hid (show SplitAt l (k + 1) (k + 1) (out ++ [(l.drop f).take (k - f)]) from ⟨by simp; omega, .inr ⟨by rw [HN.out, hke], by
          rw [HH.out.1, List.take_of_length_le (by simp; rw [HN.out]; omega), splitL_none (l.drop f) (fun x hx e => by
            subst e
            obtain ⟨j, hj⟩ := List.getElem?_of_mem hx
            rw [List.getElem?_drop] at hj
            have : f + j < l.length := (List.getElem?_eq_some_iff.1 hj).1
            rw [HN.out] at this
            exact HH.out.2 (f + j) (by omega) (by omega) hj)]⟩⟩)
        clear hke
        go_wp2_with (at_builtin; refine wpList_append_sl sty_string rfl _ _ (by rfl) w.heap.size _ _ _ (by rfl) (own.alloc _) _ [.string ((⟨l.toArray⟩ : ByteArray).extract f k)] (by rfl) (sl_one _ _ _) (by intro u hu; simp at hu; subst hu; rfl) (by simp; omega) (by simp; omega) (by have := F.size; simp; omega) ?_)
        intro v2 w2 own2 g2
        have F2 : Fr [] w w2 := (F.alloc _).grown g2 (fun j hj => .inr (own.lt j hj).1)
        obtain ⟨vao2, vcap2, rfl, -⟩ := own_out own2
        go_wp2_with fail
        go_roundw
        case rel => exact ⟨k + 1, k + 1, out ++ [(l.drop f).take (k - f)], by omega, by go_num, by go_num, HS2.out, by rw [stv_snoc, List.length_append, ← HX.out]; exact own2, F2⟩
        case measure => simp [intOf]; omega
      · have t0 : ((k : Int) == (n : Int)) = false := by rw [beq_eq_false_iff_ne]; omega
        have k3 : (k : Int) < (n : Int) := by omega
        obtain ⟨x, hx⟩ := some_get l k (by rw [HN.out]; omega)
        have hg := get_ba hx
        have HK := Lib.hid hx
        have HKN := Lib.hid hke
        clear hx hke
        by_cases hs : x = 47
        · subst hs
          have HS2 := Lib.hid (show SplitAt l (k + 1) (k + 1) (out ++ [(l.drop f).take (k - f)]) from ⟨by simp; omega, .inl ⟨by rw [HN.out]; omega, by omega, by
            rw [HH.out.1, splitL_some (l.drop f) (k - f) (by rw [List.getElem?_drop, show f + (k - f) = k from by omega]; exact HK.out) (fun j hj => by
              rw [List.getElem?_drop]
              exact HH.out.2 (f + j) (by omega) (by omega)), List.drop_drop, show f + (k - f + 1) = k + 1 from by omega]
            simp, fun j h1 h2 => by omega⟩⟩)
          go_wp2_with (at_builtin; refine wpList_append_sl sty_string rfl _ _ (by rfl) w.heap.size _ _ _ (by rfl) (own.alloc _) _ [.string ((⟨l.toArray⟩ : ByteArray).extract f k)] (by rfl) (sl_one _ _ _) (by intro u hu; simp at hu; subst hu; rfl) (by simp; omega) (by simp; omega) (by have := F.size; simp; omega) ?_)
          intro v2 w2 own2 g2
          have F2 : Fr [] w w2 := (F.alloc _).grown g2 (fun j hj => .inr (own.lt j hj).1)
          obtain ⟨vao2, vcap2, rfl, -⟩ := own_out own2
          go_wp2_with fail
          go_roundw
          case rel => exact ⟨k + 1, k + 1, out ++ [(l.drop f).take (k - f)], by omega, by go_num, by go_num, HS2.out, by rw [stv_snoc, List.length_append, ← HX.out]; exact own2, F2⟩
          case measure => simp [intOf]; omega
        · have hs2 : ((x.toNat : Int) == 47) = false := by rw [beq_eq_false_iff_ne]; intro h; exact hs (UInt8.toNat_inj.1 (show x.toNat = 47 by omega))
          have HS2 := Lib.hid (show SplitAt l (k + 1) f out from ⟨by omega, .inl ⟨by rw [HN.out]; omega, by omega, HH.out.1, fun j h1 h2 => by
            by_cases hjk : j = k
            · subst hjk
              rw [HK.out]
              simpa using hs
            · exact HH.out.2 j h1 (by omega)⟩⟩)
          clear hs
          go_wp2_with fail
          go_roundw
          case rel => exact ⟨k + 1, f, out, by omega, by go_num, rfl, HS2.out, own, F⟩
          case measure => simp [intOf]; omega
    · have hke : k = n + 1 := by omega
      subst hke
      obtain ⟨ho, ⟨h1, -⟩ | ⟨-, h2⟩⟩ := hS
      · rw [HN.out] at h1; omega
      have HE := Lib.hid h2
      clear h2 ho
      have k1 : ¬ ((n + 1 : Nat) : Int) ≤ (n : Int) := by omega
      go_wp2_with fail
      go_ret
      exact ⟨⟨_, rfl, by rw [HE.out]; exact own⟩, F⟩
end Go.Proofs.YtjeblccboeljnaaGreatDoor
