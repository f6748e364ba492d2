/- Contracts: names' part. No condition but that lengths fit. -/
import Derived.Test.YtjeblccboeljnaaGreatDoorNPart
namespace Go.Proofs.YtjeblccboeljnaaGreatDoor
open Go.RowKit

theorem get_ba {l : List UInt8} {i : Nat} {x : UInt8} (h : l[i]? = some x) : ∀ hh, ((⟨l.toArray⟩ : ByteArray)[i]'hh) = x := fun _ => by
  have hi : i < l.length := (List.getElem?_eq_some_iff.1 h).1
  have := (List.getElem?_eq_some_iff.1 h).2
  show l.toArray[i]'(by simpa using hi) = x
  simpa using this

theorem bt_drop (l : List UInt8) (pos j : Nat) : ((⟨l.toArray⟩ : ByteArray).get! (pos + j)).toNat = bt (l.drop pos) j := by
  rw [get_bt]
  unfold bt
  simp [List.getD_eq_getElem?_getD]

/-- The next rune. -/
theorem decode_drop (l : List UInt8) (pos : Nat) : Utf8.decode ⟨l.toArray⟩ pos = Lib.decodeN (l.length - pos) (bt (l.drop pos) 0) (bt (l.drop pos) 1) (bt (l.drop pos) 2) (bt (l.drop pos) 3) := by
  rw [Lib.decode_at]
  have h0 := bt_drop l pos 0
  rw [Nat.add_zero] at h0
  rw [h0, bt_drop, bt_drop, bt_drop]
  simp [ByteArray.size]

theorem bt_at (l : List UInt8) (pos j : Nat) (x : UInt8) (h : l[pos + j]? = some x) : bt (l.drop pos) j = x.toNat := by
  unfold bt
  rw [List.getD_eq_getElem?_getD, List.getElem?_drop, h]
  rfl

theorem oddB_high (b : UInt8) (h : 128 ≤ b.toNat) : oddB b = false := by
  rw [← oddR_byte]
  exact oddR_high _ h

theorem any_high (l : List UInt8) (pos k : Nat) (h0 : (l.take pos).any oddB = false) (hk : ∀ j, j < k → ∀ x, l[pos + j]? = some x → 128 ≤ x.toNat) : (l.take (pos + k)).any oddB = false := by
  induction k with
  | zero => exact h0
  | succ k ih =>
    have h1 := ih (fun j hj => hk j (by omega))
    rw [← Nat.add_assoc, List.take_add_one, List.any_append, h1]
    cases hx : l[pos + k]? with
    | none => rfl
    | some x => simp [oddB_high x (hk k (by omega) x hx)]

theorem wide_step (l : List UInt8) (pos : Nat) (x : UInt8) (hx : l[pos]? = some x) (hh : 128 ≤ x.toNat) (h0 : (l.take pos).any oddB = false) :
    pos + (Utf8.decode ⟨l.toArray⟩ pos).2 ≤ l.length ∧ (l.take (pos + (Utf8.decode ⟨l.toArray⟩ pos).2)).any oddB = false := by
  have hp : pos < l.length := (List.getElem?_eq_some_iff.1 hx).1
  have hb := bt_at l pos 0 x (by simpa using hx)
  rw [decode_drop]
  obtain ⟨w1, w2, w3, w4, w5⟩ := decodeN_wide (l.length - pos) (bt (l.drop pos) 0) (bt (l.drop pos) 1) (bt (l.drop pos) 2) (bt (l.drop pos) 3) (by omega) (by omega)
  refine ⟨by omega, any_high l pos _ h0 (fun j hj y hy => ?_)⟩
  have hj4 : j = 0 ∨ j = 1 ∨ j = 2 ∨ j = 3 := by omega
  have hby := bt_at l pos j y hy
  rcases hj4 with rfl | rfl | rfl | rfl
  · omega
  · have := w3 (by omega); omega
  · have := w4 (by omega); omega
  · have := w5 (by omega); omega

theorem last_at (l : List UInt8) (h : l ≠ []) : l[l.length - 1]? = some (l.getLastD 0) := by
  rw [← List.getLast?_eq_getElem?]
  cases hl : l.getLast? with
  | none => exact absurd (List.getLast?_eq_none_iff.1 hl) h
  | some x => rw [List.getLastD_eq_getLast?, hl]; rfl

set_option maxHeartbeats 2000000 in
theorem part_any (w : World) (l : List UInt8) (hG : Gl w) (hl : l.length ≤ 100000) :
    Calls Tryz.prog 69 #[.string ⟨l.toArray⟩] w fun e w' => e = .returned (.bool (partL foldL l)) ∧ Fr [] w w' := by
  have HG := Lib.hid hG
  by_cases h0 : l = []
  · subst h0
    have HP := Lib.hid (show partL foldL [] = false by decide)
    go_enter Tryz.func69, Tryz.ntmps69
    go_wp2_with fail
    go_ret
    exact ⟨by rw [HP.out]; rfl, Fr.refl _ _⟩
  have a0 : (l == []) = false := by rw [beq_eq_false_iff_ne]; exact h0
  by_cases h255 : 255 < l.length
  · have HP := Lib.hid (show partL foldL l = false by unfold partL; rw [show decide (l.length ≤ 255) = false from by simp; omega]; simp)
    have a1 : (255 : Int) < (l.length : Int) := by omega
    clear h255 h0
    go_enter Tryz.func69, Tryz.ntmps69
    go_wp2_with fail
    go_ret
    exact ⟨by rw [HP.out]; rfl, Fr.refl _ _⟩
  have a1 : (l.length : Int) ≤ 255 := by omega
  by_cases h1 : l = [46]
  · subst h1
    have HP := Lib.hid (show partL foldL [46] = false by decide)
    clear a1 h255 h0
    go_enter Tryz.func69, Tryz.ntmps69
    go_wp2_with fail
    go_ret
    exact ⟨by rw [HP.out]; rfl, Fr.refl _ _⟩
  have a2 : (l == [46]) = false := by rw [beq_eq_false_iff_ne]; exact h1
  by_cases h2 : l = [46, 46]
  · subst h2
    have HP := Lib.hid (show partL foldL [46, 46] = false by decide)
    clear a1 h255 h0 a2
    go_enter Tryz.func69, Tryz.ntmps69
    go_wp2_with fail
    go_ret
    exact ⟨by rw [HP.out]; rfl, Fr.refl _ _⟩
  have a3 : (l == [46, 46]) = false := by rw [beq_eq_false_iff_ne]; exact h2
  have HL0 := Lib.hid h0
  have hlen : 1 ≤ l.length := by cases l with | nil => exact absurd rfl h0 | cons a t => simp
  have b1 : (1 : Int) ≤ (l.length : Int) := by omega
  have b2 : (l.length : Int) - 1 < (l.length : Int) := by omega
  obtain ⟨z, hz⟩ : ∃ z, l.getLastD 0 = z := ⟨_, rfl⟩
  have hza := last_at l h0
  rw [hz] at hza
  have hg := get_ba hza
  have HPL := Lib.hid (show partL foldL l = ((z != 46) && (z != 32) && (!l.any oddB) && !devH (headL (foldL l))) by
    unfold partL
    rw [hz, show decide (1 ≤ l.length) = true from decide_eq_true hlen, show decide (l.length ≤ 255) = true from decide_eq_true (by omega), show (l != [46]) = true from by rw [bne_iff_ne]; exact h1, show (l != [46, 46]) = true from by rw [bne_iff_ne]; exact h2]
    rfl)
  clear h0 h1 h2 h255 hza hz
  by_cases z1 : z = 46
  · subst z1
    have HP := Lib.hid (show partL foldL l = false by rw [HPL.out]; rfl)
    go_enter Tryz.func69, Tryz.ntmps69
    go_wp2_with fail
    go_ret
    exact ⟨by rw [HP.out]; rfl, Fr.refl _ _⟩
  have c1 : ((z.toNat : Int) == 46) = false := by rw [beq_eq_false_iff_ne]; intro h; exact z1 (UInt8.toNat_inj.1 (show z.toNat = 46 by omega))
  by_cases z2 : z = 32
  · subst z2
    have HP := Lib.hid (show partL foldL l = false by rw [HPL.out]; rfl)
    clear z1
    go_enter Tryz.func69, Tryz.ntmps69
    go_wp2_with fail
    go_ret
    exact ⟨by rw [HP.out]; rfl, Fr.refl _ _⟩
  have c2 : ((z.toNat : Int) == 32) = false := by rw [beq_eq_false_iff_ne]; intro h; exact z2 (UInt8.toNat_inj.1 (show z.toNat = 32 by omega))
  have HPL2 := Lib.hid (show partL foldL l = ((!l.any oddB) && !devH (headL (foldL l))) by
    rw [HPL.out, show (z != 46) = true from by rw [bne_iff_ne]; exact z1, show (z != 32) = true from by rw [bne_iff_ne]; exact z2]
    rfl)
  clear z1 z2 HPL hG
  go_enter Tryz.func69, Tryz.ntmps69
  go_wp2_with fail
  clear hg c1 c2 a0 a1 a2 a3 b1 b2
  go_loopw [] (fun wr => ∃ pos : Nat, wr = w.iter ⟨l.toArray⟩ pos ∧ pos ≤ l.length ∧ (l.take pos).any oddB = false) (fun wr => l.length - wr.iterPos w.heap.size)
  case atStart => exact ⟨0, rfl, Nat.zero_le _, by simp⟩
  case round =>
    obtain ⟨pos, rfl, hp, hany⟩ := hrel
    have hsz : (⟨l.toArray⟩ : ByteArray).size = l.length := by simp [ByteArray.size]
    by_cases hlt : pos < l.length
    · obtain ⟨x, hx⟩ := some_get l pos hlt
      have hnx : ∀ ty, (Instr.next (.pointer (some ⟨w.heap.size, 0, none⟩)) true ty).run Tryz.prog (w.iter ⟨l.toArray⟩ pos) = _ := fun ty => run_next_any w ⟨l.toArray⟩ pos ty (by rw [hsz]; exact hlt)
      have hle := Lib.rune_le ⟨l.toArray⟩ pos
      have HAny := Lib.hid hany
      have HX := Lib.hid hx
      by_cases hh : 128 ≤ x.toNat
      · have hst := wide_step l pos x hx hh hany
        have hhi := decode_high ⟨l.toArray⟩ pos (by rw [hsz]; exact hlt) (by rw [get_ba hx]; exact hh)
        have HST := Lib.hid hst
        have HOR := Lib.hid (oddR_high _ hhi.1)
        have hkp := hhi.2
        clear hany hx hsz hst hhi
        generalize Utf8.decode ⟨l.toArray⟩ pos = D at *
        obtain ⟨r, k⟩ := D
        dsimp only at *
        go_wp2_with (go_at_call 85; refine (odd_any _ r hle).mono ?_; rw [HOR.out]; rintro e w2 ⟨rfl, rfl⟩)
        go_roundw
        case rel => exact ⟨pos + k, rfl, HST.out.1, HST.out.2⟩
        case measure => simp; omega
      · have hda := decode_ascii ⟨l.toArray⟩ pos (by rw [hsz]; exact hlt) (by rw [get_ba hx]; omega)
        rw [get_ba hx] at hda
        rw [hda] at hle hnx
        dsimp only at hle hnx
        have HOB := Lib.hid (oddR_byte x)
        have HT := Lib.hid (show (l.take (pos + 1)).any oddB = oddB x by rw [List.take_add_one, hx, List.any_append, hany]; simp)
        clear hany hx hsz hda hh
        cases hob : oddB x with
        | true =>
          have HP := Lib.hid (show partL foldL l = false by
            rw [HPL2.out, show l.any oddB = true from List.any_eq_true.2 ⟨x, List.mem_of_getElem? HX.out, hob⟩]
            rfl)
          have HO := Lib.hid hob
          clear hob
          go_wp2_with (go_at_call 85; refine (odd_any _ x.toNat hle).mono ?_; rw [HOB.out, HO.out]; rintro e w2 ⟨rfl, rfl⟩)
          go_ret
          exact ⟨by rw [HP.out]; rfl, (Fr.refl _ _).alloc _⟩
        | false =>
          have HO := Lib.hid hob
          clear hob
          go_wp2_with (go_at_call 85; refine (odd_any _ x.toNat hle).mono ?_; rw [HOB.out, HO.out]; rintro e w2 ⟨rfl, rfl⟩)
          go_roundw
          case rel => exact ⟨pos + 1, rfl, by omega, by rw [HT.out, HO.out]⟩
          case measure => simp; omega
    · have hpe : pos = l.length := by omega
      subst hpe
      rw [List.take_length] at hany
      have HAny := Lib.hid hany
      clear hany
      have hnx : ∀ ty, (Instr.next (.pointer (some ⟨w.heap.size, 0, none⟩)) true ty).run Tryz.prog (w.iter ⟨l.toArray⟩ l.length) = _ := fun ty => run_next_end w ⟨l.toArray⟩ l.length ty (by rw [hsz]; omega)
      have HSz := Lib.hid hsz
      clear hsz
      have F0 : Fr [] w (w.iter ⟨l.toArray⟩ l.length) := (Fr.refl _ _).alloc _
      go_wp2_with (go_at_call 86; refine (device_any _ _ (HG.out.fr F0) (by rw [HSz.out]; exact hl)).mono ?_; rintro e w2 ⟨rfl, F2⟩)
      go_ret
      exact ⟨by rw [HPL2.out, HAny.out]; rfl, F0.trans0 F2⟩
end Go.Proofs.YtjeblccboeljnaaGreatDoor
