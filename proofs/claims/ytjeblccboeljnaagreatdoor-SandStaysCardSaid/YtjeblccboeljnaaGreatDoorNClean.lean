/- Contracts: strings.Split at a slash; names.Clean. No condition but that lengths fit. -/
import Derived.Test.YtjeblccboeljnaaGreatDoorNPartB
namespace Go.Proofs.YtjeblccboeljnaaGreatDoor
open Go.RowKit

def stv (ps : List (List UInt8)) : List Value := ps.map fun p => .string ⟨p.toArray⟩
theorem stv_len (ps : List (List UInt8)) : (stv ps).length = ps.length := by simp [stv]
theorem stv_get {ps : List (List UInt8)} {j : Nat} {p : List UInt8} (h : ps[j]? = some p) : (stv ps)[j]? = some (.string ⟨p.toArray⟩) := by simp [stv, h]

theorem splitL_part : ∀ (l p : List UInt8), p ∈ splitL l → p.length ≤ l.length
  | [], p, h => by simp [splitL] at h; subst h; simp
  | b :: t, p, h => by
    unfold splitL at h
    split at h
    · rcases List.mem_cons.1 h with rfl | h
      · simp
      · have := splitL_part t p h
        simp
        omega
    · split at h
      · simp at h
        subst h
        simp
      · rename_i q qs e
        rcases List.mem_cons.1 h with rfl | h
        · have := splitL_part t q (by rw [e]; simp)
          simpa using this
        · have := splitL_part t p (by rw [e]; simp [h])
          simp
          omega

theorem split_cells (l : List UInt8) : (Lib.splitB ⟨#[47]⟩ 0 (Lib.countB ⟨l.toArray⟩ ⟨#[47]⟩) ⟨l.toArray⟩).map Value.string = stv (splitL l) ∧ Lib.countB ⟨l.toArray⟩ ⟨#[47]⟩ + 1 = (splitL l).length := by
  have hc : Lib.countB ⟨l.toArray⟩ ⟨#[47]⟩ = Lib.count l [47] := rfl
  have h1 := Lib.splitB_data ⟨#[47]⟩ 0 (Lib.countB ⟨l.toArray⟩ ⟨#[47]⟩) ⟨l.toArray⟩
  have h2 : Lib.splitK [47] 0 (Lib.countB ⟨l.toArray⟩ ⟨#[47]⟩) l = splitL l := splitK_eq _ l hc.symm
  have h3 : (Lib.splitB ⟨#[47]⟩ 0 (Lib.countB ⟨l.toArray⟩ ⟨#[47]⟩) ⟨l.toArray⟩).map (·.data.toList) = splitL l := h1.trans h2
  constructor
  · unfold stv
    rw [← h3, List.map_map]
    refine List.map_congr_left (fun x _ => ?_)
    simp
  · have h4 := Lib.splitB_all ⟨#[47]⟩ (by decide) 0 (Lib.countB ⟨l.toArray⟩ ⟨#[47]⟩) ⟨l.toArray⟩ rfl
    rw [← h3, List.length_map, h4]

def NewStrings (ps : List (List UInt8)) (w : World) (e : Ending) (w' : World) : Prop := ∃ ao, e = .returned (.slice ao ps.length ps.length) ∧ Sl w' (.slice ao ps.length ps.length) (stv ps) ∧ Fr [] w w'

theorem split_any (w : World) (l : List UInt8) (hG : Gl w) (hl : l.length ≤ 100000) :
    Calls Tryz.prog 68 #[.string ⟨l.toArray⟩, .string ⟨#[47]⟩] w (NewStrings (splitL l) w) := by
  obtain ⟨m, hm⟩ := hG.ml
  have hsz : (⟨l.toArray⟩ : ByteArray).size = l.length := by simp [ByteArray.size]
  have hlen := splitL_len l
  refine (Tryz.strings_Split ⟨l.toArray⟩ ⟨#[47]⟩ m w (by omega) hm (by decide)).mono ?_
  rintro e w2 ⟨rfl, rfl⟩
  rw [(split_cells l).1, (split_cells l).2]
  exact ⟨_, rfl, sl_lit w _ (stv (splitL l)) _ (by rw [stv_len]) (by omega), (Fr.refl _ _).alloc _⟩

theorem valid_any (w : World) (l : List UInt8) (hG : Gl w) (hl : l.length ≤ 100000) :
    Calls Tryz.prog 67 #[.string ⟨l.toArray⟩] w fun e w' => e = .returned (.bool (runesL l).isSome) ∧ Fr [] w w' := by
  have hsz : (⟨l.toArray⟩ : ByteArray).size = l.length := by simp [ByteArray.size]
  refine (Tryz.utf8_ValidString ⟨l.toArray⟩ w (by omega) hG.tabs).mono ?_
  rintro e w2 ⟨rfl, hb⟩
  exact ⟨by rw [← valid_runes], Fr.of_below hb⟩

/-- What Clean answers. -/
def CleanR (l : List UInt8) (w : World) (e : Ending) (w' : World) : Prop :=
  (∃ ao, cleanL foldL l = true ∧ e = .returned (.tuple #[.slice ao (splitL l).length (splitL l).length, .int .i64 0]) ∧ Sl w' (.slice ao (splitL l).length (splitL l).length) (stv (splitL l)) ∧ Fr [] w w') ∨
    (cleanL foldL l = false ∧ e = .returned (.tuple #[.slice none 0 0, .int .i64 15]) ∧ Fr [] w w')

set_option maxHeartbeats 1000000 in
theorem clean_any (w : World) (l : List UInt8) (hG : Gl w) (hl : l.length ≤ 100000) :
    Calls Tryz.prog 59 #[.string ⟨l.toArray⟩] w (CleanR l w) := by
  have HG := Lib.hid hG
  clear hG
  by_cases h1 : 1024 < l.length
  · have HC := Lib.hid (show cleanL foldL l = false by unfold cleanL; rw [show decide (l.length ≤ 1024) = false from by simp; omega]; simp)
    have a1 : (1024 : Int) < (l.length : Int) := by omega
    clear h1
    go_enter Tryz.func59, Tryz.ntmps59
    go_wp2_with fail
    go_ret2
    exact .inr ⟨HC.out, rfl, Fr.refl _ _⟩
  have a1 : (l.length : Int) ≤ 1024 := by omega
  cases hr : (runesL l).isSome with
  | false =>
    have HR := Lib.hid hr
    have HC := Lib.hid (show cleanL foldL l = false by unfold cleanL; rw [hr]; simp)
    clear h1 hr
    go_enter Tryz.func59, Tryz.ntmps59
    go_wp2_with (go_at_call 67; refine (valid_any _ l HG.out hl).mono ?_; rw [HR.out]; rintro e w1 ⟨rfl, F1⟩)
    go_ret2
    exact .inr ⟨HC.out, rfl, F1⟩
  | true =>
    have HR := Lib.hid hr
    have HC := Lib.hid (show cleanL foldL l = (decide ((splitL l).length ≤ 32) && (splitL l).all (partL foldL)) by unfold cleanL; rw [hr, show decide (l.length ≤ 1024) = true from decide_eq_true (by omega)]; rfl)
    clear h1 hr
    obtain ⟨ps, hps⟩ : ∃ ps, splitL l = ps := ⟨_, rfl⟩
    have HPS := Lib.hid hps
    have HPSL := Lib.hid (show ps.length ≤ l.length + 1 by rw [← hps]; exact splitL_len l)
    clear hps
    by_cases h32 : 32 < ps.length
    · have HC2 := Lib.hid (show cleanL foldL l = false by rw [HC.out, HPS.out, show decide (ps.length ≤ 32) = false from by simp; omega]; rfl)
      have a2 : (32 : Int) < (ps.length : Int) := by omega
      clear h32
      go_enter Tryz.func59, Tryz.ntmps59
      go_wp2_with (first
        | (go_at_call 67; refine (valid_any _ l HG.out hl).mono ?_; rw [HR.out]; rintro e w1 ⟨rfl, F1⟩)
        | (go_at_call 68; refine (split_any _ l (HG.out.fr F1) hl).mono ?_; rw [HPS.out]; rintro e w2 ⟨ao, rfl, hSl, F2⟩))
      go_ret2
      exact .inr ⟨HC2.out, rfl, F1.trans0 F2⟩
    · have a2 : (ps.length : Int) ≤ 32 := by omega
      have HC2 := Lib.hid (show cleanL foldL l = ps.all (partL foldL) by rw [HC.out, HPS.out, show decide (ps.length ≤ 32) = true from decide_eq_true (by omega)]; rfl)
      have HPL := Lib.hid (show ∀ p ∈ ps, p.length ≤ 100000 from fun p hp => by rw [← HPS.out] at hp; exact Nat.le_trans (splitL_part l p hp) hl)
      go_enter Tryz.func59, Tryz.ntmps59
      go_wp2_with (first
        | (go_at_call 67; refine (valid_any _ l HG.out hl).mono ?_; rw [HR.out]; rintro e w1 ⟨rfl, F1⟩)
        | (go_at_call 68; refine (split_any _ l (HG.out.fr F1) hl).mono ?_; rw [HPS.out]; rintro e w2 ⟨ao, rfl, hSl, F2⟩))
      have HSl := Lib.hid hSl
      obtain ⟨ao2, cap2, he2, g2, m2, o2⟩ := hSl.out
      injection he2 with e1 e2 e3
      subst e1 e3
      simp only [stv_len] at o2
      clear e2 hSl g2 m2
      go_loopw [22] (fun i wr => ∃ k : Nat, k ≤ ps.length ∧ i = .int .i64 k ∧ (ps.take k).all (partL foldL) = true ∧ Fr [] w2 wr) (fun i _ => ps.length - (intOf i).toNat)
      case atStart => exact ⟨0, Nat.zero_le _, rfl, by simp, Fr.refl _ _⟩
      case round =>
        obtain ⟨k, hk, rfl, hall, F⟩ := hrel
        by_cases hlt : k < ps.length
        · obtain ⟨b, of, rfl, hb, hc⟩ := o2 k hlt
          obtain ⟨p, hp⟩ := some_get ps k hlt
          have c0 : wr.cell? ⟨b, of + k, none⟩ = some (.string ⟨p.toArray⟩) := (F.cell (p := ⟨b, of + k, none⟩) hb (by simp)).trans ((hc k hlt).trans (stv_get hp))
          have HX := Lib.hid hp
          have HT := Lib.hid (show (ps.take (k + 1)).all (partL foldL) = partL foldL p by rw [List.take_add_one, hp, List.all_append, hall]; simp)
          clear o2 hc hp hall
          have hlt' : (k : Int) < (ps.length : Int) := by omega
          cases hpl : partL foldL p with
          | true =>
            have HP := Lib.hid hpl
            clear hpl
            go_wp2_with (go_at_call 69; refine (part_any _ p (HG.out.fr ((F1.trans0 F2).trans0 F)) (HPL.out p (List.mem_of_getElem? HX.out))).mono ?_; rw [HP.out]; rintro e w3 ⟨rfl, F3⟩)
            go_roundw
            case rel => exact ⟨k + 1, by omega, by go_num, by rw [HT.out, HP.out], F.trans0 F3⟩
            case measure => simp [intOf]; omega
          | false =>
            have HP := Lib.hid hpl
            have HC3 := Lib.hid (show cleanL foldL l = false by
              rw [HC2.out, List.all_eq_false]
              exact ⟨p, List.mem_of_getElem? HX.out, by rw [hpl]; simp⟩)
            clear hpl
            go_wp2_with (go_at_call 69; refine (part_any _ p (HG.out.fr ((F1.trans0 F2).trans0 F)) (HPL.out p (List.mem_of_getElem? HX.out))).mono ?_; rw [HP.out]; rintro e w3 ⟨rfl, F3⟩)
            go_ret2
            exact .inr ⟨HC3.out, rfl, ((F1.trans0 F2).trans0 F).trans0 F3⟩
        · have hke : k = ps.length := by omega
          subst hke
          rw [List.take_length] at hall
          have HC3 := Lib.hid (HC2.out.trans hall)
          clear o2 hall
          go_wp2_with fail
          go_ret2
          refine .inl ⟨ao, HC3.out, by rw [HPS.out]; rfl, by rw [HPS.out]; exact HSl.out.fr0 F, (F1.trans0 F2).trans0 F⟩
end Go.Proofs.YtjeblccboeljnaaGreatDoor
