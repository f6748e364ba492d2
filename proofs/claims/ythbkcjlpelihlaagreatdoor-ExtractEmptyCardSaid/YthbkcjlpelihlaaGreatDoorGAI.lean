/- Contracts: strings.Split at a slash; names.Clean. No condition but that lengths fit. -/
import Derived.Test.YthbkcjlpelihlaaGreatDoorGAH
import Derived.Test.YthbkcjlpelihlaaGreatDoorGAG
import Derived.Maps.OwnSet
import Derived.Maps.OwnOps
import Derived.Maps.RangeWalk
import Derived.StringKeys
namespace Go.Proofs.YthbkcjlpelihlaaGreatDoor
open Go.RowKit

def stv (ps : List (List UInt8)) : List Value := ps.map fun p => .string ⟨p.toArray⟩
theorem stv_len (ps : List (List UInt8)) : (stv ps).length = ps.length := by simp [stv]
theorem stv_get {ps : List (List UInt8)} {j : Nat} {p : List UInt8} (h : ps[j]? = some p) : (stv ps)[j]? = some (.string ⟨p.toArray⟩) := by simp [stv, h]

theorem splitL_part : ∀ (l p : List UInt8), p ∈ splitL l → p.length ≤ l.length
  | [], p, h => by simp [splitL] at h; subst h; simp
  | b :: t, p, h => by
    unfold splitL at h
    split at h
    · rcases List.mem_cons.1 h with rfl | h
      · simp
      · have := splitL_part t p h
        simp
        omega
    · split at h
      · simp at h
        subst h
        simp
      · rename_i q qs e
        rcases List.mem_cons.1 h with rfl | h
        · have := splitL_part t q (by rw [e]; simp)
          simpa using this
        · have := splitL_part t p (by rw [e]; simp [h])
          simp
          omega

theorem split_cells (l : List UInt8) : (Lib.splitB ⟨#[47]⟩ 0 (Lib.countB ⟨l.toArray⟩ ⟨#[47]⟩) ⟨l.toArray⟩).map Value.string = stv (splitL l) ∧ Lib.countB ⟨l.toArray⟩ ⟨#[47]⟩ + 1 = (splitL l).length := by
  have hc : Lib.countB ⟨l.toArray⟩ ⟨#[47]⟩ = Lib.count l [47] := rfl
  have h1 := Lib.splitB_data ⟨#[47]⟩ 0 (Lib.countB ⟨l.toArray⟩ ⟨#[47]⟩) ⟨l.toArray⟩
  have h2 : Lib.splitK [47] 0 (Lib.countB ⟨l.toArray⟩ ⟨#[47]⟩) l = splitL l := splitK_eq _ l hc.symm
  have h3 : (Lib.splitB ⟨#[47]⟩ 0 (Lib.countB ⟨l.toArray⟩ ⟨#[47]⟩) ⟨l.toArray⟩).map (·.data.toList) = splitL l := h1.trans h2
  constructor
  · unfold stv
    rw [← h3, List.map_map]
    refine List.map_congr_left (fun x _ => ?_)
    simp
  · have h4 := Lib.splitB_all ⟨#[47]⟩ (by decide) 0 (Lib.countB ⟨l.toArray⟩ ⟨#[47]⟩) ⟨l.toArray⟩ rfl
    rw [← h3, List.length_map, h4]

def NewStrings (ps : List (List UInt8)) (w : World) (e : Ending) (w' : World) : Prop := ∃ ao, e = .returned (.slice ao ps.length ps.length) ∧ Sl w' (.slice ao ps.length ps.length) (stv ps) ∧ Fr [] w w'

theorem split_any (w : World) (l : List UInt8) (hG : Gl w) (hl : l.length ≤ 100000) :
    Calls Tryz.prog 126 #[.string ⟨l.toArray⟩, .string ⟨#[47]⟩] w (NewStrings (splitL l) w) := by
  obtain ⟨m, hm⟩ := hG.ml
  have hsz : (⟨l.toArray⟩ : ByteArray).size = l.length := by simp [ByteArray.size]
  have hlen := splitL_len l
  refine (Tryz.strings_Split ⟨l.toArray⟩ ⟨#[47]⟩ m w (by omega) hm (by decide)).mono ?_
  rintro e w2 ⟨rfl, rfl⟩
  rw [(split_cells l).1, (split_cells l).2]
  exact ⟨_, rfl, sl_lit w _ (stv (splitL l)) _ (by rw [stv_len]) (by omega), (Fr.refl _ _).alloc _⟩

theorem valid_any (w : World) (l : List UInt8) (hG : Gl w) (hl : l.length ≤ 100000) :
    Calls Tryz.prog 125 #[.string ⟨l.toArray⟩] w fun e w' => e = .returned (.bool (runesL l).isSome) ∧ Fr [] w w' := by
  have hsz : (⟨l.toArray⟩ : ByteArray).size = l.length := by simp [ByteArray.size]
  refine (Tryz.utf8_ValidString ⟨l.toArray⟩ w (by omega) hG.tabs).mono ?_
  rintro e w2 ⟨rfl, hb⟩
  exact ⟨by rw [← valid_runes], Fr.of_below hb⟩

/-- What Clean answers. -/
def CleanR (l : List UInt8) (w : World) (e : Ending) (w' : World) : Prop :=
  (∃ ao, cleanL foldL l = true ∧ e = .returned (.tuple #[.slice ao (splitL l).length (splitL l).length, .int .i64 0]) ∧ Sl w' (.slice ao (splitL l).length (splitL l).length) (stv (splitL l)) ∧ Fr [] w w') ∨
    (cleanL foldL l = false ∧ e = .returned (.tuple #[.slice none 0 0, .int .i64 15]) ∧ Fr [] w w')

set_option maxHeartbeats 1000000 in
theorem clean_any (w : World) (l : List UInt8) (hG : Gl w) (hl : l.length ≤ 100000) :
    Calls Tryz.prog 80 #[.string ⟨l.toArray⟩] w (CleanR l w) := by
  have HG := Lib.hid hG
  clear hG
  by_cases h1 : 1024 < l.length
  · have HC := Lib.hid (show cleanL foldL l = false by unfold cleanL; rw [show decide (l.length ≤ 1024) = false from by simp; omega]; simp)
    have a1 : (1024 : Int) < (l.length : Int) := by omega
    clear h1
    go_enter Tryz.func80, Tryz.ntmps80
    go_wp2_with fail
    go_ret2
    exact .inr ⟨HC.out, rfl, Fr.refl _ _⟩
  have a1 : (l.length : Int) ≤ 1024 := by omega
  cases hr : (runesL l).isSome with
  | false =>
    have HR := Lib.hid hr
    have HC := Lib.hid (show cleanL foldL l = false by unfold cleanL; rw [hr]; simp)
    clear h1 hr
    go_enter Tryz.func80, Tryz.ntmps80
    go_wp2_with (go_at_call 125; refine (valid_any _ l HG.out hl).mono ?_; rw [HR.out]; rintro e w1 ⟨rfl, F1⟩)
    go_ret2
    exact .inr ⟨HC.out, rfl, F1⟩
  | true =>
    have HR := Lib.hid hr
    have HC := Lib.hid (show cleanL foldL l = (decide ((splitL l).length ≤ 32) && (splitL l).all (partL foldL)) by unfold cleanL; rw [hr, show decide (l.length ≤ 1024) = true from decide_eq_true (by omega)]; rfl)
    clear h1 hr
    obtain ⟨ps, hps⟩ : ∃ ps, splitL l = ps := ⟨_, rfl⟩
    have HPS := Lib.hid hps
    have HPSL := Lib.hid (show ps.length ≤ l.length + 1 by rw [← hps]; exact splitL_len l)
    clear hps
    by_cases h32 : 32 < ps.length
    · have HC2 := Lib.hid (show cleanL foldL l = false by rw [HC.out, HPS.out, show decide (ps.length ≤ 32) = false from by simp; omega]; rfl)
      have a2 : (32 : Int) < (ps.length : Int) := by omega
      clear h32
      go_enter Tryz.func80, Tryz.ntmps80
      go_wp2_with (first
        | (go_at_call 125; refine (valid_any _ l HG.out hl).mono ?_; rw [HR.out]; rintro e w1 ⟨rfl, F1⟩)
        | (go_at_call 126; refine (split_any _ l (HG.out.fr F1) hl).mono ?_; rw [HPS.out]; rintro e w2 ⟨ao, rfl, hSl, F2⟩))
      go_ret2
      exact .inr ⟨HC2.out, rfl, F1.trans0 F2⟩
    · have a2 : (ps.length : Int) ≤ 32 := by omega
      have HC2 := Lib.hid (show cleanL foldL l = ps.all (partL foldL) by rw [HC.out, HPS.out, show decide (ps.length ≤ 32) = true from decide_eq_true (by omega)]; rfl)
      have HPL := Lib.hid (show ∀ p ∈ ps, p.length ≤ 100000 from fun p hp => by rw [← HPS.out] at hp; exact Nat.le_trans (splitL_part l p hp) hl)
      go_enter Tryz.func80, Tryz.ntmps80
      go_wp2_with (first
        | (go_at_call 125; refine (valid_any _ l HG.out hl).mono ?_; rw [HR.out]; rintro e w1 ⟨rfl, F1⟩)
        | (go_at_call 126; refine (split_any _ l (HG.out.fr F1) hl).mono ?_; rw [HPS.out]; rintro e w2 ⟨ao, rfl, hSl, F2⟩))
      have HSl := Lib.hid hSl
      obtain ⟨ao2, cap2, he2, g2, m2, o2⟩ := hSl.out
      injection he2 with e1 e2 e3
      subst e1 e3
      simp only [stv_len] at o2
      clear e2 hSl g2 m2
      go_loopw [22] (fun i wr => ∃ k : Nat, k ≤ ps.length ∧ i = .int .i64 k ∧ (ps.take k).all (partL foldL) = true ∧ Fr [] w2 wr) (fun i _ => ps.length - (intOf i).toNat)
      case atStart => exact ⟨0, Nat.zero_le _, rfl, by simp, Fr.refl _ _⟩
      case round =>
        obtain ⟨k, hk, rfl, hall, F⟩ := hrel
        by_cases hlt : k < ps.length
        · obtain ⟨b, of, rfl, hb, hc⟩ := o2 k hlt
          obtain ⟨p, hp⟩ := some_get ps k hlt
          have c0 : wr.cell? ⟨b, of + k, none⟩ = some (.string ⟨p.toArray⟩) := (F.cell (p := ⟨b, of + k, none⟩) hb (by simp)).trans ((hc k hlt).trans (stv_get hp))
          have HX := Lib.hid hp
          have HT := Lib.hid (show (ps.take (k + 1)).all (partL foldL) = partL foldL p by rw [List.take_add_one, hp, List.all_append, hall]; simp)
          clear o2 hc hp hall
          have hlt' : (k : Int) < (ps.length : Int) := by omega
          cases hpl : partL foldL p with
          | true =>
            have HP := Lib.hid hpl
            clear hpl
            go_wp2_with (go_at_call 127; refine (part_any _ p (HG.out.fr ((F1.trans0 F2).trans0 F)) (HPL.out p (List.mem_of_getElem? HX.out))).mono ?_; rw [HP.out]; rintro e w3 ⟨rfl, F3⟩)
            go_roundw
            case rel => exact ⟨k + 1, by omega, by go_num, by rw [HT.out, HP.out], F.trans0 F3⟩
            case measure => simp [intOf]; omega
          | false =>
            have HP := Lib.hid hpl
            have HC3 := Lib.hid (show cleanL foldL l = false by
              rw [HC2.out, List.all_eq_false]
              exact ⟨p, List.mem_of_getElem? HX.out, by rw [hpl]; simp⟩)
            clear hpl
            go_wp2_with (go_at_call 127; refine (part_any _ p (HG.out.fr ((F1.trans0 F2).trans0 F)) (HPL.out p (List.mem_of_getElem? HX.out))).mono ?_; rw [HP.out]; rintro e w3 ⟨rfl, F3⟩)
            go_ret2
            exact .inr ⟨HC3.out, rfl, ((F1.trans0 F2).trans0 F).trans0 F3⟩
        · have hke : k = ps.length := by omega
          subst hke
          rw [List.take_length] at hall
          have HC3 := Lib.hid (HC2.out.trans hall)
          clear o2 hall
          go_wp2_with fail
          go_ret2
          refine .inl ⟨ao, HC3.out, by rw [HPS.out]; rfl, by rw [HPS.out]; exact HSl.out.fr0 F, (F1.trans0 F2).trans0 F⟩
end Go.Proofs.YthbkcjlpelihlaaGreatDoor
/- Slices of structs of m cells that lie in new memory, as lists of cells. No condition. -/
namespace Go.Proofs.YthbkcjlpelihlaaGreatDoor
open Go.RowKit

/-- A slice of n elements of m cells each, of type e, reads as the cells xs; its block is not below lo. -/
def Sm (w : World) (lo e m : Nat) (v : Value) (n : Nat) (xs : List Value) : Prop :=
  ∃ ao cap, v = .slice ao n cap ∧ n ≤ cap ∧ cap ≤ 9223372036854775807 ∧ xs.length = n * m ∧ (ao = none → cap = 0) ∧
    (∀ a, ao = some a → ∃ b o, a = ⟨b, o, none⟩ ∧ lo ≤ b ∧ b < w.heap.size ∧ (∃ cs z, w.heap[b]? = some (.cells cs e z)) ∧ ∀ i, i < n * m → w.cell? ⟨b, o + i, none⟩ = xs[i]?)

theorem Sm.nil (w : World) (lo e m : Nat) : Sm w lo e m (.slice none 0 0) 0 [] := ⟨none, 0, rfl, by simp, by simp, by simp, fun _ => rfl, fun a h => by cases h⟩

theorem Sm.fr {w w' : World} {lo e m n : Nat} {v : Value} {xs : List Value} {S : List Nat} (h : Sm w lo e m v n xs) (F : Fr S w w') (hS : ∀ i ∈ S, i < lo) : Sm w' lo e m v n xs := by
  obtain ⟨ao, cap, rfl, h1, h2, h3, h4, h5⟩ := h
  refine ⟨ao, cap, rfl, h1, h2, h3, h4, fun a ha => ?_⟩
  obtain ⟨b, o, rfl, q1, q2, ⟨cs, z, q4⟩, q3⟩ := h5 a ha
  refine ⟨b, o, rfl, q1, Nat.lt_of_lt_of_le q2 F.size, ⟨cs, z, (F.block b q2 (fun hm => by have := hS b hm; omega)).trans q4⟩, fun i hi => ?_⟩
  rw [F.cell (p := ⟨b, o + i, none⟩) q2 (fun hm => by have := hS b hm; omega)]
  exact q3 i hi
/-- Blocks of other types may change. -/
theorem Sm.frT {w w' : World} {lo e m n : Nat} {v : Value} {xs : List Value} {S : List Nat} (h : Sm w lo e m v n xs) (F : Fr S w w') (hS : ∀ i ∈ S, i < lo ∨ ∀ cs z, w.heap[i]? ≠ some (.cells cs e z)) : Sm w' lo e m v n xs := by
  obtain ⟨ao, cap, rfl, h1, h2, h3, h4, h5⟩ := h
  refine ⟨ao, cap, rfl, h1, h2, h3, h4, fun a ha => ?_⟩
  obtain ⟨b, o, rfl, q1, q2, ⟨cs, z, q4⟩, q3⟩ := h5 a ha
  have hb : b ∉ S := fun hm => by
    rcases hS b hm with h | h
    · omega
    · exact h cs z q4
  refine ⟨b, o, rfl, q1, Nat.lt_of_lt_of_le q2 F.size, ⟨cs, z, (F.block b q2 hb).trans q4⟩, fun i hi => ?_⟩
  rw [F.cell (p := ⟨b, o + i, none⟩) q2 hb]
  exact q3 i hi
theorem Sm.fr0 {w w' : World} {lo e m n : Nat} {v : Value} {xs : List Value} (h : Sm w lo e m v n xs) (F : Fr [] w w') : Sm w' lo e m v n xs := h.fr F (by simp)
theorem Sm.two {w w' : World} {lo e m n : Nat} {v : Value} {xs : List Value} {p cp : Nat} (h : Sm w lo e m v n xs) (F : Fr [p, cp] w w') (h1 : p < lo) (h2 : cp < lo) : Sm w' lo e m v n xs := h.fr F (by simp; exact ⟨h1, h2⟩)
theorem Sm.mono {w : World} {lo lo' e m n : Nat} {v : Value} {xs : List Value} (h : Sm w lo e m v n xs) (hl : lo' ≤ lo) : Sm w lo' e m v n xs := by
  obtain ⟨ao, cap, rfl, h1, h2, h3, h4, h5⟩ := h
  refine ⟨ao, cap, rfl, h1, h2, h3, h4, fun a ha => ?_⟩
  obtain ⟨b, o, rfl, q1, q2, q4, q3⟩ := h5 a ha
  exact ⟨b, o, rfl, by omega, q2, q4, q3⟩

theorem Sm.of_own {w : World} {base e m : Nat} {v : Value} {n : Nat} {xs : List Value} (lo : Nat) (h : w.ownsRow base e m v n xs) (hl : lo ≤ base) : Sm w lo e m v n xs := by
  have h0 := h
  have hxl : xs.length = n * m := h.1
  rcases h.2 with ⟨rfl, hn⟩ | ⟨g, cap, cur, rfl, hb, hg, hnc, hcm, _⟩
  · subst hn
    exact ⟨none, 0, rfl, by simp, by simp, hxl, fun _ => rfl, fun a ha => by cases ha⟩
  · refine ⟨_, cap, rfl, hnc, by unfold maxLen at hcm; omega, hxl, (fun h => by cases h), fun a ha => ?_⟩
    obtain rfl := (Option.some.inj ha).symm
    refine ⟨g, 0, rfl, by omega, (Array.getElem?_eq_some_iff.1 hg).1, ⟨_, _, hg⟩, fun i hi => ?_⟩
    rw [Nat.zero_add]
    exact h0.cellAt i hi

/-- As a plain slice. -/
theorem Sm.sl {w : World} {lo e : Nat} {v : Value} {n : Nat} {xs : List Value} (h : Sm w lo e 1 v n xs) : Sl w v xs := by
  obtain ⟨ao, cap, rfl, h1, h2, h3, h4, h5⟩ := h
  have hn : xs.length = n := by omega
  refine ⟨ao, cap, by rw [hn], by omega, h2, h4, fun a ha hc => ?_⟩
  obtain ⟨b, o, rfl, q1, q2, -, q3⟩ := h5 a ha
  exact ⟨rfl, q2, fun j hj => q3 j (by omega)⟩

theorem Sm.out {w : World} {lo e m n : Nat} {v : Value} {xs : List Value} (h : Sm w lo e m v n xs) : ∃ ao cap, v = .slice ao n cap ∧ n ≤ cap ∧ cap ≤ 9223372036854775807 ∧
    ∀ j, j < n → ∃ b o, ao = some ⟨b, o, none⟩ ∧ lo ≤ b ∧ b < w.heap.size ∧ ∀ i, i < n * m → w.cell? ⟨b, o + i, none⟩ = xs[i]? := by
  obtain ⟨ao, cap, rfl, h1, h2, h3, h4, h5⟩ := h
  refine ⟨ao, cap, rfl, h1, h2, fun j hj => ?_⟩
  cases ao with
  | none => have := h4 rfl; omega
  | some a =>
    obtain ⟨b, o, rfl, q1, q2, -, q⟩ := h5 a rfl
    exact ⟨b, o, rfl, q1, q2, q⟩

/-- What the call owns, kept by what changes but other blocks. -/
theorem own_frS {w w' : World} {base e sz : Nat} {v : Value} {n : Nat} {xs : List Value} {S : List Nat} (h : w.ownsRow base e sz v n xs) (hf : Fr S w w') (hv : ∀ k, v.ownBlock = some k → k ∉ S) : w'.ownsRow base e sz v n xs := by
  refine ⟨h.1, ?_⟩
  rcases h.2 with hn | ⟨g, cap, cur, rfl, hb, hgg, rest⟩
  · exact .inl hn
  · refine .inr ⟨g, cap, cur, rfl, hb, ?_, rest⟩
    rw [hf.block g (Array.getElem?_eq_some_iff.1 hgg).1 (hv g rfl)]
    exact hgg

theorem own_outS {w : World} {base e sz : Nat} {v : Value} {n : Nat} {xs : List Value} (h : w.ownsRow base e sz v n xs) : ∃ ao cap, v = .slice ao n cap ∧ n ≤ cap ∧ cap ≤ 9223372036854775807 := by
  rcases h.2 with ⟨rfl, rfl⟩ | ⟨g, cap, cur, rfl, hb, hg, hnc, hcm, _⟩
  · exact ⟨none, 0, rfl, by simp, by simp⟩
  · exact ⟨_, cap, rfl, hnc, by unfold maxLen at hcm; omega⟩

theorem own_ltS {w : World} {base e sz : Nat} {v : Value} {n : Nat} {xs : List Value} (h : w.ownsRow base e sz v n xs) (k : Nat) (hk : v.ownBlock = some k) : base ≤ k ∧ k < w.heap.size := by
  rcases h.2 with ⟨rfl, rfl⟩ | ⟨g, cap, cur, rfl, hb, hg, _⟩
  · simp [Value.ownBlock] at hk
  · simp [Value.ownBlock] at hk
    subst hk
    exact ⟨hb, (Array.getElem?_eq_some_iff.1 hg).1⟩
/-- Blocks below the base may change. -/
theorem own_frB {w w' : World} {base e sz : Nat} {v : Value} {n : Nat} {xs : List Value} {S : List Nat} (h : w.ownsRow base e sz v n xs) (hf : Fr S w w') (hS : ∀ i ∈ S, i < base) : w'.ownsRow base e sz v n xs :=
  own_frS h hf fun k hk hm => by have := (own_ltS h k hk).1; have := hS k hm; omega

/-- The facts on a slice type of structs of m cells. -/
structure SlTyM (P : Program) (t e : TypeId) (z : Value) (m bytes : Nat) : Prop where
  under : P.underlying t = some (.slice e)
  info : ∃ i, P.info? e = some i ∧ i.zero = some z ∧ i.size = m ∧ i.bytes = bytes
  cells : z.cells.size = m
  pos : 0 < m

/-- 'append(v, u)': one struct more behind what the call owns. -/
theorem wpList_append_struct {P : Program} {t e : TypeId} {z : Value} {m bytes : Nat} (T : SlTyM P t e z m bytes) {w : World} {ops : Array Oper} {rest : List Oper} {o : Oper} {a : Act} {Q : Exit → Act → World → Prop} (hgd : o.guard = none) (s x : Operand)
    (ho : o.op = .call { callee := .builtin .append, args := #[s, x], argTypes := #[t, t] })
    (base : Nat) (v : Value) (n : Nat) (xs : List Value) (hs : a.eval s = v) (hown : w.ownsRow base e m v n xs)
    (g : Nat) (us : List Value) (hx : a.eval x = .slice (some ⟨g, 0, none⟩) 1 1) (hg : w.heap[g]? = some (.cells us.toArray e)) (hul : us.length = m) (h1 : us.all (·.oneCell') = true)
    (hm : n + 1 ≤ 100000000) (hby : bytes ≤ 1000) (hbase : base ≤ w.heap.size)
    (h : ∀ v' w', w'.ownsRow base e m v' (n + 1) (xs ++ us) → w.grownBy w' v.ownBlock → wpList P ops Q rest (a.put o.dst v') w') : wpList P ops Q (o :: rest) a w := by
  obtain ⟨i, hi, hz, hsz, hb⟩ := T.info
  have hle : (n + 1) * bytes ≤ 100000000 * 1000 := Nat.mul_le_mul hm hby
  refine wpList_append_own w hgd s x t ho base e i z m bytes T.under hi hz hsz hb T.cells T.pos v n xs hs hown ⟨g, 0, none⟩ 1 1 us hx (by omega) ?_ ?_ (by unfold maxLen; omega) (by omega) hbase (fun v' w' q1 q2 _ => h v' w' q1 q2)
  · intro j u hu
    have hadd : (⟨g, 0, none⟩ : Addr).add j = ⟨g, j, none⟩ := by unfold Addr.add; split <;> simp_all
    rw [hadd, Go.Joins.cell_of_block hg]
    simpa using hu
  · intro u hu
    exact List.all_eq_true.1 h1 u hu
end Go.Proofs.YthbkcjlpelihlaaGreatDoor
/- A sandbox's things: the plain law. No condition. -/
namespace Go.Proofs.YthbkcjlpelihlaaGreatDoor

/-- What is at a path; a thing. -/
structure Tv where
  kind : Int
  data : List UInt8
  ln : List UInt8
deriving DecidableEq
structure Th where
  path : List UInt8
  tv : Tv
deriving DecidableEq

/-- What lies at a path. -/
abbrev Tree := List UInt8 → Option Tv
def lookL (L : List Th) : Tree := fun p => (L.find? fun t => t.path == p).map (·.tv)
def kindK (K : Tree) (p : List UInt8) : Int := ((K p).map (·.kind)).getD 0
/-- The last slash. -/
def lastS : List UInt8 → Option Nat
  | [] => none
  | c :: t => match lastS t with
    | some i => some (i + 1)
    | none => if c = 47 then some 0 else none
def parentL (p : List UInt8) : List UInt8 := match lastS p with
  | some i => p.take i
  | none => []
def deepL (p : List UInt8) : Bool := (lastS p).isSome
def liesK (K : Tree) (p : List UInt8) : Bool := !deepL p || decide (kindK K (parentL p) = 1)
def withinB (p top : List UInt8) : Bool := (top ++ [47]).isPrefixOf p
def tvMay (t : Tv) : Bool := (decide (t.kind = 1) && decide (t.data = []) && decide (t.ln = [])) || (decide (t.kind = 2) && decide (t.ln = [])) || (decide (t.kind = 3) && decide (t.data = []))
/-- A tree that may be. -/
def MayK (K : Tree) : Prop := ∀ p t, K p = some t → cleanL foldL p = true ∧ tvMay t = true ∧ liesK K p = true
def MayT (L : List Th) : Prop := (L.map (·.path)).Nodup ∧ MayK (lookL L)
def updK (K : Tree) (p : List UInt8) (t : Tv) : Tree := fun q => if q = p then some t else K q
def delK (K : Tree) (p : List UInt8) : Tree := fun q => if q = p then none else K q
def dropK (K : Tree) (top : List UInt8) : Tree := fun q => if q = top ∨ withinB q top = true then none else K q

theorem lastS_some : ∀ {p : List UInt8} {i : Nat}, lastS p = some i → p[i]? = some 47 ∧ ∀ j, i < j → p[j]? ≠ some 47
  | [], i, h => by simp [lastS] at h
  | c :: t, i, h => by
    unfold lastS at h
    cases ht : lastS t with
    | some k =>
      rw [ht] at h
      obtain rfl : k + 1 = i := by simpa using h
      obtain ⟨h1, h2⟩ := lastS_some ht
      refine ⟨by simpa using h1, fun j hj => ?_⟩
      obtain ⟨j, rfl⟩ : ∃ m, j = m + 1 := ⟨j - 1, by omega⟩
      simpa using h2 j (by omega)
    | none =>
      rw [ht] at h
      by_cases hc : c = 47
      · simp [hc] at h
        subst h hc
        refine ⟨rfl, fun j hj => ?_⟩
        obtain ⟨j, rfl⟩ : ∃ m, j = m + 1 := ⟨j - 1, by omega⟩
        intro hh
        have hm : (47 : UInt8) ∈ t := List.mem_of_getElem? (by simpa using hh)
        exact lastS_none ht hm
      · simp [hc] at h
where
  lastS_none : ∀ {p : List UInt8}, lastS p = none → (47 : UInt8) ∉ p
  | [], _ => by simp
  | c :: t, h => by
    unfold lastS at h
    cases ht : lastS t with
    | some k => rw [ht] at h; simp at h
    | none =>
      rw [ht] at h
      by_cases hc : c = 47
      · simp [hc] at h
      · intro hm
        rcases List.mem_cons.1 hm with rfl | hm
        · exact hc rfl
        · exact lastS_none ht hm
theorem lastS_none {p : List UInt8} (h : lastS p = none) : (47 : UInt8) ∉ p := lastS_some.lastS_none h
theorem parentL_len {p : List UInt8} {i : Nat} (h : lastS p = some i) : (parentL p).length = i ∧ i < p.length ∧ parentL p = p.take i := by
  have h1 := (lastS_some h).1
  have hi : i < p.length := (List.getElem?_eq_some_iff.1 h1).1
  have e : parentL p = p.take i := by unfold parentL; rw [h]
  exact ⟨by rw [e, List.length_take]; omega, hi, e⟩
theorem within_iff {p top : List UInt8} : withinB p top = true ↔ p.take top.length = top ∧ p[top.length]? = some 47 := by
  unfold withinB
  rw [List.isPrefixOf_iff_prefix]
  constructor
  · rintro ⟨r, rfl⟩
    simp
  · rintro ⟨h1, h2⟩
    have hl : top.length < p.length := (List.getElem?_eq_some_iff.1 h2).1
    refine ⟨p.drop (top.length + 1), ?_⟩
    have e1 : p = p.take (top.length + 1) ++ p.drop (top.length + 1) := (List.take_append_drop _ p).symm
    have e2 : p.take (top.length + 1) = top ++ [47] := by rw [List.take_add_one, h1, h2]; rfl
    rw [← e2]
    exact e1.symm
/-- What lies in a tree lies in its top, or in what lies in it. -/
theorem within_up {p top : List UInt8} (h : withinB p top = true) : deepL p = true ∧ (parentL p = top ∨ (withinB (parentL p) top = true)) ∧ (parentL p).length < p.length := by
  obtain ⟨h1, h2⟩ := within_iff.1 h
  cases hl : lastS p with
  | none => exact absurd (List.mem_of_getElem? h2) (lastS_none hl)
  | some i =>
    obtain ⟨e1, e2, e3⟩ := parentL_len hl
    obtain ⟨q1, q2⟩ := lastS_some hl
    refine ⟨by unfold deepL; rw [hl]; rfl, ?_, by omega⟩
    have hle : top.length ≤ i := by
      apply Classical.byContradiction
      intro hn
      exact q2 _ (by omega) h2
    rcases Nat.lt_or_eq_of_le hle with hlt | heq
    · right
      refine within_iff.2 ⟨?_, ?_⟩
      · rw [e3, List.take_take, Nat.min_eq_left hle, h1]
      · rw [e3, List.getElem?_take_of_lt hlt, h2]
    · left
      rw [e3, ← heq, h1]
theorem kindK_some {K : Tree} {p : List UInt8} {k : Int} (h : kindK K p = k) (hk : k ≠ 0) : ∃ t, K p = some t ∧ t.kind = k := by
  unfold kindK at h
  cases hp : K p with
  | none => rw [hp] at h; exact absurd h.symm hk
  | some t => rw [hp] at h; exact ⟨t, rfl, h⟩
theorem not_below {K : Tree} (hK : MayK K) {top : List UInt8} (ht : K top = none) : ∀ (n : Nat) (p : List UInt8), p.length ≤ n → withinB p top = true → K p = none
  | 0, p, hn, h => by
    have := (within_up h).2.2
    omega
  | n + 1, p, hn, h => by
    obtain ⟨h1, h2, h3⟩ := within_up h
    cases hp : K p with
    | none => rfl
    | some t =>
      have hl := (hK p t hp).2.2
      unfold liesK at hl
      rw [h1] at hl
      obtain ⟨u, hu, -⟩ := kindK_some (of_decide_eq_true (by simpa using hl)) (by decide)
      rcases h2 with h2 | h2
      · rw [h2, ht] at hu; exact absurd hu (by simp)
      · rw [not_below hK ht n (parentL p) (by omega) h2] at hu
        exact absurd hu (by simp)
/-- What is made new and dropped leaves all as it was. -/
theorem drop_upd {K : Tree} (hK : MayK K) {top : List UInt8} (ht : K top = none) (t : Tv) : dropK (updK K top t) top = K := by
  funext q
  unfold dropK updK
  by_cases h1 : q = top
  · subst h1
    simp [ht]
  · by_cases h2 : withinB q top = true
    · simp [h2, not_below hK ht q.length q (Nat.le_refl _) h2]
    · simp [h1, h2]
theorem upd_upd (K : Tree) (p : List UInt8) (s t : Tv) : updK (updK K p s) p t = updK K p t := by
  funext q
  unfold updK
  split <;> rfl
/-- Lists that say the same have as many things. -/
theorem look_mem {L : List Th} {p : List UInt8} : (lookL L p).isSome = true ↔ p ∈ L.map (·.path) := by
  unfold lookL
  rw [Option.isSome_map, List.find?_isSome]
  simp only [List.mem_map, beq_iff_eq]
theorem look_len {X L : List Th} (hX : (X.map (·.path)).Nodup) (hL : (L.map (·.path)).Nodup) (h : lookL X = lookL L) : X.length = L.length := by
  have hp : (X.map (·.path)).Perm (L.map (·.path)) := (List.perm_ext_iff_of_nodup hX hL).2 fun p => by rw [← look_mem, ← look_mem, h]
  simpa using hp.length_eq
theorem look_at {L : List Th} (hL : (L.map (·.path)).Nodup) {i : Nat} {t : Th} (h : L[i]? = some t) : lookL L t.path = some t.tv := by
  induction L generalizing i with
  | nil => simp at h
  | cons a r ih =>
    rw [List.map_cons, List.nodup_cons] at hL
    unfold lookL
    rw [List.find?_cons]
    by_cases ha : a.path = t.path
    · cases i with
      | zero =>
        have : a = t := by simpa using h
        subst this
        simp
      | succ i =>
        exfalso
        apply hL.1
        rw [ha]
        exact List.mem_map_of_mem (List.mem_of_getElem? (by simpa using h))
    · have e : (a.path == t.path) = false := by simpa using ha
      rw [e]
      cases i with
      | zero => exact absurd (by simpa using h) (fun hh : a = t => ha (by rw [hh]))
      | succ i => exact ih hL.2 (by simpa using h)
end Go.Proofs.YthbkcjlpelihlaaGreatDoor
/- The map of a sandbox's things, as the model keeps it. No condition but that lengths fit. -/
namespace Go.Proofs.YthbkcjlpelihlaaGreatDoor
open Go.RowKit Go.Maps Go.WideMaps

/-- An element, as it lies in the map. -/
def zeroT : Value := .agg #[.int .i64 0, .slice none 0 0, .string ⟨#[]⟩]
def rawR (v : Value) : Option (DataW Value × List MemPlace) := some (.held v, [])
theorem law_str : Keyed Tryz.prog 9 := string_keyed Tryz.underlying9
theorem zero_thing (w : World) : (zeroValue 80).run Tryz.prog w = .ok zeroT w := by kernel_rfl

/-- The datum D says at each path just what K tells. -/
def Says (D : DataW Value) (K : List UInt8 → Option Value) : Prop := ∀ key : List UInt8, Maps.has D (.string key) = (K key).isSome ∧ D.atKey (.string key) (.held zeroT) = .held ((K key).getD zeroT)
/-- Block b is a map that holds just what K tells. -/
def MTh (w : World) (b n : Nat) (K : List UInt8 → Option Value) : Prop := ∃ D : DataW Value, w.ownsMap Tryz.prog 9 rawR b n D ∧ Says D K

theorem MTh.made (w : World) : MTh (w.alloc (.map #[] 0)) w.heap.size 0 (fun _ => none) := ⟨_, World.ownsMap_made w _ _ _, fun _ => ⟨rfl, rfl⟩⟩
theorem owns_fr {w w' : World} {b n : Nat} {D : DataW Value} {S : List Nat} (h : w.ownsMap Tryz.prog 9 rawR b n D) (F : Fr S w w') (hS : b ∉ S) : w'.ownsMap Tryz.prog 9 rawR b n D := by
  obtain ⟨es, clock, h1, h2⟩ := h
  exact ⟨es, clock, (F.block b (Array.getElem?_eq_some_iff.1 h1).1 hS).trans h1, h2⟩
theorem MTh.fr {w w' : World} {b n : Nat} {K : List UInt8 → Option Value} {S : List Nat} (h : MTh w b n K) (F : Fr S w w') (hS : b ∉ S) : MTh w' b n K := by
  obtain ⟨D, h1, h2⟩ := h
  exact ⟨D, owns_fr h1 F hS, h2⟩
theorem MTh.mono {w : World} {b n m : Nat} {K : List UInt8 → Option Value} (h : MTh w b n K) (hn : n ≤ m) : MTh w b m K := by
  obtain ⟨D, h1, h2⟩ := h
  exact ⟨D, h1.mono hn, h2⟩
theorem MTh.lt {w : World} {b n : Nat} {K : List UInt8 → Option Value} (h : MTh w b n K) : b < w.heap.size := by
  obtain ⟨D, h1, _⟩ := h
  exact h1.lt
theorem key_lit {key : List UInt8} (hk : key.length ≤ 100000) : keyOf Tryz.prog 9 (.string ⟨key.toArray⟩) = some (.string key) := by
  have hs : (⟨key.toArray⟩ : ByteArray).size ≤ maxLen := by simp [ByteArray.size]; unfold maxLen; omega
  have := keyOf_string_mk Tryz.underlying9 hs
  rw [this]
theorem raw_inv {v : Value} {d : Value} {ps : List MemPlace} (h : rawR v = some (.held d, ps)) : v = d := by
  unfold rawR at h
  simp at h
  exact h.1
theorem MTh.look {w : World} {b n : Nat} {K : List UInt8 → Option Value} (h : MTh w b n K) (key : List UInt8) (hk : key.length ≤ 100000) :
    (Instr.lookup 78 (.map (some b)) (.string ⟨key.toArray⟩) true).run Tryz.prog w = .ok (.tuple #[(K key).getD zeroT, .bool (K key).isSome]) w := by
  obtain ⟨D, hD, hK⟩ := h
  obtain ⟨v, ps, hrun, hv⟩ := hD.look_ok law_str Tryz.underlying78 (zero_thing w) (show rawR zeroT = some (.held zeroT, []) from rfl) (key_lit hk)
  rw [hrun]
  rw [(hK key).2] at hv
  rw [(hK key).1, raw_inv hv]
theorem MTh.get {w : World} {b n : Nat} {K : List UInt8 → Option Value} (h : MTh w b n K) (key : List UInt8) (hk : key.length ≤ 100000) :
    (Instr.lookup 78 (.map (some b)) (.string ⟨key.toArray⟩) false).run Tryz.prog w = .ok ((K key).getD zeroT) w := by
  obtain ⟨D, hD, hK⟩ := h
  obtain ⟨v, ps, hrun, hv⟩ := hD.lookup law_str Tryz.underlying78 (zero_thing w) (show rawR zeroT = some (.held zeroT, []) from rfl) (key_lit hk)
  rw [hrun]
  rw [(hK key).2] at hv
  rw [raw_inv hv]
/-- One more is there, or another one. -/
theorem Says.put {D : DataW Value} {K : List UInt8 → Option Value} (h : Says D K) (hm : IsMap D) (key : List UInt8) (x : Value) : Says (D.put (.string key) (.held x)) (fun y => if y = key then some x else K y) := by
  intro y
  by_cases hy : y = key
  · subst hy
    rw [has_put_same (k := .string y) hm (by exact True.intro), atKey_put_same (k := .string y) hm (by exact True.intro)]
    simp
  · rw [has_put_other (by simpa using hy), atKey_put_other (by simpa using hy), (h y).1, (h y).2]
    simp [hy]
theorem Says.del {D : DataW Value} {K : List UInt8 → Option Value} (h : Says D K) (key : List UInt8) : Says (D.del (.string key)) (fun y => if y = key then none else K y) := by
  intro y
  by_cases hy : y = key
  · subst hy
    rw [has_del_same, atKey_del_same]
    simp
  · rw [has_del_other (by simpa using hy), atKey_del_other (by simpa using hy), (h y).1, (h y).2]
    simp [hy]
theorem fr_turned {w w' : World} {b : Nat} (h : w.grownBy w' (some b)) : Fr [b] w w' := (Fr.refl [b] w).grown h (fun k e => .inl (by cases e; simp))
theorem MTh.put {w : World} {b n : Nat} {K : List UInt8 → Option Value} (h : MTh w b n K) (hn : n ≤ 100000000) (key : List UInt8) (hk : key.length ≤ 100000) (x : Value) :
    ∃ w', (Instr.mapUpdate 78 (.map (some b)) (.string ⟨key.toArray⟩) x).run Tryz.prog w = .ok () w' ∧ MTh w' b (n + 1) (fun y => if y = key then some x else K y) ∧ w.grownBy w' (some b) := by
  obtain ⟨D, hD, hK⟩ := h
  obtain ⟨w', hr, h1, h2⟩ := hD.update law_str Tryz.underlying78 (by unfold maxLen; omega) (key_lit hk) (show rawR x = some (.held x, []) from rfl)
  exact ⟨w', hr, ⟨_, h1, hK.put (hD.tidy law_str).isMap key x⟩, h2⟩
theorem MTh.del {w : World} {b n : Nat} {K : List UInt8 → Option Value} (h : MTh w b n K) (key : List UInt8) (hk : key.length ≤ 100000) (ty : TypeId) :
    ∃ w', (Builtin.delete_ #[78, 9] ty #[.map (some b), .string ⟨key.toArray⟩]).run Tryz.prog w = .ok (.tuple #[]) w' ∧ MTh w' b n (fun y => if y = key then none else K y) ∧ w.grownBy w' (some b) := by
  obtain ⟨D, hD, hK⟩ := h
  obtain ⟨w', hr, h1, h2⟩ := hD.drop law_str Tryz.underlying78 (key_lit hk) ty
  exact ⟨w', hr, ⟨_, h1, hK.del key⟩, h2.grown⟩
end Go.Proofs.YthbkcjlpelihlaaGreatDoor
