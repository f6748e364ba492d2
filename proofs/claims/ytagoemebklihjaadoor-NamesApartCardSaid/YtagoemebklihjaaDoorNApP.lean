/- Apart, in plain Lean; contracts: meet, Join. No condition but that lengths fit. -/
import Derived.Test.YtagoemebklihjaaDoorNMap
namespace Go.Proofs.YtagoemebklihjaaDoor
open Go.RowKit

/-- An entry's name. -/
structure Nm where
  path : List UInt8
  dir : Bool

def joinL (ps : List (List UInt8)) : List UInt8 := Lib.join ps [47]
def meetS (s o : Sn) : Bool := (s.path != o.path) || (s.entry && o.entry) || s.file || o.file
def upd (K : List UInt8 → Option Sn) (key : List UInt8) (x : Sn) : List UInt8 → Option Sn := fun y => if y = key then some x else K y
def nowS (ps : List (List UInt8)) (dir : Bool) (k : Nat) : Sn := ⟨joinL (ps.take (k + 1)), decide (k + 1 = ps.length), decide (k + 1 = ps.length) && !dir⟩
def mix (was now : Sn) : Sn := ⟨now.path, was.entry || now.entry, was.file || now.file⟩
def runS (K : List UInt8 → Option Sn) : List Sn → Bool
  | [] => true
  | now :: t => match K (foldL now.path) with
    | some was => if meetS was now then false else runS (upd K (foldL now.path) (mix was now)) t
    | none => runS (upd K (foldL now.path) (mix Sn.zero now)) t
def evs (n : Nm) : List Sn := (List.range (splitL n.path).length).map (nowS (splitL n.path) n.dir)
/-- What Apart answers. -/
def apartL (l : List Nm) : Int := if l.any (fun n => !cleanL foldL n.path) then 15 else if runS (fun _ => none) (l.flatMap evs) then 0 else 16

theorem evs_len (n : Nm) : (evs n).length = (splitL n.path).length := by simp [evs]
theorem evs_drop (n : Nm) (k : Nat) (hk : k < (splitL n.path).length) : (evs n).drop k = nowS (splitL n.path) n.dir k :: (evs n).drop (k + 1) := by
  rw [List.drop_eq_getElem_cons (by rw [evs_len]; exact hk)]
  congr 1
  simp [evs]

theorem join_len (M : Nat) : ∀ ps : List (List UInt8), (∀ p ∈ ps, p.length ≤ M) → (joinL ps).length ≤ ps.length * (M + 1)
  | [], _ => by simp [joinL, Lib.join]
  | [p], h => by
    have := h p (by simp)
    simp [joinL, Lib.join]
    omega
  | p :: q :: t, h => by
    have h1 := h p (by simp)
    have h2 := join_len M (q :: t) (fun x hx => h x (by simp [hx]))
    unfold joinL Lib.join at *
    rw [List.intercalate_cons_cons]
    simp at h2 ⊢
    have : (t.length + 1 + 1) * (M + 1) = (t.length + 1) * (M + 1) + (M + 1) := by rw [Nat.add_mul (t.length + 1)]; omega
    omega

theorem clean_bounds {l : List UInt8} (h : cleanL foldL l = true) : l.length ≤ 1024 ∧ (splitL l).length ≤ 32 := by
  unfold cleanL at h
  simp only [Bool.and_eq_true, decide_eq_true_eq] at h
  exact ⟨h.1.1.2, h.1.2⟩

theorem join_any (w : World) (b o c : Nat) (ps : List (List UInt8)) (hcells : ∀ (j : Nat) p, ps[j]? = some p → w.cell? ⟨b, o + j, none⟩ = some (.string ⟨p.toArray⟩)) (hb : b < w.heap.size) (hN : ps.length ≤ 1000) (hc : ps.length ≤ c) (hl : (joinL ps).length ≤ 100000) :
    Calls Tryd.prog 27 #[.slice (some ⟨b, o, none⟩) ps.length c, .string ⟨#[47]⟩] w fun e w' => e = .returned (.string ⟨(joinL ps).toArray⟩) ∧ Fr [] w w' := by
  have hm : (ps.map (fun p => (⟨p.toArray⟩ : ByteArray))).map (·.data.toList) = ps := by rw [List.map_map]; exact (List.map_congr_left (g := id) (fun p _ => rfl)).trans (List.map_id _)
  have h := Tryd.strings_Join b o c (ps.map (fun p => (⟨p.toArray⟩ : ByteArray))) ⟨#[47]⟩ w (fun j x hx => by
    rw [List.getElem?_map] at hx
    obtain ⟨p, hp, rfl⟩ := Option.map_eq_some_iff.1 hx
    exact hcells j p hp) hb (by simp; omega) (by simpa using hc) (by rw [hm]; exact Nat.le_trans hl (by decide))
  rw [hm, List.length_map] at h
  exact h.mono (fun e w' ⟨h1, h2⟩ => ⟨h1, Fr.of_below h2⟩)

def CleanY (w : World) (e : Ending) (w' : World) : Prop := (∃ v, e = .returned (.tuple #[v, .int .i64 0])) ∧ Fr [] w w'
theorem clean_yes (w : World) (l : List UInt8) (hG : Gl w) (hl : l.length ≤ 100000) (h : cleanL foldL l = true) : Calls Tryd.prog 10 #[.string ⟨l.toArray⟩] w (CleanY w) := by
  refine (clean_any w l hG hl).mono ?_
  rintro e w' (⟨ao, -, rfl, -, F⟩ | ⟨h2, -⟩)
  · exact ⟨⟨_, rfl⟩, F⟩
  · rw [h] at h2; cases h2
theorem clean_no (w : World) (l : List UInt8) (hG : Gl w) (hl : l.length ≤ 100000) (h : cleanL foldL l = false) : Calls Tryd.prog 10 #[.string ⟨l.toArray⟩] w fun e w' => e = .returned (.tuple #[.slice none 0 0, .int .i64 15]) ∧ Fr [] w w' := by
  refine (clean_any w l hG hl).mono ?_
  rintro e w' (⟨ao, h2, -⟩ | ⟨-, rfl, F⟩)
  · rw [h] at h2; cases h2
  · exact ⟨rfl, F⟩

set_option maxHeartbeats 2000000 in
theorem meet_any (w : World) (s o : Sn) : Calls Tryd.prog 29 #[snv s, snv o] w fun e w' => e = .returned (.bool (meetS s o)) ∧ Fr [] w w' := by
  obtain ⟨p, en, fi⟩ := s
  obtain ⟨q, en2, fi2⟩ := o
  unfold snv
  dsimp only
  by_cases h : p = q
  · have HM := Lib.hid (show meetS ⟨p, en, fi⟩ ⟨q, en2, fi2⟩ = ((en && en2) || fi || fi2) by simp [meetS, h])
    have t0 : (p == q) = true := by rw [h]; simp
    clear h
    cases en <;> cases en2 <;> cases fi <;> cases fi2
    all_goals
      go_enter Tryd.func29, Tryd.ntmps29
      go_wp2_with fail
      go_ret
      exact ⟨by rw [HM.out]; rfl, ((Fr.refl _ _).alloc _).alloc _⟩
  · have HM := Lib.hid (show meetS ⟨p, en, fi⟩ ⟨q, en2, fi2⟩ = true by simp [meetS, h])
    have t0 : (p == q) = false := by rw [beq_eq_false_iff_ne]; exact h
    clear h
    go_enter Tryd.func29, Tryd.ntmps29
    go_wp2_with fail
    go_ret
    exact ⟨by rw [HM.out]; rfl, ((Fr.refl _ _).alloc _).alloc _⟩

theorem apart_awake : apartL [⟨[97], false⟩, ⟨[65, 47, 98], false⟩] = 16 := by decide
end Go.Proofs.YtagoemebklihjaaDoor
