/- The law NamesTexts: the walk. No condition but what the package variables hold. -/
import Derived.Test.YtagoemebklihjaaDoorNRText
import Derived.Test.YtagoemebklihjaaDoorNRUnits
import Derived.Test.YtagoemebklihjaaDoorNAwake
namespace Go.Proofs.YtagoemebklihjaaDoor
open Go.RowKit

/-- A text's units, none if it isn't one; the answer's code beside it. -/
def unL (l : List UInt8) : List Nat := match runesL l with | some rs => unitsR rs | none => []
def unC (l : List UInt8) : Int := match runesL l with | some _ => 0 | none => 15
def UnR (l : List UInt8) (w : World) (e : Ending) (w' : World) : Prop := (∃ v, e = .returned (.tuple #[v, .int .i64 (unC l)]) ∧ Sl w' v (hv (unL l))) ∧ Fr [] w w'
theorem units_un {l : List UInt8} {w : World} {e : Ending} {w' : World} (h : UnitsR l w e w') : UnR l w e w' := by
  rcases h with ⟨v, rs, hr, rfl, hS, F⟩ | ⟨hr, rfl, F⟩
  · exact ⟨⟨v, by rw [unC, hr], by rw [unL, hr]; exact hS⟩, F⟩
  · exact ⟨⟨.slice none 0 0, by rw [unC, hr], by rw [unL, hr]; exact Sl.nil _⟩, F⟩
theorem unitsR_len : ∀ (rs : List Nat), (unitsR rs).length ≤ 2 * rs.length
  | [] => by simp [unitsR]
  | r :: t => by
    have := unitsR_len t
    have e : unitsR (r :: t) = unitsN r ++ unitsR t := by simp [unitsR]
    have h : (unitsN r).length ≤ 2 := by unfold unitsN; split <;> simp
    rw [e]; simp; omega
theorem unL_len (l : List UInt8) : (unL l).length ≤ 2 * l.length := by
  unfold unL
  split
  next rs hr => have := (runes_scal _ l rs (Nat.le_refl _) hr).2; have := unitsR_len rs; omega
  next => simp

/-- The text of the units, none if it isn't one; the answer's code beside it. -/
def txL (u : List Nat) : List UInt8 := match textL u with | some c => c | none => []
def txC (u : List Nat) : Int := match textL u with | some _ => 0 | none => 15
def TxR (u : List Nat) (w : World) (e : Ending) (w' : World) : Prop := e = .returned (.tuple #[.string ⟨(txL u).toArray⟩, .int .i64 (txC u)]) ∧ Fr [] w w'
theorem text_tx {u : List Nat} {w : World} {e : Ending} {w' : World} (h : TextR u w e w') : TxR u w e w' := by
  rcases h with ⟨c, hr, rfl, F⟩ | ⟨hr, rfl, F⟩
  · exact ⟨by rw [txC, txL, hr], F⟩
  · exact ⟨by rw [txC, txL, hr], F⟩

set_option maxRecDepth 100000 in
set_option maxHeartbeats 1000000 in
theorem walk_NamesTexts (w : World) (s : ByteArray) (v : Value) (us : List Nat) (hG : Gl w) (hS : Sl w v (hv us)) (hu : ∀ x ∈ us, x < 65536) :
    Calls Tryd.prog 7 #[.string s, v] w fun e w' => e = .returned (.bool true) ∧ Fr [] w w' := by
  obtain ⟨l, rfl⟩ : ∃ l : List UInt8, s = ⟨l.toArray⟩ := ⟨s.data.toList, (Lib.mk_data s).symm⟩
  have HG := Lib.hid hG
  have HU := Lib.hid hu
  obtain ⟨b, cap, rfl, -⟩ := hS.out
  have hvl : (hv us).length = us.length := by simp [hv]
  rw [hvl] at hS ⊢
  have HSl := Lib.hid hS
  clear hvl
  clear hG hS hu
  by_cases hl : 16384 < l.length
  · have a1 : (16384 : Int) < (l.length : Int) := by omega
    clear hl
    go_enter Tryd.func7, Tryd.ntmps7
    go_wp2_with (go_at_call 9; refine (awake_any _ HG.out).mono ?_; rintro e w1 ⟨rfl, F1⟩)
    go_ret
    exact ⟨rfl, F1⟩
  have a1 : (l.length : Int) ≤ 16384 := by omega
  by_cases hm : 16384 < us.length
  · have a2 : (16384 : Int) < (us.length : Int) := by omega
    clear hl hm
    go_enter Tryd.func7, Tryd.ntmps7
    go_wp2_with (go_at_call 9; refine (awake_any _ HG.out).mono ?_; rintro e w1 ⟨rfl, F1⟩)
    go_ret
    exact ⟨rfl, F1⟩
  have a2 : (us.length : Int) ≤ 16384 := by omega
  have HL := Lib.hid (show l.length ≤ 100000 by omega)
  have HM := Lib.hid (show us.length ≤ 100000 by omega)
  have HUL := Lib.hid (show (unL l).length ≤ 1000000 by have := unL_len l; omega)
  have HT := Lib.hid (show (unL l == unL l) = true by simp)
  have HTx := (show (txL us == txL us) = true by simp)
  clear hl hm
  go_enter Tryd.func7, Tryd.ntmps7
  go_wp2_with (first
    | (go_at_call 9; refine (awake_any _ HG.out).mono ?_; rintro e w1 ⟨rfl, F1⟩)
    | (go_at_call 15; refine (units_any _ l (HG.out.fr F1) HL.out).mono ?_; intro e w2 h2; obtain ⟨⟨v2, rfl, hS2⟩, F2⟩ := units_un h2; clear h2; have F12 := F1.trans0 F2)
    | (go_at_call 16; refine (runits_any _ l HL.out).mono ?_; intro e w3 h3; obtain ⟨⟨v3, rfl, hS3⟩, F3⟩ := units_un h3; clear h3; have F13 := F12.trans0 F3; have hS23 := hS2.fr0 F3)
    | (go_at_call 17; refine (text_any _ _ us (HSl.out.fr0 F13) HU.out HM.out).mono ?_; intro e w4 h4; obtain ⟨rfl, F4⟩ := text_tx h4; clear h4; have F14 := F13.trans0 F4; have hS24 := hS23.fr0 F4; have hS34 := hS3.fr0 F4)
    | (go_at_call 18; refine (rtext_any _ _ us (HSl.out.fr0 F14) HU.out HM.out).mono ?_; intro e w5 h5; obtain ⟨rfl, F5⟩ := text_tx h5; clear h5; have F15 := F14.trans0 F5; have hS25 := hS24.fr0 F5; have hS35 := hS34.fr0 F5)
    | (go_at_call 19; refine (same_any _ _ _ (unL l) (unL l) hS25 hS35 HUL.out).mono ?_; rw [HT.out]; rintro e w6 ⟨rfl, S6⟩; have F16 := F15.trans0 (S6.fr (S := []))))
  go_ret
  exact ⟨rfl, F16⟩
end Go.Proofs.YtagoemebklihjaaDoor
