/- Contracts: bytes.Equal; the magic; Open of two bytes. No condition. -/
import Derived.Test.YthbkcjlpelihlaaGreatDoorGAA
import Derived.Test.YthbkcjlpelihlaaGreatDoorGAB
import Derived.Deep.DeepCutAuto
import Derived.Deep.RegionHeld3
namespace Go.Proofs.YthbkcjlpelihlaaGreatDoor
open Go.RowKit

theorem sl_block {w : World} {g : Nat} {l : List Value} {t : TypeId} (h : w.heap[g]? = some (.cells l.toArray t)) (n : Nat) (hn : n = l.length) (hm : n ≤ 9223372036854775807) : Sl w (.slice (some ⟨g, 0, none⟩) n n) l :=
  ⟨_, n, by rw [hn], by omega, by omega, by simp, fun a ha _ => by
    obtain rfl := (Option.some.inj ha).symm
    exact ⟨rfl, (Array.getElem?_eq_some_iff.1 h).1, fun j _ => by rw [Go.Joins.cell_of_block h]; simp⟩⟩

set_option maxRecDepth 100000 in
theorem equal_any (w : World) (v1 v2 : Value) (l1 l2 : List UInt8) (h1 : Sl w v1 (bv l1)) (h2 : Sl w v2 (bv l2)) :
    Calls Tryz.prog 83 #[v1, v2] w fun e w' => e = .returned (.bool (l1 == l2)) ∧ w = w' := by
  obtain ⟨ao, cap, rfl, -⟩ := h1.out
  obtain ⟨ao2, cap2, rfl, -⟩ := h2.out
  rw [bv_length] at h1 h2 ⊢
  rw [bv_length]
  have hc1 := conv_sl w ao l1.length cap l1 rfl h1
  have hc2 := conv_sl w ao2 l2.length cap2 l2 rfl h2
  clear h1 h2
  go_enter Tryz.func83, Tryz.ntmps83
  go_wp2_with fail
  go_ret
  exact ⟨rfl, rfl⟩

def magicL : List UInt8 := [55, 122, 188, 175, 39, 28]
set_option maxRecDepth 100000 in
theorem magic_any (w : World) : Calls Tryz.prog 82 #[] w fun e w' => (∃ v, e = .returned v ∧ Sl w' v (bv magicL)) ∧ Fr [] w w' := by
  go_enter Tryz.func82, Tryz.ntmps82
  go_wp2_with fail
  go_ret
  exact ⟨⟨_, rfl, sl_lit _ _ _ 6 (by rfl) (by decide)⟩, (Fr.refl _ _).alloc _⟩

set_option maxRecDepth 100000 in
set_option maxHeartbeats 2000000 in
theorem open_7z (w : World) (v : Value) (h : Sl w v (bv [55, 122])) :
    Calls Tryz.prog 62 #[v] w fun e w' => e = .returned (.tuple #[.slice none 0 0, .slice none 0 0, .int .i64 3]) ∧ Fr [] w w' := by
  have HV := Lib.hid h
  obtain ⟨ao, cap, rfl, hc, hm, -⟩ := h.out
  clear h
  rw [show (bv [55, 122]).length = 2 from rfl] at HV hc ⊢
  go_enter Tryz.func62, Tryz.ntmps62
  go_upto_region 3 with (go_at_call 82; refine (magic_any _).mono ?_; rintro e w1 ⟨⟨mv, rfl, hmv⟩, F1⟩; have HM := Lib.hid hmv; obtain ⟨mo, mcap, rfl, hmc, hmm, -⟩ := hmv.out; clear hmv; have HM6 := show (bv magicL).length = 6 from rfl; rw [HM6] at HM hmc)
  have hnot : ∀ (x : Bool) (w : World), (Op.unary .not (.bool x)).run Tryz.prog w = .ok (.bool (!x)) w := fun _ _ => rfl
  have hcI : (2 : Int) ≤ (cap : Int) := by omega
  have hmI : (2 : Int) ≤ (mcap : Int) := by omega
  go_still_tail 6, (by kernel_rfl)
  have hs1 := (HV.out.fr0 F1).first 2 (by decide)
  have hs2 := HM.out.first 2 (by decide)
  rw [← bv_take] at hs1 hs2
  have HE := Lib.hid (equal_any _ _ _ _ _ (hs1.fr0 ((Fr.refl [] w1).drew)) (hs2.fr0 ((Fr.refl [] w1).drew)))
  rw [show (List.take 2 [(55 : UInt8), 122] == List.take 2 magicL) = true from rfl] at HE
  clear hs1 hs2
  go_wp2_with (go_at_call 83; refine HE.out.mono ?_; rintro e w2 ⟨rfl, rfl⟩)
  refine bodyPost_ret (v := .tuple #[.slice none 0 0, .slice none 0 0, .int .i64 3]) (by simp [results, Tryz.results62, go_sem]) rfl ?_
  exact ⟨rfl, F1.drew⟩
end Go.Proofs.YthbkcjlpelihlaaGreatDoor
