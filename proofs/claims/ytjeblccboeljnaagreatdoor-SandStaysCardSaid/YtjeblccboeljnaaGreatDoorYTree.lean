/- Contract: tree. No condition but that lengths fit. -/
import Derived.Test.YtjeblccboeljnaaGreatDoorYKeep
namespace Go.Proofs.YtjeblccboeljnaaGreatDoor
open Go.RowKit Go.Maps

theorem KeysAre.tree {w : World} {lo : Nat} {KV : List UInt8 → Option Value} {K : Tree} {ks : List (List UInt8)} (h : KeysAre KV ks) (r : Reads w lo KV K) : KeysAre K ks := ⟨h.nd, fun p => by rw [h.mem, r.is], h.so⟩
set_option maxRecDepth 100000 in
set_option maxHeartbeats 2000000 in
theorem tree_any {w : World} {lo p b : Nat} {fv cv : Value} {n nc : Nat} {fl : List Bool} {KV : List UInt8 → Option Value} {K : Tree} (h : SandIn w lo p b fv cv n nc fl KV K) (top : List UInt8) (ht : top.length ≤ 100000) (hn : n ≤ 100000) :
    Calls Tryz.prog 42 #[.pointer (some ⟨p, 0, none⟩), .string ⟨top.toArray⟩] w fun e w' => ∃ v ks, e = .returned v ∧ KeysAre K ks ∧ ks.length ≤ n ∧ w'.ownsRow w.heap.size 9 1 v (treeL ks top).length (stv (treeL ks top)) ∧ Fr [] w w' := by
  obtain ⟨c0, -, -⟩ := h.cells
  have HK := Lib.hid (keys_any w b)
  have F0 : Fr [] w (w.alloc (.cells #[.map (some b)] 55)) := (Fr.refl _ _).alloc _
  have HS := Lib.hid (sorted_any (w.alloc (.cells #[.map (some b)] 55)) w.heap.size b n KV (by rw [World.size_alloc]; omega) (by rw [Go.Joins.cell_of_block (heap_alloc_new w _)]; rfl) (h.mp.fr F0 (by simp)) (by omega))
  have HRD := Lib.hid h.rd
  clear h
  go_enter Tryz.func42, Tryz.ntmps42
  go_wp2_with (first
    | (go_at_call 30; refine HS.out.mono ?_; rintro e w1 ⟨v, ks, rfl, own, hks, hln, F1⟩; obtain ⟨ao, cap, rfl, -⟩ := own_outS own)
    | (go_at_call 31; refine HK.out.mono ?_; rintro e w' ⟨rfl, rfl⟩))
  have HSl := Lib.hid (Sl.of_own own)
  have HKA := Lib.hid (hks.tree HRD.out)
  have HLN := Lib.hid hln
  have F01 : Fr [] w w1 := F0.trans0 F1
  clear own hks hln F0 F1
  go_loopw [5, 15] (fun v iv wr => ∃ k : Nat, k ≤ ks.length ∧ iv = .int .i64 (k : Int) ∧ wr.ownsRow w1.heap.size 9 1 v (treeL (ks.take k) top).length (stv (treeL (ks.take k) top)) ∧ Fr [] w1 wr) (fun _ i _ => ks.length - (intOf i).toNat)
  case atStart => exact ⟨0, Nat.zero_le _, rfl, World.ownsRow_nil _ _ _ _, Fr.refl _ _⟩
  case round =>
    obtain ⟨k, hk, rfl, own, F1⟩ := hrel
    have hkb : ks.length ≤ 100000 := Nat.le_trans HLN.out hn
    by_cases hlt : k < ks.length
    · obtain ⟨x, hx⟩ := some_get ks k hlt
      obtain ⟨ao', cap', e', -, -, hcl⟩ := HSl.out.out
      rw [stv_len] at e' hcl
      obtain ⟨bb, oo, rfl, hbb, hcell⟩ := hcl k hlt
      injection e' with e1 e2 e3
      subst e1
      clear e2 e3 hcl
      have cw : wr.cell? ⟨bb, oo + k, none⟩ = some (.string ⟨x.toArray⟩) := ((F1.cell (p := ⟨bb, oo + k, none⟩) hbb (by simp)).trans (hcell k hlt)).trans (stv_get hx)
      have hltI : (k : Int) < (ks.length : Int) := by omega
      obtain ⟨vo, vc, rfl, -⟩ := own_outS own
      have HW := Lib.hid (within_any wr x top ht)
      have HSN := Lib.hid (treeL_snoc (top := top) hx)
      cases hb : withinB x top with
      | false =>
        rw [hb] at HW HSN
        go_wp2_with (go_at_call 54; refine HW.out.mono ?_; rintro e w2 ⟨rfl, rfl⟩)
        go_roundw
        case rel =>
          exact ⟨k + 1, by omega, by go_num, by rw [HSN.out]; simpa using own, F1⟩
        case measure => simp [intOf]; omega
      | true =>
        rw [hb] at HW HSN
        have HOW := Lib.hid own
        have hlen : (treeL (ks.take k) top).length ≤ 100000 := Nat.le_trans (List.length_filter_le _ _) (by rw [List.length_take]; have := HLN.out; omega)
        have HLE := Lib.hid hlen
        clear own hlen
        go_wp2_with (first
          | (at_builtin; refine wpList_append_sl sty_string rfl _ _ (by rfl) w1.heap.size _ _ _ (by rfl) (own_frB HOW.out ((Fr.refl [] _).alloc _) (by simp)) _ [.string ⟨x.toArray⟩] (by rfl) (sl_one _ _ _) (by intro u hu; simp at hu; subst hu; rfl) (by have := HLE.out; simp; omega) (by have := HLE.out; simp; omega) (by have := F1.size; simp; omega) ?_; intro v2 w3 own3 g3; have G3 : Fr [] w1 w3 := (F1.alloc _).grown g3 (fun j hj => .inr (own_ltS HOW.out j hj).1); obtain ⟨vo2, vc2, rfl, -⟩ := own_outS own3)
          | (go_at_call 54; refine HW.out.mono ?_; rintro e w2 ⟨rfl, rfl⟩))
        go_roundw
        case rel => exact ⟨k + 1, by omega, by go_num, by rw [HSN.out, if_pos trivial, stv_snoc, List.length_append]; exact own3, G3⟩
        case measure => simp [intOf]; omega
    · have hke : k = ks.length := by omega
      subst hke
      rw [List.take_length] at own
      have hltI : ¬ (ks.length : Int) < (ks.length : Int) := by omega
      go_wp2_with fail
      go_ret
      exact ⟨_, rfl, ks, HKA.out, HLN.out, own_mono own F01.size, F01.trans0 F1⟩
end Go.Proofs.YtjeblccboeljnaaGreatDoor
