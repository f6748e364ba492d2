/- Contracts of the reference (layer 26), of no entries: names, Fits, Room. No condition but that lengths fit. -/
import Derived.Test.YthbkcjlpelihlaaGreatDoorGAS
import Derived.Test.YthbkcjlpelihlaaGreatDoorGAJ
import Derived.Test.YthbkcjlpelihlaaGreatDoorGAQ
import Derived.Test.YthbkcjlpelihlaaGreatDoorEExtM
import Derived.Test.YthbkcjlpelihlaaGreatDoorGAR
import Derived.Test.YthbkcjlpelihlaaGreatDoorGAP
namespace Go.Proofs.YthbkcjlpelihlaaGreatDoor
open Go.RowKit

/-- The names that are tried. -/
def stgs (k : Nat) : List (List UInt8) := (List.range k).map stg
theorem stgs_len (k : Nat) : (stgs k).length = k := by simp [stgs]
theorem stgs_get {k i : Nat} (h : i < k) : (stgs k)[i]? = some (stg i) := by simp [stgs, h]
theorem stgs_succ (k : Nat) : stgs (k + 1) = stgs k ++ [stg k] := by simp [stgs, List.range_succ]
theorem stg_lit {k : Nat} (h0 : 0 < k) : (⟨[46, 103, 97, 114, 98, 108, 101, 114, 45].toArray⟩ : ByteArray) ++ ⟨[UInt8.ofNat (48 + k)].toArray⟩ = ⟨(stg k).toArray⟩ := by
  rw [cat_ba]
  unfold stg
  rw [if_neg (by omega)]
  rfl
theorem ofNat_dig : ∀ k, k < 10 → (UInt8.ofNat (48 + k)).toNat = 48 + k := by decide
set_option maxRecDepth 100000 in
set_option maxHeartbeats 2000000 in
theorem rnames_any (w : World) : Calls Tryz.prog 19 #[] w fun e w' => (∃ ao cap, e = .returned (.slice ao 10 cap) ∧ w'.ownsRow w.heap.size 9 1 (.slice ao 10 cap) 10 (stv (stgs 10))) ∧ Fr [] w w' := by
  go_enter Tryz.func19, Tryz.ntmps19
  go_wp2_with fail
  obtain ⟨w1, hw1⟩ : ∃ w1, w1 = w.alloc (.cells #[.string ⟨#[46, 103, 97, 114, 98, 108, 101, 114]⟩] 9) := ⟨_, rfl⟩
  rw [← hw1]
  have own1 : w1.ownsRow w.heap.size 9 1 (.slice (some ⟨w.heap.size, 0, none⟩) 1 1) 1 (stv (stgs 1)) := by
    rw [hw1]
    exact own_lit w 9 [.string ⟨#[46, 103, 97, 114, 98, 108, 101, 114]⟩] 1 rfl (by decide)
  have F1 : Fr [] w w1 := hw1 ▸ (Fr.refl _ _).alloc _
  clear hw1
  go_loopw [1, 2] (fun v i wr => ∃ k : Nat, 1 ≤ k ∧ k ≤ 10 ∧ i = .int .i64 (k : Int) ∧ wr.ownsRow w.heap.size 9 1 v k (stv (stgs k)) ∧ Fr [] w wr) (fun _ i _ => 10 - (intOf i).toNat)
  case atStart => exact ⟨1, by omega, by omega, rfl, own1, F1⟩
  case round =>
    obtain ⟨k, h1, hk, rfl, own, F⟩ := hrel
    obtain ⟨vao, vcap, rfl, -⟩ := own_out own
    by_cases hlt : k < 10
    · have hI : (k : Int) < 10 := by omega
      have HST := stg_lit (k := k) h1
      have hd : 48 + (k : Int) = ((UInt8.ofNat (48 + k)).toNat : Int) := by
        rw [ofNat_dig k hlt]
        omega
      obtain ⟨ub, hub⟩ : ∃ ub, UInt8.ofNat (48 + k) = ub := ⟨_, rfl⟩
      rw [hub] at HST hd
      clear hub
      have hcv : (convert 26 9 (.slice (some ⟨wr.heap.size, 0, none⟩) 1 1)).run Tryz.prog (wr.alloc (.cells #[.int .u8 (48 + (k : Int))] 5)) = .ok (.string ⟨[ub].toArray⟩) (wr.alloc (.cells #[.int .u8 (48 + (k : Int))] 5)) :=
        conv_bs _ _ _ [ub] 1 rfl (fun j x hj => by
          have hj0 : j = 0 := by have := (List.getElem?_eq_some_iff.1 hj).1; simp at this; exact this
          subst hj0
          have hx : x = ub := (Option.some.inj hj).symm
          subst hx
          rw [Go.Joins.cell_of_block (heap_alloc_new wr _), hd]
          rfl)
      have s1 : ¬ 9223372036854775807 < (⟨#[46, 103, 97, 114, 98, 108, 101, 114, 45]⟩ : ByteArray).size + (⟨[ub].toArray⟩ : ByteArray).size := by
        have h1 : (⟨#[46, 103, 97, 114, 98, 108, 101, 114, 45]⟩ : ByteArray).size = 9 := rfl
        have h2 : (⟨[ub].toArray⟩ : ByteArray).size = 1 := rfl
        omega
      have HOW := Lib.hid own
      have HSL : Sl ((wr.alloc (.cells #[.int .u8 (48 + (k : Int))] 5)).alloc (.cells #[.string ⟨(stg k).toArray⟩] 9)) (.slice (some ⟨wr.heap.size + 1, 0, none⟩) 1 1) [.string ⟨(stg k).toArray⟩] := by
        have := sl_one (wr.alloc (.cells #[.int .u8 (48 + (k : Int))] 5)) 9 (.string ⟨(stg k).toArray⟩)
        rwa [World.size_alloc] at this
      clear hd
      go_wp2_with (at_builtin; (refine wpList_append_sl sty_string rfl _ _ (by rfl) w.heap.size _ _ _ (by rfl) ((own.alloc _).alloc _) _ [.string ⟨(stg k).toArray⟩] (by rfl) HSL (by intro u hu; simp at hu; subst hu; rfl) (by simp; omega) (by simp; omega) (by have := F.size; simp; omega) ?_; intro v2 w2 own2 g2))
      have F2 : Fr [] w w2 := ((F.alloc _).alloc _).grown g2 (fun j hj => .inr (HOW.out.lt j hj).1)
      have own3 : w2.ownsRow w.heap.size 9 1 v2 (k + 1) (stv (stgs (k + 1))) := by rw [stgs_succ, stv_snoc]; exact own2
      have HO3 := Lib.hid own3
      obtain ⟨vao2, vcap2, rfl, -⟩ := own_out own2
      clear own2 own3 own hcv
      go_wp2_with fail
      go_roundw
      case rel => exact ⟨k + 1, by omega, by omega, by go_num, HO3.out, F2⟩
      case measure => simp [intOf]; omega
    · obtain rfl : k = 10 := by omega
      go_wp2_with fail
      go_ret
      exact ⟨⟨_, _, rfl, own⟩, F⟩
/-- Has a directory room for a stage? -/
def roomB (K : Tree) (r : List UInt8) : Bool := decide (kindK K r = 1) && (List.range 10).any fun i => (K (stP r i)).isNone
/-- Do the root and its stages fit? -/
def fitsB (r : List UInt8) : Bool := cleanL foldL r && cleanL foldL (stP r 9)
theorem room_ex {K : Tree} {r : List UInt8} (h : roomB K r = true) : kindK K r = 1 ∧ ∃ i, i < 10 ∧ K (stP r i) = none := by
  unfold roomB at h
  simp only [Bool.and_eq_true, decide_eq_true_eq, List.any_eq_true, List.mem_range, Option.isNone_iff_eq_none] at h
  exact h
set_option maxRecDepth 100000 in
set_option maxHeartbeats 2000000 in
theorem rfits_none (w : World) (r : List UInt8) (hr : r.length ≤ 1000) : Calls Tryz.prog 7 #[.slice none 0 0, .string ⟨r.toArray⟩] w fun e w' => e = .returned (.bool (fitsB r)) ∧ Fr [] w w' := by
  have HC := Lib.hid (rc25_any w r (by omega))
  have hsl : (stP r 9).length ≤ 100000 := by unfold stP; rw [List.length_append, List.length_cons, stg_nine]; omega
  have HD := Lib.hid (fun wx => rc25_any wx (stP r 9) hsl)
  have hP : (⟨r.toArray⟩ : ByteArray) ++ ⟨#[47, 46, 103, 97, 114, 98, 108, 101, 114, 45, 57]⟩ = ⟨(stP r 9).toArray⟩ := by
    rw [show (⟨#[47, 46, 103, 97, 114, 98, 108, 101, 114, 45, 57]⟩ : ByteArray) = ⟨[(47 : UInt8), 46, 103, 97, 114, 98, 108, 101, 114, 45, 57].toArray⟩ from rfl, cat_ba]
    rfl
  have z1 : (⟨r.toArray⟩ : ByteArray).size = r.length := by simp [ByteArray.size]
  have s1 : ¬ 9223372036854775807 < (⟨r.toArray⟩ : ByteArray).size + (⟨#[47, 46, 103, 97, 114, 98, 108, 101, 114, 45, 57]⟩ : ByteArray).size := by
    rw [z1]
    have : (⟨#[47, 46, 103, 97, 114, 98, 108, 101, 114, 45, 57]⟩ : ByteArray).size = 11 := rfl
    omega
  have hnot : ∀ (x : Bool) (w : World), (Op.unary .not (.bool x)).run Tryz.prog w = .ok (.bool (!x)) w := fun _ _ => rfl
  unfold fitsB
  cases h1 : cleanL foldL r with
  | false =>
    rw [h1] at HC
    clear h1
    go_enter Tryz.func7, Tryz.ntmps7
    go_wp2_with (go_at_call 23; refine HC.out.mono ?_; rintro e w1 ⟨rfl, F1⟩)
    go_ret
    exact ⟨rfl, F1⟩
  | true =>
    rw [h1] at HC
    clear h1
    go_enter Tryz.func7, Tryz.ntmps7
    go_wp2_with (go_at_call 23; refine HC.out.mono ?_; rintro e w1 ⟨rfl, F1⟩)
    go_loopw [5] (fun i wq => i = .int .i64 0 ∧ wq = w1) (fun _ _ => 0)
    case atStart => exact ⟨rfl, rfl⟩
    case round =>
      obtain ⟨rfl, hwr⟩ := hrel
      subst hwr
      go_wp2_with (go_at_call 23; refine (HD.out _).mono ?_; rintro e w2 ⟨rfl, F2⟩)
      go_ret
      exact ⟨rfl, F1.trans0 F2⟩
theorem room_no {K : Tree} {r : List UInt8} (h : ∀ j, j < 10 → K (stP r j) ≠ none) : roomB K r = false := by
  unfold roomB
  rw [Bool.and_eq_false_iff]
  right
  rw [List.any_eq_false]
  intro i hi
  rw [List.mem_range] at hi
  simpa using h i hi
theorem room_yes {K : Tree} {r : List UInt8} (hk : kindK K r = 1) {j : Nat} (hj : j < 10) (h : K (stP r j) = none) : roomB K r = true := by
  unfold roomB
  rw [Bool.and_eq_true]
  refine ⟨by simpa using hk, ?_⟩
  rw [List.any_eq_true]
  exact ⟨j, by rw [List.mem_range]; exact hj, by rw [h]; rfl⟩
set_option maxRecDepth 100000 in
set_option maxHeartbeats 4000000 in
theorem rroom_none {w : World} {hi : Nat} {v : Value} {L : List Th} (h : ThAt w hi v L) (hL : L.length ≤ 100000) (r : List UInt8) (hr : r.length ≤ 1000) :
    Calls Tryz.prog 6 #[v, .slice none 0 0, .string ⟨r.toArray⟩] w fun e w' => e = .returned (.bool (roomB (lookL L) r)) ∧ Fr [] w w' := by
  have HK := Lib.hid (rkind_any h (by omega) r)
  have HN := Lib.hid (rnames_any w)
  have HAT := Lib.hid (fun (wx : World) (F : Fr [] w wx) (i : Nat) => rat_any (h.fr0 F) (by omega) (stP r i))
  obtain ⟨ao, cap, rfl, -, -⟩ := h.out
  obtain ⟨N, hN⟩ : ∃ N, L.length = N := ⟨_, rfl⟩
  rw [hN] at HAT HK ⊢
  clear h hL hN
  by_cases hk1 : kindK (lookL L) r = 1
  rotate_left
  · have hk : (kindK (lookL L) r != 1) = true := by simpa using hk1
    have HR := Lib.hid (show roomB (lookL L) r = false by unfold roomB; rw [show decide (kindK (lookL L) r = 1) = false by simpa using hk1]; rfl)
    generalize kindK (lookL L) r = kd at *
    go_enter Tryz.func6, Tryz.ntmps6
    go_wp2_with (go_at_call 18; refine HK.out.mono ?_; rintro e w1 ⟨rfl, rfl⟩)
    go_ret
    exact ⟨by rw [HR.out]; rfl, Fr.refl _ _⟩
  · rw [hk1] at HK
    have HK1 := Lib.hid hk1
    clear hk1
    go_enter Tryz.func6, Tryz.ntmps6
    go_wp2_with (first
      | (go_at_call 19; refine HN.out.mono ?_; rintro e w2 ⟨⟨no, nc, rfl, own⟩, F2⟩; have HSl := Lib.hid (Sl.of_own own); clear own)
      | (go_at_call 18; refine HK.out.mono ?_; rintro e w1 ⟨rfl, rfl⟩))
    have HF2 := Lib.hid F2
    go_loopw [8, 9, 10] (fun i _ _ wr => ∃ k : Nat, k ≤ 10 ∧ i = .int .i64 (k : Int) ∧ (∀ j, j < k → lookL L (stP r j) ≠ none) ∧ wr = w2) (fun i _ _ _ => 10 - (intOf i).toNat)
    case atStart => exact ⟨0, by omega, rfl, fun j hj => by omega, rfl⟩
    case round =>
      obtain ⟨k, hk, rfl, hj, rfl⟩ := hrel
      have HJ := Lib.hid hj
      clear hj
      by_cases hlt : k < 10
      · have hI : (k : Int) < 10 := by omega
        obtain ⟨ao', cap', e0, -, -, o⟩ := HSl.out.out
        injection e0 with e1 e2 e3
        subst e1
        obtain ⟨nb, nf, rfl, hnb, cc⟩ := o k (by simp [stv, stgs]; omega)
        have c0 : wr.cell? ⟨nb, nf + k, none⟩ = some (.string ⟨(stg k).toArray⟩) := by rw [cc k (by simp [stv, stgs]; omega)]; exact stv_get (stgs_get hlt)
        have HP : ((⟨r.toArray⟩ : ByteArray) ++ ⟨#[47]⟩) ++ ⟨(stg k).toArray⟩ = ⟨(stP r k).toArray⟩ := by
          rw [show (⟨#[47]⟩ : ByteArray) = ⟨[(47 : UInt8)].toArray⟩ from rfl, cat_ba r [47], cat_ba (r ++ [47]) (stg k)]
          unfold stP
          rw [List.append_assoc]
          rfl
        have z1 : (⟨r.toArray⟩ : ByteArray).size = r.length := by simp [ByteArray.size]
        have z2 : (⟨(stg k).toArray⟩ : ByteArray).size = (stg k).length := by simp [ByteArray.size]
        have hsl := (stg_fine k hlt).2.2.2.1
        have s3 : ¬ 9223372036854775807 < (⟨r.toArray⟩ : ByteArray).size + (⟨#[47]⟩ : ByteArray).size := by rw [z1]; have : (⟨#[47]⟩ : ByteArray).size = 1 := rfl; omega
        have s4 : ¬ 9223372036854775807 < ((⟨r.toArray⟩ : ByteArray) ++ ⟨#[47]⟩).size + (⟨(stg k).toArray⟩ : ByteArray).size := by rw [ByteArray.size_append, z1, z2]; have : (⟨#[47]⟩ : ByteArray).size = 1 := rfl; omega
        have HA := Lib.hid (HAT.out wr HF2.out k)
        clear cc e2 e3 o
        rcases atL_cases L (stP r k) with ⟨i, t, hx, -, e1, e2⟩ | ⟨e1, e2⟩
        · rw [e1] at HA
          have HE := Lib.hid e2
          have hi0 : ¬ (i : Int) < 0 := by omega
          clear e1 e2 hx
          go_wp2_with (go_at_call 20; refine HA.out.mono ?_; rintro e w3 ⟨rfl, rfl⟩)
          go_loopw [9, 10] (fun fr kk wq => fr = .bool false ∧ kk = .int .i64 0 ∧ wq = w3) (fun _ _ _ => 0)
          case atStart => exact ⟨rfl, rfl, rfl⟩
          case round =>
            obtain ⟨rfl, rfl, hwq⟩ := hrel
            subst hwq
            go_wp2_with fail
            go_roundw
            case rel => exact ⟨k + 1, by omega, by go_num, fun j hj => by
              by_cases hjk : j = k
              · rw [hjk, HE.out]; simp
              · exact HJ.out j (by omega), trivial⟩
            case measure => simp [intOf]; omega
        · rw [e1] at HA
          have HE := Lib.hid e2
          clear e1 e2
          go_wp2_with (go_at_call 20; refine HA.out.mono ?_; rintro e w3 ⟨rfl, rfl⟩)
          go_loopw [9, 10] (fun fr kk wq => fr = .bool true ∧ kk = .int .i64 0 ∧ wq = w3) (fun _ _ _ => 0)
          case atStart => exact ⟨rfl, rfl, rfl⟩
          case round =>
            obtain ⟨rfl, rfl, hwq⟩ := hrel
            subst hwq
            go_wp2_with fail
            go_ret
            exact ⟨by rw [room_yes HK1.out hlt HE.out]; rfl, HF2.out⟩
      · obtain rfl : k = 10 := by omega
        go_wp2_with fail
        go_ret
        exact ⟨by rw [room_no (fun j hj => HJ.out j hj)]; rfl, HF2.out⟩
theorem fits_ex {r : List UInt8} (h : fitsB r = true) : cleanL foldL r = true ∧ cleanL foldL (stP r 9) = true := by
  unfold fitsB at h
  simpa using h
end Go.Proofs.YthbkcjlpelihlaaGreatDoor
/- Contracts of law 26: Much, small, begin, awake. No condition. -/
namespace Go.Proofs.YthbkcjlpelihlaaGreatDoor
open Go.RowKit Go.Maps

def z5 (w : World) (g : Nat) (a0 a1 a2 a3 a4 : Value) : World := ((((w.setCell ⟨g, 0, none⟩ a0).setCell ⟨g, 1, none⟩ a1).setCell ⟨g, 2, none⟩ a2).setCell ⟨g, 3, none⟩ a3).setCell ⟨g, 4, none⟩ a4
set_option maxRecDepth 100000 in
theorem much26 (w : World) : Calls Tryz.prog 11 #[] w fun e w' => e = .returned (.agg #[.int .i64 1099511627776, .int .i64 1099511627776, .int .i64 1099511627776, .int .i64 1099511627776, .int .i64 1099511627776]) ∧ Fr [] w w' := by
  go_enter Tryz.func11, Tryz.ntmps11
  go_wp2_with fail
  refine bodyPost_ret (v := .agg #[.int .i64 1099511627776, .int .i64 1099511627776, .int .i64 1099511627776, .int .i64 1099511627776, .int .i64 1099511627776]) (by simp [results, Tryz.results11, go_sem]) rfl ?_
  exact ⟨rfl, (Fr.refl _ _).alloc _⟩
/-- A world as a value. -/
def WoV (tv fv : Value) (root : List UInt8) : Value := .agg #[tv, fv, .string ⟨root.toArray⟩]
theorem cells3b {w : World} {g : Nat} {t : TypeId} {a0 a1 a2 : Value} (h : w.heap[g]? = some (.cells #[a0, a1, a2] t (0, 0))) : w.cell? ⟨g, 0, none⟩ = some a0 ∧ w.cell? ⟨g, 1, none⟩ = some a1 ∧ w.cell? ⟨g, 2, none⟩ = some a2 ∧ (∀ j, w.frozen? ⟨g, j, none⟩ = false) :=
  ⟨by simp [Go.Joins.cell_of_block h], by simp [Go.Joins.cell_of_block h], by simp [Go.Joins.cell_of_block h], fun j => Go.Joins.unfrozen_of_block h j⟩
set_option maxRecDepth 100000 in
set_option maxHeartbeats 2000000 in
theorem small26 {w : World} {hi : Nat} {tv : Value} {L : List Th} (h : ThAt w hi tv L) (fv : Value) (root : List UInt8) :
    Calls Tryz.prog 5 #[.slice none 0 0, WoV tv fv root] w fun e w' => ∃ r, e = .returned (.bool r) ∧ (r = true → SmL L ∧ MayT L ∧ root.length < 600) ∧ Fr [] w w' := by
  obtain ⟨ao, cap, rfl, -, -⟩ := h.out
  have HT := Lib.hid h
  obtain ⟨wA, hwA⟩ : ∃ wA, wA = w.alloc (.cells #[.slice ao L.length cap, fv, .string ⟨root.toArray⟩] 25) := ⟨_, rfl⟩
  have FA : Fr [] w wA := hwA ▸ (Fr.refl _ _).alloc _
  have bA : wA.heap[w.heap.size]? = some (.cells #[.slice ao L.length cap, fv, .string ⟨root.toArray⟩] 25 (0, 0)) := hwA ▸ heap_alloc_new w _
  obtain ⟨k0, k1, k2, kf⟩ := cells3b bA
  have HBX := Lib.hid (fun (wx : World) (F : Fr [] wA wx) => cells3b ((F.block _ (Array.getElem?_eq_some_iff.1 bA).1 (by simp)).trans bA))
  have HS := Lib.hid (rsmall_any (h.fr0 FA))
  have HM := Lib.hid (fun (wx : World) (F : Fr [] wA wx) (hs : SmL L) => rmay_any ((h.fr0 FA).fr0 F) (by have := hs.1; omega) (fun t ht => Nat.le_trans (hs.2 t ht).1 (by decide)))
  have HF := Lib.hid FA
  have z1 : (⟨root.toArray⟩ : ByteArray).size = root.length := by simp [ByteArray.size]
  unfold WoV
  by_cases hl : root.length < 600
  · have hlI : (root.length : Int) < 600 := by omega
    clear h bA FA
    go_enter Tryz.func5, Tryz.ntmps5
    go_wp2_with (first
      | (have hq := HSL; go_at_call 17; refine (HM.out _ (Fr.refl _ _) HSL.out).mono ?_; rintro e w2 ⟨r, rfl, hr, F2⟩; have HR := Lib.hid hr; clear hr)
      | (go_at_call 16; rw [← hwA]; clear hwA; refine HS.out.mono ?_; rintro e w1 ⟨r, rfl, hr, rfl⟩; cases r; rotate_left; have HSL := Lib.hid (hr rfl); rotate_left))
    · go_ret
      exact ⟨false, rfl, (fun h => by cases h), HF.out⟩
    · go_ret
      exact ⟨r, rfl, fun h => ⟨HSL.out, HR.out h, hl⟩, HF.out.trans0 F2⟩
  · have hlI : ¬ (root.length : Int) < 600 := by omega
    clear h bA FA
    go_enter Tryz.func5, Tryz.ntmps5
    go_wp2_with (first
      | (go_at_call 16; rw [← hwA]; clear hwA; refine HS.out.mono ?_; rintro e w1 ⟨r, rfl, hr, rfl⟩; cases r))
    · go_ret
      first | exact ⟨false, rfl, (fun h => by cases h), HF.out⟩ | exact ⟨rfl, HF.out⟩
    · go_ret
      first | exact ⟨false, rfl, (fun h => by cases h), HF.out⟩ | exact ⟨rfl, HF.out⟩
set_option maxRecDepth 100000 in
set_option maxHeartbeats 2000000 in
theorem begin26 {w : World} {hi : Nat} {tv : Value} {L : List Th} (h : ThAt w hi tv L) (hM : MayT L) (hS : SmL L) (hG : Gl w) (R : Nat → List UInt8 → ByteArray → Prop) (root : List UInt8) :
    Calls Tryz.prog 8 #[WoV tv (.slice none 0 0) root] w fun e w' => ∃ p, e = .returned (.pointer (some ⟨p, 0, none⟩)) ∧ SandAt w' (w.heap.size + 1) p L.length 0 ⟨[], R⟩ (lookL L) ∧ Fr [] w w' := by
  obtain ⟨ao, cap, rfl, -, -⟩ := h.out
  obtain ⟨wA, hwA⟩ : ∃ wA, wA = w.alloc (.cells #[.slice ao L.length cap, .slice none 0 0, .string ⟨root.toArray⟩] 25) := ⟨_, rfl⟩
  have FA : Fr [] w wA := hwA ▸ (Fr.refl _ _).alloc _
  have bA : wA.heap[w.heap.size]? = some (.cells #[.slice ao L.length cap, .slice none 0 0, .string ⟨root.toArray⟩] 25 (0, 0)) := hwA ▸ heap_alloc_new w _
  obtain ⟨k0, k1, k2, kf⟩ := cells3b bA
  have hsz : wA.heap.size = w.heap.size + 1 := by rw [hwA, World.size_alloc]
  have HN := Lib.hid (ynew_any (h.fr0 FA) hM (by have := hS.1; omega) (dat_of hS) (by decide) (hG.fr FA) none 0 ⟨[], R⟩ (Sl.nil wA) (fun a h => by cases h) (Nat.zero_le _))
  rw [hsz] at HN
  have HF := Lib.hid FA
  unfold WoV
  clear h hM hS hG bA FA hsz
  go_enter Tryz.func8, Tryz.ntmps8
  go_wp2_with (go_at_call 14; rw [← hwA]; clear hwA; refine HN.out.mono ?_; rintro e w1 ⟨p, rfl, S1, F1⟩)
  go_ret
  exact ⟨p, rfl, S1, HF.out.trans0 F1⟩
/-- The directory of awake; what is said of its calls. -/
def LA : List Th := [⟨[114], ⟨1, [], []⟩⟩]
def RA (i : Nat) (q : List UInt8) (t : ByteArray) : Prop := (i = 2 → q = stP [114] 0) ∧ (i = 3 → t = ⟨#[114]⟩)
theorem la_no {p : List UInt8} (h : p ≠ [114]) : lookL LA p = none := by
  unfold lookL LA
  rw [List.find?_cons_of_neg (by simpa using fun e => h e.symm)]
  rfl
theorem la_yes : lookL LA [114] = some ⟨1, [], []⟩ := rfl
theorem la_may : MayT LA := by
  refine ⟨by decide, fun p t h => ?_⟩
  by_cases hp : p = [114]
  · subst hp
    rw [la_yes] at h
    injection h with h
    subst h
    refine ⟨by decide, by decide, ?_⟩
    unfold liesK
    rfl
  · rw [la_no hp] at h
    cases h
theorem la_first {i : Nat} (h : ∀ j, j < i → lookL LA (stP [114] j) ≠ none) : i = 0 := by
  apply Classical.byContradiction
  intro h0
  exact h 0 (by omega) (la_no (by decide))
set_option maxRecDepth 100000 in
theorem thlit (w : World) : ThAt (w.alloc (.cells #[.string ⟨#[114]⟩, .int .i64 1, .slice none 0 0, .string ⟨#[]⟩] 49)) (w.heap.size + 1) (.slice (some ⟨w.heap.size, 0, none⟩) 1 1) LA := by
  have hb := heap_alloc_new w (.cells #[.string ⟨#[114]⟩, .int .i64 1, .slice none 0 0, .string ⟨#[]⟩] 49)
  have key := fun i => Go.Joins.cell_of_block hb i
  refine ⟨_, 1, rfl, Nat.le_refl _, by decide, fun j t hj => ?_⟩
  have hj0 : j = 0 := by have := (List.getElem?_eq_some_iff.1 hj).1; simp [LA] at this; exact this
  subst hj0
  have ht : t = ⟨[114], ⟨1, [], []⟩⟩ := (Option.some.inj hj).symm
  subst ht
  exact ⟨w.heap.size, 0, none, 0, rfl, by rw [World.size_alloc]; omega, by omega, by rw [key]; rfl, by rw [key]; rfl, by rw [key]; rfl, by rw [key]; rfl, Sl.nil _, fun h => absurd h (by omega)⟩
set_option maxRecDepth 100000 in
set_option maxHeartbeats 4000000 in
theorem awake26 (w : World) (hG : Gl w) : Calls Tryz.prog 4 #[] w fun e w' => e = .returned (.bool true) ∧ Fr [] w w' := by
  obtain ⟨wA, hwA⟩ : ∃ wA, wA = w.alloc (.cells #[.string ⟨#[114]⟩, .int .i64 1, .slice none 0 0, .string ⟨#[]⟩] 49) := ⟨_, rfl⟩
  have FA : Fr [] w wA := hwA ▸ (Fr.refl _ _).alloc _
  have hsz : wA.heap.size = w.heap.size + 1 := by rw [hwA, World.size_alloc]
  have HN := Lib.hid (ynew_any (hwA ▸ thlit w) la_may (by decide) (D := 0) (fun p t h => by
    by_cases hp : p = [114]
    · subst hp; rw [la_yes] at h; injection h with h; subst h; exact ⟨Nat.le_refl _, Nat.le_refl _⟩
    · rw [la_no hp] at h; cases h) (by decide) (hG.fr FA) none 0 ⟨[], RA⟩ (Sl.nil wA) (fun a h => by cases h) (Nat.zero_le _))
  rw [hsz] at HN
  have HE := Lib.hid (fun (wx : World) (p : Nat) (F : Fr [] w wx) (S : SandAt wx (w.heap.size + 1) p 1 0 ⟨[], RA⟩ (lookL LA)) (v : Value) (hv : Sl wx v (bv (sealL [] []))) =>
    extract0_any S (hG.fr F) (by have := hG.sz; omega) v _ hv (by decide) head_nil.2 head_nil.1 filesP_nil0 (Nat.zero_le _) la_may.2 (root := [114]) rfl (by decide) (by decide) (by decide) ⟨0, by decide, la_no (by decide)⟩ (by decide) (by decide)
      ⟨rfl, by decide, by decide⟩
      (fun i _ h => by
        obtain rfl := la_first h
        exact ⟨⟨rfl, by intro e; omega, by intro e; omega⟩, ⟨rfl, fun _ => rfl, by intro e; omega⟩⟩)
      (fun i _ h => by
        obtain rfl := la_first h
        exact ⟨rfl, by intro e; omega, fun _ => rfl⟩))
  have HF := Lib.hid FA
  clear hG FA
  go_enter Tryz.func4, Tryz.ntmps4
  go_upto_region 4 with (go_at_call 14; rw [← hwA]; clear hwA; refine HN.out.mono ?_; rintro e w1 ⟨p, rfl, S1, F1⟩; have HS1 := Lib.hid S1)
  have F01 := Lib.hid (HF.out.trans0 F1)
  go_upto_region 5 with (first
    | (have hq := F3; go_at_call 9; refine (HE.out w3 p ((F01.out.trans0 F2).trans0 F3) (HS1.out.fr0 (F2.trans0 F3)) _ (hr.fr0 F3)).mono ?_; rintro e w4 ⟨i, n', s', k', rfl, hi, hj, -, S4, hn', X4⟩; obtain rfl := la_first hj; have HS4 := Lib.hid S4)
    | (have hq := F2; go_at_call 11; refine (much26 _).mono ?_; rintro e w3 ⟨rfl, F3⟩)
    | (go_at_call 10; refine (seal_any _ _ _ [] [] (Sl.nil _) (Sl.nil _) (by decide) (by decide)).mono ?_; rintro e w2 ⟨r, rfl, hr, F2⟩))
  obtain ⟨w5, hw5⟩ : ∃ w5, w5 = w4.alloc (.cells #[.int .i64 0, .int .i64 0, .int .i64 k', .int .i64 0, .int .i64 0, .int .i64 0, .int .i64 s'] 37) := ⟨_, rfl⟩
  rw [← hw5]
  have F5 : Fr [] w4 w5 := hw5 ▸ (Fr.refl _ _).alloc _
  have b5 : w5.heap[w4.heap.size]? = some (.cells #[.int .i64 0, .int .i64 0, .int .i64 k', .int .i64 0, .int .i64 0, .int .i64 0, .int .i64 s'] 37 (0, 0)) := hw5 ▸ heap_alloc_new w4 _
  have S5 : SandAt w5 (w.heap.size + 1) p n' 4 ⟨[], RA⟩ (lookL LA) := HS4.out.fr0 F5
  have HC := Lib.hid (calls_at S5 (by decide))
  have HX := Lib.hid X4
  clear hw5 S5 S4 X4
  go_upto_region 6 with (go_at_call 15; refine HC.out.mono ?_; rintro e w6 ⟨⟨co, cc, rfl, hcv⟩, F6⟩)
  obtain ⟨q2, t2, g2, rfl, -, -, -⟩ := hcv 2 (by decide)
  obtain ⟨qa, ta, ga, e1, c9, -, r1, -⟩ := hcv 2 (by decide)
  injection e1 with e1
  injection e1 with e1 _ _
  subst e1
  obtain ⟨qb, tb, gb, e2, -, c14, -, r2⟩ := hcv 3 (by decide)
  injection e2 with e2
  injection e2 with e2 _ _
  subst e2
  obtain rfl := r1 rfl
  obtain rfl := r2 rfl
  have c9' : w6.cell? ⟨g2, 9, none⟩ = some (.string ⟨#[114, 47, 46, 103, 97, 114, 98, 108, 101, 114]⟩) := c9
  have c14' : w6.cell? ⟨g2, 14, none⟩ = some (.string ⟨#[114]⟩) := c14
  obtain ⟨d0, -⟩ := cells7 ((F6.block _ (Array.getElem?_eq_some_iff.1 b5).1 (by simp)).trans b5)
  clear hcv c9 c14 b5
  go_wp2_with fail
  go_ret
  exact ⟨rfl, ((ExF.below ((F01.out.trans0 F2).trans0 F3) HX.out (Nat.le_succ _) (by simp)).trans0 F5).trans0 F6⟩
end Go.Proofs.YthbkcjlpelihlaaGreatDoor
/- What a sandbox's state is, held against what it was made of. No condition. -/
namespace Go.Proofs.YthbkcjlpelihlaaGreatDoor
open Go.RowKit Go.Maps

theorem same_list {L : List Th} {ks : List (List UInt8)} (hn : (L.map (·.path)).Nodup) (h : KeysAre (lookL L) ks) : ks.length = L.length ∧ ∀ t ∈ listK (lookL L) ks, lookL L t.path = some t.tv := by
  have e := listK_look h
  have hp : ((listK (lookL L) ks).map (·.path)).Nodup := by rw [listK_paths]; exact h.nd
  refine ⟨?_, fun t ht => ?_⟩
  · have := look_len hp hn e
    unfold listK at this
    simpa using this
  · obtain ⟨i, hi⟩ := List.getElem?_of_mem ht
    have := look_at hp hi
    rw [e] at this
    exact this
/-- The frame of what lies below. -/
theorem Lo.fr {w0 w w' : World} (F : Fr [] w0 w) (h : Lo w.heap.size w w') : Fr [] w0 w' := by
  obtain ⟨S, G, hS⟩ := h
  exact F.trans G (fun i hi => .inr (Nat.le_trans F.size (hS i hi).1))
/-- State and the reference's Same: the same things. -/
theorem state_same {w : World} {lo p n nc : Nat} {fl : Fl} {L : List Th} (h : SandAt w lo p n nc fl (lookL L)) (hM : MayT L) (hS : SmL L) (hn : n ≤ 100000) :
    Calls Tryz.prog 13 #[.pointer (some ⟨p, 0, none⟩)] w fun e w' => ∃ ao cap ks, e = .returned (.slice ao L.length cap) ∧ KeysAre (lookL L) ks ∧ ThAt w' w'.heap.size (.slice ao L.length cap) (listK (lookL L) ks) ∧ Fr [] w w' := by
  refine (state_at h hM.2 (dat_of hS) (by decide) hn).mono ?_
  rintro e w' ⟨ao, cap, ks, rfl, hk, -, ht, F⟩
  have e1 := (same_list hM.1 hk).1
  rw [e1] at ht ⊢
  exact ⟨ao, cap, ks, rfl, hk, ht, F⟩
theorem same_same {w : World} {hi hj : Nat} {ao bo : Option Addr} {cap bap : Nat} {L : List Th} {ks : List (List UInt8)} (hM : MayT L) (hS : SmL L) (hk : KeysAre (lookL L) ks) (h : ThAt w hi (.slice ao L.length cap) (listK (lookL L) ks)) (g : ThAt w hj (.slice bo L.length bap) L) :
    Calls Tryz.prog 12 #[.slice ao L.length cap, .slice bo L.length bap] w fun e w' => e = .returned (.bool true) ∧ Same w w' := by
  obtain ⟨h1, h2⟩ := same_list hM.1 hk
  exact rsame_any h g (by have := hS.1; omega) (by unfold listK; rw [List.length_map]; exact h1) h2

end Go.Proofs.YthbkcjlpelihlaaGreatDoor
