/- Contract: the writer's names. No condition but that lengths fit. -/
import Derived.Test.YtkodindajfdagaaDoorWRowsM
import Derived.Test.YtkodindajfdagaaDoorGAI
namespace Go.Proofs.YtkodindajfdagaaDoor
open Go.RowKit

theorem unitsB_app (a b : List Nat) : unitsB (a ++ b) = unitsB a ++ unitsB b := by simp [unitsB]
theorem unitsB_len (l : List Nat) : (unitsB l).length = 2 * l.length := by
  induction l with
  | nil => rfl
  | cons a t ih =>
    unfold unitsB at *
    rw [List.flatMap_cons, List.length_append, ih, leBytes_length, List.length_cons]
    omega
theorem unitsB_take {l : List Nat} {k u : Nat} (h : l[k]? = some u) : unitsB (l.take (k + 1)) = unitsB (l.take k) ++ leBytes 2 u := by
  simp [unitsB, List.take_add_one, h]
theorem namesW_take {F : List Fil} {k : Nat} {x : Fil} (h : F[k]? = some x) : namesW (F.take (k + 1)) = namesW (F.take k) ++ nameB x.name := by
  simp [namesW, List.take_add_one, h]
theorem unitsR_len : ∀ rs : List Nat, (unitsR rs).length ≤ 2 * rs.length
  | [] => by simp [unitsR]
  | r :: t => by
    have := unitsR_len t
    have h2 : (unitsN r).length ≤ 2 := by unfold unitsN; split <;> simp
    unfold unitsR at *
    rw [List.flatMap_cons, List.length_append, List.length_cons]
    omega
theorem runesF_le : ∀ (n : Nat) (l : List UInt8) (rs : List Nat), runesF n l = some rs → rs.length ≤ n := by
  intro n
  induction n with
  | zero => intro l rs h; simp [runesF] at h; subst h; simp
  | succ n ih =>
    intro l rs h
    unfold runesF at h
    split at h
    · simp at h; subst h; simp
    · split at h
      · simp at h
      · obtain ⟨t, ht, rfl⟩ := Option.map_eq_some_iff.1 h
        have := ih _ _ ht
        simp
        omega
theorem nameU_len (l : List UInt8) : (nameU l).length ≤ 2 * l.length := by
  unfold nameU
  cases h : runesL l with
  | none => simp [unitsR]
  | some rs =>
    have h1 := runesF_le _ _ _ h
    have h2 := unitsR_len rs
    simp
    omega
theorem namesW_le {F : List Fil} {k : Nat} {x : Fil} (h : F[k]? = some x) : (namesW (F.take k)).length + (nameB x.name).length ≤ (namesW F).length := by
  have h1 := namesW_take h
  have h2 : namesW F = namesW (F.take (k + 1)) ++ (F.drop (k + 1)).flatMap fun f => nameB f.name := by
    have e : (F.take (k + 1) ++ F.drop (k + 1)).flatMap (fun f => nameB f.name) = F.flatMap fun f => nameB f.name := by rw [List.take_append_drop]
    rw [List.flatMap_append] at e
    unfold namesW
    rw [← e]
    rfl
  rw [h2, h1]
  simp
theorem unitsR_lt {rs : List Nat} (hs : ∀ r ∈ rs, scal r) : ∀ u ∈ unitsR rs, u < 65536 := by
  intro u hu
  unfold unitsR at hu
  rw [List.mem_flatMap] at hu
  obtain ⟨r, hr, hu⟩ := hu
  have := hs r hr
  unfold scal at this
  unfold unitsN at hu
  split at hu
  · simp at hu; omega
  · simp at hu; omega

theorem wrunes_scal (n : Nat) : ∀ (l : List UInt8) (rs : List Nat), l.length ≤ n → runesL l = some rs → (∀ r ∈ rs, scal r) ∧ rs.length ≤ l.length := by
  induction n with
  | zero =>
    intro l rs hl h
    obtain rfl : l = [] := List.eq_nil_of_length_eq_zero (by omega)
    rw [runesL_nil] at h
    obtain rfl : [] = rs := Option.some.inj h
    exact ⟨by simp, by simp⟩
  | succ n ih =>
    intro l rs hl h
    by_cases h0 : l = []
    · subst h0
      rw [runesL_nil] at h
      obtain rfl : [] = rs := Option.some.inj h
      exact ⟨by simp, by simp⟩
    cases hs : stepL l with
    | none => rw [runesL_none h0 hs] at h; cases h
    | some r =>
      obtain ⟨v, k⟩ := r
      have hlen : 1 ≤ l.length := by cases l with | nil => exact absurd rfl h0 | cons x t => simp
      obtain ⟨e1, e2, e3, e4, e5⟩ := stepN_some _ _ _ _ _ v k hlen (bt_lt l 0) hs
      obtain ⟨hv, -, -⟩ := enc_step h0 hs
      rw [runesL_some h0 hs] at h
      obtain ⟨y, hy, rfl⟩ := Option.map_eq_some_iff.1 h
      obtain ⟨g1, g2⟩ := ih (l.drop k) y (by simp; omega) hy
      refine ⟨fun r hr => ?_, ?_⟩
      · rcases List.mem_cons.1 hr with rfl | hr
        · exact hv
        · exact g1 r hr
      · simp at g2 ⊢
        omega

set_option maxRecDepth 100000 in
set_option maxHeartbeats 4000000 in
theorem names_one (w : World) (lo p hi : Nat) (v : Value) (bs : List UInt8) (d : DW) (F : List Fil) (h : WrAt w lo p v bs d) (hF : RowAt w hi 7 d.es F.length (fiV F)) (hG : Gl w) (hn : F.length ≤ 1000000) (hb : bs.length + (namesW F).length ≤ 80000000)
    (hv : ∀ x ∈ F, (runesL x.name).isSome = true ∧ x.name.length ≤ 100000) :
    Calls Tryd.prog 26 #[.pointer (some ⟨p, 0, none⟩)] w fun e w' => e = .returned (.tuple #[]) ∧ WrTo w lo p v (bs ++ partW 17 (namesW F)) d w' := by
  have HW := Lib.hid h
  obtain ⟨eao, ecap, he, hec, hem, -⟩ := hF.out
  have HR := Lib.hid hF
  rw [he] at HR
  obtain ⟨c0, c1, c2, c3, c4, c5, c6, c7, cz⟩ := cells8 h.blk
  rw [he] at c7
  clear h hF he
  have HB := Lib.hid hb
  have HN := Lib.hid hn
  have HV := Lib.hid hv
  have HG := Lib.hid hG
  clear hv hG
  go_enter Tryd.func26, Tryd.ntmps26
  refine wp_seq_k fun K0 hK0 => ?_
  go_cut [2] (fun v2 wx => v2 = .slice (some ⟨w.heap.size, 0, none⟩) 1 1 ∧ wx.ownsRow w.heap.size 5 1 v2 (namesW (F.take 0)).length (bv (namesW (F.take 0))) ∧ Fr [] w wx)
  case first =>
    clear hK0
    go_wp2_with fail
    go_meet
    case rel => exact ⟨rfl, own_litM w 5 1 1 [.int .u8 0] rfl (by decide), (Fr.refl _ _).alloc _⟩
  case rest =>
  obtain ⟨rfl, own0, F0⟩ := hcut
  obtain ⟨wS, hwS⟩ : ∃ wS, wS = wc := ⟨_, rfl⟩
  rw [← hwS] at own0 F0 ⊢
  clear hwS
  (refine hK0 _ _ ?_; clear hK0; refine wp_seq_k fun K1 hK1 => ?_)
  have HF0 := Lib.hid F0
  have s7 := (F0.cell (p := ⟨p, 7, none⟩) HW.out.lt (by simp)).trans c7
  have sz : ∀ j, wS.frozen? ⟨p, j, none⟩ = false := (cells8 ((F0.block p HW.out.lt (by simp)).trans HW.out.blk)).2.2.2.2.2.2.2.2
  go_cut [2] (fun v2 wx => ∃ ve, v2 = ve ∧ wx.ownsRow w.heap.size 5 1 ve (namesW F).length (bv (namesW F)) ∧ Fr [] w wx)
  case first =>
    clear hK1
    go_wp2_with fail
    go_loopw [2, 16] (fun v2 i wr => ∃ (k : Nat), k ≤ F.length ∧ i = .int .i64 k ∧ wr.ownsRow w.heap.size 5 1 v2 (namesW (F.take k)).length (bv (namesW (F.take k))) ∧ Fr [] w wr) (fun _ i _ => F.length - (intOf i).toNat)
    case atStart => exact ⟨0, Nat.zero_le _, rfl, own0, F0⟩
    case round =>
      obtain ⟨k, hk, rfl, ob, F2⟩ := hrel
      by_cases hlt : k < F.length
      · obtain ⟨x, hx⟩ := some_get F k hlt
        obtain ⟨b1, o1, hao, hb1, e0, e1, e2, e3, e4, e5, e6⟩ := (HR.out.fr0 F2).fil hx hlt
        subst hao
        have HX := Lib.hid (namesW_take hx)
        have HLE := Lib.hid (namesW_le hx)
        obtain ⟨hrs, hxl⟩ := HV.out x (List.mem_of_getElem? hx)
        have HOB := Lib.hid ob
        obtain ⟨fao, fcap, rfl, -⟩ := own_out ob
        have HF2 := Lib.hid F2
        obtain ⟨nm, st, dir, ha, attr, ht, tm⟩ := x
        dsimp only at e0 e1 e2 e3 e4 e5 e6 hrs hxl HX HLE
        have HUL := Lib.hid (nameU_len nm)
        have hub := unitsB_len (nameU nm ++ [0])
        have HRS := Lib.hid hrs
        clear hx ob F2 hrs
        obtain ⟨wB, hwB⟩ : ∃ wB, wB = wr.alloc (.cells #[.string ⟨nm.toArray⟩, .bool st, .bool dir, .bool ha, .int .u32 attr.toNat, .bool ht, .int .u64 tm.toNat] 39) := ⟨_, rfl⟩
        have FB0 : Fr [] wr wB := hwB ▸ (Fr.refl _ _).alloc _
        obtain ⟨d0, d1, d2, d3, d4, d5, d6⟩ := wbox7 (hwB ▸ Fr.refl [] wB : Fr [] (wr.alloc (.cells #[.string ⟨nm.toArray⟩, .bool st, .bool dir, .bool ha, .int .u32 attr.toNat, .bool ht, .int .u64 tm.toNat] 39)) wB) (by simp)
        have HF3 := Lib.hid (fun w3 (F : Fr [] wB w3) => (HF2.out.trans0 FB0).trans0 F)
        have HOB3 := Lib.hid (fun w3 (F : Fr [] wB w3) => own_frS (own_frS HOB.out FB0 (by simp)) F (by simp))
        have HU := Lib.hid (units_any wB nm (HG.out.fr (HF3.out wB (Fr.refl _ _))) hxl)
        go_wp2_with (first
          | (have hq := ownU; at_builtin; refine wpList_append_sl sty_u16 rfl _ _ (by rfl) wB.heap.size _ _ _ (by rfl) (own_frS ownU ((Fr.refl [] w3).alloc _) (by simp)) _ (hv [0]) (by rfl) (sl_one _ _ _) (by intro u hu; simp [hv] at hu; subst hu; rfl) (by simp [hv_len]; omega) (by simp [hv_len]; omega) (by have := F3.size; simp; omega) ?_; intro v4 w4 own4 g4; rw [show (hv [0]).length = 1 from rfl] at own4; have F4 : Fr [] wB w4 := (F3.alloc _).grown g4 (fun q hq => .inr (own_ltS ownU q hq).1); obtain ⟨vo4, vc4, rfl, -⟩ := own_out own4)
          | (go_at_call 41; rw [← hwB]; refine HU.out.mono ?_; intro e w3 hr; rcases hr with ⟨uv, rs, hrs, rfl, ownU, F3⟩ | ⟨hrn, rfl, F3⟩; rotate_left; (exfalso; rw [hrn] at HRS; cases HRS.out); have HRT := Lib.hid hrs; have hrl := unitsR_len rs; have hrl2 := runesF_le _ _ _ hrs; clear hrs; obtain ⟨uo, uc, rfl, -⟩ := own_out ownU))
        obtain ⟨L, hL⟩ : ∃ L, L = unitsR rs ++ [0] := ⟨_, rfl⟩
        have hUL0 : (unitsR rs).length + 1 = L.length := by rw [hL]; simp
        have hLL : L.length ≤ 300000 := by omega
        have HNB := Lib.hid (show nameB nm = unitsB L by unfold nameB nameU; rw [HRT.out, hL]; rfl)
        have own4' : w4.ownsRow wB.heap.size 64 1 (.slice vo4 L.length vc4) L.length (hv L) := by
          have h := own4
          rw [hUL0] at h
          have e : hv (unitsR rs) ++ hv [0] = hv L := by rw [hL, hv_app]
          rw [e] at h
          exact h
        have HLB := Lib.hid (show ∀ j, (namesW (F.take k)).length + (unitsB (L.take j)).length ≤ 80000000 from fun j => by
          have h1 := HLE.out
          have h2 := HB.out
          have h3 := unitsB_len (L.take j)
          have h4 := unitsB_len L
          rw [List.length_take] at h3
          rw [HNB.out] at h1
          omega)
        have HLS := Lib.hid (show ∀ u ∈ L, u < 65536 from fun u hu => by
          rw [hL, List.mem_append] at hu
          rcases hu with hu | hu
          · exact unitsR_lt (wrunes_scal _ nm rs (Nat.le_refl _) HRT.out).1 u hu
          · simp at hu; omega)
        have HOW := Lib.hid own4'
        have HF4 := Lib.hid F4
        have hLe : ((unitsR rs).length : Int) + 1 = (L.length : Int) := by omega
        have HUB := Lib.hid (show ∀ j u, L[j]? = some u → unitsB (L.take (j + 1)) = unitsB (L.take j) ++ leBytes 2 u from fun j u h => unitsB_take h)
        have HUE := Lib.hid (show unitsB (L.take L.length) = nameB nm by rw [List.take_of_length_le (Nat.le_refl _), HNB.out])
        have HFw : w.heap.size ≤ w4.heap.size := (HF3.out w4 F4).size
        have HOB4 := HOB3.out w4 F4
        clear HNB HRT hrl hrl2 own4 own4' g4 ownU hL F3 F4 HU
        try simp only [hUL0, hLe]
        go_loopw [2, 30] (fun v2 i wx => ∃ (j : Nat), j ≤ L.length ∧ i = .int .i64 j ∧ wx.ownsRow w.heap.size 5 1 v2 ((namesW (F.take k)).length + (unitsB (L.take j)).length) (bv (namesW (F.take k) ++ unitsB (L.take j))) ∧ Fr [] w4 wx) (fun _ i _ => L.length - (intOf i).toNat)
        case atStart => exact ⟨0, Nat.zero_le _, rfl, by simpa [unitsB] using HOB4, Fr.refl _ _⟩
        case round =>
          obtain ⟨j, hj, rfl, own5, F5⟩ := hrel
          rename World => wA
          obtain ⟨fao5, fcap5, rfl, -⟩ := own_out own5
          obtain ⟨ao5, cap5, e5', -, -, o5⟩ := (Sl.of_own (own_frS HOW.out F5 (by simp))).out
          rw [hv_len] at e5' o5
          injection e5' with q1 q2 q3
          subst q1 q3
          by_cases hlt2 : j < L.length
          · obtain ⟨u, hu⟩ := some_get L j hlt2
            obtain ⟨b2, o2, rfl, hb2, cc⟩ := o5 j hlt2
            have du : wA.cell? ⟨b2, o2 + j, none⟩ = some (.int .u16 (u : Int)) := by rw [cc j hlt2, hv_get hu]
            have hul := HLS.out u (List.mem_of_getElem? hu)
            have ew : IntKind.u64.wrap (u : Int) = (u : Int) := by simp [IntKind.wrap, IntKind.bits, IntKind.signed]; omega
            have HUJ := Lib.hid (HUB.out j u hu)
            have HPJ := Lib.hid (show put (namesW (F.take k) ++ unitsB (L.take j)) (2 : Nat) u = namesW (F.take k) ++ unitsB (L.take (j + 1)) by rw [put_le _ _ _ (by decide), HUJ.out, List.append_assoc])
            have HP := Lib.hid (put_any wA _ (namesW (F.take k) ++ unitsB (L.take j)) (2 : Nat) u (Sl.of_own own5) (by have := HLB.out j; simp; omega) (by omega))
            rw [HPJ.out] at HP
            clear cc o5 hu
            go_wp2_with (go_at_call 58; refine HP.out.mono ?_; rintro e w5 ⟨r5, rfl, own6, F6⟩; obtain ⟨ro6, rc6, rfl, -⟩ := own_out own6)
            go_roundw
            case rel => exact ⟨j + 1, by omega, by go_num, by have h := own_mono own6 (base' := w.heap.size) (by have := F5.size; omega); rw [List.length_append] at h; exact h, F5.trans0 F6⟩
            case measure => simp [intOf]; omega
          · obtain rfl : j = L.length := by omega
            have HO5 := Lib.hid own5
            go_wp2_with fail
            go_roundw
            case rel => exact ⟨k + 1, by omega, by go_num, by have := HO5.out; rw [HX.out, List.length_append, ← HUE.out]; exact this, (HF3.out w4 HF4.out).trans0 F5⟩
            case measure => simp [intOf]; omega
      · obtain rfl : k = F.length := by omega
        rw [List.take_of_length_le (Nat.le_refl _)] at ob
        obtain ⟨fao, fcap, rfl, -⟩ := own_out ob
        go_wp2_with fail
        go_meet
        case rel => exact ⟨_, rfl, ob, F2⟩
  case rest =>
  obtain ⟨ve, rfl, ob, F1⟩ := hcut
  obtain ⟨vao, vcap, rfl, -⟩ := own_out ob
  obtain ⟨wT, hwT⟩ : ∃ wT, wT = wc := ⟨_, rfl⟩
  rw [← hwT] at ob F1 ⊢
  clear hwT
  have T1 := WrTo.refl HW.out
  refine hK1 _ _ ?_
  clear hK1
  go_wp2_with (go_at_call 55; refine (wpart_any T1 F1 _ (namesW F) 17 ob (by have := HB.out; omega)).mono ?_; rintro e w3 ⟨rfl, T3⟩)
  go_end0
  exact ⟨rfl, T3⟩
theorem wnames_any {w wx : World} {lo p hi : Nat} {v : Value} {bs : List UInt8} {d : DW} (T : WrTo w lo p v bs d wx) (F : List Fil) (hF : RowAt wx hi 7 d.es F.length (fiV F)) (hG : Gl wx) (hn : F.length ≤ 1000000) (hb : bs.length + (namesW F).length ≤ 80000000)
    (hv : ∀ x ∈ F, (runesL x.name).isSome = true ∧ x.name.length ≤ 100000) :
    Calls Tryd.prog 26 #[.pointer (some ⟨p, 0, none⟩)] wx fun e w' => e = .returned (.tuple #[]) ∧ WrTo w lo p v (bs ++ partW 17 (namesW F)) d w' :=
  T.chain fun v1 W1 => names_one wx lo p hi v1 bs d F W1 hF hG hn hb hv
end Go.Proofs.YtkodindajfdagaaDoor
