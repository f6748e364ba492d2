/- Contract: the reference's Units. No condition but that lengths fit. -/
import Derived.Test.YtkodindajfdagaaDoorGAI
import Derived.Test.YtkodindajfdagaaDoorNRunesM
import Derived.Deep.RegionHeld3
import Derived.Test.YtkodindajfdagaaDoorGAQ
import Derived.Test.YtkodindajfdagaaDoorGAO
namespace Go.Proofs.YtkodindajfdagaaDoor
open Go.RowKit

theorem runes_scal (n : Nat) : ∀ (l : List UInt8) (rs : List Nat), l.length ≤ n → runesL l = some rs → (∀ r ∈ rs, scal r) ∧ rs.length ≤ l.length := by
  induction n with
  | zero =>
    intro l rs hl h
    obtain rfl : l = [] := List.eq_nil_of_length_eq_zero (by omega)
    rw [runesL_nil] at h
    obtain rfl : [] = rs := Option.some.inj h
    exact ⟨by simp, by simp⟩
  | succ n ih =>
    intro l rs hl h
    by_cases h0 : l = []
    · subst h0
      rw [runesL_nil] at h
      obtain rfl : [] = rs := Option.some.inj h
      exact ⟨by simp, by simp⟩
    cases hs : stepL l with
    | none => rw [runesL_none h0 hs] at h; cases h
    | some r =>
      obtain ⟨v, k⟩ := r
      have hlen : 1 ≤ l.length := by cases l with | nil => exact absurd rfl h0 | cons x t => simp
      obtain ⟨e1, e2, e3, e4, e5⟩ := stepN_some _ _ _ _ _ v k hlen (bt_lt l 0) hs
      obtain ⟨hv, -, -⟩ := enc_step h0 hs
      rw [runesL_some h0 hs] at h
      obtain ⟨y, hy, rfl⟩ := Option.map_eq_some_iff.1 h
      obtain ⟨g1, g2⟩ := ih (l.drop k) y (by simp; omega) hy
      refine ⟨fun r hr => ?_, ?_⟩
      · rcases List.mem_cons.1 hr with rfl | hr
        · exact hv
        · exact g1 r hr
      · simp at g2 ⊢
        omega

theorem nvv_get {l : List Nat} {j x : Nat} (h : l[j]? = some x) : (nvv l)[j]? = some (.int .i64 (x : Int)) := by simp [nvv, h]

set_option maxRecDepth 100000 in
set_option maxHeartbeats 1000000 in
theorem runits_any (w : World) (l : List UInt8) (hl : l.length ≤ 100000) : Calls Tryd.prog 20 #[.string ⟨l.toArray⟩] w (UnitsR l w) := by
  have HL := Lib.hid hl
  go_enter Tryd.func20, Tryd.ntmps20
  go_wp2_with (go_at_call 46; refine (runes_any _ l HL.out).mono ?_; rintro e w1 (⟨rs, v, h1, rfl, hS, F1⟩ | ⟨h1, rfl, F1⟩))
  rotate_left
  · go_ret2
    exact .inr ⟨h1, rfl, F1⟩
  obtain ⟨hsc, hrl⟩ := runes_scal _ l rs (Nat.le_refl _) h1
  have HSc := Lib.hid hsc
  have HRL := Lib.hid hrl
  have HRS := Lib.hid h1
  obtain ⟨ao, cap, rfl, -, -, oc⟩ := (Sl.of_own hS).out
  simp only [nvv_len] at *
  have HO := Lib.hid oc
  clear hS oc hsc hrl h1 hl
  go_loopw [6, 7] (fun v i wr => ∃ k : Nat, k ≤ rs.length ∧ i = .int .i64 k ∧ (unitsR (rs.take k)).length ≤ 2 * k ∧ wr.ownsRow w1.heap.size 64 1 v (unitsR (rs.take k)).length (hv (unitsR (rs.take k))) ∧ Fr [] w1 wr) (fun _ i _ => rs.length - (intOf i).toNat)
  case atStart => exact ⟨0, Nat.zero_le _, rfl, by simp [unitsR], World.ownsRow_nil _ _ _ _, Fr.refl _ _⟩
  case round =>
    obtain ⟨k, hk, rfl, hul, own, F⟩ := hrel
    obtain ⟨vao, vcap, rfl, -⟩ := own_out own
    by_cases hlt : k < rs.length
    · obtain ⟨b, of, rfl, hb, hcl⟩ := HO.out k hlt
      obtain ⟨v, hv0⟩ := some_get rs k hlt
      have HCell := Lib.hid ((hcl k hlt).trans (nvv_get hv0))
      have c0 : wr.cell? ⟨b, of + k, none⟩ = some (.int .i64 (v : Int)) := (F.cell (p := ⟨b, of + k, none⟩) hb (by simp)).trans ((hcl k hlt).trans (nvv_get hv0))
      have hvs := HSc.out v (List.mem_of_getElem? hv0)
      have HUD := Lib.hid (show unitsR (rs.take (k + 1)) = unitsR (rs.take k) ++ unitsN v by rw [List.take_add_one, hv0, unitsR_app]; simp [unitsR_one])
      have HUL := Lib.hid hul
      have HLT := Lib.hid hlt
      have HOwn := Lib.hid own
      have hlt' : (k : Int) < (rs.length : Int) := by omega
      have hkI : (k : Int) ≤ 100000 := by have := HRL.out; have := HL.out; omega
      have HVM := Lib.hid (show v ≤ 1114111 by unfold scal at hvs; omega)
      clear hcl hv0 hvs hul hlt own hk
      generalize rs.take k = done at *
      by_cases h1 : v < 65536
      · have h1' : decide ((v : Int) < 65536) = true := decide_eq_true (by omega)
        have e4 : IntKind.u16.wrap (v : Int) = (v : Int) := IntWalk.u16_in _ (by omega)
        have HUN := Lib.hid (show unitsN v = [v] by unfold unitsN; rw [if_pos h1])
        clear h1
        go_wp2_with (at_builtin; refine wpList_append_sl sty_u16 rfl _ _ (by rfl) w1.heap.size _ _ _ (by rfl) (HOwn.out.alloc _) _ [.int .u16 v] (by rfl) (sl_one _ _ _) (by intro u hu; simp at hu; subst hu; rfl) (by have := HUL.out; have := HLT.out; have := HRL.out; have := HL.out; simp; omega) (by have := HUL.out; have := HLT.out; have := HRL.out; have := HL.out; simp; omega) (by have := F.size; simp; omega) ?_)
        intro v2 w4 own4 g4
        obtain ⟨vao2, vcap2, rfl, -⟩ := own_out own4
        have HF4 := Lib.hid (show Fr [] w1 w4 from (F.alloc _).grown g4 (fun t ht => .inr (HOwn.out.lt t ht).1))
        have HOwn4 := Lib.hid own4
        clear own4 g4 e4
        go_wp2_with fail
        go_roundw
        case rel => exact ⟨k + 1, by have := HLT.out; omega, by go_num, by rw [HUD.out, HUN.out]; have := HUL.out; simp; omega, by rw [HUD.out, HUN.out, hv_app, List.length_append]; exact HOwn4.out, HF4.out⟩
        case measure => have := HLT.out; simp [intOf]; omega
      · have h1' : decide ((v : Int) < 65536) = false := decide_eq_false (by omega)
        have HV := Lib.hid h1
        clear h1
        go_upto_region 10 with fail
        have h1 := HV.out
        clear h1'
        obtain ⟨x, hx⟩ : ∃ x, v = 65536 + x := ⟨v - 65536, by omega⟩
        have hx2 : x < 1048576 := by have := HVM.out; omega
        obtain ⟨a, ha⟩ : ∃ a, a = 55296 + x / 1024 := ⟨_, rfl⟩
        obtain ⟨c, hc⟩ : ∃ c, c = 56320 + x % 1024 := ⟨_, rfl⟩
        have HX := Lib.hid (show unitsN v = [a, c] by unfold unitsN; rw [if_neg h1, ha, hc, hx]; simp)
        have e1 : IntKind.i64.wrap ((v : Int) - 65536) = (x : Int) := by rw [hx, IntWalk.i64_in _ (by omega)]; omega
        have e2 : IntKind.u16.wrap (IntKind.i64.wrap (55296 + IntKind.i64.wrap ((x : Int) / 1024))) = (a : Int) := by
          rw [IntWalk.i64_in ((x : Int) / 1024) (by omega), IntWalk.i64_in _ (by omega), IntWalk.u16_in _ (by omega), ha]
          omega
        have e3 : IntKind.u16.wrap (IntKind.i64.wrap (56320 + ((x : Int)).tmod 1024)) = (c : Int) := by
          rw [Int.tmod_eq_emod_of_nonneg (by omega), IntWalk.i64_in _ (by omega), IntWalk.u16_in _ (by omega), hc]
          omega
        clear h1 hx hx2 ha hc
        go_region_held3 (fun w' => w'.cell? ⟨b, of + k, none⟩ = some (.int .i64 (v : Int))) (first | go_keep | (simp [go_sem, *]))
          (first | (refine step_append_sl sty_u16 rfl _ _ (by rfl) w1.heap.size _ _ _ (by rfl) (own_fr HOwn.out ((Fr.refl [] wr).alloc _).drew (by simp)) _ [.int .u16 a, .int .u16 c] (by rfl) (sl_lit _ _ [.int .u16 a, .int .u16 c] 2 rfl (by decide)) (by intro u hu; simp at hu; rcases hu with rfl | rfl <;> rfl) (by have := HUL.out; have := HLT.out; have := HRL.out; have := HL.out; simp; omega) (by have := HUL.out; have := HLT.out; have := HRL.out; have := HL.out; simp; omega) (by have := F.size; simp; omega) ?_; intro v2 w4 own4 g4; have HF4 := Lib.hid (show Fr [] w1 w4 from (F.alloc _).drew.grown g4 (fun t ht => .inr (HOwn.out.lt t ht).1)); have k0 := (HF4.out.cell (p := ⟨b, of + k, none⟩) hb (by simp)).trans (HCell.out)))
        obtain ⟨vao2, vcap2, rfl, -⟩ := own_out own4
        have HOwn4 := Lib.hid own4
        clear own4 g4 e1 e2 e3
        go_wp2_with fail
        go_roundw
        case rel => exact ⟨k + 1, by have := HLT.out; omega, by go_num, by rw [HUD.out, HX.out]; have := HUL.out; simp; omega, by rw [HUD.out, HX.out, hv_app, List.length_append]; exact HOwn4.out, HF4.out⟩
        case measure => have := HLT.out; simp [intOf]; omega
    · have hke : k = rs.length := by omega
      subst hke
      rw [List.take_length] at own
      have HSl := Lib.hid (own_mono own (base' := w.heap.size) (by have := F1.size; omega))
      clear own hul
      go_wp2_with fail
      go_ret2
      exact .inl ⟨_, rs, HRS.out, rfl, by rw [List.take_length] at *; exact HSl.out, F1.trans0 F⟩
end Go.Proofs.YtkodindajfdagaaDoor
/- How long what is written is, at most. No condition. -/
namespace Go.Proofs.YtkodindajfdagaaDoor
open Go.RowKit

theorem flat_sum {α : Type} (f : α → List UInt8) (g : α → Nat) (l : List α) (h : ∀ x ∈ l, (f x).length ≤ g x) : (l.flatMap f).length ≤ (l.map g).sum := by
  induction l with
  | nil => exact Nat.le_refl _
  | cons x t ih =>
    rw [List.flatMap_cons, List.length_append, List.map_cons, List.sum_cons]
    have h1 := h x (by simp)
    have h2 := ih (fun y hy => h y (List.mem_cons_of_mem _ hy))
    omega
theorem sum_const {α : Type} (k : Nat) (l : List α) : (l.map fun _ => k).sum = k * l.length := by
  induction l with
  | nil => rfl
  | cons x t ih => rw [List.map_cons, List.sum_cons, ih, List.length_cons, Nat.mul_succ]; omega
theorem sum_add {α : Type} (f g : α → Nat) (l : List α) : (l.map fun x => f x + g x).sum = (l.map f).sum + (l.map g).sum := by
  induction l with
  | nil => rfl
  | cons x t ih => rw [List.map_cons, List.sum_cons, ih, List.map_cons, List.sum_cons, List.map_cons, List.sum_cons]; omega
theorem sum_mul {α : Type} (k : Nat) (f : α → Nat) (l : List α) : (l.map fun x => k * f x).sum = k * (l.map f).sum := by
  induction l with
  | nil => rfl
  | cons x t ih => rw [List.map_cons, List.sum_cons, ih, List.map_cons, List.sum_cons, Nat.mul_add]
theorem flat_const {α : Type} (f : α → List UInt8) (k : Nat) (l : List α) (h : ∀ x ∈ l, (f x).length ≤ k) : (l.flatMap f).length ≤ k * l.length := by
  rw [← sum_const k l]
  exact flat_sum f (fun _ => k) l h
theorem unitsR_le (rs : List Nat) : (unitsR rs).length ≤ 2 * rs.length := by
  induction rs with
  | nil => exact Nat.le_refl _
  | cons x t ih =>
    show (unitsN x ++ unitsR t).length ≤ _
    rw [List.length_append, List.length_cons]
    have : (unitsN x).length ≤ 2 := by unfold unitsN; split <;> simp
    omega
theorem nameU_le (l : List UInt8) : (nameU l).length ≤ 2 * l.length := by
  unfold nameU
  cases h : runesL l with
  | none => exact Nat.zero_le _
  | some rs =>
    have h1 := (runes_scal _ l rs (Nat.le_refl _) h).2
    have h2 := unitsR_le rs
    show (unitsR rs).length ≤ _
    omega
theorem unitsB_len2 (us : List Nat) : (unitsB us).length = 2 * us.length := by
  induction us with
  | nil => rfl
  | cons x t ih =>
    show (leBytes 2 x ++ unitsB t).length = _
    rw [List.length_append, ih, leBytes_length, List.length_cons]
    omega
def nameN (F : List Fil) : Nat := (F.map fun f => f.name.length).sum
theorem namesW_all (F : List Fil) : (namesW F).length ≤ 1 + (4 * nameN F + 2 * F.length) := by
  unfold namesW
  rw [List.length_cons]
  have h := flat_sum (fun f : Fil => nameB f.name) (fun f => 4 * f.name.length + 2) F (fun f _ => by
    show (unitsB (nameU f.name ++ [0])).length ≤ _
    rw [unitsB_len2, List.length_append, List.length_singleton]
    have := nameU_le f.name
    omega)
  rw [sum_add, sum_mul, sum_const] at h
  unfold nameN
  omega
theorem partW_le (id : UInt8) (x : List UInt8) : (partW id x).length ≤ 10 + x.length := by
  unfold partW
  rw [List.length_cons, List.length_append]
  have := shortN_le x.length
  omega
theorem packBits_le (row : List Bool) : (packBits row).length ≤ row.length + 1 := by
  rw [packBits_len]
  omega
theorem toldN_le (row : List Bool) : (toldN row).length ≤ 2 + row.length := by
  unfold toldN
  split
  · simp; omega
  · rw [List.length_cons]; have := packBits_le row; omega
theorem rowsW_le (F : List Fil) : (rowsW F).length ≤ 22 + 2 * F.length := by
  unfold rowsW
  rw [List.length_append]
  have h1 : (if plainB F = [] then ([] : List UInt8) else partW 14 (packBits (emptyB F))).length ≤ 11 + F.length := by
    split
    · exact Nat.zero_le _
    · have a := partW_le 14 (packBits (emptyB F))
      have b := packBits_le (emptyB F)
      have c : (emptyB F).length = F.length := by simp [emptyB]
      omega
  have h2 : (if true ∈ plainB F then partW 15 (packBits (plainB F)) else ([] : List UInt8)).length ≤ 11 + F.length := by
    split
    · have a := partW_le 15 (packBits (plainB F))
      have b := packBits_le (plainB F)
      have c : (plainB F).length ≤ F.length := by unfold plainB; rw [List.length_map]; exact List.length_filter_le _ _
      omega
    · exact Nat.zero_le _
  omega
theorem numsW_le (id : UInt8) (k : Nat) (of : Fil → Nat × Bool) (F : List Fil) : (numsW id k of F).length ≤ 13 + (F.length + k * F.length) := by
  unfold numsW
  split
  · have a := partW_le id ((toldN (hasV of F) ++ [0]) ++ valsV of k F)
    have b := toldN_le (hasV of F)
    have c : (hasV of F).length = F.length := by simp [hasV]
    have d : (valsV of k F).length ≤ k * F.length := flat_const _ k F (fun f _ => by
      split
      · rw [leBytes_length]; exact Nat.le_refl _
      · exact Nat.zero_le _)
    rw [List.length_append, List.length_append, List.length_singleton] at a
    omega
  · exact Nat.zero_le _
theorem filesW_le (F : List Fil) : (filesW F).length ≤ 100 + (20 * F.length + 4 * nameN F) := by
  unfold filesW
  split
  · exact Nat.zero_le _
  · have h1 := shortN_le F.length
    have h2 := rowsW_le F
    have h3 := partW_le 17 (namesW F)
    have h4 := namesW_all F
    have h5 := numsW_le 20 8 timeOf F
    have h6 := numsW_le 21 4 attrOf F
    simp only [List.length_cons, List.length_append, List.length_nil]
    omega
theorem sumsW_le (cs : List Ck) : (sumsW cs).length ≤ 3 + 5 * cs.length := by
  unfold sumsW
  split
  · have a := toldN_le (cs.map (·.has))
    have b := ckB_len cs
    rw [List.length_map] at a
    rw [List.length_cons, List.length_append]
    omega
  · exact Nat.zero_le _
theorem numsB_le9 (l : List UInt64) : (numsB l).length ≤ 9 * l.length := flat_const _ 9 l (fun _ _ => shortN_le _)
theorem packsW_le (pl : UInt64) (ps : List UInt64) (cs : List Ck) : (packsW pl ps cs).length ≤ 24 + (9 * ps.length + 5 * cs.length) := by
  unfold packsW
  split
  · exact Nat.zero_le _
  · have h1 := shortN_le pl.toNat
    have h2 := shortN_le ps.length
    have h3 := numsB_le9 ps
    have h4 := sumsW_le cs
    have h5 : (if ps = [] then ([] : List UInt8) else [9]).length ≤ 1 := by split <;> simp
    simp only [List.length_cons, List.length_append, List.length_nil]
    omega
def propN (f : Folder) : Nat := (f.coders.map fun c => c.props.length).sum
theorem coderW_le (c : Coder) : (coderW c).length ≤ c.props.length + 16 := by
  unfold coderW
  have h1 := meth_len c.method
  have h2 : (if c.method = 6 then ([4, 1] : List UInt8) else []).length ≤ 2 := by split <;> simp
  have h3 : (if c.props = [] then ([] : List UInt8) else shortN c.props.length ++ c.props).length ≤ 9 + c.props.length := by
    split
    · simp
    · rw [List.length_append]; have := shortN_le c.props.length; omega
  simp only [List.length_cons, List.length_append]
  omega
def folN (f : Folder) : Nat := 10 + (propN f + (16 * f.coders.length + (18 * f.binds.length + 9 * f.packs.length)))
theorem folderW_le (f : Folder) : (folderW f).length ≤ folN f := by
  unfold folderW folN propN
  have h1 := shortN_le f.coders.length
  have h2 := flat_sum coderW (fun c => c.props.length + 16) f.coders (fun c _ => coderW_le c)
  rw [sum_add, sum_const] at h2
  have h3 := flat_const bindW 18 f.binds (fun b _ => by unfold bindW; rw [List.length_append]; have := shortN_le b.1.toNat; have := shortN_le b.2.toNat; omega)
  have h4 : (if 1 < f.packs.length then packsI f.packs else []).length ≤ 9 * f.packs.length := by
    split
    · exact flat_const _ 9 f.packs (fun _ _ => shortN_le _)
    · exact Nat.zero_le _
  simp only [List.length_append]
  omega
def folSN (L : List Fol) : Nat := (L.map fun x => folN x.f + 9 * x.f.sizes.length).sum
theorem foldersW_le (L : List Fol) : (foldersW L).length ≤ 24 + (5 * L.length + folSN L) := by
  unfold foldersW
  split
  · exact Nat.zero_le _
  · have h1 := shortN_le L.length
    have h2 : (foB L).length ≤ (L.map fun x => folN x.f).sum := flat_sum _ _ L (fun x _ => folderW_le x.f)
    have h3 : (szB L).length ≤ (L.map fun x => 9 * x.f.sizes.length).sum := flat_sum _ _ L (fun x _ => numsB_le9 x.f.sizes)
    have h4 := sumsW_le (cksL L)
    have h5 : (cksL L).length = L.length := by simp [cksL]
    unfold folSN
    rw [sum_add]
    simp only [List.length_append, List.length_cons, List.length_nil]
    omega
theorem cutB_all (S : List (List Sub)) : (cutB S).length ≤ 9 * manyOf S := by
  have h := flat_sum cutOf (fun l => 9 * l.length) S (fun l _ => by
    have := flat_const (fun s : Sub => shortN s.size.toNat) 9 (l.take (l.length - 1)) (fun _ _ => shortN_le _)
    rw [List.length_take] at this
    unfold cutOf
    omega)
  rw [sum_mul] at h
  exact h
theorem subsW_le (S : List (List Sub)) (L : List Fol) : (subsW S L).length ≤ 10 + (9 * S.length + 14 * manyOf S) := by
  unfold subsW
  split
  · exact Nat.zero_le _
  · have h1 : (cntB S).length ≤ 9 * S.length := flat_const _ 9 S (fun _ _ => shortN_le _)
    have h2 := cutB_all S
    have h3 := sumsW_le (unkW S L)
    have h4 := unk_le (S := S) (L := L)
    have h5 : (if S.any oddS then 13 :: (cntB S ++ (9 :: cutB S)) else []).length ≤ 2 + (9 * S.length + 9 * manyOf S) := by
      split
      · simp only [List.length_cons, List.length_append]; omega
      · exact Nat.zero_le _
    simp only [List.length_cons, List.length_append, List.length_nil]
    omega
theorem strmW_le (D : StD) : (strmW D).length ≤ 60 + ((9 * D.ps.length + 5 * D.cs.length) + (5 * D.L.length + folSN D.L) + (9 * D.S.length + 14 * manyOf D.S)) := by
  unfold strmW
  have h1 := packsW_le D.pl D.ps D.cs
  have h2 := foldersW_le D.L
  have h3 := subsW_le D.S D.L
  simp only [List.length_append, List.length_cons, List.length_nil]
  omega
theorem writeW_le (pk : Bool) (D : StD) (F : List Fil) : (writeW pk D F).length ≤ 4 + ((strmW D).length + (filesW F).length) := by
  unfold writeW
  split
  · simp only [List.length_cons]; omega
  · split
    · simp only [List.length_append, List.length_cons, List.length_nil]; omega
    · simp only [List.length_append, List.length_cons, List.length_nil]; omega
end Go.Proofs.YtkodindajfdagaaDoor
/- A description in memory. No condition. -/
namespace Go.Proofs.YtkodindajfdagaaDoor
open Go.RowKit

theorem cells7w {w : World} {g : Nat} {t : TypeId} {a0 a1 a2 a3 a4 a5 a6 : Value} (h : w.heap[g]? = some (.cells #[a0, a1, a2, a3, a4, a5, a6] t (0, 0))) :
    w.cell? ⟨g, 0, none⟩ = some a0 ∧ w.cell? ⟨g, 1, none⟩ = some a1 ∧ w.cell? ⟨g, 2, none⟩ = some a2 ∧ w.cell? ⟨g, 3, none⟩ = some a3 ∧ w.cell? ⟨g, 4, none⟩ = some a4 ∧ w.cell? ⟨g, 5, none⟩ = some a5 ∧ w.cell? ⟨g, 6, none⟩ = some a6 :=
  ⟨by simp [Go.Joins.cell_of_block h], by simp [Go.Joins.cell_of_block h], by simp [Go.Joins.cell_of_block h], by simp [Go.Joins.cell_of_block h], by simp [Go.Joins.cell_of_block h], by simp [Go.Joins.cell_of_block h], by simp [Go.Joins.cell_of_block h]⟩
theorem sbV_at {l : List Sub} {i : Nat} {y : Sub} (h : l[i]? = some y) : (sbV l)[i * 3]? = some (.int .u64 y.size.toNat) ∧ (sbV l)[i * 3 + 1]? = some (.bool y.ck.has) ∧ (sbV l)[i * 3 + 2]? = some (.int .u32 y.ck.sum.toNat) := by
  induction l generalizing i with
  | nil => simp at h
  | cons x t ih =>
    have hc : sbV (x :: t) = [.int .u64 x.size.toNat, .bool x.ck.has, .int .u32 x.ck.sum.toNat] ++ sbV t := rfl
    cases i with
    | zero => simp at h; subst h; simp [sbV]
    | succ i =>
      have := ih (i := i) (by simpa using h)
      rw [show (i + 1) * 3 = i * 3 + 3 by omega, hc]
      refine ⟨?_, ?_, ?_⟩
      · rw [List.getElem?_append_right (by simp)]; simpa using this.1
      · rw [List.getElem?_append_right (by simp)]; simpa using this.2.1
      · rw [List.getElem?_append_right (by simp)]; simpa using this.2.2
/-- A description in memory. -/
def DeR (w : World) (v : Value) (pk : Bool) (D : StD) (F : List Fil) : Prop :=
  ∃ d : DW, v = .agg #[d.pk, d.pl, d.ps, d.cs, d.fo, d.su, d.es] ∧ d.pk = .bool pk ∧ StR w d D ∧ RowAt w w.heap.size 7 d.es F.length (fiV F)
theorem DeR.fr {w w' : World} {v : Value} {pk : Bool} {D : StD} {F : List Fil} (h : DeR w v pk D F) (G : Fr [] w w') : DeR w' v pk D F := by
  obtain ⟨d, e, hp, hR, hF⟩ := h
  exact ⟨d, e, hp, ⟨hR.pl, (hR.ps.fr0 G).up G.size, (hR.cs.fr0 G).up G.size, hR.fo.fr G, hR.su.fr G⟩, (hF.fr0 G).up G.size⟩
/-- Its lengths. -/
structure DeFit (D : StD) (F : List Fil) : Prop where
  n1 : D.ps.length ≤ 1000000000
  n2 : D.cs.length ≤ 1000000000
  n3 : D.L.length ≤ 1000000000
  n4 : D.S.length ≤ 1000000000
  n5 : F.length ≤ 1000000000
  fo : ∀ x ∈ D.L, x.f.coders.length ≤ 1000000000 ∧ x.f.binds.length ≤ 1000000000 ∧ x.f.packs.length ≤ 1000000000 ∧ x.f.sizes.length ≤ 1000000000
  su : ∀ l ∈ D.S, l.length ≤ 1000000000

end Go.Proofs.YtkodindajfdagaaDoor
