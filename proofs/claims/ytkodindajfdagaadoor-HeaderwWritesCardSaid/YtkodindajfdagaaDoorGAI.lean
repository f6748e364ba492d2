/- The package variables that the library reads; contract: utf8.ValidString; rows of units. No condition. -/
import Derived.Test.YtkodindajfdagaaDoorBaseM
import Derived.Test.YtkodindajfdagaaDoorShelfM
import Derived.Test.YtkodindajfdagaaDoorGAF
import Derived.Lib.ConvBytes
import Derived.Laws.IdiomStrings
import Derived.Lib.OthersKept
import Derived.Lib.BitFns
namespace Go.Proofs.YtkodindajfdagaaDoor
open Go.RowKit

def ba (l : List UInt8) : ByteArray := ⟨l.toArray⟩
def ls (s : ByteArray) : List UInt8 := s.data.toList
@[simp] theorem ls_ba (l : List UInt8) : ls (ba l) = l := by simp [ls, ba]
theorem ba_ls (s : ByteArray) : ba (ls s) = s := by simp [ls, ba]
theorem ls_size (s : ByteArray) : (ls s).length = s.size := by unfold ls ByteArray.size; exact Array.length_toList
theorem ba_size (l : List UInt8) : (ba l).size = l.length := by unfold ba ByteArray.size; simp

/-- The package variables that the library reads. -/
structure Gl (w : World) : Prop where
  tabs : Lib.Utf8Tabs 0 1 w
  sz : 2 ≤ w.heap.size

theorem Gl.frS {w w' : World} {S : List Nat} (h : Gl w) (F : Fr S w w') (hS : ∀ i ∈ S, 2 ≤ i) : Gl w' := by
  have hn : ∀ b, b < 2 → b ∉ S := fun b hb hm => by have := hS b hm; omega
  exact ⟨⟨fun c hc => (F.cell (p := ⟨0, c, none⟩) (by have := h.sz; dsimp only; omega) (hn 0 (by omega))).trans (h.tabs.1 c hc), fun i hi => ⟨(F.cell (p := ⟨1, 2 * i, none⟩) (by have := h.sz; dsimp only; omega) (hn 1 (by omega))).trans (h.tabs.2 i hi).1, (F.cell (p := ⟨1, 2 * i + 1, none⟩) (by have := h.sz; dsimp only; omega) (hn 1 (by omega))).trans (h.tabs.2 i hi).2⟩⟩, Nat.le_trans h.sz F.size⟩
theorem Gl.fr {w w' : World} (h : Gl w) (F : Fr [] w w') : Gl w' := h.frS F (by simp)

theorem valid_any (w : World) (l : List UInt8) (hG : Gl w) (hl : l.length ≤ 100000) :
    Calls Tryd.prog 68 #[.string ⟨l.toArray⟩] w fun e w' => e = .returned (.bool (runesL l).isSome) ∧ Fr [] w w' := by
  have hsz : (⟨l.toArray⟩ : ByteArray).size = l.length := by simp [ByteArray.size]
  refine (Tryd.utf8_ValidString ⟨l.toArray⟩ w (by omega) hG.tabs).mono ?_
  rintro e w2 ⟨rfl, hb⟩
  exact ⟨by rw [← valid_runes], Fr.of_below hb⟩

theorem info_u16 : (Tryd.prog.info? 64).map (fun i => (i.zero, i.size, i.bytes)) = some (some (.int .u16 0), 1, 2) := by kernel_rfl
theorem sty_u16 : SlTy Tryd.prog 61 64 (.int .u16 0) 2 := ⟨Tryd.underlying61, by obtain ⟨i, h⟩ := info_parts info_u16; exact ⟨i, h⟩, rfl⟩
def hv (l : List Nat) : List Value := l.map fun (k : Nat) => .int .u16 (k : Int)
theorem hv_len (l : List Nat) : (hv l).length = l.length := by simp [hv]
theorem hv_get {l : List Nat} {j x : Nat} (h : l[j]? = some x) : (hv l)[j]? = some (.int .u16 (x : Int)) := by simp [hv, h]

theorem Fr.iterAt {S : List Nat} {a w : World} (h : Fr S a w) {k : Nat} (hk : k ∈ S ∨ a.heap.size ≤ k) (s : ByteArray) (p : Nat) : Fr S a (w.iterAt k s p) := by
  refine ⟨h.os, h.tape, h.output, ?_, fun j hj hm => ?_⟩
  · have := h.size
    simp [World.iterAt]
    exact this
  · have hne : j ≠ k := fun e => by
      subst e
      rcases hk with hk | hk
      · exact hm hk
      · omega
    have : (w.iterAt k s p).heap[j]? = w.heap[j]? := by simp [World.iterAt, hne.symm]
    rw [this]
    exact h.block j hj hm

theorem bt_drop (l : List UInt8) (pos j : Nat) : ((⟨l.toArray⟩ : ByteArray).get! (pos + j)).toNat = bt (l.drop pos) j := by
  rw [get_bt]
  unfold bt
  simp [List.getD_eq_getElem?_getD]

theorem decode_drop (l : List UInt8) (pos : Nat) : Utf8.decode ⟨l.toArray⟩ pos = Lib.decodeN (l.length - pos) (bt (l.drop pos) 0) (bt (l.drop pos) 1) (bt (l.drop pos) 2) (bt (l.drop pos) 3) := by
  rw [Lib.decode_at]
  have h0 := bt_drop l pos 0
  rw [Nat.add_zero] at h0
  rw [h0, bt_drop, bt_drop, bt_drop]
  simp [ByteArray.size]

end Go.Proofs.YtkodindajfdagaaDoor
/- Contract: names.Units. No condition but that lengths fit. -/
namespace Go.Proofs.YtkodindajfdagaaDoor
open Go.RowKit

/-- What Units answers. -/
def UnitsR (l : List UInt8) (w : World) (e : Ending) (w' : World) : Prop :=
  (∃ v rs, runesL l = some rs ∧ e = .returned (.tuple #[v, .int .i64 0]) ∧ w'.ownsRow w.heap.size 64 1 v (unitsR rs).length (hv (unitsR rs)) ∧ Fr [] w w') ∨
    (runesL l = none ∧ e = .returned (.tuple #[.slice none 0 0, .int .i64 15]) ∧ Fr [] w w')

theorem hv_app (a b : List Nat) : hv (a ++ b) = hv a ++ hv b := by simp [hv]
theorem unitsR_app (a b : List Nat) : unitsR (a ++ b) = unitsR a ++ unitsR b := by simp [unitsR]
theorem unitsR_one (v : Nat) : unitsR [v] = unitsN v := by simp [unitsR]

theorem step_at {l : List UInt8} {pos : Nat} {x : List Nat} (hr : runesL (l.drop pos) = some x) (hp : pos < l.length) : ∃ v k y, stepL (l.drop pos) = some (v, k) ∧ x = v :: y ∧ runesL (l.drop (pos + k)) = some y ∧ 1 ≤ k ∧ pos + k ≤ l.length ∧ v ≤ 1114111 ∧ Utf8.decode ⟨l.toArray⟩ pos = (v, k) := by
  have h0 : l.drop pos ≠ [] := by intro e; have := congrArg List.length e; simp at this; omega
  have hlen : 1 ≤ (l.drop pos).length := by simp; omega
  cases hs : stepL (l.drop pos) with
  | none => rw [runesL_none h0 hs] at hr; cases hr
  | some r =>
    obtain ⟨v, k⟩ := r
    obtain ⟨e1, e2, e3, e4, e5⟩ := stepN_some _ _ _ _ _ v k hlen (bt_lt _ 0) hs
    obtain ⟨hv, -, -⟩ := enc_step h0 hs
    rw [runesL_some h0 hs, List.drop_drop] at hr
    obtain ⟨y, hy, rfl⟩ := Option.map_eq_some_iff.1 hr
    refine ⟨v, k, y, rfl, rfl, hy, e3, by simp at e4; omega, by unfold scal at hv; omega, ?_⟩
    rw [decode_drop, ← e1]
    simp

theorem and1023 (x : Nat) (hx : x < 2147483648) : bits .and .i32 (x : Int) 1023 = ((x % 1024 : Nat) : Int) := by
  show IntKind.i32.wrap ((BitVec.ofInt 32 (x : Int) &&& BitVec.ofInt 32 1023).toNat : Int) = _
  have h1 : (BitVec.ofInt 32 1023).toNat = 2 ^ 10 - 1 := by decide
  have h2 : (BitVec.ofInt 32 (x : Int)).toNat = x := by simp; omega
  rw [BitVec.toNat_and, h1, h2, Nat.and_two_pow_sub_one_eq_mod]
  exact IntWalk.i32_in _ (by omega)

set_option maxRecDepth 100000 in
set_option maxHeartbeats 1000000 in
theorem units_any (w : World) (l : List UInt8) (hG : Gl w) (hl : l.length ≤ 100000) : Calls Tryd.prog 41 #[.string ⟨l.toArray⟩] w (UnitsR l w) := by
  have HG := Lib.hid hG
  have HL := Lib.hid hl
  cases hr : runesL l with
  | none =>
    have HR := Lib.hid (show (runesL l).isSome = false by rw [hr]; rfl)
    have HRN := Lib.hid hr
    clear hr hl
    go_enter Tryd.func41, Tryd.ntmps41
    go_wp2_with (go_at_call 68; refine (valid_any _ l HG.out HL.out).mono ?_; rw [HR.out]; rintro e w1 ⟨rfl, F1⟩)
    go_ret2
    exact .inr ⟨HRN.out, rfl, F1⟩
  | some rs =>
    have HR := Lib.hid (show (runesL l).isSome = true by rw [hr]; rfl)
    have HRS := Lib.hid hr
    clear hr hl
    go_enter Tryd.func41, Tryd.ntmps41
    go_wp2_with (go_at_call 68; refine (valid_any _ l HG.out HL.out).mono ?_; rw [HR.out]; rintro e w1 ⟨rfl, F1⟩)
    obtain ⟨wI, hwI⟩ : ∃ wI, wI = w1.iter ⟨l.toArray⟩ 0 := ⟨_, rfl⟩
    have FI : Fr [] w1 wI := hwI ▸ (Fr.refl _ _).alloc _
    have hI : wI.heap[w1.heap.size]? = some (.stringIter ⟨l.toArray⟩ 0) := hwI ▸ heap_alloc_new w1 _
    have HSI := Lib.hid (show wI.heap.size = w1.heap.size + 1 by rw [hwI]; simp [World.iter])
    rw [← hwI]
    clear hwI
    go_loopw [4] (fun v wr => ∃ (pos : Nat) (done rest : List Nat), pos ≤ l.length ∧ rs = done ++ rest ∧ runesL (l.drop pos) = some rest ∧ (unitsR done).length ≤ 2 * pos ∧ wr.heap[w1.heap.size]? = some (.stringIter ⟨l.toArray⟩ pos) ∧ wr.ownsRow wI.heap.size 64 1 v (unitsR done).length (hv (unitsR done)) ∧ Fr [w1.heap.size] wI wr) (fun _ wr => l.length - wr.iterPos w1.heap.size)
    case atStart => exact ⟨0, [], rs, by omega, rfl, HRS.out, by simp [unitsR], hI, World.ownsRow_nil _ _ _ _, Fr.refl _ _⟩
    case round =>
      obtain ⟨pos, done, rest, hp, hsplit, hrest, hul, hit, own, F⟩ := hrel
      obtain ⟨vao, vcap, rfl, -⟩ := own_out own
      have hsz : (⟨l.toArray⟩ : ByteArray).size = l.length := by simp [ByteArray.size]
      have HSplit := Lib.hid hsplit
      clear hsplit
      by_cases hlt : pos < l.length
      · obtain ⟨v, k, y, hst, rfl, hy, hk1, hk2, hvm, hdec⟩ := step_at hrest hlt
        have hnx : ∀ ty, (Instr.next (.pointer (some ⟨w1.heap.size, 0, none⟩)) true ty).run Tryd.prog wr = _ := fun ty => Lib.run_next_any_at wr w1.heap.size ⟨l.toArray⟩ pos ty hit (by rw [hsz]; exact hlt)
        rw [hdec] at hnx
        dsimp only at hnx
        have HIT := Lib.hid (Lib.iterAt_heap wr w1.heap.size ⟨l.toArray⟩ pos (pos + k) hit)
        have HF2 := Lib.hid (show Fr [w1.heap.size] wI (wr.iterAt w1.heap.size ⟨l.toArray⟩ (pos + k)) from F.iterAt (k := w1.heap.size) (.inl (by simp)) _ _)
        have HOwn2 := Lib.hid (own_fr (S := [w1.heap.size]) own ((Fr.refl [w1.heap.size] wr).iterAt (k := w1.heap.size) (.inl (by simp)) ⟨l.toArray⟩ (pos + k)) (fun k hk hm => by simp at hm; subst hm; have := (own.lt _ hk).1; have := HSI.out; omega))
        have HItP := Lib.hid hit
        have HY := Lib.hid hy
        have HUL := Lib.hid hul
        have HLS := Lib.hid (show 1 ≤ k ∧ pos + k ≤ l.length ∧ pos < l.length from ⟨hk1, hk2, hlt⟩)
        have HUD := Lib.hid (show unitsR (done ++ [v]) = unitsR done ++ unitsN v by rw [unitsR_app, unitsR_one])
        have HSp2 := Lib.hid (show rs = (done ++ [v]) ++ y by rw [HSplit.out]; simp)
        clear hst hrest hy hdec hsz own hit hul hlt hk1 hk2 F hp
        have HVM := Lib.hid hvm
        clear hvm
        by_cases h1 : v < 65536
        · have h1' : (v : Int) < 65536 := by omega
          have HUN := Lib.hid (show unitsN v = [v] by unfold unitsN; rw [if_pos h1])
          clear h1
          generalize hW2 : wr.iterAt w1.heap.size ⟨l.toArray⟩ (pos + k) = w2 at *
          go_wp2_with (at_builtin; refine wpList_append_sl sty_u16 rfl _ _ (by rfl) wI.heap.size _ _ _ (by rfl) (HOwn2.out.alloc _) _ [.int .u16 v] (by rfl) (sl_one _ _ _) (by intro u hu; simp at hu; subst hu; rfl) (by have := HUL.out; have := HLS.out; have := HL.out; simp; omega) (by have := HUL.out; have := HLS.out; have := HL.out; simp; omega) (by have := HF2.out.size; simp; omega) ?_)
          intro v2 w4 own4 g4
          obtain ⟨vao2, vcap2, rfl, -⟩ := own_out own4
          have HF4 := Lib.hid (show Fr [w1.heap.size] wI w4 from (HF2.out.alloc _).grown g4 (fun t ht => .inr (HOwn2.out.lt t ht).1))
          have HIT4 := Lib.hid (show w4.heap[w1.heap.size]? = some (.stringIter ⟨l.toArray⟩ (pos + k)) by
            have hsI := HSI.out
            refine (g4.block w1.heap.size (by have := HF2.out.size; simp; omega) (fun e => ?_)).trans ((((Fr.refl [] w2).alloc _).block w1.heap.size (by have := HF2.out.size; omega) (by simp)).trans HIT.out)
            have := (HOwn2.out.lt _ e.symm).1
            omega)
          have HOwn4 := Lib.hid own4
          clear own4 g4 hnx
          go_wp2_with fail
          go_roundw
          case rel => exact ⟨pos + k, done ++ [v], y, HLS.out.2.1, HSp2.out, HY.out, by rw [HUD.out, HUN.out]; have := HUL.out; have := HLS.out; simp; omega, HIT4.out, by rw [HUD.out, HUN.out, hv_app, List.length_append]; exact HOwn4.out, HF4.out⟩
          case measure => have := HLS.out; simp [World.iterPos, HIT4.out, HItP.out]; omega
        · have h1' : decide ((v : Int) < 65536) = false := decide_eq_false (by omega)
          obtain ⟨x, hx⟩ : ∃ x, v = 65536 + x := ⟨v - 65536, by omega⟩
          have hx2 : x < 1048576 := by have := HVM.out; omega
          obtain ⟨a, ha⟩ : ∃ a, a = 55296 + x / 1024 := ⟨_, rfl⟩
          obtain ⟨b, hb⟩ : ∃ b, b = 56320 + x % 1024 := ⟨_, rfl⟩
          have HX := Lib.hid (show unitsN v = [a, b] by unfold unitsN; rw [if_neg h1, ha, hb, hx]; simp)
          have e4 : IntKind.u16.wrap (a : Int) = (a : Int) := IntWalk.u16_in _ (by omega)
          have e5 : IntKind.u16.wrap (b : Int) = (b : Int) := IntWalk.u16_in _ (by omega)
          have e1 : wrap32 ((v : Int) - 65536) = (x : Int) := by rw [hx]; unfold wrap32; omega
          have e2 : wrap32 (55296 + (x : Int) / 1024) = (a : Int) := by rw [ha]; unfold wrap32; omega
          have e3 : wrap32 (56320 + bits BinOp.and IntKind.i32 (x : Int) 1023) = (b : Int) := by rw [hb, and1023 x (by omega)]; unfold wrap32; omega
          clear hx hx2 ha hb
          have HV := Lib.hid h1
          clear h1
          generalize hW2 : wr.iterAt w1.heap.size ⟨l.toArray⟩ (pos + k) = w2 at *
          go_wp2_with (at_builtin; refine wpList_append_sl sty_u16 rfl _ _ (by rfl) wI.heap.size _ _ _ (by rfl) (HOwn2.out.alloc _) _ [.int .u16 a, .int .u16 b] (by rfl) (sl_lit _ _ [.int .u16 a, .int .u16 b] 2 rfl (by decide)) (by intro u hu; simp at hu; rcases hu with rfl | rfl <;> rfl) (by have := HUL.out; have := HLS.out; have := HL.out; simp; omega) (by have := HUL.out; have := HLS.out; have := HL.out; simp; omega) (by have := HF2.out.size; simp; omega) ?_)
          intro v2 w4 own4 g4
          obtain ⟨vao2, vcap2, rfl, -⟩ := own_out own4
          have HF4 := Lib.hid (show Fr [w1.heap.size] wI w4 from (HF2.out.alloc _).grown g4 (fun t ht => .inr (HOwn2.out.lt t ht).1))
          have HIT4 := Lib.hid (show w4.heap[w1.heap.size]? = some (.stringIter ⟨l.toArray⟩ (pos + k)) by
            have hsI := HSI.out
            refine (g4.block w1.heap.size (by have := HF2.out.size; simp; omega) (fun e => ?_)).trans ((((Fr.refl [] w2).alloc _).block w1.heap.size (by have := HF2.out.size; omega) (by simp)).trans HIT.out)
            have := (HOwn2.out.lt _ e.symm).1
            omega)
          have HOwn4 := Lib.hid own4
          clear own4 g4 hnx e1 e2 e3 e4 e5
          go_wp2_with fail
          go_roundw
          case rel => exact ⟨pos + k, done ++ [v], y, HLS.out.2.1, HSp2.out, HY.out, by rw [HUD.out, HX.out]; have := HUL.out; have := HLS.out; simp; omega, HIT4.out, by rw [HUD.out, HX.out, hv_app, List.length_append]; exact HOwn4.out, HF4.out⟩
          case measure => have := HLS.out; simp [World.iterPos, HIT4.out, HItP.out]; omega
      · have hpe : pos = l.length := by omega
        subst hpe
        rw [List.drop_length, runesL_nil] at hrest
        obtain rfl : [] = rest := Option.some.inj hrest
        have hnx : ∀ ty, (Instr.next (.pointer (some ⟨w1.heap.size, 0, none⟩)) true ty).run Tryd.prog wr = _ := fun ty => Lib.run_next_end_at wr w1.heap.size ⟨l.toArray⟩ l.length ty hit (by rw [hsz]; omega)
        have FT : Fr [] w wr := (F1.trans0 FI).trans1 F (.inr F1.size)
        have HSl := Lib.hid (own_mono own (base' := w.heap.size) (by have := F1.size; have := FI.size; omega))
        have HUE := Lib.hid (show rs = done by rw [HSplit.out]; simp)
        clear own hsz hit
        go_wp2_with fail
        go_ret2
        exact .inl ⟨_, rs, HRS.out, rfl, by rw [HUE.out]; exact HSl.out, FT⟩
end Go.Proofs.YtkodindajfdagaaDoor
