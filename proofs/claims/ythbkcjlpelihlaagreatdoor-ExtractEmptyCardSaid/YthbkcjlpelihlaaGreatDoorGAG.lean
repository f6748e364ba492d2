/- Strings as lists of bytes; the package variables that the library reads. No condition. -/
import Derived.Test.YthbkcjlpelihlaaGreatDoorBaseM
import Derived.Test.YthbkcjlpelihlaaGreatDoorShelfM
import Derived.Lib.ConvBytes
import Derived.Laws.IdiomStrings
import Derived.Lib.ValidU
import Derived.Lib.DecodeN
namespace Go.Proofs.YthbkcjlpelihlaaGreatDoor
open Go.RowKit

def ba (l : List UInt8) : ByteArray := ⟨l.toArray⟩
def ls (s : ByteArray) : List UInt8 := s.data.toList
@[simp] theorem ls_ba (l : List UInt8) : ls (ba l) = l := by simp [ls, ba]
theorem ba_ls (s : ByteArray) : ba (ls s) = s := by simp [ls, ba]
theorem ls_size (s : ByteArray) : (ls s).length = s.size := by unfold ls ByteArray.size; exact Array.length_toList
theorem ba_size (l : List UInt8) : (ba l).size = l.length := by unfold ba ByteArray.size; simp

/-- The package variables that the library reads. -/
structure Gl (w : World) : Prop where
  tabs : Lib.Utf8Tabs 0 1 w
  ml : ∃ m, w.cell? ⟨2, 0, none⟩ = some (.int .i64 m)
  sz : 3 ≤ w.heap.size

theorem Gl.fr {w w' : World} (h : Gl w) (F : Fr [] w w') : Gl w' := by
  refine ⟨?_, ?_, Nat.le_trans h.sz F.size⟩
  · refine ⟨fun c hc => (F.cell (p := ⟨0, c, none⟩) (by have := h.sz; dsimp only; omega) (by simp)).trans (h.tabs.1 c hc), fun i hi => ⟨(F.cell (p := ⟨1, 2 * i, none⟩) (by have := h.sz; dsimp only; omega) (by simp)).trans (h.tabs.2 i hi).1, (F.cell (p := ⟨1, 2 * i + 1, none⟩) (by have := h.sz; dsimp only; omega) (by simp)).trans (h.tabs.2 i hi).2⟩⟩
  · obtain ⟨m, hm⟩ := h.ml
    exact ⟨m, (F.cell (p := ⟨2, 0, none⟩) (by have := h.sz; dsimp only; omega) (by simp)).trans hm⟩

/-- A byte, a small letter for a great one. -/
def lowB (b : UInt8) : UInt8 := if 65 ≤ b.toNat ∧ b.toNat ≤ 90 then UInt8.ofNat (b.toNat + 32) else b
def foldL (l : List UInt8) : List UInt8 := l.map lowB

theorem small_any (w : World) (b : UInt8) : Calls Tryz.prog 187 #[.int .u8 b.toNat] w fun e w' => e = .returned (.int .u8 (lowB b).toNat) ∧ w' = w := by
  have hb := b.toNat_lt
  by_cases h : 65 ≤ b.toNat ∧ b.toNat ≤ 90
  · have HE := Lib.hid (show ((lowB b).toNat : Int) = (b.toNat : Int) + 32 by simp [lowB, h]; omega)
    have h1 : (65 : Int) ≤ (b.toNat : Int) := by omega
    have h2 : (b.toNat : Int) ≤ 90 := by omega
    clear h
    go_enter Tryz.func187, Tryz.ntmps187
    go_wp2_with fail
    go_ret
    exact ⟨by rw [HE.out]; show Ending.returned (Value.int IntKind.u8 ((b.toNat : Int) + 97 - 65)) = _; rw [show (b.toNat : Int) + 97 - 65 = (b.toNat : Int) + 32 from by omega], rfl⟩
  · have HE := Lib.hid (show lowB b = b by simp only [lowB, if_neg h])
    rcases (show b.toNat < 65 ∨ (65 ≤ b.toNat ∧ 90 < b.toNat) by omega) with h1 | ⟨h1, h2⟩
    · have h1' : (b.toNat : Int) < 65 := by omega
      clear h h1
      go_enter Tryz.func187, Tryz.ntmps187
      go_wp2_with fail
      go_ret
      exact ⟨by rw [HE.out]; rfl, rfl⟩
    · have h1' : (65 : Int) ≤ (b.toNat : Int) := by omega
      have h2' : (90 : Int) < (b.toNat : Int) := by omega
      clear h h1 h2
      go_enter Tryz.func187, Tryz.ntmps187
      go_wp2_with fail
      go_ret
      exact ⟨by rw [HE.out]; rfl, rfl⟩

/-- '[]byte(s)': a new block, the call's own. -/
theorem conv_sb (w : World) (s : ByteArray) : ∃ (cap : Nat) (wB : World), (convert 9 26 (.string s)).run Tryz.prog w = .ok (.slice (some ⟨w.heap.size, 0, none⟩) s.size cap) wB ∧ Fr [] w wB ∧ wB.heap.size = w.heap.size + 1 ∧
    ∀ (j : Nat) b, (ls s)[j]? = some b → wB.cell? ⟨w.heap.size, j, none⟩ = some (.int .u8 b.toNat) ∧ wB.frozen? ⟨w.heap.size, j, none⟩ = false := by
  have h := run_bytes_of_string (P := Tryz.prog) w 9 26 5 s Tryz.underlying9 Tryz.underlying26 Tryz.underlying5
  refine ⟨_, _, h, ((Fr.refl _ _).drew).alloc _, by simp, fun j b hb => ?_⟩
  have hj : j < s.data.size := by have := (List.getElem?_eq_some_iff.1 hb).1; simpa [ls] using this
  have he : s.data[j] = b := by
    have := (List.getElem?_eq_some_iff.1 hb).2
    simpa [ls] using this
  constructor
  · have := World.cell?_alloc_mark w.drew (bytesRow s (grownCap w s.size 0 5)) 5 ((bytesRow s (grownCap w s.size 0 5)).size, (bytesRow s (grownCap w s.size 0 5)).size + 1) j
    rw [bytesRow_at _ _ _ hj, he] at this
    exact this
  · have := World.frozen?_alloc_mark w.drew (bytesRow s (grownCap w s.size 0 5)) 5 (bytesRow s (grownCap w s.size 0 5)).size ((bytesRow s (grownCap w s.size 0 5)).size + 1) j
    refine this.trans ?_
    have h2 : (bytesRow s (grownCap w s.size 0 5)).size = s.data.size + (grownCap w s.size 0 5 - s.size) := by simp [bytesRow]
    simp
    omega

/-- 'string(b)'. -/
theorem conv_bs (w : World) (b cap : Nat) (l : List UInt8) (n : Nat) (hn : n = l.length) (h : ∀ (j : Nat) x, l[j]? = some x → w.cell? ⟨b, j, none⟩ = some (.int .u8 x.toNat)) :
    (convert 26 9 (.slice (some ⟨b, 0, none⟩) n cap)).run Tryz.prog w = .ok (.string (ba l)) w := by
  subst hn
  refine run_convert_bytes_back w 26 9 5 ⟨b, 0, none⟩ cap l Tryz.underlying26 Tryz.underlying5 Tryz.underlying9 (fun j hj => ?_)
  have e : (⟨b, 0, none⟩ : Addr).add j = ⟨b, j, none⟩ := by unfold Addr.add; split <;> simp_all
  rw [e]
  exact h j _ (by simp)

theorem fold_any (w : World) (s : ByteArray) (hs : s.size ≤ 100000) : Calls Tryz.prog 137 #[.string s] w fun e w' => e = .returned (.string (ba (foldL (ls s)))) ∧ Fr [] w w' := by
  obtain ⟨cap, wB, hcv, F0, sB, hcell⟩ := conv_sb w s
  have HS := Lib.hid (ls_size s)
  have HC := Lib.hid hcell
  clear hcell
  have HB := Lib.hid sB
  generalize hn : s.size = n at *
  go_enter Tryz.func137, Tryz.ntmps137
  go_wp2_with fail
  clear hcv
  go_loopw [10] (fun i wr => ∃ k : Nat, k ≤ n ∧ i = .int .i64 k ∧ Fr [w.heap.size] wB wr ∧ (∀ (j : Nat) b, (ls s)[j]? = some b → wr.cell? ⟨w.heap.size, j, none⟩ = some (.int .u8 (if j < k then lowB b else b).toNat) ∧ wr.frozen? ⟨w.heap.size, j, none⟩ = false)) (fun i _ => n - (intOf i).toNat)
  case atStart => exact ⟨0, Nat.zero_le _, rfl, Fr.refl _ _, fun j b hb => by simpa using HC.out j b hb⟩
  case round =>
    obtain ⟨k, hk, rfl, F, hcl⟩ := hrel
    by_cases hlt : k < n
    · obtain ⟨x, hx⟩ := some_get (ls s) k (by rw [HS.out]; exact hlt)
      obtain ⟨c0, f0⟩ := hcl k x hx
      rw [if_neg (by omega)] at c0
      have hlt' : (k : Int) < (n : Int) := by omega
      have HCL := Lib.hid hcl
      have HX := Lib.hid hx
      clear hcl hx
      go_wp2_with (go_at_call 187; refine (small_any _ x).mono ?_; rintro e w2 ⟨rfl, rfl⟩)
      go_roundw
      case rel =>
        refine ⟨k + 1, by omega, by go_num, F.setCell (.inl (by simp)) _, fun j b hb => ?_⟩
        by_cases hjk : j = k
        · subst hjk
          obtain rfl : x = b := Option.some.inj (HX.out.symm.trans hb)
          rw [if_pos (by omega)]
          exact ⟨World.cell?_setCell_same _ _ _ c0, by rw [World.frozen?_setCell]; exact f0⟩
        · obtain ⟨c1, f1⟩ := HCL.out j b hb
          refine ⟨?_, by rw [World.frozen?_setCell]; exact f1⟩
          rw [World.cell?_setCell_other _ _ _ _ (by intro e; injection e with _ e2 _; omega), c1]
          by_cases h2 : j < k
          · rw [if_pos h2, if_pos (by omega)]
          · rw [if_neg h2, if_neg (by omega)]
      case measure => simp [intOf]; omega
    · have hke : k = n := by omega
      subst hke
      have hcv := conv_bs wr w.heap.size cap (foldL (ls s)) k (by simp [foldL, HS.out]) (fun j y hy => by
        unfold foldL at hy
        rw [List.getElem?_map] at hy
        obtain ⟨b, hb, rfl⟩ := Option.map_eq_some_iff.1 hy
        have hjl : j < (ls s).length := (List.getElem?_eq_some_iff.1 hb).1
        rw [HS.out] at hjl
        have := (hcl j b hb).1
        rwa [if_pos hjl] at this)
      clear hcl
      go_wp2_with fail
      go_ret
      exact ⟨rfl, F0.trans1 F (.inr (Nat.le_refl _))⟩
end Go.Proofs.YthbkcjlpelihlaaGreatDoor
/- Runes, in plain Lean: the reference's way and the decoder's agree. No condition. -/
namespace Go.Proofs.YthbkcjlpelihlaaGreatDoor

/-- One rune, as the reference takes it: of n bytes that are left, the first four. -/
def stepN (n b0 b1 b2 b3 : Nat) : Option (Nat × Nat) :=
  if b0 < 128 then some (b0, 1)
  else if b0 < 194 ∨ 244 < b0 then none
  else if b0 < 224 then (if n < 2 then none else if b1 < 128 ∨ 191 < b1 then none else some ((b0 - 192) * 64 + (b1 - 128), 2))
  else if b0 < 240 then
    (if n < 3 then none else if b1 < 128 ∨ 191 < b1 then none else if b2 < 128 ∨ 191 < b2 then none
     else if ((b0 - 224) * 64 + (b1 - 128)) * 64 + (b2 - 128) < 2048 ∨ (55296 ≤ ((b0 - 224) * 64 + (b1 - 128)) * 64 + (b2 - 128) ∧ ((b0 - 224) * 64 + (b1 - 128)) * 64 + (b2 - 128) < 57344) then none
     else some (((b0 - 224) * 64 + (b1 - 128)) * 64 + (b2 - 128), 3))
  else
    (if n < 4 then none else if b1 < 128 ∨ 191 < b1 then none else if b2 < 128 ∨ 191 < b2 then none else if b3 < 128 ∨ 191 < b3 then none
     else if (((b0 - 240) * 64 + (b1 - 128)) * 64 + (b2 - 128)) * 64 + (b3 - 128) < 65536 ∨ 1114111 < (((b0 - 240) * 64 + (b1 - 128)) * 64 + (b2 - 128)) * 64 + (b3 - 128) then none
     else some ((((b0 - 240) * 64 + (b1 - 128)) * 64 + (b2 - 128)) * 64 + (b3 - 128), 4))

set_option maxHeartbeats 4000000 in
theorem stepN_some (n b0 b1 b2 b3 v k : Nat) (hn : 1 ≤ n) (h0 : b0 < 256) (h : stepN n b0 b1 b2 b3 = some (v, k)) : Lib.decodeN n b0 b1 b2 b3 = (v, k) ∧ ¬ (v = 65533 ∧ k = 1) ∧ 1 ≤ k ∧ k ≤ n ∧ k ≤ 4 := by
  unfold stepN at h
  split at h
  · rename_i q
    simp at h
    obtain ⟨rfl, rfl⟩ := h
    unfold Lib.decodeN
    rw [if_pos q]
    exact ⟨rfl, by omega, by omega, by omega, by omega⟩
  split at h
  · simp at h
  rename_i q1 q2
  split at h
  · split at h
    · simp at h
    split at h
    · simp at h
    simp at h
    obtain ⟨rfl, rfl⟩ := h
    unfold Lib.decodeN
    rw [if_neg (by omega), if_pos (by omega), if_pos (by omega)]
    exact ⟨by simp; omega, by omega, by omega, by omega, by omega⟩
  split at h
  · split at h
    · simp at h
    split at h
    · simp at h
    split at h
    · simp at h
    split at h
    · simp at h
    simp at h
    obtain ⟨rfl, rfl⟩ := h
    unfold Lib.decodeN
    rw [if_neg (by omega), if_neg (by omega), if_pos (by omega), if_pos (by omega)]
    exact ⟨by simp; omega, by omega, by omega, by omega, by omega⟩
  · split at h
    · simp at h
    split at h
    · simp at h
    split at h
    · simp at h
    split at h
    · simp at h
    split at h
    · simp at h
    simp at h
    obtain ⟨rfl, rfl⟩ := h
    unfold Lib.decodeN
    rw [if_neg (by omega), if_neg (by omega), if_neg (by omega), if_pos (by omega), if_pos (by omega)]
    exact ⟨by simp; omega, by omega, by omega, by omega, by omega⟩

set_option maxHeartbeats 8000000 in
theorem stepN_none (n b0 b1 b2 b3 : Nat) (h0 : b0 < 256) (h1 : b1 < 256) (h2 : b2 < 256) (h3 : b3 < 256) (h : stepN n b0 b1 b2 b3 = none) : Lib.decodeN n b0 b1 b2 b3 = (65533, 1) := by
  unfold stepN at h
  unfold Lib.decodeN
  split at h
  · simp at h
  rename_i q0
  rw [if_neg q0]
  split at h
  · rename_i q1
    repeat' split
    all_goals first | rfl | (exfalso; omega)
  split at h
  · rename_i q1 q2
    split at h
    · repeat' split
      all_goals first | rfl | (exfalso; omega)
    split at h
    · repeat' split
      all_goals first | rfl | (exfalso; omega)
    · simp at h
  split at h
  · split at h
    · repeat' split
      all_goals first | rfl | (exfalso; omega)
    split at h
    · repeat' split
      all_goals first | rfl | (exfalso; omega)
    split at h
    · repeat' split
      all_goals first | rfl | (exfalso; omega)
    split at h
    · repeat' split
      all_goals first | rfl | (exfalso; omega)
    · simp at h
  · split at h
    · repeat' split
      all_goals first | rfl | (exfalso; omega)
    split at h
    · repeat' split
      all_goals first | rfl | (exfalso; omega)
    split at h
    · repeat' split
      all_goals first | rfl | (exfalso; omega)
    split at h
    · repeat' split
      all_goals first | rfl | (exfalso; omega)
    split at h
    · repeat' split
      all_goals first | rfl | (exfalso; omega)
    · simp at h

def bt (l : List UInt8) (j : Nat) : Nat := (l.getD j 0).toNat
theorem bt_lt (l : List UInt8) (j : Nat) : bt l j < 256 := UInt8.toNat_lt _
def stepL (l : List UInt8) : Option (Nat × Nat) := stepN l.length (bt l 0) (bt l 1) (bt l 2) (bt l 3)

def runesF : Nat → List UInt8 → Option (List Nat)
  | 0, _ => some []
  | f + 1, l => if l = [] then some [] else match stepL l with
    | none => none
    | some (v, k) => (runesF f (l.drop k)).map (v :: ·)
/-- A text's runes; none: it is not well-formed. -/
def runesL (l : List UInt8) : Option (List Nat) := runesF l.length l

theorem get_bt (l : List UInt8) (j : Nat) : ((⟨l.toArray⟩ : ByteArray).get! j).toNat = bt l j := by
  unfold bt ByteArray.get!
  simp [List.getD_eq_getElem?_getD]
  rfl

theorem decodeL_N (l : List UInt8) : Lib.decodeL l = Lib.decodeN l.length (bt l 0) (bt l 1) (bt l 2) (bt l 3) := by
  unfold Lib.decodeL
  rw [Lib.decode_at]
  rw [get_bt, get_bt, get_bt, get_bt]
  simp [ByteArray.size]

theorem runesF_some (f : Nat) : ∀ l : List UInt8, l.length ≤ f → (runesF f l).isSome = Lib.validGoD f l := by
  induction f with
  | zero => intro l _; rfl
  | succ f ih =>
    intro l hl
    unfold runesF Lib.validGoD
    by_cases h0 : l = []
    · rw [if_pos h0, if_pos h0]; rfl
    · rw [if_neg h0, if_neg h0]
      have hlen : 1 ≤ l.length := by cases l with | nil => exact absurd rfl h0 | cons a t => simp
      cases hs : stepL l with
      | none =>
        have := stepN_none _ _ _ _ _ (bt_lt l 0) (bt_lt l 1) (bt_lt l 2) (bt_lt l 3) hs
        rw [decodeL_N, this]
        simp
      | some r =>
        obtain ⟨v, k⟩ := r
        obtain ⟨e1, e2, e3, e4, e5⟩ := stepN_some _ _ _ _ _ v k hlen (bt_lt l 0) hs
        rw [decodeL_N, e1, if_neg e2]
        simp only [Option.isSome_map]
        exact ih _ (by simp; omega)

theorem valid_runes (l : List UInt8) : Lib.validD l = (runesL l).isSome := (runesF_some _ l (Nat.le_refl _)).symm
end Go.Proofs.YthbkcjlpelihlaaGreatDoor
