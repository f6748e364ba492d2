/- The cells of checks, subs, folders and files. No condition. -/
import Derived.Test.YtkodindajfdagaaDoorGAC
import Derived.Test.YtkodindajfdagaaDoorGAD
import Derived.Lib.ValidU
import Derived.Lib.DecodeN
namespace Go.Proofs.YtkodindajfdagaaDoor
open Go.RowKit

def ckV (l : List Ck) : List Value := l.flatMap fun c => [.bool c.has, .int .u32 c.sum.toNat]
theorem ckV_append (a b : List Ck) : ckV (a ++ b) = ckV a ++ ckV b := by simp [ckV]

theorem info_ck : (Tryd.prog.info? 44).map (fun i => (i.zero, i.size, i.bytes)) = some (some (.agg #[.bool false, .int .u32 0]), 2, 8) := by kernel_rfl
theorem sty_ck : SlTyM Tryd.prog 24 44 (.agg #[.bool false, .int .u32 0]) 2 8 := ⟨Tryd.underlying24, by obtain ⟨i, h⟩ := info_parts info_ck; exact ⟨i, h⟩, rfl, by decide⟩

def sbV (l : List Sub) : List Value := l.flatMap fun x => [.int .u64 x.size.toNat, .bool x.ck.has, .int .u32 x.ck.sum.toNat]
theorem sbV_length (l : List Sub) : (sbV l).length = l.length * 3 := by
  induction l with
  | nil => rfl
  | cons x t ih => rw [show sbV (x :: t) = [.int .u64 x.size.toNat, .bool x.ck.has, .int .u32 x.ck.sum.toNat] ++ sbV t from rfl, List.length_append, ih]; simp; omega

/-- A literal of structs that has just been laid is the call's own. -/
theorem own_litM (w : World) (e : TypeId) (m n : Nat) (l : List Value) (hl : l.length = n * m) (hn : n ≤ 1000000) : (w.alloc (.cells l.toArray e)).ownsRow w.heap.size e m (.slice (some ⟨w.heap.size, 0, none⟩) n n) n l :=
  ⟨hl, .inr ⟨w.heap.size, n, l.toArray, rfl, Nat.le_refl _, heap_alloc_new w _, Nat.le_refl _, by unfold maxLen; omega, by simpa using hl, by rw [← hl]; simp⟩⟩

/-- A folder's six cells. -/
structure FoRow where
  cv : Value
  bv : Value
  pv : Value
  sv : Value
  has : Bool
  sum : UInt32
def FoRow.cells (r : FoRow) : List Value := [r.cv, r.bv, r.pv, r.sv, .bool r.has, .int .u32 r.sum.toNat]
def foV (l : List FoRow) : List Value := l.flatMap FoRow.cells
theorem foV_append (a b : List FoRow) : foV (a ++ b) = foV a ++ foV b := by simp [foV]
theorem foV_length (l : List FoRow) : (foV l).length = l.length * 6 := by
  induction l with
  | nil => rfl
  | cons r t ih => rw [show foV (r :: t) = r.cells ++ foV t from rfl, List.length_append, ih]; simp [FoRow.cells]; omega
theorem foV_get : ∀ (l : List FoRow) (i : Nat) (r : FoRow), l[i]? = some r → ∀ k, k < 6 → (foV l)[i * 6 + k]? = r.cells[k]?
  | [], i, r, h, k, hk => by simp at h
  | x :: t, 0, r, h, k, hk => by
    simp at h
    subst h
    rw [show foV (x :: t) = x.cells ++ foV t from rfl, Nat.zero_mul, Nat.zero_add, List.getElem?_append_left (show k < x.cells.length from hk)]
  | x :: t, i + 1, r, h, k, hk => by
    rw [show foV (x :: t) = x.cells ++ foV t from rfl, show (i + 1) * 6 + k = 6 + (i * 6 + k) by omega, List.getElem?_append_right (show x.cells.length ≤ 6 + (i * 6 + k) from Nat.le_add_right 6 _)]
    rw [show 6 + (i * 6 + k) - x.cells.length = i * 6 + k by simp [FoRow.cells]]
    exact foV_get t i r (by simpa using h) k hk

theorem foV_set : ∀ (l : List FoRow) (i : Nat) (r : FoRow) (v : Value), l[i]? = some r → (foV l).set (i * 6 + 3) v = foV (l.set i { r with sv := v })
  | [], i, r, v, h => by simp at h
  | x :: t, 0, r, v, h => by
    simp at h
    subst h
    rfl
  | x :: t, i + 1, r, v, h => by
    have ih := foV_set t i r v (by simpa using h)
    rw [show foV (x :: t) = x.cells ++ foV t from rfl, show (x :: t).set (i + 1) { r with sv := v } = x :: t.set i { r with sv := v } from rfl, show foV (x :: t.set i { r with sv := v }) = x.cells ++ foV (t.set i { r with sv := v }) from rfl, ← ih]
    rw [List.set_append_right _ _ (show x.cells.length ≤ (i + 1) * 6 + 3 by show 6 ≤ _; omega)]
    rw [show (i + 1) * 6 + 3 - x.cells.length = i * 6 + 3 by show (i + 1) * 6 + 3 - 6 = _; omega]

theorem foV_set2 : ∀ (l : List FoRow) (i : Nat) (r : FoRow) (h : Bool) (m : UInt32), l[i]? = some r → ((foV l).set (i * 6 + 4) (.bool h)).set (i * 6 + 5) (.int .u32 m.toNat) = foV (l.set i { r with has := h, sum := m })
  | [], i, r, h, m, e => by simp at e
  | x :: t, 0, r, h, m, e => by
    simp at e
    subst e
    rfl
  | x :: t, i + 1, r, h, m, e => by
    have ih := foV_set2 t i r h m (by simpa using e)
    rw [show foV (x :: t) = x.cells ++ foV t from rfl, show (x :: t).set (i + 1) { r with has := h, sum := m } = x :: t.set i { r with has := h, sum := m } from rfl, show foV (x :: t.set i { r with has := h, sum := m }) = x.cells ++ foV (t.set i { r with has := h, sum := m }) from rfl, ← ih]
    rw [List.set_append_right _ _ (show x.cells.length ≤ (i + 1) * 6 + 4 by show 6 ≤ _; omega), List.set_append_right _ _ (show x.cells.length ≤ (i + 1) * 6 + 5 by show 6 ≤ _; omega)]
    rw [show (i + 1) * 6 + 4 - x.cells.length = i * 6 + 4 by show (i + 1) * 6 + 4 - 6 = _; omega, show (i + 1) * 6 + 5 - x.cells.length = i * 6 + 5 by show (i + 1) * 6 + 5 - 6 = _; omega]

/-- A file's cells. -/
def Fil.cells (x : Fil) : List Value := [.string ⟨x.name.toArray⟩, .bool x.stream, .bool x.dir, .bool x.hasAttr, .int .u32 x.attr.toNat, .bool x.hasTime, .int .u64 x.time.toNat]
def fiV (l : List Fil) : List Value := l.flatMap Fil.cells
theorem fiV_cons (x : Fil) (t : List Fil) : fiV (x :: t) = x.cells ++ fiV t := rfl
theorem fiV_append (a b : List Fil) : fiV (a ++ b) = fiV a ++ fiV b := by simp [fiV]
theorem fiV_length (l : List Fil) : (fiV l).length = l.length * 7 := by
  induction l with
  | nil => rfl
  | cons r t ih => rw [fiV_cons, List.length_append, ih]; simp [Fil.cells]; omega
theorem fiV_get : ∀ (l : List Fil) (i : Nat) (r : Fil), l[i]? = some r → ∀ k, k < 7 → (fiV l)[i * 7 + k]? = r.cells[k]?
  | [], i, r, h, k, hk => by simp at h
  | x :: t, 0, r, h, k, hk => by
    simp at h
    subst h
    rw [fiV_cons, Nat.zero_mul, Nat.zero_add, List.getElem?_append_left (show k < x.cells.length from hk)]
  | x :: t, i + 1, r, h, k, hk => by
    rw [fiV_cons, show (i + 1) * 7 + k = 7 + (i * 7 + k) by omega, List.getElem?_append_right (show x.cells.length ≤ 7 + (i * 7 + k) from Nat.le_add_right 7 _)]
    rw [show 7 + (i * 7 + k) - x.cells.length = i * 7 + k by simp [Fil.cells]]
    exact fiV_get t i r (by simpa using h) k hk
theorem fiV_set : ∀ (l : List Fil) (i : Nat) (x y : Fil) (j : Nat) (v : Value), l[i]? = some x → j < 7 → x.cells.set j v = y.cells → (fiV l).set (i * 7 + j) v = fiV (l.set i y)
  | [], i, x, y, j, v, h, _, _ => by simp at h
  | a :: t, 0, x, y, j, v, h, hj, e => by
    simp at h
    subst h
    rw [show (a :: t).set 0 y = y :: t from rfl, fiV_cons, fiV_cons, Nat.zero_mul, Nat.zero_add, List.set_append_left _ _ (show j < a.cells.length from hj), e]
  | a :: t, i + 1, x, y, j, v, h, hj, e => by
    have ih := fiV_set t i x y j v (by simpa using h) hj e
    rw [show (a :: t).set (i + 1) y = a :: t.set i y from rfl, fiV_cons, fiV_cons, ← ih]
    rw [List.set_append_right _ _ (show a.cells.length ≤ (i + 1) * 7 + j by show 7 ≤ _; omega)]
    rw [show (i + 1) * 7 + j - a.cells.length = i * 7 + j by show (i + 1) * 7 + j - 7 = _; omega]
end Go.Proofs.YtkodindajfdagaaDoor
/- Runes, in plain Lean: the reference's way and the decoder's agree. No condition. -/
namespace Go.Proofs.YtkodindajfdagaaDoor

/-- One rune, as the reference takes it: of n bytes that are left, the first four. -/
def stepN (n b0 b1 b2 b3 : Nat) : Option (Nat × Nat) :=
  if b0 < 128 then some (b0, 1)
  else if b0 < 194 ∨ 244 < b0 then none
  else if b0 < 224 then (if n < 2 then none else if b1 < 128 ∨ 191 < b1 then none else some ((b0 - 192) * 64 + (b1 - 128), 2))
  else if b0 < 240 then
    (if n < 3 then none else if b1 < 128 ∨ 191 < b1 then none else if b2 < 128 ∨ 191 < b2 then none
     else if ((b0 - 224) * 64 + (b1 - 128)) * 64 + (b2 - 128) < 2048 ∨ (55296 ≤ ((b0 - 224) * 64 + (b1 - 128)) * 64 + (b2 - 128) ∧ ((b0 - 224) * 64 + (b1 - 128)) * 64 + (b2 - 128) < 57344) then none
     else some (((b0 - 224) * 64 + (b1 - 128)) * 64 + (b2 - 128), 3))
  else
    (if n < 4 then none else if b1 < 128 ∨ 191 < b1 then none else if b2 < 128 ∨ 191 < b2 then none else if b3 < 128 ∨ 191 < b3 then none
     else if (((b0 - 240) * 64 + (b1 - 128)) * 64 + (b2 - 128)) * 64 + (b3 - 128) < 65536 ∨ 1114111 < (((b0 - 240) * 64 + (b1 - 128)) * 64 + (b2 - 128)) * 64 + (b3 - 128) then none
     else some ((((b0 - 240) * 64 + (b1 - 128)) * 64 + (b2 - 128)) * 64 + (b3 - 128), 4))

set_option maxHeartbeats 4000000 in
theorem stepN_some (n b0 b1 b2 b3 v k : Nat) (hn : 1 ≤ n) (h0 : b0 < 256) (h : stepN n b0 b1 b2 b3 = some (v, k)) : Lib.decodeN n b0 b1 b2 b3 = (v, k) ∧ ¬ (v = 65533 ∧ k = 1) ∧ 1 ≤ k ∧ k ≤ n ∧ k ≤ 4 := by
  unfold stepN at h
  split at h
  · rename_i q
    simp at h
    obtain ⟨rfl, rfl⟩ := h
    unfold Lib.decodeN
    rw [if_pos q]
    exact ⟨rfl, by omega, by omega, by omega, by omega⟩
  split at h
  · simp at h
  rename_i q1 q2
  split at h
  · split at h
    · simp at h
    split at h
    · simp at h
    simp at h
    obtain ⟨rfl, rfl⟩ := h
    unfold Lib.decodeN
    rw [if_neg (by omega), if_pos (by omega), if_pos (by omega)]
    exact ⟨by simp; omega, by omega, by omega, by omega, by omega⟩
  split at h
  · split at h
    · simp at h
    split at h
    · simp at h
    split at h
    · simp at h
    split at h
    · simp at h
    simp at h
    obtain ⟨rfl, rfl⟩ := h
    unfold Lib.decodeN
    rw [if_neg (by omega), if_neg (by omega), if_pos (by omega), if_pos (by omega)]
    exact ⟨by simp; omega, by omega, by omega, by omega, by omega⟩
  · split at h
    · simp at h
    split at h
    · simp at h
    split at h
    · simp at h
    split at h
    · simp at h
    split at h
    · simp at h
    simp at h
    obtain ⟨rfl, rfl⟩ := h
    unfold Lib.decodeN
    rw [if_neg (by omega), if_neg (by omega), if_neg (by omega), if_pos (by omega), if_pos (by omega)]
    exact ⟨by simp; omega, by omega, by omega, by omega, by omega⟩

set_option maxHeartbeats 8000000 in
theorem stepN_none (n b0 b1 b2 b3 : Nat) (h0 : b0 < 256) (h1 : b1 < 256) (h2 : b2 < 256) (h3 : b3 < 256) (h : stepN n b0 b1 b2 b3 = none) : Lib.decodeN n b0 b1 b2 b3 = (65533, 1) := by
  unfold stepN at h
  unfold Lib.decodeN
  split at h
  · simp at h
  rename_i q0
  rw [if_neg q0]
  split at h
  · rename_i q1
    repeat' split
    all_goals first | rfl | (exfalso; omega)
  split at h
  · rename_i q1 q2
    split at h
    · repeat' split
      all_goals first | rfl | (exfalso; omega)
    split at h
    · repeat' split
      all_goals first | rfl | (exfalso; omega)
    · simp at h
  split at h
  · split at h
    · repeat' split
      all_goals first | rfl | (exfalso; omega)
    split at h
    · repeat' split
      all_goals first | rfl | (exfalso; omega)
    split at h
    · repeat' split
      all_goals first | rfl | (exfalso; omega)
    split at h
    · repeat' split
      all_goals first | rfl | (exfalso; omega)
    · simp at h
  · split at h
    · repeat' split
      all_goals first | rfl | (exfalso; omega)
    split at h
    · repeat' split
      all_goals first | rfl | (exfalso; omega)
    split at h
    · repeat' split
      all_goals first | rfl | (exfalso; omega)
    split at h
    · repeat' split
      all_goals first | rfl | (exfalso; omega)
    split at h
    · repeat' split
      all_goals first | rfl | (exfalso; omega)
    · simp at h

def bt (l : List UInt8) (j : Nat) : Nat := (l.getD j 0).toNat
theorem bt_lt (l : List UInt8) (j : Nat) : bt l j < 256 := UInt8.toNat_lt _
def stepL (l : List UInt8) : Option (Nat × Nat) := stepN l.length (bt l 0) (bt l 1) (bt l 2) (bt l 3)

def runesF : Nat → List UInt8 → Option (List Nat)
  | 0, _ => some []
  | f + 1, l => if l = [] then some [] else match stepL l with
    | none => none
    | some (v, k) => (runesF f (l.drop k)).map (v :: ·)
/-- A text's runes; none: it is not well-formed. -/
def runesL (l : List UInt8) : Option (List Nat) := runesF l.length l

theorem get_bt (l : List UInt8) (j : Nat) : ((⟨l.toArray⟩ : ByteArray).get! j).toNat = bt l j := by
  unfold bt ByteArray.get!
  simp [List.getD_eq_getElem?_getD]
  rfl

theorem decodeL_N (l : List UInt8) : Lib.decodeL l = Lib.decodeN l.length (bt l 0) (bt l 1) (bt l 2) (bt l 3) := by
  unfold Lib.decodeL
  rw [Lib.decode_at]
  rw [get_bt, get_bt, get_bt, get_bt]
  simp [ByteArray.size]

theorem runesF_some (f : Nat) : ∀ l : List UInt8, l.length ≤ f → (runesF f l).isSome = Lib.validGoD f l := by
  induction f with
  | zero => intro l _; rfl
  | succ f ih =>
    intro l hl
    unfold runesF Lib.validGoD
    by_cases h0 : l = []
    · rw [if_pos h0, if_pos h0]; rfl
    · rw [if_neg h0, if_neg h0]
      have hlen : 1 ≤ l.length := by cases l with | nil => exact absurd rfl h0 | cons a t => simp
      cases hs : stepL l with
      | none =>
        have := stepN_none _ _ _ _ _ (bt_lt l 0) (bt_lt l 1) (bt_lt l 2) (bt_lt l 3) hs
        rw [decodeL_N, this]
        simp
      | some r =>
        obtain ⟨v, k⟩ := r
        obtain ⟨e1, e2, e3, e4, e5⟩ := stepN_some _ _ _ _ _ v k hlen (bt_lt l 0) hs
        rw [decodeL_N, e1, if_neg e2]
        simp only [Option.isSome_map]
        exact ih _ (by simp; omega)

theorem valid_runes (l : List UInt8) : Lib.validD l = (runesL l).isSome := (runesF_some _ l (Nat.le_refl _)).symm
end Go.Proofs.YtkodindajfdagaaDoor
