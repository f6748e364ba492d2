/- The model in memory: one block of 9921 cells, its arena (layer 17). No condition. -/
import Derived.Test.YtjfoccbbjhigbaaGreatANew
import Derived.Test.YtjfoccbbjhigbaaGreatMSp
namespace Go.Proofs.YtjfoccbbjhigbaaGreat
open Go.RowKit

def esF (m : Mo) (j : Nat) : Value := if j % 3 = 0 then .int .u16 (m.es (j / 3)) else if j % 3 = 1 then .int .u8 (m.eh (j / 3)) else .int .u8 (m.ec (j / 3))
/-- The first twelve cells. -/
def moH (m : Mo) (ab mp : Nat) (j : Nat) : Value := match j with
  | 0 => .pointer (some ⟨ab, 0, none⟩)
  | 1 => .pointer (some ⟨mp, 0, none⟩)
  | 2 => .int .i64 m.order
  | 3 => .int .i64 m.least
  | 4 => .int .i64 m.greatest
  | 5 => .int .i64 m.found
  | 6 => .int .i64 m.fall
  | 7 => .int .i64 m.run
  | 8 => .int .i64 m.runs
  | 9 => .int .i64 m.success
  | 10 => .int .i64 m.high
  | _ => .int .i64 m.escape
def moF (m : Mo) (ab mp : Nat) : Nat → Value := fun j =>
  if j < 12 then moH m ab mp j else if j < 8204 then .int .u16 (m.bn (j - 12)) else if j < 9407 then esF m (j - 8204) else if j < 9663 then .int .u8 (s1T (j - 9407)) else if j < 9919 then .int .u8 (s2T (j - 9663)) else if j = 9919 then .int .i64 m.restarts else .bool true
/-- The model lies in block mo, its arena in blocks ab, mb. -/
structure MoAt (w : World) (mo ab mb mp : Nat) (m : Mo) : Prop where
  blk : Blk w mo 127 9921 (moF m ab mp)
  ar : ArAt w ab mb mp m.a
  n1 : mo ≠ ab
  n2 : mo ≠ mb
section
variable {w : World} {mo ab mb mp : Nat} {m : Mo}
theorem MoAt.fr (h : MoAt w mo ab mb mp m) {w' : World} {S : List Nat} (F : Fr S w w') (h1 : mo ∉ S) (h2 : ab ∉ S) (h3 : mb ∉ S) : MoAt w' mo ab mb mp m := ⟨h.blk.fr F h1, h.ar.fr F h2 h3, h.n1, h.n2⟩
theorem MoAt.same (h : MoAt w mo ab mb mp m) {w' : World} (s : Same w w') : MoAt w' mo ab mb mp m := h.fr (s.fr (S := [])) (by simp) (by simp) (by simp)
theorem moF_low (m : Mo) (ab mp : Nat) {j : Nat} (h : j < 12) : moF m ab mp j = moH m ab mp j := if_pos h
theorem moF_bin (m : Mo) (ab mp : Nat) {k : Nat} (h : k < 8192) : moF m ab mp (12 + k) = .int .u16 (m.bn k) := by
  unfold moF
  obtain ⟨j, hj⟩ : ∃ j, j = 12 + k := ⟨_, rfl⟩
  rw [← hj, if_neg (by omega), if_pos (by omega), show j - 12 = k by omega]
theorem moF_est (m : Mo) (ab mp : Nat) {k : Nat} (h : k < 1203) : moF m ab mp (8204 + k) = esF m k := by
  unfold moF
  obtain ⟨j, hj⟩ : ∃ j, j = 8204 + k := ⟨_, rfl⟩
  rw [← hj, if_neg (by omega), if_neg (by omega), if_pos (by omega), show j - 8204 = k by omega]
theorem moF_s1 (m : Mo) (ab mp : Nat) {k : Nat} (h : k < 256) : moF m ab mp (9407 + k) = .int .u8 (s1T k) := by
  unfold moF
  obtain ⟨j, hj⟩ : ∃ j, j = 9407 + k := ⟨_, rfl⟩
  rw [← hj, if_neg (by omega), if_neg (by omega), if_neg (by omega), if_pos (by omega), show j - 9407 = k by omega]
theorem moF_s2 (m : Mo) (ab mp : Nat) {k : Nat} (h : k < 256) : moF m ab mp (9663 + k) = .int .u8 (s2T k) := by
  unfold moF
  obtain ⟨j, hj⟩ : ∃ j, j = 9663 + k := ⟨_, rfl⟩
  rw [← hj, if_neg (by omega), if_neg (by omega), if_neg (by omega), if_neg (by omega), if_pos (by omega), show j - 9663 = k by omega]
theorem MoAt.cell (h : MoAt w mo ab mb mp m) {j : Nat} (hj : j < 12) : w.cell? ⟨mo, j, none⟩ = some (moH m ab mp j) := (h.blk.cell (by omega)).trans (by rw [moF_low m ab mp hj])
end
end Go.Proofs.YtjfoccbbjhigbaaGreat
