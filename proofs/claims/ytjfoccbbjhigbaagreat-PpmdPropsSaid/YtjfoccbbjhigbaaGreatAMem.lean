/- Contracts: bytes and numbers of the arena (layer 16). No condition but that places and lengths fit. -/
import Derived.Test.YtjfoccbbjhigbaaGreatABlk
import Derived.Test.YtjfoccbbjhigbaaGreatAArSp
namespace Go.Proofs.YtjfoccbbjhigbaaGreat
open Go.RowKit

/-- The arena's cells: its bytes' slice, its size, its meter, the units of sizes, the sizes for units, the free rows, the places. -/
def arF (a : Ar) (mv : Value) (mp : Nat) : Nat → Value := fun j =>
  if j = 0 then mv else if j = 1 then .int .i64 a.size else if j = 2 then .pointer (some ⟨mp, 0, none⟩) else if j < 41 then .int .i64 (unitsT (j - 3)) else if j < 170 then .int .i64 (whichT (j - 41)) else if j < 208 then .int .i64 (a.free (j - 170))
  else if j = 208 then .int .i64 a.text else if j = 209 then .int .i64 a.start else if j = 210 then .int .i64 a.low else if j = 211 then .int .i64 a.high else .int .u32 a.glue
/-- The arena lies in block ab, its bytes in block mb. -/
structure ArAt (w : World) (ab mb mp : Nat) (a : Ar) : Prop where
  blk : Blk w ab 180 213 (arF a (.slice (some ⟨mb, 0, none⟩) a.len a.len) mp)
  mem : Blk w mb 5 a.len (fun i => .int .u8 (a.mem i))
  ne : ab ≠ mb
  len : a.len ≤ 70000
section
variable {w : World} {ab mb mp : Nat} {a : Ar}
theorem ArAt.fr (h : ArAt w ab mb mp a) {w' : World} {S : List Nat} (F : Fr S w w') (h1 : ab ∉ S) (h2 : mb ∉ S) : ArAt w' ab mb mp a := ⟨h.blk.fr F h1, h.mem.fr F h2, h.ne, h.len⟩
theorem ArAt.same (h : ArAt w ab mb mp a) {w' : World} (s : Same w w') : ArAt w' ab mb mp a := h.fr (s.fr (S := [])) (by simp) (by simp)
set_option maxRecDepth 100000 in
theorem byte_any (h : ArAt w ab mb mp a) (p : Nat) (hp : p ≤ 1099511627776) :
    Calls Tryz.prog 127 #[.pointer (some ⟨ab, 0, none⟩), .int .i64 p] w fun e w' => e = .returned (.int .u8 (a.byte p)) ∧ w' = w := by
  have c0 : w.cell? ⟨ab, 0, none⟩ = some (.slice (some ⟨mb, 0, none⟩) a.len a.len) := h.blk.cell (by omega)
  have hl := h.len
  by_cases hlt : p < a.len
  · have c1 : w.cell? ⟨mb, p, none⟩ = some (.int .u8 (a.mem p)) := h.mem.cell hlt
    have hI : (p : Int) < (a.len : Int) := by omega
    have HB := Lib.hid (show a.byte p = a.mem p from if_pos hlt)
    clear h
    go_enter Tryz.func127, Tryz.ntmps127
    go_wp2_with fail
    go_ret
    exact ⟨by rw [HB.out]; rfl, rfl⟩
  · have hI : (a.len : Int) ≤ (p : Int) := by omega
    have HB := Lib.hid (show a.byte p = 0 from if_neg hlt)
    clear h
    go_enter Tryz.func127, Tryz.ntmps127
    go_wp2_with fail
    go_ret
    exact ⟨by rw [HB.out]; rfl, rfl⟩
set_option maxRecDepth 100000 in
theorem setbyte_any (h : ArAt w ab mb mp a) (p b : Nat) :
    Calls Tryz.prog 136 #[.pointer (some ⟨ab, 0, none⟩), .int .i64 p, .int .u8 b] w fun e w' => e = .returned (.tuple #[]) ∧ ArAt w' ab mb mp (a.setByte p b) ∧ Fr [mb] w w' := by
  have c0 : w.cell? ⟨ab, 0, none⟩ = some (.slice (some ⟨mb, 0, none⟩) a.len a.len) := h.blk.cell (by omega)
  have hl := h.len
  by_cases hlt : p < a.len
  · have c1 : w.cell? ⟨mb, p, none⟩ = some (.int .u8 (a.mem p)) := h.mem.cell hlt
    have z1 := h.mem.free p
    have hI : (p : Int) < (a.len : Int) := by omega
    have hml := h.mem.lt
    have HH := Lib.hid (show ArAt (w.setCell ⟨mb, p, none⟩ (.int .u8 b)) ab mb mp (a.setByte p b) ∧ Fr [mb] w (w.setCell ⟨mb, p, none⟩ (.int .u8 b)) from by
      have F : Fr [mb] w (w.setCell ⟨mb, p, none⟩ (.int .u8 b)) := (Fr.refl _ _).setCell (.inl (by simp)) _
      have e : a.setByte p b = { a with mem := upd2 a.mem p b } := if_pos hlt
      rw [e]
      exact ⟨⟨h.blk.fr F (by simpa using h.ne), h.mem.to p _ (fun k _ => by show upd _ p _ k = Value.int .u8 ((upd2 a.mem p b k : Nat) : Int); unfold upd upd2; split <;> rfl), h.ne, h.len⟩, F⟩)
    clear h
    go_enter Tryz.func136, Tryz.ntmps136
    go_wp2_with fail
    go_end0
    exact ⟨rfl, HH.out⟩
  · have hI : (a.len : Int) ≤ (p : Int) := by omega
    have HH := Lib.hid (show ArAt w ab mb mp (a.setByte p b) by unfold Ar.setByte; rw [if_neg hlt]; exact h)
    clear h
    go_enter Tryz.func136, Tryz.ntmps136
    go_wp2_with fail
    go_end0
    exact ⟨rfl, HH.out, Fr.refl _ _⟩
end
end Go.Proofs.YtjfoccbbjhigbaaGreat
