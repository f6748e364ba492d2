/- Contracts: the model's readers and writers of contexts and states (layer 17). No condition but that places fit. Printed by macc_gen.py. -/
import Derived.Test.YtjfoccbbjhigbaaGreatMAt
namespace Go.Proofs.YtjfoccbbjhigbaaGreat
open Go.RowKit

namespace Mo
def states (m : Mo) (c : Nat) : Nat := m.a.num c 2
def sum (m : Mo) (c : Nat) : Nat := m.a.num (c + 2) 2
def suffix (m : Mo) (c : Nat) : Nat := m.a.num (c + 8) 4
def state (m : Mo) (c i : Nat) : Nat := if m.states c = 1 then c + 2 else m.a.num (c + 4) 4 + i * 6
def sym (m : Mo) (s : Nat) : Nat := m.a.byte s
def freq (m : Mo) (s : Nat) : Nat := m.a.byte (s + 1)
def next (m : Mo) (s : Nat) : Nat := m.a.num (s + 2) 4
def word (m : Mo) (s : Nat) : Nat := m.a.num s 6
def setSum (m : Mo) (c v : Nat) : Mo := { m with a := m.a.setNum (c + 2) 2 v }
def setFreq (m : Mo) (s f : Nat) : Mo := { m with a := m.a.setByte (s + 1) (f % 256) }
def setNext (m : Mo) (s v : Nat) : Mo := { m with a := m.a.setNum (s + 2) 4 v }
def setWord (m : Mo) (s v : Nat) : Mo := { m with a := m.a.setNum s 6 v }
def swap (m : Mo) (s o : Nat) : Mo := (m.setWord s (m.word o)).setWord o (m.word s)
end Mo
section
variable {w : World} {mo ab mb mp : Nat} {m : Mo}
theorem MoAt.put (h : MoAt w mo ab mb mp m) {w' : World} {a' : Ar} (hA : ArAt w' ab mb mp a') (F : Fr [mb] w w') : MoAt w' mo ab mb mp { m with a := a' } := ⟨h.blk.fr F (by simpa using h.n2), hA, h.n1, h.n2⟩
theorem setnum_byt {a : Ar} (h : a.Byt) (p n v : Nat) : (a.setNum p n v).Byt := by
  induction n with
  | zero => exact h
  | succ n ih =>
    unfold Ar.setNum Ar.setByte
    split
    · intro q
      show upd2 _ _ _ q < 256
      unfold upd2
      split
      · exact Nat.mod_lt _ (by omega)
      · exact ih q
    · exact ih
theorem setbyte_byt {a : Ar} (h : a.Byt) (p b : Nat) (hb : b < 256) : (a.setByte p b).Byt := by
  unfold Ar.setByte
  split
  · intro q
    show upd2 _ _ _ q < 256
    unfold upd2
    split
    · exact hb
    · exact h q
  · exact h
set_option maxRecDepth 100000 in
theorem states_any (h : MoAt w mo ab mb mp m) (hB : m.a.Byt) (c : Nat) (hc : c ≤ 100000000) :
    Calls Tryz.prog 73 #[.pointer (some ⟨mo, 0, none⟩), .int .i64 c] w fun e w' => e = .returned (.int .i64 (m.states c)) ∧ w' = w := by
  have c0 : w.cell? ⟨mo, 0, none⟩ = some (.pointer (some ⟨ab, 0, none⟩)) := h.cell (by omega)
  have HC := Lib.hid (num_any h.ar hB c 2 (by omega) (by omega))
  clear h hB
  go_enter Tryz.func73, Tryz.ntmps73
  go_wp2_with (go_at_call 124; refine HC.out.mono ?_; rintro e w1 ⟨rfl, rfl⟩)
  go_ret
  exact ⟨rfl, rfl⟩
set_option maxRecDepth 100000 in
theorem sum_any (h : MoAt w mo ab mb mp m) (hB : m.a.Byt) (c : Nat) (hc : c ≤ 100000000) :
    Calls Tryz.prog 121 #[.pointer (some ⟨mo, 0, none⟩), .int .i64 c] w fun e w' => e = .returned (.int .i64 (m.sum c)) ∧ w' = w := by
  have c0 : w.cell? ⟨mo, 0, none⟩ = some (.pointer (some ⟨ab, 0, none⟩)) := h.cell (by omega)
  have HC := Lib.hid (num_any h.ar hB (c + 2) 2 (by omega) (by omega))
  clear h hB
  go_enter Tryz.func121, Tryz.ntmps121
  go_wp2_with (go_at_call 124; refine HC.out.mono ?_; rintro e w1 ⟨rfl, rfl⟩)
  go_ret
  exact ⟨rfl, rfl⟩
set_option maxRecDepth 100000 in
theorem suffix_any (h : MoAt w mo ab mb mp m) (hB : m.a.Byt) (c : Nat) (hc : c ≤ 100000000) :
    Calls Tryz.prog 125 #[.pointer (some ⟨mo, 0, none⟩), .int .i64 c] w fun e w' => e = .returned (.int .i64 (m.suffix c)) ∧ w' = w := by
  have c0 : w.cell? ⟨mo, 0, none⟩ = some (.pointer (some ⟨ab, 0, none⟩)) := h.cell (by omega)
  have HC := Lib.hid (num_any h.ar hB (c + 8) 4 (by omega) (by omega))
  clear h hB
  go_enter Tryz.func125, Tryz.ntmps125
  go_wp2_with (go_at_call 124; refine HC.out.mono ?_; rintro e w1 ⟨rfl, rfl⟩)
  go_ret
  exact ⟨rfl, rfl⟩
set_option maxRecDepth 100000 in
theorem sym_any (h : MoAt w mo ab mb mp m) (s : Nat) (hs : s ≤ 100000000) :
    Calls Tryz.prog 81 #[.pointer (some ⟨mo, 0, none⟩), .int .i64 s] w fun e w' => e = .returned (.int .u8 (m.sym s)) ∧ w' = w := by
  have c0 : w.cell? ⟨mo, 0, none⟩ = some (.pointer (some ⟨ab, 0, none⟩)) := h.cell (by omega)
  have HC := Lib.hid (byte_any h.ar s (by omega))
  clear h
  go_enter Tryz.func81, Tryz.ntmps81
  go_wp2_with (go_at_call 127; refine HC.out.mono ?_; rintro e w1 ⟨rfl, rfl⟩)
  go_ret
  exact ⟨rfl, rfl⟩
set_option maxRecDepth 100000 in
theorem next_any (h : MoAt w mo ab mb mp m) (hB : m.a.Byt) (s : Nat) (hs : s ≤ 100000000) :
    Calls Tryz.prog 171 #[.pointer (some ⟨mo, 0, none⟩), .int .i64 s] w fun e w' => e = .returned (.int .i64 (m.next s)) ∧ w' = w := by
  have c0 : w.cell? ⟨mo, 0, none⟩ = some (.pointer (some ⟨ab, 0, none⟩)) := h.cell (by omega)
  have HC := Lib.hid (num_any h.ar hB (s + 2) 4 (by omega) (by omega))
  clear h hB
  go_enter Tryz.func171, Tryz.ntmps171
  go_wp2_with (go_at_call 124; refine HC.out.mono ?_; rintro e w1 ⟨rfl, rfl⟩)
  go_ret
  exact ⟨rfl, rfl⟩
set_option maxRecDepth 100000 in
theorem word_any (h : MoAt w mo ab mb mp m) (hB : m.a.Byt) (s : Nat) (hs : s ≤ 100000000) :
    Calls Tryz.prog 157 #[.pointer (some ⟨mo, 0, none⟩), .int .i64 s] w fun e w' => e = .returned (.int .i64 (m.word s)) ∧ w' = w := by
  have c0 : w.cell? ⟨mo, 0, none⟩ = some (.pointer (some ⟨ab, 0, none⟩)) := h.cell (by omega)
  have HC := Lib.hid (num_any h.ar hB s 6 (by omega) (by omega))
  clear h hB
  go_enter Tryz.func157, Tryz.ntmps157
  go_wp2_with (go_at_call 124; refine HC.out.mono ?_; rintro e w1 ⟨rfl, rfl⟩)
  go_ret
  exact ⟨rfl, rfl⟩
set_option maxRecDepth 100000 in
theorem setsum_any (h : MoAt w mo ab mb mp m) (c v : Nat) (hc : c ≤ 100000000) :
    Calls Tryz.prog 96 #[.pointer (some ⟨mo, 0, none⟩), .int .i64 c, .int .i64 v] w fun e w' => e = .returned (.tuple #[]) ∧ MoAt w' mo ab mb mp (m.setSum c v) ∧ Fr [mb] w w' := by
  have c0 : w.cell? ⟨mo, 0, none⟩ = some (.pointer (some ⟨ab, 0, none⟩)) := h.cell (by omega)
  have HC := Lib.hid (setnum_any h.ar (c + 2) 2 v (by omega) (by omega))
  have HP := Lib.hid (fun (w' : World) (a' : Ar) (hA : ArAt w' ab mb mp a') (F : Fr [mb] w w') => h.put hA F)
  clear h
  go_enter Tryz.func96, Tryz.ntmps96
  go_wp2_with (go_at_call 95; refine HC.out.mono ?_; rintro e w1 ⟨rfl, H1, F1⟩)
  go_end0
  exact ⟨rfl, HP.out _ _ H1 F1, F1⟩
set_option maxRecDepth 100000 in
theorem setnext_any (h : MoAt w mo ab mb mp m) (s v : Nat) (hs : s ≤ 100000000) :
    Calls Tryz.prog 162 #[.pointer (some ⟨mo, 0, none⟩), .int .i64 s, .int .i64 v] w fun e w' => e = .returned (.tuple #[]) ∧ MoAt w' mo ab mb mp (m.setNext s v) ∧ Fr [mb] w w' := by
  have c0 : w.cell? ⟨mo, 0, none⟩ = some (.pointer (some ⟨ab, 0, none⟩)) := h.cell (by omega)
  have HC := Lib.hid (setnum_any h.ar (s + 2) 4 v (by omega) (by omega))
  have HP := Lib.hid (fun (w' : World) (a' : Ar) (hA : ArAt w' ab mb mp a') (F : Fr [mb] w w') => h.put hA F)
  clear h
  go_enter Tryz.func162, Tryz.ntmps162
  go_wp2_with (go_at_call 95; refine HC.out.mono ?_; rintro e w1 ⟨rfl, H1, F1⟩)
  go_end0
  exact ⟨rfl, HP.out _ _ H1 F1, F1⟩
set_option maxRecDepth 100000 in
theorem setword_any (h : MoAt w mo ab mb mp m) (s v : Nat) (hs : s ≤ 100000000) :
    Calls Tryz.prog 97 #[.pointer (some ⟨mo, 0, none⟩), .int .i64 s, .int .i64 v] w fun e w' => e = .returned (.tuple #[]) ∧ MoAt w' mo ab mb mp (m.setWord s v) ∧ Fr [mb] w w' := by
  have c0 : w.cell? ⟨mo, 0, none⟩ = some (.pointer (some ⟨ab, 0, none⟩)) := h.cell (by omega)
  have HC := Lib.hid (setnum_any h.ar s 6 v (by omega) (by omega))
  have HP := Lib.hid (fun (w' : World) (a' : Ar) (hA : ArAt w' ab mb mp a') (F : Fr [mb] w w') => h.put hA F)
  clear h
  go_enter Tryz.func97, Tryz.ntmps97
  go_wp2_with (go_at_call 95; refine HC.out.mono ?_; rintro e w1 ⟨rfl, H1, F1⟩)
  go_end0
  exact ⟨rfl, HP.out _ _ H1 F1, F1⟩
set_option maxRecDepth 100000 in
theorem freq_any (h : MoAt w mo ab mb mp m) (hB : m.a.Byt) (s : Nat) (hs : s ≤ 100000000) :
    Calls Tryz.prog 78 #[.pointer (some ⟨mo, 0, none⟩), .int .i64 s] w fun e w' => e = .returned (.int .i64 (m.freq s)) ∧ w' = w := by
  have c0 : w.cell? ⟨mo, 0, none⟩ = some (.pointer (some ⟨ab, 0, none⟩)) := h.cell (by omega)
  have hc := byte_any h.ar (s + 1) (by omega)
  have hb := hB.byte (s + 1)
  obtain ⟨x, hx⟩ : ∃ x, x = m.a.byte (s + 1) := ⟨_, rfl⟩
  rw [← hx] at hc hb
  rw [show m.freq s = x from hx.symm]
  have HC := Lib.hid hc
  clear h hB hc hx
  have hxI : (x : Int) < 256 := by omega
  go_enter Tryz.func78, Tryz.ntmps78
  go_wp2_with (go_at_call 127; refine HC.out.mono ?_; rintro e w1 ⟨rfl, rfl⟩)
  go_ret
  exact ⟨rfl, rfl⟩
set_option maxRecDepth 100000 in
theorem setfreq_any (h : MoAt w mo ab mb mp m) (s f : Nat) (hs : s ≤ 100000000) :
    Calls Tryz.prog 153 #[.pointer (some ⟨mo, 0, none⟩), .int .i64 s, .int .i64 f] w fun e w' => e = .returned (.tuple #[]) ∧ MoAt w' mo ab mb mp (m.setFreq s f) ∧ Fr [mb] w w' := by
  have c0 : w.cell? ⟨mo, 0, none⟩ = some (.pointer (some ⟨ab, 0, none⟩)) := h.cell (by omega)
  have hw : IntKind.u8.wrap (f : Int) = ((f % 256 : Nat) : Int) := by rw [IntKind.wrap_u8]; omega
  have hc := setbyte_any h.ar (s + 1) (f % 256)
  have HC := Lib.hid hc
  have HP := Lib.hid (fun (w' : World) (a' : Ar) (hA : ArAt w' ab mb mp a') (F : Fr [mb] w w') => h.put hA F)
  clear h hc
  go_enter Tryz.func153, Tryz.ntmps153
  go_wp2_with (go_at_call 136; refine HC.out.mono ?_; rintro e w1 ⟨rfl, H1, F1⟩)
  go_end0
  exact ⟨rfl, HP.out _ _ H1 F1, F1⟩
set_option maxRecDepth 100000 in
theorem state_any (h : MoAt w mo ab mb mp m) (hB : m.a.Byt) (c i : Nat) (hc : c ≤ 100000000) (hi : i ≤ 100000) :
    Calls Tryz.prog 118 #[.pointer (some ⟨mo, 0, none⟩), .int .i64 c, .int .i64 i] w fun e w' => e = .returned (.int .i64 (m.state c i)) ∧ w' = w := by
  have c0 : w.cell? ⟨mo, 0, none⟩ = some (.pointer (some ⟨ab, 0, none⟩)) := h.cell (by omega)
  have HS := Lib.hid (states_any h hB c hc)
  have HN := Lib.hid (num_any h.ar hB (c + 4) 4 (by omega) (by omega))
  have hnb := hB.num (c + 4) 4
  have h256 : (256 : Nat) ^ 4 = 4294967296 := by decide
  rw [h256] at hnb
  have HST := Lib.hid (show m.state c i = if m.states c = 1 then c + 2 else m.a.num (c + 4) 4 + i * 6 from rfl)
  obtain ⟨x, hx⟩ : ∃ x, x = m.states c := ⟨_, rfl⟩
  obtain ⟨y, hy⟩ : ∃ y, y = m.a.num (c + 4) 4 := ⟨_, rfl⟩
  obtain ⟨z, hz⟩ : ∃ z, z = m.state c i := ⟨_, rfl⟩
  rw [← hx] at HS HST
  rw [← hy] at HN HST hnb
  rw [← hz] at HST ⊢
  clear h hB hx hy hz h256
  by_cases h1 : x = 1
  · have hI : ((x : Int) == 1) = true := by simp [h1]
    have hJ : (x : Int) = 1 := by omega
    have HZ := Lib.hid (show z = c + 2 by rw [HST.out, if_pos h1])
    clear HST h1
    go_enter Tryz.func118, Tryz.ntmps118
    go_wp2_with (go_at_call 73; refine HS.out.mono ?_; rintro e w1 ⟨rfl, rfl⟩)
    go_ret
    exact ⟨by rw [HZ.out]; rfl, rfl⟩
  · have hI : ((x : Int) == 1) = false := by simp; omega
    have hJ : ¬ (x : Int) = 1 := by omega
    have HZ := Lib.hid (show z = y + i * 6 by rw [HST.out, if_neg h1])
    clear HST h1
    go_enter Tryz.func118, Tryz.ntmps118
    go_wp2_with (first
      | (go_at_call 124; refine HN.out.mono ?_; rintro e w2 ⟨rfl, rfl⟩)
      | (go_at_call 73; refine HS.out.mono ?_; rintro e w1 ⟨rfl, rfl⟩))
    go_ret
    exact ⟨by rw [HZ.out]; rfl, rfl⟩
end
end Go.Proofs.YtjfoccbbjhigbaaGreat
