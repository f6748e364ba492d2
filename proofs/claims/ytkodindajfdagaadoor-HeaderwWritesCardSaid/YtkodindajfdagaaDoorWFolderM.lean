/- Contracts: a method's name; the writer's folder. No condition but that lengths fit. -/
import Derived.Test.YtkodindajfdagaaDoorWPacksM
import Derived.Test.YtkodindajfdagaaDoorGAI
import Derived.Test.YtkodindajfdagaaDoorGAA
namespace Go.Proofs.YtkodindajfdagaaDoor
open Go.RowKit

/-- A method's name. -/
def methN (m : Int) : List UInt8 := if m = 1 then [0] else if m = 2 then [3] else if m = 3 then [3, 3, 1, 3] else if m = 4 then [3, 1, 1] else if m = 5 then [33] else if m = 6 then [3, 3, 1, 27] else if m = 7 then [3, 4, 1] else []
def flagsN (c : Coder) : Nat := (methN c.method).length + (if c.method = 6 then 16 else 0) + (if c.props = [] then 0 else 32)
def coderW (c : Coder) : List UInt8 := UInt8.ofNat (flagsN c) :: (methN c.method ++ ((if c.method = 6 then [4, 1] else []) ++ (if c.props = [] then [] else shortN c.props.length ++ c.props)))
def bindW (b : Int × Int) : List UInt8 := shortN b.1.toNat ++ shortN b.2.toNat
def packsI (l : List Int) : List UInt8 := l.flatMap fun p => shortN p.toNat
def folderW (f : Folder) : List UInt8 := shortN f.coders.length ++ (f.coders.flatMap coderW ++ (f.binds.flatMap bindW ++ (if 1 < f.packs.length then packsI f.packs else [])))

theorem meth_len (m : Int) : (methN m).length ≤ 4 := by
  unfold methN
  repeat' split
  all_goals simp
set_option maxRecDepth 100000 in
theorem name_any (w : World) (m : Int) (h1 : 1 ≤ m) (h7 : m ≤ 7) : Calls Tryd.prog 72 #[.int .i64 m] w fun e w' => e = .returned (.string ⟨(methN m).toArray⟩) ∧ w' = w := by
  have hm : m = 1 ∨ m = 2 ∨ m = 3 ∨ m = 4 ∨ m = 5 ∨ m = 6 ∨ m = 7 := by omega
  rcases hm with rfl | rfl | rfl | rfl | rfl | rfl | rfl
  · have hix : ∀ w, (Instr.index 115 (.agg #[.string ⟨#[]⟩, .string ⟨#[0]⟩, .string ⟨#[3]⟩, .string ⟨#[3, 3, 1, 3]⟩, .string ⟨#[3, 1, 1]⟩, .string ⟨#[33]⟩, .string ⟨#[3, 3, 1, 27]⟩, .string ⟨#[3, 4, 1]⟩]) (.int .i64 1)).run Tryd.prog w = .ok (.string ⟨#[0]⟩) w := fun _ => rfl
    go_enter Tryd.func72, Tryd.ntmps72
    go_wp2_with fail
    go_ret
    exact ⟨rfl, rfl⟩
  · have hix : ∀ w, (Instr.index 115 (.agg #[.string ⟨#[]⟩, .string ⟨#[0]⟩, .string ⟨#[3]⟩, .string ⟨#[3, 3, 1, 3]⟩, .string ⟨#[3, 1, 1]⟩, .string ⟨#[33]⟩, .string ⟨#[3, 3, 1, 27]⟩, .string ⟨#[3, 4, 1]⟩]) (.int .i64 2)).run Tryd.prog w = .ok (.string ⟨#[3]⟩) w := fun _ => rfl
    go_enter Tryd.func72, Tryd.ntmps72
    go_wp2_with fail
    go_ret
    exact ⟨rfl, rfl⟩
  · have hix : ∀ w, (Instr.index 115 (.agg #[.string ⟨#[]⟩, .string ⟨#[0]⟩, .string ⟨#[3]⟩, .string ⟨#[3, 3, 1, 3]⟩, .string ⟨#[3, 1, 1]⟩, .string ⟨#[33]⟩, .string ⟨#[3, 3, 1, 27]⟩, .string ⟨#[3, 4, 1]⟩]) (.int .i64 3)).run Tryd.prog w = .ok (.string ⟨#[3, 3, 1, 3]⟩) w := fun _ => rfl
    go_enter Tryd.func72, Tryd.ntmps72
    go_wp2_with fail
    go_ret
    exact ⟨rfl, rfl⟩
  · have hix : ∀ w, (Instr.index 115 (.agg #[.string ⟨#[]⟩, .string ⟨#[0]⟩, .string ⟨#[3]⟩, .string ⟨#[3, 3, 1, 3]⟩, .string ⟨#[3, 1, 1]⟩, .string ⟨#[33]⟩, .string ⟨#[3, 3, 1, 27]⟩, .string ⟨#[3, 4, 1]⟩]) (.int .i64 4)).run Tryd.prog w = .ok (.string ⟨#[3, 1, 1]⟩) w := fun _ => rfl
    go_enter Tryd.func72, Tryd.ntmps72
    go_wp2_with fail
    go_ret
    exact ⟨rfl, rfl⟩
  · have hix : ∀ w, (Instr.index 115 (.agg #[.string ⟨#[]⟩, .string ⟨#[0]⟩, .string ⟨#[3]⟩, .string ⟨#[3, 3, 1, 3]⟩, .string ⟨#[3, 1, 1]⟩, .string ⟨#[33]⟩, .string ⟨#[3, 3, 1, 27]⟩, .string ⟨#[3, 4, 1]⟩]) (.int .i64 5)).run Tryd.prog w = .ok (.string ⟨#[33]⟩) w := fun _ => rfl
    go_enter Tryd.func72, Tryd.ntmps72
    go_wp2_with fail
    go_ret
    exact ⟨rfl, rfl⟩
  · have hix : ∀ w, (Instr.index 115 (.agg #[.string ⟨#[]⟩, .string ⟨#[0]⟩, .string ⟨#[3]⟩, .string ⟨#[3, 3, 1, 3]⟩, .string ⟨#[3, 1, 1]⟩, .string ⟨#[33]⟩, .string ⟨#[3, 3, 1, 27]⟩, .string ⟨#[3, 4, 1]⟩]) (.int .i64 6)).run Tryd.prog w = .ok (.string ⟨#[3, 3, 1, 27]⟩) w := fun _ => rfl
    go_enter Tryd.func72, Tryd.ntmps72
    go_wp2_with fail
    go_ret
    exact ⟨rfl, rfl⟩
  · have hix : ∀ w, (Instr.index 115 (.agg #[.string ⟨#[]⟩, .string ⟨#[0]⟩, .string ⟨#[3]⟩, .string ⟨#[3, 3, 1, 3]⟩, .string ⟨#[3, 1, 1]⟩, .string ⟨#[33]⟩, .string ⟨#[3, 3, 1, 27]⟩, .string ⟨#[3, 4, 1]⟩]) (.int .i64 7)).run Tryd.prog w = .ok (.string ⟨#[3, 4, 1]⟩) w := fun _ => rfl
    go_enter Tryd.func72, Tryd.ntmps72
    go_wp2_with fail
    go_ret
    exact ⟨rfl, rfl⟩
/-- '[]byte(s)'. -/
theorem conv_sl2 (w : World) (l : List UInt8) (hl : l.length ≤ 1000000) : ∃ (cap : Nat) (wB : World), (convert 9 32 (.string ⟨l.toArray⟩)).run Tryd.prog w = .ok (.slice (some ⟨w.heap.size, 0, none⟩) l.length cap) wB ∧ Fr [] w wB ∧ Sl wB (.slice (some ⟨w.heap.size, 0, none⟩) l.length cap) (bv l) := by
  have h := run_bytes_of_string (P := Tryd.prog) w 9 32 5 ⟨l.toArray⟩ Tryd.underlying9 Tryd.underlying32 Tryd.underlying5
  have hsz : (⟨l.toArray⟩ : ByteArray).size = l.length := by simp [ByteArray.size]
  rw [hsz] at h
  refine ⟨_, _, h, ((Fr.refl _ _).drew).alloc _, ⟨_, _, by rw [bv_length], ?_, ?_, by simp, fun a ha _ => ?_⟩⟩
  · rw [bv_length]; exact grownCap_ge w l.length 0 5
  · have := grownCap_le_maxLen w l.length 0 5 (by unfold maxLen; omega)
    unfold maxLen at this
    omega
  · obtain rfl := (Option.some.inj ha).symm
    refine ⟨rfl, by simp, fun j hj => ?_⟩
    rw [bv_length] at hj
    have := World.cell?_alloc_mark w.drew (bytesRow ⟨l.toArray⟩ (grownCap w l.length 0 5)) 5 ((bytesRow ⟨l.toArray⟩ (grownCap w l.length 0 5)).size, (bytesRow ⟨l.toArray⟩ (grownCap w l.length 0 5)).size + 1) j
    have hj2 : j < (⟨l.toArray⟩ : ByteArray).data.size := by simpa using hj
    rw [bytesRow_at _ _ _ hj2] at this
    rw [Nat.zero_add]
    refine this.trans ?_
    rw [bv_get _ j l[j] (by simp)]
    simp

theorem wbox6 {w wr : World} {t : TypeId} {a0 a1 a2 a3 a4 a5 : Value} {S : List Nat} (F : Fr S (w.alloc (.cells #[a0, a1, a2, a3, a4, a5] t)) wr) (hS : w.heap.size ∉ S) :
    wr.cell? ⟨w.heap.size, 0, none⟩ = some a0 ∧ wr.cell? ⟨w.heap.size, 1, none⟩ = some a1 ∧ wr.cell? ⟨w.heap.size, 2, none⟩ = some a2 ∧ wr.cell? ⟨w.heap.size, 3, none⟩ = some a3 ∧ wr.cell? ⟨w.heap.size, 4, none⟩ = some a4 ∧ wr.cell? ⟨w.heap.size, 5, none⟩ = some a5 := by
  have key : ∀ (i : Nat), wr.cell? ⟨w.heap.size, i, none⟩ = #[a0, a1, a2, a3, a4, a5][i]? := fun i => by
    rw [F.cell (p := ⟨w.heap.size, i, none⟩) (by simp) hS, Go.Joins.cell_of_block (heap_alloc_new w _)]
  exact ⟨by rw [key]; rfl, by rw [key]; rfl, by rw [key]; rfl, by rw [key]; rfl, by rw [key]; rfl, by rw [key]; rfl⟩
/-- What lay there before the writer is as it was. -/
theorem WrTo.base {w0 w wx : World} {lo p : Nat} {v : Value} {bs cs : List UInt8} {d : DW} (T : WrTo w lo p v cs d wx) (W : WrAt w lo p v bs d) (F : Fr [] w0 w) (hp : w0.heap.size ≤ p) : Fr [] w0 wx :=
  F.trans T.frm fun i hi => .inr (W.above hp i hi)

theorem flat_le {α : Type} (f : α → List UInt8) {l : List α} {k : Nat} {x : α} (h : l[k]? = some x) : ((l.take k).flatMap f).length + (f x).length ≤ (l.flatMap f).length := by
  have h1 : (l.take (k + 1)).flatMap f = (l.take k).flatMap f ++ f x := by simp [List.take_add_one, h]
  have h2 : l.flatMap f = (l.take (k + 1)).flatMap f ++ (l.drop (k + 1)).flatMap f := by rw [← List.flatMap_append, List.take_append_drop]
  rw [h2, h1, List.length_append, List.length_append]
  omega
theorem or32 (L : Nat) (h : L ≤ 4) : bits .or .u8 ((L : Int) % 256) 32 = ((UInt8.ofNat (L + 32)).toNat : Int) := by
  have hL : L = 0 ∨ L = 1 ∨ L = 2 ∨ L = 3 ∨ L = 4 := by omega
  rcases hL with rfl | rfl | rfl | rfl | rfl <;> decide

set_option maxRecDepth 100000 in
set_option maxHeartbeats 8000000 in
theorem folder_one (w0 w : World) (lo p : Nat) (v cv bv' pv sv h k0 : Value) (bs : List UInt8) (d : DW) (f : Folder) (W : WrAt w lo p v bs d) (F0 : Fr [] w0 w) (hp : w0.heap.size ≤ p) (hf : FoV w0 cv bv' pv sv f)
    (hm : ∀ c ∈ f.coders, 1 ≤ c.method ∧ c.method ≤ 7) (hbd : ∀ b ∈ f.binds, 0 ≤ b.1 ∧ b.1 < 1000000 ∧ 0 ≤ b.2 ∧ b.2 < 1000000) (hpk : ∀ x ∈ f.packs, 0 ≤ x ∧ x < 1000000) (hn : f.coders.length ≤ 100000) (hbn : f.binds.length ≤ 100000) (hpn : f.packs.length ≤ 100000) (hb : bs.length + (folderW f).length ≤ 50000000) :
    Calls Tryd.prog 48 #[.pointer (some ⟨p, 0, none⟩), .agg #[cv, bv', pv, sv, h, k0]] w fun e w' => e = .returned (.tuple #[]) ∧ WrTo w lo p v (bs ++ folderW f) d w' := by
  obtain ⟨cao, ccap, rfl, -, -, co⟩ := hf.co.out
  obtain ⟨bao, bcap, rfl, -, -, bo⟩ := hf.bi.out
  obtain ⟨pao, pcap, rfl, -, -, po⟩ := hf.pa.out
  rw [iv_length] at po ⊢
  obtain ⟨wB, hwB⟩ : ∃ wB, wB = w.alloc (.cells #[.slice cao f.coders.length ccap, .slice bao f.binds.length bcap, .slice pao f.packs.length pcap, sv, h, k0] 46) := ⟨_, rfl⟩
  have FB : Fr [] w wB := hwB ▸ (Fr.refl _ _).alloc _
  have WB := W.fr0 FB
  have HBX := Lib.hid (fun (cs : List UInt8) wx (T : WrTo wB lo p v cs d wx) => wbox6 (hwB ▸ T.frm : Fr (p :: v.ownBlock.toList) (w.alloc (.cells #[.slice cao f.coders.length ccap, .slice bao f.binds.length bcap, .slice pao f.packs.length pcap, sv, h, k0] 46)) wx) (fun hmm => by
    simp only [List.mem_cons, Option.mem_toList] at hmm
    rcases hmm with hmm | hmm
    · have := W.lt; omega
    · have := (W.gs _ hmm).2; omega))
  have HF0 := Lib.hid (fun (cs : List UInt8) wx (T : WrTo wB lo p v cs d wx) => T.base WB (F0.trans0 FB) hp)
  have T0 := WrTo.refl WB
  have HFB := Lib.hid FB
  obtain ⟨x0, x1, x2, x3, x4, x5⟩ := HBX.out _ _ T0
  have HCO := Lib.hid co
  have HBO := Lib.hid bo
  have HPO := Lib.hid po
  have HM := Lib.hid hm
  have HBD := Lib.hid hbd
  have HPK := Lib.hid hpk
  have hwr : IntKind.u64.wrap (f.coders.length : Int) = (f.coders.length : Int) := by simp [IntKind.wrap, IntKind.bits, IntKind.signed]; omega
  have hFl : f.coders.length < 18446744073709551616 := by omega
  have HFW := Lib.hid (show bs ++ folderW f = (((bs ++ shortN f.coders.length) ++ f.coders.flatMap coderW) ++ f.binds.flatMap bindW) ++ (if 1 < f.packs.length then packsI f.packs else []) by unfold folderW; simp only [List.append_assoc])
  have hlen := congrArg List.length HFW.out
  simp only [List.length_append] at hlen
  have HL := Lib.hid (show bs.length + (shortN f.coders.length).length + (f.coders.flatMap coderW).length + (f.binds.flatMap bindW).length + (if 1 < f.packs.length then packsI f.packs else []).length ≤ 50000000 by omega)
  clear hlen hb co bo po hm hbd hpk hf W FB
  go_enter Tryd.func48, Tryd.ntmps48
  refine wp_seq_k fun K0 hK0 => ?_
  go_cut [3] (fun v3 wx => v3 = .pointer (some ⟨w.heap.size, 0, none⟩) ∧ wx = wB)
  case first =>
    clear hK0
    go_wp2_with fail
    go_meet
    case rel => exact ⟨rfl, hwB.symm⟩
  case rest =>
  obtain ⟨rfl, hw⟩ := hcut
  have hw' := hw.symm
  clear hw
  subst hw'
  clear hwB
  (refine hK0 _ _ ?_; clear hK0; refine wp_seq_k fun K1 hK1 => ?_)
  obtain ⟨b1, hb1⟩ : ∃ b1, b1 = bs ++ shortN f.coders.length := ⟨_, rfl⟩
  go_cut [] (fun wx => WrTo wB lo p v b1 d wx)
  case first =>
    clear hK1
    go_wp2_with (go_at_call 24; refine (wnumber_any T0 f.coders.length (by have := HL.out; omega) hFl).mono ?_; rintro e w1 ⟨rfl, T1⟩)
    go_meet
    case rel => rw [hb1]; exact T1
  case rest =>
  have HB1 := Lib.hid hb1
  have HL1 := Lib.hid (show b1.length = bs.length + (shortN f.coders.length).length by rw [hb1, List.length_append])
  clear hb1 T0 x0 x1 x2 x3 x4 x5
  obtain ⟨w1, hw1⟩ : ∃ w1, w1 = wc := ⟨_, rfl⟩
  rw [← hw1] at hcut ⊢
  clear hw1
  have T1 := hcut
  clear hcut
  (refine hK1 _ _ ?_; clear hK1; refine wp_seq_k fun K2 hK2 => ?_)
  obtain ⟨y0, y1, y2, y3, y4, y5⟩ := HBX.out _ _ T1
  go_cut [] (fun wx => WrTo wB lo p v (b1 ++ f.coders.flatMap coderW) d wx)
  case first =>
    clear hK2
    go_wp2_with fail
    go_loopw [21] (fun i wr => ∃ k : Nat, k ≤ f.coders.length ∧ i = .int .i64 k ∧ WrTo wB lo p v (b1 ++ (f.coders.take k).flatMap coderW) d wr) (fun i _ => f.coders.length - (intOf i).toNat)
    case atStart => exact ⟨0, Nat.zero_le _, rfl, by simpa using T1⟩
    case round =>
      obtain ⟨k, hk, rfl, T⟩ := hrel
      by_cases hlt : k < f.coders.length
      · obtain ⟨c, hc⟩ := some_get f.coders k hlt
        obtain ⟨q1, o1, qv, hao, hq1, e0, e1, e2⟩ := HCO.out k c hc
        subst hao
        have hq1' := Nat.lt_of_lt_of_le hq1 (HF0.out _ _ T).size
        have f0 := ((HF0.out _ _ T).cell (p := ⟨q1, o1 + k * 2, none⟩) hq1 (by simp)).trans e0
        have f1 := ((HF0.out _ _ T).cell (p := ⟨q1, o1 + k * 2 + 1, none⟩) hq1 (by simp)).trans e1
        have HPR := Lib.hid (fun (cs : List UInt8) (wx : World) (T : WrTo wB lo p v cs d wx) => e2.fr0 (HF0.out _ _ T))
        obtain ⟨hm1, hm7⟩ := HM.out c (List.mem_of_getElem? hc)
        have HTL := Lib.hid (show ((f.coders.take k).flatMap coderW).length + (coderW c).length ≤ (f.coders.flatMap coderW).length from flat_le coderW hc)
        have HTK := Lib.hid (show (f.coders.take (k + 1)).flatMap coderW = (f.coders.take k).flatMap coderW ++ coderW c by simp [List.take_add_one, hc])
        obtain ⟨qao, qcap, rfl, -, -, -⟩ := e2.out
        obtain ⟨v1, W1, G1, hk1⟩ := T.out
        obtain ⟨m, pr⟩ := c
        dsimp only at f0 hm1 hm7
        rw [bv_length] at f1 HPR
        dsimp only at f1 HPR
        obtain ⟨wC, hwC⟩ : ∃ wC, wC = wr.alloc (.cells #[.int .i64 m, .slice qao pr.length qcap] 48) := ⟨_, rfl⟩
        have FC : Fr [] wr wC := hwC ▸ (Fr.refl _ _).alloc _
        have WC := W1.fr0 FC
        have HBC := Lib.hid (fun (cs : List UInt8) wx (T : WrTo wC lo p v1 cs d wx) => wbox2 (hwC ▸ T.frm : Fr (p :: v1.ownBlock.toList) (wr.alloc (.cells #[.int .i64 m, .slice qao pr.length qcap] 48)) wx) (fun hmm => by
          simp only [List.mem_cons, Option.mem_toList] at hmm
          rcases hmm with hmm | hmm
          · have := W1.lt; omega
          · have := (W1.gs _ hmm).2; omega))
        have HBK := Lib.hid (fun (cs : List UInt8) wx (T : WrTo wC lo p v1 cs d wx) => WrTo.trans G1 hk1 (WrTo.fr0 FC T))
        have TC := WrTo.refl WC
        have hszC : wC.heap.size = wr.heap.size + 1 := by rw [hwC]; simp
        have hprF : pr.length < 18446744073709551616 := by have h1 := HTL.out; have h2 := HL.out; have h3 : pr.length ≤ (coderW ⟨m, pr⟩).length := by unfold coderW; dsimp only; split <;> (by_cases e : pr = [] <;> simp [e] <;> omega)
                                                           omega
        have hwp : IntKind.u64.wrap (pr.length : Int) = (pr.length : Int) := by simp [IntKind.wrap, IntKind.bits, IntKind.signed]; omega
        obtain ⟨z0, z1⟩ := HBC.out _ _ TC
        have HNM := Lib.hid (name_any wC m hm1 hm7)
        have hsz : (⟨(methN m).toArray⟩ : ByteArray).size = (methN m).length := by simp [ByteArray.size]
        have HML := Lib.hid (meth_len m)
        have HFL := Lib.hid (show coderW ⟨m, pr⟩ = UInt8.ofNat ((methN m).length + (if m = 6 then 16 else 0) + (if pr = [] then 0 else 32)) :: (methN m ++ ((if m = 6 then [4, 1] else []) ++ (if pr = [] then [] else shortN pr.length ++ pr))) from rfl)
        have HM6 := Lib.hid (show m = 6 → (methN m).length = 4 from fun h => by subst h; rfl)
        generalize methN m = id at *
        clear hc e0 e1 e2 G1 hk1 FC W1
        by_cases h6 : m = 6
        · by_cases hpr : pr = []
          · have FLX := 0
            have HCW := Lib.hid (show coderW ⟨m, pr⟩ = 20 :: (id ++ ([4, 1] ++ [])) by rw [HFL.out, if_pos h6, if_pos h6, if_pos hpr, if_pos hpr]; rw [HM6.out h6]; rfl)
            have tp : ¬ (0 : Int) < (pr.length : Int) := by rw [hpr]; simp
            have tp2 : (pr.length : Int) ≤ 0 := by omega
            have t6 : (m == 6) = true := by simp [h6]
            have hfl : bits .or .u8 ((id.length : Int) % 256) 16 = 20 := by rw [HM6.out h6]; decide
            clear hpr h6
            have HLC := Lib.hid (show (b1 ++ (f.coders.take k).flatMap coderW).length + (1 + id.length + 2) ≤ 50000000 by have h1 := HTL.out; rw [HCW.out] at h1; have h2 := HL.out; have h3 := HL1.out; simp only [List.length_append, List.length_cons, List.length_nil] at h1 ⊢; omega)
            obtain ⟨b2, hb2⟩ : ∃ b2, b2 = b1 ++ (f.coders.take k).flatMap coderW := ⟨_, rfl⟩
            rw [← hb2] at HLC TC T WC
            have HFIN := Lib.hid (show b1 ++ (f.coders.take (k + 1)).flatMap coderW = (((b2 ++ [20]) ++ id) ++ [4, 1]) by rw [HTK.out, ← List.append_assoc, ← hb2, HCW.out]; simp)
            clear hb2
            have HS1 := Lib.hid (show Sl (wC.alloc (.cells #[.int .u8 ((20 : UInt8).toNat : Int)] 5)) (.slice (some ⟨wr.heap.size + 1, 0, none⟩) 1 1) (bv [20]) from hszC ▸ sl_one wC 5 (.int .u8 ((20 : UInt8).toNat : Int)))
            go_wp2_with (first
              | (have hq := T2c; go_at_call 11; refine (wput_any (T2c.then0 ((Fr.refl _ _).alloc _)) _ [4, 1] (sl_lit _ _ (bv [4, 1]) 2 rfl (by decide)) (by have := HLC.out; simp only [List.length_append, List.length_cons, List.length_nil]; omega)).mono ?_; rintro e w3' ⟨rfl, T3c⟩; obtain ⟨s0, s1⟩ := HBC.out _ _ T3c)
              | (have hq := TK; go_at_call 11; refine (wput_any TK _ id SK (by have := HLC.out; simp only [List.length_append, List.length_cons, List.length_nil]; omega)).mono ?_; rintro e w2' ⟨rfl, T2c⟩; obtain ⟨r0, r1⟩ := HBC.out _ _ T2c; clear hcv)
              | (have hq := N0; go_at_call 11; rw [← hwC]; refine (wput_any (TC.then0 ((Fr.refl _ _).alloc _)) _ [20] (HS1.out) (by have := HLC.out; simp only [List.length_cons, List.length_nil]; omega)).mono ?_; rintro e w1' ⟨rfl, T1c⟩; obtain ⟨kc, wK, hcv, FK, SK⟩ := conv_sl2 w1' id (by have := HML.out; omega); have TK := T1c.then0 FK)
              | (go_at_call 72; rw [← hwC]; refine HNM.out.mono ?_; rintro e wX ⟨rfl, rfl⟩; have N0 := 0))
            go_roundw
            case rel => exact ⟨k + 1, by omega, by go_num, by rw [HFIN.out]; exact HBK.out _ _ T3c⟩
            case measure => simp [intOf]; omega
          · have FLX := 0
            have HCW := Lib.hid (show coderW ⟨m, pr⟩ = 52 :: (id ++ ([4, 1] ++ (shortN pr.length ++ pr))) by rw [HFL.out, if_pos h6, if_pos h6, if_neg hpr, if_neg hpr]; rw [HM6.out h6]; rfl)
            have tp : (0 : Int) < (pr.length : Int) := by have := List.length_pos_iff.2 hpr; omega
            have t6 : (m == 6) = true := by simp [h6]
            have hfl : bits .or .u8 ((id.length : Int) % 256) 16 = 20 := by rw [HM6.out h6]; decide
            have hfl2 : bits .or .u8 20 32 = 52 := by decide
            clear hpr h6
            have HLC := Lib.hid (show (b1 ++ (f.coders.take k).flatMap coderW).length + (1 + id.length + 2 + (shortN pr.length).length + pr.length) ≤ 50000000 by have h1 := HTL.out; rw [HCW.out] at h1; have h2 := HL.out; have h3 := HL1.out; simp only [List.length_append, List.length_cons, List.length_nil] at h1 ⊢; omega)
            obtain ⟨b2, hb2⟩ : ∃ b2, b2 = b1 ++ (f.coders.take k).flatMap coderW := ⟨_, rfl⟩
            rw [← hb2] at HLC TC T WC
            have HFIN := Lib.hid (show b1 ++ (f.coders.take (k + 1)).flatMap coderW = (((((b2 ++ [52]) ++ id) ++ [4, 1]) ++ shortN pr.length) ++ pr) by rw [HTK.out, ← List.append_assoc, ← hb2, HCW.out]; simp)
            clear hb2
            have HS1 := Lib.hid (show Sl (wC.alloc (.cells #[.int .u8 ((52 : UInt8).toNat : Int)] 5)) (.slice (some ⟨wr.heap.size + 1, 0, none⟩) 1 1) (bv [52]) from hszC ▸ sl_one wC 5 (.int .u8 ((52 : UInt8).toNat : Int)))
            go_wp2_with (first
              | (have hq := T4c; go_at_call 11; refine (wput_any T4c _ pr (HPR.out _ _ (HBK.out _ _ T4c)) (by have := HLC.out; simp only [List.length_append, List.length_cons, List.length_nil]; omega)).mono ?_; rintro e w5' ⟨rfl, T5c⟩)
              | (have hq := T3c; go_at_call 24; refine (wnumber_any T3c pr.length (by have := HLC.out; simp only [List.length_append, List.length_cons, List.length_nil]; omega) hprF).mono ?_; rintro e w4' ⟨rfl, T4c⟩; obtain ⟨u0, u1⟩ := HBC.out _ _ T4c)
              | (have hq := T2c; go_at_call 11; refine (wput_any (T2c.then0 ((Fr.refl _ _).alloc _)) _ [4, 1] (sl_lit _ _ (bv [4, 1]) 2 rfl (by decide)) (by have := HLC.out; simp only [List.length_append, List.length_cons, List.length_nil]; omega)).mono ?_; rintro e w3' ⟨rfl, T3c⟩; obtain ⟨s0, s1⟩ := HBC.out _ _ T3c)
              | (have hq := TK; go_at_call 11; refine (wput_any TK _ id SK (by have := HLC.out; simp only [List.length_append, List.length_cons, List.length_nil]; omega)).mono ?_; rintro e w2' ⟨rfl, T2c⟩; obtain ⟨r0, r1⟩ := HBC.out _ _ T2c; clear hcv)
              | (have hq := N0; go_at_call 11; rw [← hwC]; refine (wput_any (TC.then0 ((Fr.refl _ _).alloc _)) _ [52] (HS1.out) (by have := HLC.out; simp only [List.length_cons, List.length_nil]; omega)).mono ?_; rintro e w1' ⟨rfl, T1c⟩; obtain ⟨kc, wK, hcv, FK, SK⟩ := conv_sl2 w1' id (by have := HML.out; omega); have TK := T1c.then0 FK)
              | (go_at_call 72; rw [← hwC]; refine HNM.out.mono ?_; rintro e wX ⟨rfl, rfl⟩; have N0 := 0))
            go_roundw
            case rel => exact ⟨k + 1, by omega, by go_num, by rw [HFIN.out]; exact HBK.out _ _ T5c⟩
            case measure => simp [intOf]; omega
        · by_cases hpr : pr = []
          · have FLX := 0
            obtain ⟨fl, hfl0⟩ : ∃ fl : UInt8, fl = UInt8.ofNat id.length := ⟨_, rfl⟩
            have HCW := Lib.hid (show coderW ⟨m, pr⟩ = fl :: (id ++ ([] ++ [])) by rw [HFL.out, if_neg h6, if_neg h6, if_pos hpr, if_pos hpr] <;> rw [hfl0] <;> rfl)
            have tp : ¬ (0 : Int) < (pr.length : Int) := by rw [hpr]; simp
            have tp2 : (pr.length : Int) ≤ 0 := by omega
            have t6 : (m == 6) = false := by simp [h6]
            have hfl : (id.length : Int) % 256 = (fl.toNat : Int) := by rw [hfl0]; simp
            clear hfl0
            clear hpr h6
            have HLC := Lib.hid (show (b1 ++ (f.coders.take k).flatMap coderW).length + (1 + id.length) ≤ 50000000 by have h1 := HTL.out; rw [HCW.out] at h1; have h2 := HL.out; have h3 := HL1.out; simp only [List.length_append, List.length_cons, List.length_nil] at h1 ⊢; omega)
            obtain ⟨b2, hb2⟩ : ∃ b2, b2 = b1 ++ (f.coders.take k).flatMap coderW := ⟨_, rfl⟩
            rw [← hb2] at HLC TC T WC
            have HFIN := Lib.hid (show b1 ++ (f.coders.take (k + 1)).flatMap coderW = ((b2 ++ [fl]) ++ id) by rw [HTK.out, ← List.append_assoc, ← hb2, HCW.out]; simp)
            clear hb2
            have HS1 := Lib.hid (show Sl (wC.alloc (.cells #[.int .u8 ((fl : UInt8).toNat : Int)] 5)) (.slice (some ⟨wr.heap.size + 1, 0, none⟩) 1 1) (bv [fl]) from hszC ▸ sl_one wC 5 (.int .u8 ((fl : UInt8).toNat : Int)))
            go_wp2_with (first
              | (have hq := TK; go_at_call 11; refine (wput_any TK _ id SK (by have := HLC.out; simp only [List.length_append, List.length_cons, List.length_nil]; omega)).mono ?_; rintro e w2' ⟨rfl, T2c⟩; obtain ⟨r0, r1⟩ := HBC.out _ _ T2c; clear hcv)
              | (have hq := N0; go_at_call 11; rw [← hwC]; refine (wput_any (TC.then0 ((Fr.refl _ _).alloc _)) _ [fl] (HS1.out) (by have := HLC.out; simp only [List.length_cons, List.length_nil]; omega)).mono ?_; rintro e w1' ⟨rfl, T1c⟩; obtain ⟨kc, wK, hcv, FK, SK⟩ := conv_sl2 w1' id (by have := HML.out; omega); have TK := T1c.then0 FK)
              | (go_at_call 72; rw [← hwC]; refine HNM.out.mono ?_; rintro e wX ⟨rfl, rfl⟩; have N0 := 0))
            go_roundw
            case rel => exact ⟨k + 1, by omega, by go_num, by rw [HFIN.out]; exact HBK.out _ _ T2c⟩
            case measure => simp [intOf]; omega
          · have FLX := 0
            have HCW := Lib.hid (show coderW ⟨m, pr⟩ = UInt8.ofNat (id.length + 32) :: (id ++ ([] ++ (shortN pr.length ++ pr))) by rw [HFL.out, if_neg h6, if_neg h6, if_neg hpr, if_neg hpr] <;> rfl)
            have tp : (0 : Int) < (pr.length : Int) := by have := List.length_pos_iff.2 hpr; omega
            have t6 : (m == 6) = false := by simp [h6]
            have hfl : bits .or .u8 ((id.length : Int) % 256) 32 = ((UInt8.ofNat (id.length + 32)).toNat : Int) := or32 _ HML.out
            clear hpr h6
            have HLC := Lib.hid (show (b1 ++ (f.coders.take k).flatMap coderW).length + (1 + id.length + (shortN pr.length).length + pr.length) ≤ 50000000 by have h1 := HTL.out; rw [HCW.out] at h1; have h2 := HL.out; have h3 := HL1.out; simp only [List.length_append, List.length_cons, List.length_nil] at h1 ⊢; omega)
            obtain ⟨b2, hb2⟩ : ∃ b2, b2 = b1 ++ (f.coders.take k).flatMap coderW := ⟨_, rfl⟩
            rw [← hb2] at HLC TC T WC
            have HFIN := Lib.hid (show b1 ++ (f.coders.take (k + 1)).flatMap coderW = ((((b2 ++ [UInt8.ofNat (id.length + 32)]) ++ id) ++ shortN pr.length) ++ pr) by rw [HTK.out, ← List.append_assoc, ← hb2, HCW.out]; simp)
            clear hb2
            have HS1 := Lib.hid (show Sl (wC.alloc (.cells #[.int .u8 ((UInt8.ofNat (id.length + 32) : UInt8).toNat : Int)] 5)) (.slice (some ⟨wr.heap.size + 1, 0, none⟩) 1 1) (bv [UInt8.ofNat (id.length + 32)]) from hszC ▸ sl_one wC 5 (.int .u8 ((UInt8.ofNat (id.length + 32) : UInt8).toNat : Int)))
            go_wp2_with (first
              | (have hq := T4c; go_at_call 11; refine (wput_any T4c _ pr (HPR.out _ _ (HBK.out _ _ T4c)) (by have := HLC.out; simp only [List.length_append, List.length_cons, List.length_nil]; omega)).mono ?_; rintro e w5' ⟨rfl, T5c⟩)
              | (have hq := T2c; go_at_call 24; refine (wnumber_any T2c pr.length (by have := HLC.out; simp only [List.length_append, List.length_cons, List.length_nil]; omega) hprF).mono ?_; rintro e w4' ⟨rfl, T4c⟩; obtain ⟨u0, u1⟩ := HBC.out _ _ T4c)
              | (have hq := TK; go_at_call 11; refine (wput_any TK _ id SK (by have := HLC.out; simp only [List.length_append, List.length_cons, List.length_nil]; omega)).mono ?_; rintro e w2' ⟨rfl, T2c⟩; obtain ⟨r0, r1⟩ := HBC.out _ _ T2c; clear hcv)
              | (have hq := N0; go_at_call 11; rw [← hwC]; refine (wput_any (TC.then0 ((Fr.refl _ _).alloc _)) _ [UInt8.ofNat (id.length + 32)] (HS1.out) (by have := HLC.out; simp only [List.length_cons, List.length_nil]; omega)).mono ?_; rintro e w1' ⟨rfl, T1c⟩; obtain ⟨kc, wK, hcv, FK, SK⟩ := conv_sl2 w1' id (by have := HML.out; omega); have TK := T1c.then0 FK)
              | (go_at_call 72; rw [← hwC]; refine HNM.out.mono ?_; rintro e wX ⟨rfl, rfl⟩; have N0 := 0))
            go_roundw
            case rel => exact ⟨k + 1, by omega, by go_num, by rw [HFIN.out]; exact HBK.out _ _ T5c⟩
            case measure => simp [intOf]; omega
      · -- END OF CODERS
        obtain rfl : k = f.coders.length := by omega
        rw [List.take_of_length_le (Nat.le_refl _)] at T
        go_wp2_with fail
        go_meet
        case rel => exact T
  case rest =>
  obtain ⟨b2, hb2⟩ : ∃ b2, b2 = b1 ++ f.coders.flatMap coderW := ⟨_, rfl⟩
  rw [← hb2] at hcut
  have HB2 := Lib.hid hb2
  have HL2 := Lib.hid (show b2.length = b1.length + (f.coders.flatMap coderW).length by rw [hb2, List.length_append])
  clear hb2 T1 y0 y1 y2 y3 y4 y5
  obtain ⟨w2, hw2⟩ : ∃ w2, w2 = wc := ⟨_, rfl⟩
  rw [← hw2] at hcut ⊢
  clear hw2
  have T2 := hcut
  clear hcut
  (refine hK2 _ _ ?_; clear hK2; refine wp_seq_k fun K3 hK3 => ?_)
  obtain ⟨y0, y1, y2, y3, y4, y5⟩ := HBX.out _ _ T2
  go_cut [] (fun wx => WrTo wB lo p v (b2 ++ f.binds.flatMap bindW) d wx)
  case first =>
    clear hK3
    go_wp2_with fail
    go_loopw [74] (fun i wr => ∃ k : Nat, k ≤ f.binds.length ∧ i = .int .i64 k ∧ WrTo wB lo p v (b2 ++ (f.binds.take k).flatMap bindW) d wr) (fun i _ => f.binds.length - (intOf i).toNat)
    case atStart => exact ⟨0, Nat.zero_le _, rfl, by simpa using T2⟩
    case round =>
      obtain ⟨k, hk, rfl, T⟩ := hrel
      by_cases hlt : k < f.binds.length
      · obtain ⟨c, hc⟩ := some_get f.binds k hlt
        obtain ⟨q1, o1, hao, hq1, e0, e1⟩ := HBO.out k c hc
        subst hao
        have hq1' := Nat.lt_of_lt_of_le hq1 (HF0.out _ _ T).size
        have f0 := ((HF0.out _ _ T).cell (p := ⟨q1, o1 + k * 2, none⟩) hq1 (by simp)).trans e0
        have f1 := ((HF0.out _ _ T).cell (p := ⟨q1, o1 + k * 2 + 1, none⟩) hq1 (by simp)).trans e1
        obtain ⟨hd1, hd2, hd3, hd4⟩ := HBD.out c (List.mem_of_getElem? hc)
        have HTL := Lib.hid (show ((f.binds.take k).flatMap bindW).length + (bindW c).length ≤ (f.binds.flatMap bindW).length from flat_le bindW hc)
        have HTK := Lib.hid (show (f.binds.take (k + 1)).flatMap bindW = (f.binds.take k).flatMap bindW ++ (shortN c.1.toNat ++ shortN c.2.toNat) by simp [List.take_add_one, hc, bindW])
        have HBW := Lib.hid (show (bindW c).length = (shortN c.1.toNat).length + (shortN c.2.toNat).length by unfold bindW; rw [List.length_append])
        obtain ⟨v1, W1, G1, hk1⟩ := T.out
        obtain ⟨i1, i2⟩ := c
        dsimp only at f0 f1 hd1 hd2 hd3 hd4 HTK HBW
        obtain ⟨n1, rfl⟩ := Int.eq_ofNat_of_zero_le hd1
        obtain ⟨n2, rfl⟩ := Int.eq_ofNat_of_zero_le hd3
        simp only [Int.toNat_natCast] at HTK HBW
        obtain ⟨wC, hwC⟩ : ∃ wC, wC = wr.alloc (.cells #[.int .i64 (n1 : Int), .int .i64 (n2 : Int)] 73) := ⟨_, rfl⟩
        have FC : Fr [] wr wC := hwC ▸ (Fr.refl _ _).alloc _
        have WC := W1.fr0 FC
        have HBC := Lib.hid (fun (cs : List UInt8) wx (T : WrTo wC lo p v1 cs d wx) => wbox2 (hwC ▸ T.frm : Fr (p :: v1.ownBlock.toList) (wr.alloc (.cells #[.int .i64 (n1 : Int), .int .i64 (n2 : Int)] 73)) wx) (fun hmm => by
          simp only [List.mem_cons, Option.mem_toList] at hmm
          rcases hmm with hmm | hmm
          · have := W1.lt; omega
          · have := (W1.gs _ hmm).2; omega))
        have HBK := Lib.hid (fun (cs : List UInt8) wx (T : WrTo wC lo p v1 cs d wx) => WrTo.trans G1 hk1 (WrTo.fr0 FC T))
        have TC := WrTo.refl WC
        obtain ⟨z0, z1⟩ := HBC.out _ _ TC
        have hwn1 : IntKind.u64.wrap (n1 : Int) = (n1 : Int) := by simp [IntKind.wrap, IntKind.bits, IntKind.signed]; omega
        have hwn2 : IntKind.u64.wrap (n2 : Int) = (n2 : Int) := by simp [IntKind.wrap, IntKind.bits, IntKind.signed]; omega
        have HLC := Lib.hid (show (b2 ++ (f.binds.take k).flatMap bindW).length + ((shortN n1).length + (shortN n2).length) ≤ 50000000 by have h1 := HTL.out; rw [HBW.out] at h1; have h2 := HL.out; have h3 := HL1.out; have h4 := HL2.out; simp only [List.length_append]; omega)
        obtain ⟨b3, hb3⟩ : ∃ b3, b3 = b2 ++ (f.binds.take k).flatMap bindW := ⟨_, rfl⟩
        rw [← hb3] at HLC TC T WC
        have HFIN := Lib.hid (show b2 ++ (f.binds.take (k + 1)).flatMap bindW = (b3 ++ shortN n1) ++ shortN n2 by rw [HTK.out, ← List.append_assoc, ← hb3, List.append_assoc])
        clear hc e0 e1 G1 hk1 FC W1 hb3
        go_wp2_with (first
          | (have hq := T1c; go_at_call 24; refine (wnumber_any T1c n2 (by have := HLC.out; simp only [List.length_append]; omega) (by omega)).mono ?_; rintro e w4' ⟨rfl, T2c⟩)
          | (go_at_call 24; rw [← hwC]; refine (wnumber_any TC n1 (by have := HLC.out; omega) (by omega)).mono ?_; rintro e w3' ⟨rfl, T1c⟩; obtain ⟨u0, u1⟩ := HBC.out _ _ T1c))
        go_roundw
        case rel => exact ⟨k + 1, by omega, by go_num, by rw [HFIN.out]; exact HBK.out _ _ T2c⟩
        case measure => simp [intOf]; omega
      · obtain rfl : k = f.binds.length := by omega
        rw [List.take_of_length_le (Nat.le_refl _)] at T
        go_wp2_with fail
        go_meet
        case rel => exact T
  case rest =>
  obtain ⟨b3, hb3⟩ : ∃ b3, b3 = b2 ++ f.binds.flatMap bindW := ⟨_, rfl⟩
  rw [← hb3] at hcut
  have HL3 := Lib.hid (show b3.length = b2.length + (f.binds.flatMap bindW).length by rw [hb3, List.length_append])
  have HFIN := Lib.hid (show bs ++ folderW f = b3 ++ (if 1 < f.packs.length then packsI f.packs else []) by rw [HFW.out, hb3, HB2.out, HB1.out])
  clear hb3 T2 y0 y1 y2 y3 y4 y5
  obtain ⟨w3, hw3⟩ : ∃ w3, w3 = wc := ⟨_, rfl⟩
  rw [← hw3] at hcut ⊢
  clear hw3
  have T3 := hcut
  clear hcut
  refine hK3 _ _ ?_
  clear hK3
  obtain ⟨y0, y1, y2, y3, y4, y5⟩ := HBX.out _ _ T3
  by_cases h1 : 1 < f.packs.length
  rotate_left
  · have t0 : ¬ (1 : Int) < (f.packs.length : Int) := by omega
    rw [if_neg h1, List.append_nil] at HFIN
    clear h1
    go_wp2_with fail
    go_end0
    exact ⟨rfl, by rw [HFIN.out]; exact WrTo.fr0 HFB.out T3⟩
  have t0 : (1 : Int) < (f.packs.length : Int) := by omega
  rw [if_pos h1] at HFIN HL
  clear h1
  go_wp2_with fail
  go_loopw [96] (fun i wr => ∃ k : Nat, k ≤ f.packs.length ∧ i = .int .i64 k ∧ WrTo wB lo p v (b3 ++ packsI (f.packs.take k)) d wr) (fun i _ => f.packs.length - (intOf i).toNat)
  case atStart => exact ⟨0, Nat.zero_le _, rfl, by simpa [packsI] using T3⟩
  case round =>
    obtain ⟨k, hk, rfl, T⟩ := hrel
    by_cases hlt : k < f.packs.length
    · obtain ⟨x, hx⟩ := some_get f.packs k hlt
      obtain ⟨q1, o1, hao, hq1, e0⟩ := HPO.out k (by omega)
      subst hao
      have hq1' := Nat.lt_of_lt_of_le hq1 (HF0.out _ _ T).size
      have f0 := ((HF0.out _ _ T).cell (p := ⟨q1, o1 + k, none⟩) hq1 (by simp)).trans (e0 k hlt)
      rw [iv_get _ _ _ hx] at f0
      obtain ⟨hd1, hd2⟩ := HPK.out x (List.mem_of_getElem? hx)
      obtain ⟨n1, rfl⟩ := Int.eq_ofNat_of_zero_le hd1
      have hwn1 : IntKind.u64.wrap (n1 : Int) = (n1 : Int) := by simp [IntKind.wrap, IntKind.bits, IntKind.signed]; omega
      have HTK := Lib.hid (show packsI (f.packs.take (k + 1)) = packsI (f.packs.take k) ++ shortN n1 by simp [packsI, List.take_add_one, hx])
      have hle : (packsI (f.packs.take k)).length ≤ (packsI f.packs).length := by have := flat_le (fun x : Int => shortN x.toNat) hx; unfold packsI; omega
      clear hx e0
      go_wp2_with (go_at_call 24; refine (wnumber_any T n1 (by have := HL.out; have := HL1.out; have := HL2.out; have := HL3.out; rw [List.length_append]; omega) (by omega)).mono ?_; rintro e w5 ⟨rfl, T5⟩)
      go_roundw
      case rel => exact ⟨k + 1, by omega, by go_num, by rw [HTK.out, ← List.append_assoc]; exact T5⟩
      case measure => simp [intOf]; omega
    · obtain rfl : k = f.packs.length := by omega
      rw [List.take_of_length_le (Nat.le_refl _), ← HFIN.out] at T
      go_wp2_with fail
      go_end0
      exact ⟨rfl, WrTo.fr0 HFB.out T⟩
end Go.Proofs.YtkodindajfdagaaDoor
