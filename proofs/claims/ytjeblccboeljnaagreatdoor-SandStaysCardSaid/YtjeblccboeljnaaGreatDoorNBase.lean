/- Strings as lists of bytes; the package variables that the library reads. No condition. -/
import Derived.Test.YtjeblccboeljnaaGreatDoorBase
import Derived.Test.YtjeblccboeljnaaGreatDoorShelf
import Derived.Lib.ConvBytes
import Derived.Laws.IdiomStrings
namespace Go.Proofs.YtjeblccboeljnaaGreatDoor
open Go.RowKit

def ba (l : List UInt8) : ByteArray := ⟨l.toArray⟩
def ls (s : ByteArray) : List UInt8 := s.data.toList
@[simp] theorem ls_ba (l : List UInt8) : ls (ba l) = l := by simp [ls, ba]
theorem ba_ls (s : ByteArray) : ba (ls s) = s := by simp [ls, ba]
theorem ls_size (s : ByteArray) : (ls s).length = s.size := by unfold ls ByteArray.size; exact Array.length_toList
theorem ba_size (l : List UInt8) : (ba l).size = l.length := by unfold ba ByteArray.size; simp

/-- The package variables that the library reads. -/
structure Gl (w : World) : Prop where
  tabs : Lib.Utf8Tabs 0 1 w
  ml : ∃ m, w.cell? ⟨2, 0, none⟩ = some (.int .i64 m)
  sz : 3 ≤ w.heap.size

theorem Gl.fr {w w' : World} (h : Gl w) (F : Fr [] w w') : Gl w' := by
  refine ⟨?_, ?_, Nat.le_trans h.sz F.size⟩
  · refine ⟨fun c hc => (F.cell (p := ⟨0, c, none⟩) (by have := h.sz; dsimp only; omega) (by simp)).trans (h.tabs.1 c hc), fun i hi => ⟨(F.cell (p := ⟨1, 2 * i, none⟩) (by have := h.sz; dsimp only; omega) (by simp)).trans (h.tabs.2 i hi).1, (F.cell (p := ⟨1, 2 * i + 1, none⟩) (by have := h.sz; dsimp only; omega) (by simp)).trans (h.tabs.2 i hi).2⟩⟩
  · obtain ⟨m, hm⟩ := h.ml
    exact ⟨m, (F.cell (p := ⟨2, 0, none⟩) (by have := h.sz; dsimp only; omega) (by simp)).trans hm⟩

/-- A byte, a small letter for a great one. -/
def lowB (b : UInt8) : UInt8 := if 65 ≤ b.toNat ∧ b.toNat ≤ 90 then UInt8.ofNat (b.toNat + 32) else b
def foldL (l : List UInt8) : List UInt8 := l.map lowB

theorem small_any (w : World) (b : UInt8) : Calls Tryz.prog 104 #[.int .u8 b.toNat] w fun e w' => e = .returned (.int .u8 (lowB b).toNat) ∧ w' = w := by
  have hb := b.toNat_lt
  by_cases h : 65 ≤ b.toNat ∧ b.toNat ≤ 90
  · have HE := Lib.hid (show ((lowB b).toNat : Int) = (b.toNat : Int) + 32 by simp [lowB, h]; omega)
    have h1 : (65 : Int) ≤ (b.toNat : Int) := by omega
    have h2 : (b.toNat : Int) ≤ 90 := by omega
    clear h
    go_enter Tryz.func104, Tryz.ntmps104
    go_wp2_with fail
    go_ret
    exact ⟨by rw [HE.out]; show Ending.returned (Value.int IntKind.u8 ((b.toNat : Int) + 97 - 65)) = _; rw [show (b.toNat : Int) + 97 - 65 = (b.toNat : Int) + 32 from by omega], rfl⟩
  · have HE := Lib.hid (show lowB b = b by simp only [lowB, if_neg h])
    rcases (show b.toNat < 65 ∨ (65 ≤ b.toNat ∧ 90 < b.toNat) by omega) with h1 | ⟨h1, h2⟩
    · have h1' : (b.toNat : Int) < 65 := by omega
      clear h h1
      go_enter Tryz.func104, Tryz.ntmps104
      go_wp2_with fail
      go_ret
      exact ⟨by rw [HE.out]; rfl, rfl⟩
    · have h1' : (65 : Int) ≤ (b.toNat : Int) := by omega
      have h2' : (90 : Int) < (b.toNat : Int) := by omega
      clear h h1 h2
      go_enter Tryz.func104, Tryz.ntmps104
      go_wp2_with fail
      go_ret
      exact ⟨by rw [HE.out]; rfl, rfl⟩

/-- '[]byte(s)': a new block, the call's own. -/
theorem conv_sb (w : World) (s : ByteArray) : ∃ (cap : Nat) (wB : World), (convert 9 24 (.string s)).run Tryz.prog w = .ok (.slice (some ⟨w.heap.size, 0, none⟩) s.size cap) wB ∧ Fr [] w wB ∧ wB.heap.size = w.heap.size + 1 ∧
    ∀ (j : Nat) b, (ls s)[j]? = some b → wB.cell? ⟨w.heap.size, j, none⟩ = some (.int .u8 b.toNat) ∧ wB.frozen? ⟨w.heap.size, j, none⟩ = false := by
  have h := run_bytes_of_string (P := Tryz.prog) w 9 24 5 s Tryz.underlying9 Tryz.underlying24 Tryz.underlying5
  refine ⟨_, _, h, ((Fr.refl _ _).drew).alloc _, by simp, fun j b hb => ?_⟩
  have hj : j < s.data.size := by have := (List.getElem?_eq_some_iff.1 hb).1; simpa [ls] using this
  have he : s.data[j] = b := by
    have := (List.getElem?_eq_some_iff.1 hb).2
    simpa [ls] using this
  constructor
  · have := World.cell?_alloc_mark w.drew (bytesRow s (grownCap w s.size 0 5)) 5 ((bytesRow s (grownCap w s.size 0 5)).size, (bytesRow s (grownCap w s.size 0 5)).size + 1) j
    rw [bytesRow_at _ _ _ hj, he] at this
    exact this
  · have := World.frozen?_alloc_mark w.drew (bytesRow s (grownCap w s.size 0 5)) 5 (bytesRow s (grownCap w s.size 0 5)).size ((bytesRow s (grownCap w s.size 0 5)).size + 1) j
    refine this.trans ?_
    have h2 : (bytesRow s (grownCap w s.size 0 5)).size = s.data.size + (grownCap w s.size 0 5 - s.size) := by simp [bytesRow]
    simp
    omega

/-- 'string(b)'. -/
theorem conv_bs (w : World) (b cap : Nat) (l : List UInt8) (n : Nat) (hn : n = l.length) (h : ∀ (j : Nat) x, l[j]? = some x → w.cell? ⟨b, j, none⟩ = some (.int .u8 x.toNat)) :
    (convert 24 9 (.slice (some ⟨b, 0, none⟩) n cap)).run Tryz.prog w = .ok (.string (ba l)) w := by
  subst hn
  refine run_convert_bytes_back w 24 9 5 ⟨b, 0, none⟩ cap l Tryz.underlying24 Tryz.underlying5 Tryz.underlying9 (fun j hj => ?_)
  have e : (⟨b, 0, none⟩ : Addr).add j = ⟨b, j, none⟩ := by unfold Addr.add; split <;> simp_all
  rw [e]
  exact h j _ (by simp)

theorem fold_any (w : World) (s : ByteArray) (hs : s.size ≤ 100000) : Calls Tryz.prog 97 #[.string s] w fun e w' => e = .returned (.string (ba (foldL (ls s)))) ∧ Fr [] w w' := by
  obtain ⟨cap, wB, hcv, F0, sB, hcell⟩ := conv_sb w s
  have HS := Lib.hid (ls_size s)
  have HC := Lib.hid hcell
  clear hcell
  have HB := Lib.hid sB
  generalize hn : s.size = n at *
  go_enter Tryz.func97, Tryz.ntmps97
  go_wp2_with fail
  clear hcv
  go_loopw [10] (fun i wr => ∃ k : Nat, k ≤ n ∧ i = .int .i64 k ∧ Fr [w.heap.size] wB wr ∧ (∀ (j : Nat) b, (ls s)[j]? = some b → wr.cell? ⟨w.heap.size, j, none⟩ = some (.int .u8 (if j < k then lowB b else b).toNat) ∧ wr.frozen? ⟨w.heap.size, j, none⟩ = false)) (fun i _ => n - (intOf i).toNat)
  case atStart => exact ⟨0, Nat.zero_le _, rfl, Fr.refl _ _, fun j b hb => by simpa using HC.out j b hb⟩
  case round =>
    obtain ⟨k, hk, rfl, F, hcl⟩ := hrel
    by_cases hlt : k < n
    · obtain ⟨x, hx⟩ := some_get (ls s) k (by rw [HS.out]; exact hlt)
      obtain ⟨c0, f0⟩ := hcl k x hx
      rw [if_neg (by omega)] at c0
      have hlt' : (k : Int) < (n : Int) := by omega
      have HCL := Lib.hid hcl
      have HX := Lib.hid hx
      clear hcl hx
      go_wp2_with (go_at_call 104; refine (small_any _ x).mono ?_; rintro e w2 ⟨rfl, rfl⟩)
      go_roundw
      case rel =>
        refine ⟨k + 1, by omega, by go_num, F.setCell (.inl (by simp)) _, fun j b hb => ?_⟩
        by_cases hjk : j = k
        · subst hjk
          obtain rfl : x = b := Option.some.inj (HX.out.symm.trans hb)
          rw [if_pos (by omega)]
          exact ⟨World.cell?_setCell_same _ _ _ c0, by rw [World.frozen?_setCell]; exact f0⟩
        · obtain ⟨c1, f1⟩ := HCL.out j b hb
          refine ⟨?_, by rw [World.frozen?_setCell]; exact f1⟩
          rw [World.cell?_setCell_other _ _ _ _ (by intro e; injection e with _ e2 _; omega), c1]
          by_cases h2 : j < k
          · rw [if_pos h2, if_pos (by omega)]
          · rw [if_neg h2, if_neg (by omega)]
      case measure => simp [intOf]; omega
    · have hke : k = n := by omega
      subst hke
      have hcv := conv_bs wr w.heap.size cap (foldL (ls s)) k (by simp [foldL, HS.out]) (fun j y hy => by
        unfold foldL at hy
        rw [List.getElem?_map] at hy
        obtain ⟨b, hb, rfl⟩ := Option.map_eq_some_iff.1 hy
        have hjl : j < (ls s).length := (List.getElem?_eq_some_iff.1 hb).1
        rw [HS.out] at hjl
        have := (hcl j b hb).1
        rwa [if_pos hjl] at this)
      clear hcl
      go_wp2_with fail
      go_ret
      exact ⟨rfl, F0.trans1 F (.inr (Nat.le_refl _))⟩
end Go.Proofs.YtjeblccboeljnaaGreatDoor
