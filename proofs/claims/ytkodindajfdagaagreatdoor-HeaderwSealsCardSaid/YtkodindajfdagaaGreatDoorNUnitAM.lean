/- The package variables that the library reads; contract: utf8.ValidString; rows of units. No condition. -/
import Derived.Test.YtkodindajfdagaaGreatDoorJA
import Derived.Test.YtkodindajfdagaaGreatDoorShelf
import Derived.Test.YtkodindajfdagaaGreatDoorJE
import Derived.Lib.ConvBytes
import Derived.Laws.IdiomStrings
import Derived.Lib.OthersKept
namespace Go.Proofs.YtkodindajfdagaaGreatDoor
open Go.RowKit

def ba (l : List UInt8) : ByteArray := ⟨l.toArray⟩
def ls (s : ByteArray) : List UInt8 := s.data.toList
@[simp] theorem ls_ba (l : List UInt8) : ls (ba l) = l := by simp [ls, ba]
theorem ba_ls (s : ByteArray) : ba (ls s) = s := by simp [ls, ba]
theorem ls_size (s : ByteArray) : (ls s).length = s.size := by unfold ls ByteArray.size; exact Array.length_toList
theorem ba_size (l : List UInt8) : (ba l).size = l.length := by unfold ba ByteArray.size; simp

/-- The package variables that the library reads. -/
structure Gl (w : World) : Prop where
  tabs : Lib.Utf8Tabs 0 1 w
  sz : 2 ≤ w.heap.size

theorem Gl.frS {w w' : World} {S : List Nat} (h : Gl w) (F : Fr S w w') (hS : ∀ i ∈ S, 2 ≤ i) : Gl w' := by
  have hn : ∀ b, b < 2 → b ∉ S := fun b hb hm => by have := hS b hm; omega
  exact ⟨⟨fun c hc => (F.cell (p := ⟨0, c, none⟩) (by have := h.sz; dsimp only; omega) (hn 0 (by omega))).trans (h.tabs.1 c hc), fun i hi => ⟨(F.cell (p := ⟨1, 2 * i, none⟩) (by have := h.sz; dsimp only; omega) (hn 1 (by omega))).trans (h.tabs.2 i hi).1, (F.cell (p := ⟨1, 2 * i + 1, none⟩) (by have := h.sz; dsimp only; omega) (hn 1 (by omega))).trans (h.tabs.2 i hi).2⟩⟩, Nat.le_trans h.sz F.size⟩
theorem Gl.fr {w w' : World} (h : Gl w) (F : Fr [] w w') : Gl w' := h.frS F (by simp)

theorem valid_any (w : World) (l : List UInt8) (hG : Gl w) (hl : l.length ≤ 100000) :
    Calls Tryz.prog 118 #[.string ⟨l.toArray⟩] w fun e w' => e = .returned (.bool (runesL l).isSome) ∧ Fr [] w w' := by
  have hsz : (⟨l.toArray⟩ : ByteArray).size = l.length := by simp [ByteArray.size]
  refine (Tryz.utf8_ValidString ⟨l.toArray⟩ w (by omega) hG.tabs).mono ?_
  rintro e w2 ⟨rfl, hb⟩
  exact ⟨by rw [← valid_runes], Fr.of_below hb⟩

theorem info_u16 : (Tryz.prog.info? 50).map (fun i => (i.zero, i.size, i.bytes)) = some (some (.int .u16 0), 1, 2) := by kernel_rfl
theorem sty_u16 : SlTy Tryz.prog 47 50 (.int .u16 0) 2 := ⟨Tryz.underlying47, by obtain ⟨i, h⟩ := info_parts info_u16; exact ⟨i, h⟩, rfl⟩
def hv (l : List Nat) : List Value := l.map fun (k : Nat) => .int .u16 (k : Int)
theorem hv_len (l : List Nat) : (hv l).length = l.length := by simp [hv]
theorem hv_get {l : List Nat} {j x : Nat} (h : l[j]? = some x) : (hv l)[j]? = some (.int .u16 (x : Int)) := by simp [hv, h]

theorem Fr.iterAt {S : List Nat} {a w : World} (h : Fr S a w) {k : Nat} (hk : k ∈ S ∨ a.heap.size ≤ k) (s : ByteArray) (p : Nat) : Fr S a (w.iterAt k s p) := by
  refine ⟨h.os, h.tape, h.output, ?_, fun j hj hm => ?_⟩
  · have := h.size
    simp [World.iterAt]
    exact this
  · have hne : j ≠ k := fun e => by
      subst e
      rcases hk with hk | hk
      · exact hm hk
      · omega
    have : (w.iterAt k s p).heap[j]? = w.heap[j]? := by simp [World.iterAt, hne.symm]
    rw [this]
    exact h.block j hj hm

theorem bt_drop (l : List UInt8) (pos j : Nat) : ((⟨l.toArray⟩ : ByteArray).get! (pos + j)).toNat = bt (l.drop pos) j := by
  rw [get_bt]
  unfold bt
  simp [List.getD_eq_getElem?_getD]

theorem decode_drop (l : List UInt8) (pos : Nat) : Utf8.decode ⟨l.toArray⟩ pos = Lib.decodeN (l.length - pos) (bt (l.drop pos) 0) (bt (l.drop pos) 1) (bt (l.drop pos) 2) (bt (l.drop pos) 3) := by
  rw [Lib.decode_at]
  have h0 := bt_drop l pos 0
  rw [Nat.add_zero] at h0
  rw [h0, bt_drop, bt_drop, bt_drop]
  simp [ByteArray.size]

end Go.Proofs.YtkodindajfdagaaGreatDoor
