/- An archive of an area and a header, in plain Lean: what Open tells of it. No condition. -/
import Derived.Test.YtcnangcbffoabaaGreatDoorHOpenP
import Derived.Test.YtcnangcbffoabaaGreatDoorHCrcI
import Derived.Test.YtcnangcbffoabaaGreatDoorPutSpec
namespace Go.Proofs.YtcnangcbffoabaaGreatDoor

def sealStart (n m s : Nat) : List UInt8 := leBytes 8 n ++ (leBytes 8 m ++ leBytes 4 s)
def sealHead (n m s : Nat) : List UInt8 := [55, 122, 188, 175, 39, 28, 0, 4] ++ (leBytes 4 (crcL (sealStart n m s)) ++ sealStart n m s)
def sealA (area head : List UInt8) : List UInt8 := if head = [] then [] else area
def sealL (area head : List UInt8) : List UInt8 := sealHead (sealA area head).length head.length (crcL head) ++ (sealA area head ++ head)
theorem sealStart_len (n m s : Nat) : (sealStart n m s).length = 20 := by simp [sealStart, leBytes_length]
theorem sealHead_len (n m s : Nat) : (sealHead n m s).length = 32 := by simp [sealHead, leBytes_length, sealStart_len]
theorem take_exact {α : Type} {a c : List α} {k : Nat} (h : a.length = k) : (a ++ c).take k = a := by subst h; simp
theorem drop_exact {α : Type} {a c : List α} {k : Nat} (h : a.length = k) : (a ++ c).drop k = c := by subst h; simp
/-- What Open reads ahead of the area. -/
theorem seal_parts (n m s : Nat) (T : List UInt8) (hn : n < 18446744073709551616) (hm : m < 18446744073709551616) (hs : s < 4294967296) :
    let b := sealHead n m s ++ T
    b.drop 32 = T ∧ opPlace b = n ∧ opSize b = m ∧ opSum b = s ∧ opCode b = opTail n m s T.length (crcL (T.drop n)) := by
  intro b
  have hb : b = [55, 122, 188, 175, 39, 28, 0, 4] ++ (leBytes 4 (crcL (sealStart n m s)) ++ (leBytes 8 n ++ (leBytes 8 m ++ (leBytes 4 s ++ T)))) := by
    simp [b, sealHead, sealStart]
  have h32 : b.drop 32 = T := drop_exact (sealHead_len n m s)
  have h8 : b.drop 8 = leBytes 4 (crcL (sealStart n m s)) ++ (leBytes 8 n ++ (leBytes 8 m ++ (leBytes 4 s ++ T))) := by rw [hb]; exact drop_exact rfl
  have h12 : b.drop 12 = leBytes 8 n ++ (leBytes 8 m ++ (leBytes 4 s ++ T)) := by
    rw [show (12 : Nat) = 8 + 4 from rfl, ← List.drop_drop, h8]; exact drop_exact (leBytes_length _ _)
  have h20 : b.drop 20 = leBytes 8 m ++ (leBytes 4 s ++ T) := by
    rw [show (20 : Nat) = 12 + 8 from rfl, ← List.drop_drop, h12]; exact drop_exact (leBytes_length _ _)
  have h28 : b.drop 28 = leBytes 4 s ++ T := by
    rw [show (28 : Nat) = 20 + 8 from rfl, ← List.drop_drop, h20]; exact drop_exact (leBytes_length _ _)
  have hP : opPlace b = n := by
    unfold opPlace; rw [h12, take_exact (leBytes_length _ _), leNat_leBytes 8 n (by simpa using hn)]
  have hZ : opSize b = m := by
    unfold opSize; rw [h20, take_exact (leBytes_length _ _), leNat_leBytes 8 m (by simpa using hm)]
  have hS : opSum b = s := by
    unfold opSum; rw [h28, take_exact (leBytes_length _ _), leNat_leBytes 4 s (by simpa using hs)]
  have hlen : b.length = 32 + T.length := by simp [b, sealHead_len]
  have hst : (b.drop 12).take 20 = sealStart n m s := by
    rw [h12, show leBytes 8 n ++ (leBytes 8 m ++ (leBytes 4 s ++ T)) = sealStart n m s ++ T by simp [sealStart]]
    exact take_exact (sealStart_len n m s)
  refine ⟨h32, hP, hZ, hS, ?_⟩
  have hc : crcL (sealStart n m s) < 4294967296 := by unfold crcL; omega
  rw [opCode_t, hP, hZ, hS, hlen]
  · rw [show 32 + T.length - 32 = T.length by omega, show b.drop (32 + n) = T.drop n by rw [← List.drop_drop, h32]]
  · rw [hlen, show min 6 (32 + T.length) = 6 by omega, hb]; rfl
  · omega
  · rw [hb]; show ¬((0 : UInt8).toNat ≠ 0 ∨ 4 < (4 : UInt8).toNat); decide
  · rw [h8, take_exact (leBytes_length _ _), leNat_leBytes 4 _ (by simpa using hc), hst]; simp
theorem magic_ok (X : List UInt8) : ((([55, 122, 188, 175, 39, 28, 0, 4] : List UInt8) ++ X).take (min 6 (([55, 122, 188, 175, 39, 28, 0, 4] : List UInt8) ++ X).length) == magicL.take (min 6 (([55, 122, 188, 175, 39, 28, 0, 4] : List UInt8) ++ X).length)) = true := by
  have h : min 6 (([55, 122, 188, 175, 39, 28, 0, 4] : List UInt8) ++ X).length = 6 := by rw [List.length_append]; show min 6 (8 + X.length) = 6; omega
  rw [h]; rfl
theorem crcL_nil : crcL [] = 0 := rfl
theorem crc_small (l : List UInt8) : crcL l < 4294967296 := by unfold crcL; omega
theorem sealA_len (area head : List UInt8) : (sealA area head).length ≤ area.length := by unfold sealA; split <;> simp
/-- The archive is opened. -/
theorem seal_open (area head : List UInt8) (ha : area.length ≤ 16384) (hh : head.length ≤ 16384) :
    opCode (sealL area head) = 0 ∧ opArea (sealL area head) = sealA area head ∧ opHead (sealL area head) = head := by
  have hl := sealA_len area head
  obtain ⟨h1, h2, h3, h4, h5⟩ := seal_parts (sealA area head).length head.length (crcL head) (sealA area head ++ head) (by omega) (by omega) (crc_small _)
  have h0 : opCode (sealL area head) = 0 := by
    unfold sealL
    rw [h5, drop_exact rfl, List.length_append]
    unfold opTail
    rw [if_neg (by omega), if_neg ?_, if_neg (by omega), if_neg (by omega), if_neg (by simp)]
    rintro ⟨e1, e2⟩
    have : head = [] := List.eq_nil_of_length_eq_zero e1
    subst this
    simp [sealA, crcL_nil] at e2
  refine ⟨h0, ?_, ?_⟩
  · unfold opArea; rw [if_pos h0]; unfold sealL; rw [h1, h2]; exact take_exact rfl
  · unfold opHead; rw [if_pos h0]; unfold sealL; rw [h2, ← List.drop_drop, h1]; exact drop_exact rfl
/-- With a byte behind it is told: Trail. -/
theorem seal_trail (area head : List UInt8) (t : UInt8) (ha : area.length ≤ 16384) (hh : head.length ≤ 16384) : opCode (sealL area head ++ [t]) = 19 := by
  have hl := sealA_len area head
  obtain ⟨h1, h2, h3, h4, h5⟩ := seal_parts (sealA area head).length head.length (crcL head) (sealA area head ++ head ++ [t]) (by omega) (by omega) (crc_small _)
  rw [show sealL area head ++ [t] = sealHead (sealA area head).length head.length (crcL head) ++ (sealA area head ++ head ++ [t]) by simp [sealL], h5]
  unfold opTail
  rw [if_neg (by omega), if_neg ?_, if_neg (by simp <;> omega), if_pos (by simp <;> omega)]
  rintro ⟨e1, e2⟩
  have : head = [] := List.eq_nil_of_length_eq_zero e1
  subst this
  simp [sealA, crcL_nil] at e2
/-- Of one fewer: Short. -/
theorem seal_short (area head : List UInt8) (ha : area.length ≤ 16384) (hh : head.length ≤ 16384) : opCode ((sealL area head).take ((sealL area head).length - 1)) = 3 := by
  have hl := sealA_len area head
  have hlen : (sealL area head).length = 32 + ((sealA area head).length + head.length) := by simp [sealL, sealHead_len]
  by_cases hz : (sealA area head).length + head.length = 0
  · rw [hlen, hz]
    refine opCode_s ?_ ?_
    · have : (sealL area head).take 31 = [55, 122, 188, 175, 39, 28, 0, 4] ++ ((sealL area head).drop 8).take 23 := by
        rw [show (31 : Nat) = 8 + 23 from rfl, List.take_add, show (sealL area head).take 8 = [55, 122, 188, 175, 39, 28, 0, 4] by simp [sealL, sealHead]]
      rw [show 32 + 0 - 1 = 31 from rfl, this]
      exact magic_ok _
    · simp <;> omega
  · obtain ⟨h1, h2, h3, h4, h5⟩ := seal_parts (sealA area head).length head.length (crcL head) ((sealA area head ++ head).take ((sealA area head).length + head.length - 1)) (by omega) (by omega) (crc_small _)
    have he : (sealL area head).take ((sealL area head).length - 1) = sealHead (sealA area head).length head.length (crcL head) ++ (sealA area head ++ head).take ((sealA area head).length + head.length - 1) := by
      rw [hlen]
      unfold sealL
      rw [List.take_append, sealHead_len, List.take_of_length_le (by rw [sealHead_len]; omega), show 32 + ((sealA area head).length + head.length) - 1 - 32 = (sealA area head).length + head.length - 1 by omega]
    rw [he, h5]
    unfold opTail
    rw [if_neg (by omega), if_neg ?_, if_pos (by simp <;> omega)]
    rintro ⟨e1, e2⟩
    have : head = [] := List.eq_nil_of_length_eq_zero e1
    subst this
    simp [sealA, crcL_nil] at e2
/-- A byte of the header turned: Crc. -/
theorem seal_turn (area l t : List UInt8) (x y : UInt8) (hx : x ≠ y) (ha : area.length ≤ 16384) (hh : (l ++ x :: t).length ≤ 16384) :
    opCode (sealHead (sealA area (l ++ x :: t)).length (l ++ x :: t).length (crcL (l ++ x :: t)) ++ (sealA area (l ++ x :: t) ++ (l ++ y :: t))) = 4 := by
  have hl := sealA_len area (l ++ x :: t)
  have hq : (l ++ y :: t).length = (l ++ x :: t).length := by simp
  have hp : 0 < (l ++ x :: t).length := by rw [List.length_append, List.length_cons]; omega
  have hc := crcL_turn l t y x (Ne.symm hx)
  obtain ⟨h1, h2, h3, h4, h5⟩ := seal_parts (sealA area (l ++ x :: t)).length (l ++ x :: t).length (crcL (l ++ x :: t)) (sealA area (l ++ x :: t) ++ (l ++ y :: t)) (by omega) (by omega) (crc_small _)
  rw [h5, drop_exact rfl, show (sealA area (l ++ x :: t) ++ (l ++ y :: t)).length = (sealA area (l ++ x :: t)).length + (l ++ x :: t).length by rw [List.length_append, hq]]
  generalize (l ++ x :: t).length = m at *
  unfold opTail
  rw [if_neg (by omega), if_neg (by omega), if_neg (by omega), if_neg (by omega), if_pos ⟨hp, hc⟩]
end Go.Proofs.YtcnangcbffoabaaGreatDoor
