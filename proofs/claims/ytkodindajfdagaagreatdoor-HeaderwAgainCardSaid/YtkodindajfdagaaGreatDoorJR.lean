/- What a header's writer puts, in plain Lean. No condition. -/
import Derived.Test.YtkodindajfdagaaGreatDoorHCellsM
import Derived.Test.YtkodindajfdagaaGreatDoorJA
import Derived.Test.YtkodindajfdagaaGreatDoorJE
namespace Go.Proofs.YtkodindajfdagaaGreatDoor
open Go.RowKit
def shortN (v : Nat) : List UInt8:=firstByte v :: leBytes (extra v) v
theorem putNumber_short (b : List UInt8) (v : Nat) : putNumber b v = b ++ shortN v:=rfl
theorem shortN_le (v : Nat) : (shortN v).length ≤ 9:=by
 have:=extra_le v
 simp [shortN,leBytes_length];omega
def toldN (row : List Bool) : List UInt8:=if row.all id then [1] else 0 :: packBits row
theorem putTold_told (b : List UInt8) (row : List Bool) : putTold b row = b ++ toldN row:=by
 unfold putTold toldN
 split
 · rfl
 · simp
theorem put_le (b : List UInt8) (k v : Nat) (h : Cur.sized (k : Int) = true) : put b (k : Int) v = b ++ leBytes k v:=by
 unfold put
 rw [if_pos h]
 rfl
def ckB (c : Ck) : List UInt8:=if c.has then leBytes 4 c.sum.toNat else []
def sumsW (cs : List Ck) : List UInt8:=if true ∈ cs.map (·.has) then 10 :: (toldN (cs.map (·.has)) ++ cs.flatMap ckB) else []
def partW (id : UInt8) (x : List UInt8) : List UInt8:=id :: (shortN x.length ++ x)
def unitsB (us : List Nat) : List UInt8:=us.flatMap (leBytes 2)
def nameU (l : List UInt8) : List Nat:=unitsR ((runesL l).getD [])
def nameB (l : List UInt8) : List UInt8:=unitsB (nameU l ++ [0])
def namesW (F : List Fil) : List UInt8:=0 :: F.flatMap fun f => nameB f.name
def emptyB (F : List Fil) : List Bool:=F.map fun f => !f.stream
def plainB (F : List Fil) : List Bool:=(F.filter fun f => !f.stream).map fun f => !f.dir
def rowsW (F : List Fil) : List UInt8:=(if plainB F = [] then [] else partW 14 (packBits (emptyB F))) ++ (if true ∈ plainB F then partW 15 (packBits (plainB F)) else [])
def timeOf (f : Fil) : Nat × Bool:=(f.time.toNat,f.hasTime)
def attrOf (f : Fil) : Nat × Bool:=(f.attr.toNat,f.hasAttr)
def hasV (of : Fil → Nat × Bool) (F : List Fil) : List Bool:=F.map fun f => (of f).2
def valsV (of : Fil → Nat × Bool) (size : Nat) (F : List Fil) : List UInt8:=F.flatMap fun f => if (of f).2 then leBytes size (of f).1 else []
def numsW (id : UInt8) (size : Nat) (of : Fil → Nat × Bool) (F : List Fil) : List UInt8 :=
 if true ∈ hasV of F then partW id ((toldN (hasV of F) ++ [0]) ++ valsV of size F) else []
def filesW (F : List Fil) : List UInt8 :=
 if F = [] then [] else 5 :: (shortN F.length ++ (rowsW F ++ (partW 17 (namesW F) ++ (numsW 20 8 timeOf F ++ (numsW 21 4 attrOf F ++ [0])))))
def mayFil (f : Fil) : Bool:=(runesL f.name).isSome && !(decide ((0 : UInt8) ∈ f.name)) && !(f.stream && f.dir) && (f.hasAttr || f.attr == 0) && (f.hasTime || f.time == 0)
end Go.Proofs.YtkodindajfdagaaGreatDoor
/- A text's units hold a 0 just if its bytes do. No condition. -/
namespace Go.Proofs.YtkodindajfdagaaGreatDoor
theorem zero_unitsN (v : Nat) : 0 ∈ unitsN v ↔ v = 0:=by
 unfold unitsN
 split
 · simp only [List.mem_singleton]
   omega
 · simp only [List.mem_cons,List.not_mem_nil,or_false]
   omega
theorem zero_encL (v : Nat) (h : scal v) : (0 : UInt8) ∈ encL v ↔ v = 0:=by
 have hb:=encN_byte v (by unfold scal at h;omega)
 unfold encL
 rw [List.mem_map]
 constructor
 · rintro ⟨a,ha,hz⟩
   have h256:=hb a ha
   have h0 : a = 0:=by
     have:=congrArg UInt8.toNat hz
     simp at this
     omega
   subst h0
   unfold encN at ha
   unfold scal at h
   repeat' split at ha
   all_goals simp at ha
   all_goals omega
 · rintro rfl
   exact ⟨0,by unfold encN;simp,rfl⟩
theorem zero_text (n : Nat) : ∀ (l : List UInt8) (rs : List Nat),l.length ≤ n → runesL l = some rs → ((0 : UInt8) ∈ l ↔ 0 ∈ unitsR rs):=by
 induction n with
 | zero =>
   intro l rs hl h
   obtain rfl : l = []:=List.eq_nil_of_length_eq_zero (by omega)
   rw [runesL_nil] at h
   obtain rfl : [] = rs:=Option.some.inj h
   simp [unitsR]
 | succ n ih =>
   intro l rs hl h
   by_cases h0 : l = []
   · subst h0
     rw [runesL_nil] at h
     obtain rfl : [] = rs:=Option.some.inj h
     simp [unitsR]
   cases hs : stepL l with
   | none => rw [runesL_none h0 hs] at h;cases h
   | some r =>
     obtain ⟨v,k⟩:=r
     obtain ⟨hv,he,hk⟩:=enc_step h0 hs
     have h1:=(encL_len v).1
     have hlen:=congrArg List.length he
     rw [List.length_take] at hlen
     rw [runesL_some h0 hs] at h
     obtain ⟨y,hy,rfl⟩:=Option.map_eq_some_iff.1 h
     have g:=ih (l.drop k) y (by simp;omega) hy
     rw [show unitsR (v :: y) = unitsN v ++ unitsR y from rfl,List.mem_append,zero_unitsN v,← g,← zero_encL v hv,he,← List.mem_append,List.take_append_drop]
end Go.Proofs.YtkodindajfdagaaGreatDoor
