/- How long what is written is, at most. No condition. -/
import Derived.Test.YtkodindajfdagaaGreatDoorKE
import Derived.Test.YtkodindajfdagaaGreatDoorKF
namespace Go.Proofs.YtkodindajfdagaaGreatDoor
open Go.RowKit
theorem flat_sum {α : Type} (f : α → List UInt8) (g : α → Nat) (l : List α) (h : ∀ x ∈ l,(f x).length ≤ g x) : (l.flatMap f).length ≤ (l.map g).sum:=by
 induction l with
 | nil => exact Nat.le_refl _
 | cons x t ih =>
   rw [List.flatMap_cons,List.length_append,List.map_cons,List.sum_cons]
   have h1:=h x (by simp)
   have h2:=ih (fun y hy => h y (List.mem_cons_of_mem _ hy))
   omega
theorem sum_const {α : Type} (k : Nat) (l : List α) : (l.map fun _ => k).sum = k * l.length:=by
 induction l with
 | nil => rfl
 | cons x t ih => rw [List.map_cons,List.sum_cons,ih,List.length_cons,Nat.mul_succ];omega
theorem sum_add {α : Type} (f g : α → Nat) (l : List α) : (l.map fun x => f x + g x).sum = (l.map f).sum + (l.map g).sum:=by
 induction l with
 | nil => rfl
 | cons x t ih => rw [List.map_cons,List.sum_cons,ih,List.map_cons,List.sum_cons,List.map_cons,List.sum_cons];omega
theorem sum_mul {α : Type} (k : Nat) (f : α → Nat) (l : List α) : (l.map fun x => k * f x).sum = k * (l.map f).sum:=by
 induction l with
 | nil => rfl
 | cons x t ih => rw [List.map_cons,List.sum_cons,ih,List.map_cons,List.sum_cons,Nat.mul_add]
theorem flat_const {α : Type} (f : α → List UInt8) (k : Nat) (l : List α) (h : ∀ x ∈ l,(f x).length ≤ k) : (l.flatMap f).length ≤ k * l.length:=by
 rw [← sum_const k l]
 exact flat_sum f (fun _ => k) l h
theorem unitsR_le (rs : List Nat) : (unitsR rs).length ≤ 2 * rs.length:=by
 induction rs with
 | nil => exact Nat.le_refl _
 | cons x t ih =>
   show (unitsN x ++ unitsR t).length ≤ _
   rw [List.length_append,List.length_cons]
   have : (unitsN x).length ≤ 2:=by unfold unitsN;split <;> simp
   omega
theorem nameU_le (l : List UInt8) : (nameU l).length ≤ 2 * l.length:=by
 unfold nameU
 cases h : runesL l with
 | none => exact Nat.zero_le _
 | some rs =>
   have h1:=(runes_scal _ l rs (Nat.le_refl _) h).2
   have h2:=unitsR_le rs
   show (unitsR rs).length ≤ _
   omega
theorem unitsB_len2 (us : List Nat) : (unitsB us).length = 2 * us.length:=by
 induction us with
 | nil => rfl
 | cons x t ih =>
   show (leBytes 2 x ++ unitsB t).length = _
   rw [List.length_append,ih,leBytes_length,List.length_cons]
   omega
def nameN (F : List Fil) : Nat:=(F.map fun f => f.name.length).sum
theorem namesW_all (F : List Fil) : (namesW F).length ≤ 1 + (4 * nameN F + 2 * F.length):=by
 unfold namesW
 rw [List.length_cons]
 have h:=flat_sum (fun f : Fil => nameB f.name) (fun f => 4 * f.name.length + 2) F (fun f _ => by
   show (unitsB (nameU f.name ++ [0])).length ≤ _
   rw [unitsB_len2,List.length_append,List.length_singleton]
   have:=nameU_le f.name
   omega)
 rw [sum_add,sum_mul,sum_const] at h
 unfold nameN
 omega
theorem partW_le (id : UInt8) (x : List UInt8) : (partW id x).length ≤ 10 + x.length:=by
 unfold partW
 rw [List.length_cons,List.length_append]
 have:=shortN_le x.length
 omega
theorem packBits_le (row : List Bool) : (packBits row).length ≤ row.length + 1:=by
 rw [packBits_len]
 omega
theorem toldN_le (row : List Bool) : (toldN row).length ≤ 2 + row.length:=by
 unfold toldN
 split
 · simp;omega
 · rw [List.length_cons];have:=packBits_le row;omega
theorem rowsW_le (F : List Fil) : (rowsW F).length ≤ 22 + 2 * F.length:=by
 unfold rowsW
 rw [List.length_append]
 have h1 : (if plainB F = [] then ([] : List UInt8) else partW 14 (packBits (emptyB F))).length ≤ 11 + F.length:=by
   split
   · exact Nat.zero_le _
   · have a:=partW_le 14 (packBits (emptyB F))
     have b:=packBits_le (emptyB F)
     have c : (emptyB F).length = F.length:=by simp [emptyB]
     omega
 have h2 : (if true ∈ plainB F then partW 15 (packBits (plainB F)) else ([] : List UInt8)).length ≤ 11 + F.length:=by
   split
   · have a:=partW_le 15 (packBits (plainB F))
     have b:=packBits_le (plainB F)
     have c : (plainB F).length ≤ F.length:=by unfold plainB;rw [List.length_map];exact List.length_filter_le _ _
     omega
   · exact Nat.zero_le _
 omega
theorem numsW_le (id : UInt8) (k : Nat) (of : Fil → Nat × Bool) (F : List Fil) : (numsW id k of F).length ≤ 13 + (F.length + k * F.length):=by
 unfold numsW
 split
 · have a:=partW_le id ((toldN (hasV of F) ++ [0]) ++ valsV of k F)
   have b:=toldN_le (hasV of F)
   have c : (hasV of F).length = F.length:=by simp [hasV]
   have d : (valsV of k F).length ≤ k * F.length:=flat_const _ k F (fun f _ => by
     split
     · rw [leBytes_length];exact Nat.le_refl _
     · exact Nat.zero_le _)
   rw [List.length_append,List.length_append,List.length_singleton] at a
   omega
 · exact Nat.zero_le _
theorem filesW_le (F : List Fil) : (filesW F).length ≤ 100 + (20 * F.length + 4 * nameN F):=by
 unfold filesW
 split
 · exact Nat.zero_le _
 · have h1:=shortN_le F.length
   have h2:=rowsW_le F
   have h3:=partW_le 17 (namesW F)
   have h4:=namesW_all F
   have h5:=numsW_le 20 8 timeOf F
   have h6:=numsW_le 21 4 attrOf F
   simp only [List.length_cons,List.length_append,List.length_nil]
   omega
theorem sumsW_le (cs : List Ck) : (sumsW cs).length ≤ 3 + 5 * cs.length:=by
 unfold sumsW
 split
 · have a:=toldN_le (cs.map (·.has))
   have b:=ckB_len cs
   rw [List.length_map] at a
   rw [List.length_cons,List.length_append]
   omega
 · exact Nat.zero_le _
theorem numsB_le9 (l : List UInt64) : (numsB l).length ≤ 9 * l.length:=flat_const _ 9 l (fun _ _ => shortN_le _)
theorem packsW_le (pl : UInt64) (ps : List UInt64) (cs : List Ck) : (packsW pl ps cs).length ≤ 24 + (9 * ps.length + 5 * cs.length):=by
 unfold packsW
 split
 · exact Nat.zero_le _
 · have h1:=shortN_le pl.toNat
   have h2:=shortN_le ps.length
   have h3:=numsB_le9 ps
   have h4:=sumsW_le cs
   have h5 : (if ps = [] then ([] : List UInt8) else [9]).length ≤ 1:=by split <;> simp
   simp only [List.length_cons,List.length_append,List.length_nil]
   omega
def propN (f : Folder) : Nat:=(f.coders.map fun c => c.props.length).sum
theorem coderW_le (c : Coder) : (coderW c).length ≤ c.props.length + 16:=by
 unfold coderW
 have h1:=meth_len c.method
 have h2 : (if c.method = 6 then ([4,1] : List UInt8) else []).length ≤ 2:=by split <;> simp
 have h3 : (if c.props = [] then ([] : List UInt8) else shortN c.props.length ++ c.props).length ≤ 9 + c.props.length:=by
   split
   · simp
   · rw [List.length_append];have:=shortN_le c.props.length;omega
 simp only [List.length_cons,List.length_append]
 omega
def folN (f : Folder) : Nat:=10 + (propN f + (16 * f.coders.length + (18 * f.binds.length + 9 * f.packs.length)))
theorem folderW_le (f : Folder) : (folderW f).length ≤ folN f:=by
 unfold folderW folN propN
 have h1:=shortN_le f.coders.length
 have h2:=flat_sum coderW (fun c => c.props.length + 16) f.coders (fun c _ => coderW_le c)
 rw [sum_add,sum_const] at h2
 have h3:=flat_const bindW 18 f.binds (fun b _ => by unfold bindW;rw [List.length_append];have:=shortN_le b.1.toNat;have:=shortN_le b.2.toNat;omega)
 have h4 : (if 1 < f.packs.length then packsI f.packs else []).length ≤ 9 * f.packs.length:=by
   split
   · exact flat_const _ 9 f.packs (fun _ _ => shortN_le _)
   · exact Nat.zero_le _
 simp only [List.length_append]
 omega
def folSN (L : List Fol) : Nat:=(L.map fun x => folN x.f + 9 * x.f.sizes.length).sum
theorem foldersW_le (L : List Fol) : (foldersW L).length ≤ 24 + (5 * L.length + folSN L):=by
 unfold foldersW
 split
 · exact Nat.zero_le _
 · have h1:=shortN_le L.length
   have h2 : (foB L).length ≤ (L.map fun x => folN x.f).sum:=flat_sum _ _ L (fun x _ => folderW_le x.f)
   have h3 : (szB L).length ≤ (L.map fun x => 9 * x.f.sizes.length).sum:=flat_sum _ _ L (fun x _ => numsB_le9 x.f.sizes)
   have h4:=sumsW_le (cksL L)
   have h5 : (cksL L).length = L.length:=by simp [cksL]
   unfold folSN
   rw [sum_add]
   simp only [List.length_append,List.length_cons,List.length_nil]
   omega
theorem cutB_all (S : List (List Sub)) : (cutB S).length ≤ 9 * manyOf S:=by
 have h:=flat_sum cutOf (fun l => 9 * l.length) S (fun l _ => by
   have:=flat_const (fun s : Sub => shortN s.size.toNat) 9 (l.take (l.length - 1)) (fun _ _ => shortN_le _)
   rw [List.length_take] at this
   unfold cutOf
   omega)
 rw [sum_mul] at h
 exact h
theorem subsW_le (S : List (List Sub)) (L : List Fol) : (subsW S L).length ≤ 10 + (9 * S.length + 14 * manyOf S):=by
 unfold subsW
 split
 · exact Nat.zero_le _
 · have h1 : (cntB S).length ≤ 9 * S.length:=flat_const _ 9 S (fun _ _ => shortN_le _)
   have h2:=cutB_all S
   have h3:=sumsW_le (unkW S L)
   have h4:=unk_le (S:=S) (L:=L)
   have h5 : (if S.any oddS then 13 :: (cntB S ++ (9 :: cutB S)) else []).length ≤ 2 + (9 * S.length + 9 * manyOf S):=by
     split
     · simp only [List.length_cons,List.length_append];omega
     · exact Nat.zero_le _
   simp only [List.length_cons,List.length_append,List.length_nil]
   omega
theorem strmW_le (D : StD) : (strmW D).length ≤ 60 + ((9 * D.ps.length + 5 * D.cs.length) + (5 * D.L.length + folSN D.L) + (9 * D.S.length + 14 * manyOf D.S)):=by
 unfold strmW
 have h1:=packsW_le D.pl D.ps D.cs
 have h2:=foldersW_le D.L
 have h3:=subsW_le D.S D.L
 simp only [List.length_append,List.length_cons,List.length_nil]
 omega
theorem writeW_le (pk : Bool) (D : StD) (F : List Fil) : (writeW pk D F).length ≤ 4 + ((strmW D).length + (filesW F).length):=by
 unfold writeW
 split
 · simp only [List.length_cons];omega
 · split
   · simp only [List.length_append,List.length_cons,List.length_nil];omega
   · simp only [List.length_append,List.length_cons,List.length_nil];omega
end Go.Proofs.YtkodindajfdagaaGreatDoor
