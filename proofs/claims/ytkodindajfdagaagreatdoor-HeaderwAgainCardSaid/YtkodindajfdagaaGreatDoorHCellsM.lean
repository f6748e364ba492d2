/- The cells of checks, subs, folders and files. No condition. -/
import Derived.Test.YtkodindajfdagaaGreatDoorHSmM
import Derived.Test.YtkodindajfdagaaGreatDoorJA
namespace Go.Proofs.YtkodindajfdagaaGreatDoor
open Go.RowKit
def ckV (l : List Ck) : List Value:=l.flatMap fun c => [.bool c.has,.int .u32 c.sum.toNat]
theorem ckV_append (a b : List Ck) : ckV (a ++ b) = ckV a ++ ckV b:=by simp [ckV]
theorem info_ck : (Tryz.prog.info? 68).map (fun i => (i.zero,i.size,i.bytes)) = some (some (.agg #[.bool false,.int .u32 0]),2,8):=by kernel_rfl
theorem sty_ck : SlTyM Tryz.prog 33 68 (.agg #[.bool false,.int .u32 0]) 2 8:=⟨Tryz.underlying33,by obtain ⟨i,h⟩:=info_parts info_ck;exact ⟨i,h⟩,rfl,by decide⟩
def sbV (l : List Sub) : List Value:=l.flatMap fun x => [.int .u64 x.size.toNat,.bool x.ck.has,.int .u32 x.ck.sum.toNat]
theorem own_litM (w : World) (e : TypeId) (m n : Nat) (l : List Value) (hl : l.length = n * m) (hn : n ≤ 1000000) : (w.alloc (.cells l.toArray e)).ownsRow w.heap.size e m (.slice (some ⟨w.heap.size,0,none⟩) n n) n l :=
 ⟨hl,.inr ⟨w.heap.size,n,l.toArray,rfl,Nat.le_refl _,heap_alloc_new w _,Nat.le_refl _,by unfold maxLen;omega,by simpa using hl,by rw [← hl];simp⟩⟩
structure FoRow where
 cv : Value
 bv : Value
 pv : Value
 sv : Value
 has : Bool
 sum : UInt32
def FoRow.cells (r : FoRow) : List Value:=[r.cv,r.bv,r.pv,r.sv,.bool r.has,.int .u32 r.sum.toNat]
def foV (l : List FoRow) : List Value:=l.flatMap FoRow.cells
theorem foV_append (a b : List FoRow) : foV (a ++ b) = foV a ++ foV b:=by simp [foV]
theorem foV_get : ∀ (l : List FoRow) (i : Nat) (r : FoRow),l[i]? = some r → ∀ k,k < 6 → (foV l)[i * 6 + k]? = r.cells[k]?
 | [],i,r,h,k,hk => by simp at h
 | x :: t,0,r,h,k,hk => by
   simp at h
   subst h
   rw [show foV (x :: t) = x.cells ++ foV t from rfl,Nat.zero_mul,Nat.zero_add,List.getElem?_append_left (show k < x.cells.length from hk)]
 | x :: t,i + 1,r,h,k,hk => by
   rw [show foV (x :: t) = x.cells ++ foV t from rfl,show (i + 1) * 6 + k = 6 + (i * 6 + k) by omega,List.getElem?_append_right (show x.cells.length ≤ 6 + (i * 6 + k) from Nat.le_add_right 6 _)]
   rw [show 6 + (i * 6 + k) - x.cells.length = i * 6 + k by simp [FoRow.cells]]
   exact foV_get t i r (by simpa using h) k hk
theorem foV_set : ∀ (l : List FoRow) (i : Nat) (r : FoRow) (v : Value),l[i]? = some r → (foV l).set (i * 6 + 3) v = foV (l.set i { r with sv:=v })
 | [],i,r,v,h => by simp at h
 | x :: t,0,r,v,h => by
   simp at h
   subst h
   rfl
 | x :: t,i + 1,r,v,h => by
   have ih:=foV_set t i r v (by simpa using h)
   rw [show foV (x :: t) = x.cells ++ foV t from rfl,show (x :: t).set (i + 1) { r with sv:=v } = x :: t.set i { r with sv:=v } from rfl,show foV (x :: t.set i { r with sv:=v }) = x.cells ++ foV (t.set i { r with sv:=v }) from rfl,← ih]
   rw [List.set_append_right _ _ (show x.cells.length ≤ (i + 1) * 6 + 3 by show 6 ≤ _;omega)]
   rw [show (i + 1) * 6 + 3 - x.cells.length = i * 6 + 3 by show (i + 1) * 6 + 3 - 6 = _;omega]
theorem foV_set2 : ∀ (l : List FoRow) (i : Nat) (r : FoRow) (h : Bool) (m : UInt32),l[i]? = some r → ((foV l).set (i * 6 + 4) (.bool h)).set (i * 6 + 5) (.int .u32 m.toNat) = foV (l.set i { r with has:=h,sum:=m })
 | [],i,r,h,m,e => by simp at e
 | x :: t,0,r,h,m,e => by
   simp at e
   subst e
   rfl
 | x :: t,i + 1,r,h,m,e => by
   have ih:=foV_set2 t i r h m (by simpa using e)
   rw [show foV (x :: t) = x.cells ++ foV t from rfl,show (x :: t).set (i + 1) { r with has:=h,sum:=m } = x :: t.set i { r with has:=h,sum:=m } from rfl,show foV (x :: t.set i { r with has:=h,sum:=m }) = x.cells ++ foV (t.set i { r with has:=h,sum:=m }) from rfl,← ih]
   rw [List.set_append_right _ _ (show x.cells.length ≤ (i + 1) * 6 + 4 by show 6 ≤ _;omega),List.set_append_right _ _ (show x.cells.length ≤ (i + 1) * 6 + 5 by show 6 ≤ _;omega)]
   rw [show (i + 1) * 6 + 4 - x.cells.length = i * 6 + 4 by show (i + 1) * 6 + 4 - 6 = _;omega,show (i + 1) * 6 + 5 - x.cells.length = i * 6 + 5 by show (i + 1) * 6 + 5 - 6 = _;omega]
def Fil.cells (x : Fil) : List Value:=[.string ⟨x.name.toArray⟩,.bool x.stream,.bool x.dir,.bool x.hasAttr,.int .u32 x.attr.toNat,.bool x.hasTime,.int .u64 x.time.toNat]
def fiV (l : List Fil) : List Value:=l.flatMap Fil.cells
theorem fiV_cons (x : Fil) (t : List Fil) : fiV (x :: t) = x.cells ++ fiV t:=rfl
theorem fiV_length (l : List Fil) : (fiV l).length = l.length * 7:=by
 induction l with
 | nil => rfl
 | cons r t ih => rw [fiV_cons,List.length_append,ih];simp [Fil.cells];omega
theorem fiV_get : ∀ (l : List Fil) (i : Nat) (r : Fil),l[i]? = some r → ∀ k,k < 7 → (fiV l)[i * 7 + k]? = r.cells[k]?
 | [],i,r,h,k,hk => by simp at h
 | x :: t,0,r,h,k,hk => by
   simp at h
   subst h
   rw [fiV_cons,Nat.zero_mul,Nat.zero_add,List.getElem?_append_left (show k < x.cells.length from hk)]
 | x :: t,i + 1,r,h,k,hk => by
   rw [fiV_cons,show (i + 1) * 7 + k = 7 + (i * 7 + k) by omega,List.getElem?_append_right (show x.cells.length ≤ 7 + (i * 7 + k) from Nat.le_add_right 7 _)]
   rw [show 7 + (i * 7 + k) - x.cells.length = i * 7 + k by simp [Fil.cells]]
   exact fiV_get t i r (by simpa using h) k hk
theorem fiV_set : ∀ (l : List Fil) (i : Nat) (x y : Fil) (j : Nat) (v : Value),l[i]? = some x → j < 7 → x.cells.set j v = y.cells → (fiV l).set (i * 7 + j) v = fiV (l.set i y)
 | [],i,x,y,j,v,h,_,_ => by simp at h
 | a :: t,0,x,y,j,v,h,hj,e => by
   simp at h
   subst h
   rw [show (a :: t).set 0 y = y :: t from rfl,fiV_cons,fiV_cons,Nat.zero_mul,Nat.zero_add,List.set_append_left _ _ (show j < a.cells.length from hj),e]
 | a :: t,i + 1,x,y,j,v,h,hj,e => by
   have ih:=fiV_set t i x y j v (by simpa using h) hj e
   rw [show (a :: t).set (i + 1) y = a :: t.set i y from rfl,fiV_cons,fiV_cons,← ih]
   rw [List.set_append_right _ _ (show a.cells.length ≤ (i + 1) * 7 + j by show 7 ≤ _;omega)]
   rw [show (i + 1) * 7 + j - a.cells.length = i * 7 + j by show (i + 1) * 7 + j - 7 = _;omega]
end Go.Proofs.YtkodindajfdagaaGreatDoor
