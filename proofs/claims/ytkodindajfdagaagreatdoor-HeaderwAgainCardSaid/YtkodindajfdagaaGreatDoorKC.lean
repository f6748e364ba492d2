/- What descriptions may be written, in plain Lean. No condition. -/
import Derived.Test.YtkodindajfdagaaGreatDoorKB
import Derived.Test.YtkodindajfdagaaGreatDoorJW
import Derived.Test.YtkodindajfdagaaGreatDoorKA
import Derived.Test.YtkodindajfdagaaGreatDoorHWholeM
import Derived.Laws.StructEq
namespace Go.Proofs.YtkodindajfdagaaGreatDoor
open Go.RowKit
def ckOk (c : Ck) : Bool:=c.has || c.sum == 0
def coOk (c : Coder) (z : UInt64) : Bool:=!(decide (ins c.method = 0)) && decide (c.props.length ≤ 65536) && decide (z.toNat ≤ 1099511627776)
def coAll (f : Folder) : Bool:=(f.coders.zip f.sizes).all fun x => coOk x.1 x.2
def allOf (f : Folder) : Nat:=f.first f.coders.length
def biOk (all n : Nat) (b : Int × Int) : Bool:=decide (0 ≤ b.1) && decide (b.1 < all) && decide (0 ≤ b.2) && decide (b.2 < n)
def paOk (all : Nat) (x : Int) : Bool:=decide (0 ≤ x) && decide (x < all)
def foHead (x : Fol) : Bool:=decide (1 ≤ x.f.coders.length) && decide (x.f.coders.length ≤ 8) && decide (x.f.binds.length + 1 = x.f.coders.length) && decide (x.f.sizes.length = x.f.coders.length) && ckOk x.ck
def paHead (f : Folder) : Bool:=decide (f.packs.length + f.binds.length = allOf f) && f.packs.all (paOk (allOf f))
def lonely (f : Folder) : Bool:=decide (1 < f.packs.length) || decide (f.packs[0]? = some (loneN f : Int))
def mayFol (x : Fol) : Bool:=foHead x && coAll x.f && x.f.binds.all (biOk (allOf x.f) x.f.coders.length) && paHead x.f && lonely x.f
def subsGo : Nat → List Sub → Option Nat
 | n,[] => some n
 | n,s :: t => if n < s.size.toNat ∨ ckOk s.ck = false then none else subsGo (n - s.size.toNat) t
def subsEnd (x : Fol) (l : List Sub) : Bool:=decide (1 < l.length) || !x.ck.has || decide (l[0]?.map (·.ck) = some x.ck)
def maySub (x : Fol) (l : List Sub) : Bool:=!(decide (l = [])) && decide (subsGo (wholeOf x.f).toNat l = some 0) && subsEnd x l
def manyOf (S : List (List Sub)) : Nat:=(S.map List.length).sum
def mayRows (L : List Fol) (S : List (List Sub)) : Bool:=(L.zip S).all fun p => mayFol p.1 && maySub p.1 p.2
def mayStr (D : StD) : Bool:=decide (D.pl.toNat ≤ 1099511627776) && sizesUp 0 D.ps && decide (D.cs.length = D.ps.length) && decide (D.S.length = D.L.length) && D.cs.all ckOk && mayRows D.L D.S
theorem zip_all {α β : Type} {p : α × β → Bool} {A : List α} {B : List β} (h : (A.zip B).all p = true) {k : Nat} {a : α} {b : β} (ha : A[k]? = some a) (hb : B[k]? = some b) : p (a,b) = true :=
 List.all_eq_true.1 h _ (List.mem_of_getElem? (by rw [List.getElem?_zip_eq_some];exact ⟨ha,hb⟩))
theorem all_ge {f : Folder} (h : ∀ c ∈ f.coders,ins c.method ≠ 0) : ∀ k,k ≤ f.coders.length → k ≤ f.first k:=by
 intro k
 induction k with
 | zero => intro _;exact Nat.zero_le _
 | succ k ih =>
   intro hk
   obtain ⟨x,hx⟩:=some_get f.coders k (by omega)
   have h1:=ih (by omega)
   rw [f.first_succ k x hx]
   have h2:=h x (List.mem_of_getElem? hx)
   omega
theorem allOf_le (f : Folder) : allOf f ≤ 4 * f.coders.length:=f.first_le _
theorem ins_zero (m : Int) : ins m = 0 ↔ ¬ (1 ≤ m ∧ m ≤ 7):=by
 unfold ins
 constructor
 · intro h ⟨h1,h2⟩
   by_cases e : m = 6
   · simp [e] at h
   · simp [e,h1,h2] at h
 · intro h
   have e : m ≠ 6:=by omega
   rw [if_neg e,if_neg h]
end Go.Proofs.YtkodindajfdagaaGreatDoor
/- Equality of checks. No condition. -/
namespace Go.Proofs.YtkodindajfdagaaGreatDoor
open Go.RowKit
theorem fields_ck : Tryz.prog.underlying 68 = some (.struct (Tryz.prog.fieldsOf 68)):=by kernel_rfl
theorem stood_ck : Tryz.prog.stoodInHeld 68 = false:=by kernel_rfl
theorem run_eql_ck (a b : Bool) (x y : Int) (w : World) : (binOp .eql 68 (.agg #[.bool a,.int .u32 x]) (.agg #[.bool b,.int .u32 y])).run Tryz.prog w = .ok (.bool ((a == b) && (x == y))) w:=by
 rw [run_eql_struct,run_equalIn_struct w 9999 _ _ _ fields_ck stood_ck]
 have hf : (Tryz.prog.fieldsOf 68).toList.map (fun f => (f.name, f.type, f.offset)) = [("Has", 4, 0), ("Sum", 52, 1)] := by kernel_rfl
 have hb : Tryz.prog.underlying 4 = some .bool:=Tryz.underlying4
 have hu : Tryz.prog.underlying 52 = some (.int .u32):=Tryz.underlying52
 generalize (Tryz.prog.fieldsOf 68).toList = L at hf ⊢
 rcases L with _ | ⟨f1,_ | ⟨f2,_ | ⟨f3,t⟩⟩⟩
 · simp at hf
 · simp at hf
 · simp only [List.map_cons,List.map_nil,List.cons.injEq,Prod.mk.injEq,and_true] at hf
   obtain ⟨⟨n1,t1,o1⟩,⟨n2,t2,o2⟩⟩:=hf
   simp only [Op.eqFields,n1,t1,o1,n2,t2,o2]
   cases hab : (a == b) <;> cases hxy : (x == y) <;> go_simp
 · simp at hf
end Go.Proofs.YtkodindajfdagaaGreatDoor
/- Equality of structs that are the same. No condition. -/
namespace Go.Proofs.YtkodindajfdagaaGreatDoor
open Go.RowKit
theorem fields_fi : Tryz.prog.underlying 54 = some (.struct (Tryz.prog.fieldsOf 54)):=by kernel_rfl
theorem stood_fi : Tryz.prog.stoodInHeld 54 = false:=by kernel_rfl
theorem eqin_fi (nm : ByteArray) (a b c d : Bool) (x y : Int) (w : World) : (Op.equalIn 10000 54 (.agg #[.string nm,.bool a,.bool b,.bool c,.int .u32 x,.bool d,.int .u64 y]) (.agg #[.string nm,.bool a,.bool b,.bool c,.int .u32 x,.bool d,.int .u64 y])).run Tryz.prog w = .ok true w:=by
 rw [run_equalIn_struct w 9999 _ _ _ fields_fi stood_fi]
 have hf : (Tryz.prog.fieldsOf 54).toList.map (fun f => (f.name, f.type, f.offset)) = [("Name", 9, 0), ("Stream", 4, 1), ("Dir", 4, 2), ("HasAttr", 4, 3), ("Attr", 52, 4), ("HasTime", 4, 5), ("Time", 31, 6)] := by kernel_rfl
 have hu0 : Tryz.prog.underlying 9 = some .string:=Tryz.underlying9
 have hu1 : Tryz.prog.underlying 4 = some .bool:=Tryz.underlying4
 have hu2 : Tryz.prog.underlying 52 = some (.int .u32):=Tryz.underlying52
 have hu3 : Tryz.prog.underlying 31 = some (.int .u64):=Tryz.underlying31
 generalize (Tryz.prog.fieldsOf 54).toList = L at hf ⊢
 rcases L with _ | ⟨f1,_ | ⟨f2,_ | ⟨f3,_ | ⟨f4,_ | ⟨f5,_ | ⟨f6,_ | ⟨f7,_ | ⟨f8,t⟩⟩⟩⟩⟩⟩⟩⟩
 · simp at hf
 · simp at hf
 · simp at hf
 · simp at hf
 · simp at hf
 · simp at hf
 · simp at hf
 · simp only [List.map_cons,List.map_nil,List.cons.injEq,Prod.mk.injEq,and_true] at hf
   obtain ⟨⟨n1,t1,o1⟩,⟨n2,t2,o2⟩,⟨n3,t3,o3⟩,⟨n4,t4,o4⟩,⟨n5,t5,o5⟩,⟨n6,t6,o6⟩,⟨n7,t7,o7⟩⟩:=hf
   simp only [Op.eqFields,n1,t1,o1,n2,t2,o2,n3,t3,o3,n4,t4,o4,n5,t5,o5,n6,t6,o6,n7,t7,o7]
   go_simp
 · simp at hf
theorem neq_fi (nm : ByteArray) (a b c d : Bool) (x y : Int) (w : World) : (binOp .neq 54 (.agg #[.string nm,.bool a,.bool b,.bool c,.int .u32 x,.bool d,.int .u64 y]) (.agg #[.string nm,.bool a,.bool b,.bool c,.int .u32 x,.bool d,.int .u64 y])).run Tryz.prog w = .ok (.bool false) w:=by
 rw [run_neq_struct,eqin_fi]
 rfl
theorem eqin_ck (a : Bool) (x : Int) (w : World) : (Op.equalIn 10000 68 (.agg #[.bool a,.int .u32 x]) (.agg #[.bool a,.int .u32 x])).run Tryz.prog w = .ok true w:=by
 rw [run_equalIn_struct w 9999 _ _ _ fields_ck stood_ck]
 have hf : (Tryz.prog.fieldsOf 68).toList.map (fun f => (f.name, f.type, f.offset)) = [("Has", 4, 0), ("Sum", 52, 1)] := by kernel_rfl
 have hu0 : Tryz.prog.underlying 4 = some .bool:=Tryz.underlying4
 have hu1 : Tryz.prog.underlying 52 = some (.int .u32):=Tryz.underlying52
 generalize (Tryz.prog.fieldsOf 68).toList = L at hf ⊢
 rcases L with _ | ⟨f1,_ | ⟨f2,_ | ⟨f3,t⟩⟩⟩
 · simp at hf
 · simp at hf
 · simp only [List.map_cons,List.map_nil,List.cons.injEq,Prod.mk.injEq,and_true] at hf
   obtain ⟨⟨n1,t1,o1⟩,⟨n2,t2,o2⟩⟩:=hf
   simp only [Op.eqFields,n1,t1,o1,n2,t2,o2]
   go_simp
 · simp at hf
theorem neq_ck (a : Bool) (x : Int) (w : World) : (binOp .neq 68 (.agg #[.bool a,.int .u32 x]) (.agg #[.bool a,.int .u32 x])).run Tryz.prog w = .ok (.bool false) w:=by
 rw [run_neq_struct,eqin_ck]
 rfl
theorem fields_bi : Tryz.prog.underlying 109 = some (.struct (Tryz.prog.fieldsOf 109)):=by kernel_rfl
theorem stood_bi : Tryz.prog.stoodInHeld 109 = false:=by kernel_rfl
theorem eqin_bi (x y : Int) (w : World) : (Op.equalIn 10000 109 (.agg #[.int .i64 x,.int .i64 y]) (.agg #[.int .i64 x,.int .i64 y])).run Tryz.prog w = .ok true w:=by
 rw [run_equalIn_struct w 9999 _ _ _ fields_bi stood_bi]
 have hf : (Tryz.prog.fieldsOf 109).toList.map (fun f => (f.name, f.type, f.offset)) = [("In", 3, 0), ("Out", 3, 1)] := by kernel_rfl
 have hu0 : Tryz.prog.underlying 3 = some (.int .i64):=Tryz.underlying3
 generalize (Tryz.prog.fieldsOf 109).toList = L at hf ⊢
 rcases L with _ | ⟨f1,_ | ⟨f2,_ | ⟨f3,t⟩⟩⟩
 · simp at hf
 · simp at hf
 · simp only [List.map_cons,List.map_nil,List.cons.injEq,Prod.mk.injEq,and_true] at hf
   obtain ⟨⟨n1,t1,o1⟩,⟨n2,t2,o2⟩⟩:=hf
   simp only [Op.eqFields,n1,t1,o1,n2,t2,o2]
   go_simp
 · simp at hf
theorem neq_bi (x y : Int) (w : World) : (binOp .neq 109 (.agg #[.int .i64 x,.int .i64 y]) (.agg #[.int .i64 x,.int .i64 y])).run Tryz.prog w = .ok (.bool false) w:=by
 rw [run_neq_struct,eqin_bi]
 rfl
theorem fields_sb : Tryz.prog.underlying 89 = some (.struct (Tryz.prog.fieldsOf 89)):=by kernel_rfl
theorem stood_sb : Tryz.prog.stoodInHeld 89 = false:=by kernel_rfl
theorem eqin_sb (y : Int) (a : Bool) (x : Int) (w : World) : (Op.equalIn 10000 89 (.agg #[.int .u64 y,.bool a,.int .u32 x]) (.agg #[.int .u64 y,.bool a,.int .u32 x])).run Tryz.prog w = .ok true w:=by
 rw [run_equalIn_struct w 9999 _ _ _ fields_sb stood_sb]
 have hf : (Tryz.prog.fieldsOf 89).toList.map (fun f => (f.name, f.type, f.offset)) = [("Size", 31, 0), ("Check", 68, 1)] := by kernel_rfl
 have hu0 : Tryz.prog.underlying 31 = some (.int .u64):=Tryz.underlying31
 generalize (Tryz.prog.fieldsOf 89).toList = L at hf ⊢
 rcases L with _ | ⟨f1,_ | ⟨f2,_ | ⟨f3,t⟩⟩⟩
 · simp at hf
 · simp at hf
 · simp only [List.map_cons,List.map_nil,List.cons.injEq,Prod.mk.injEq,and_true] at hf
   obtain ⟨⟨n1,t1,o1⟩,⟨n2,t2,o2⟩⟩:=hf
   simp only [Op.eqFields,n1,t1,o1,n2,t2,o2]
   go_simp
 · simp at hf
theorem neq_sb (y : Int) (a : Bool) (x : Int) (w : World) : (binOp .neq 89 (.agg #[.int .u64 y,.bool a,.int .u32 x]) (.agg #[.int .u64 y,.bool a,.int .u32 x])).run Tryz.prog w = .ok (.bool false) w:=by
 rw [run_neq_struct,eqin_sb]
 rfl
end Go.Proofs.YtkodindajfdagaaGreatDoor
