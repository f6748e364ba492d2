/- Arguments that came in, read as lists. No condition. -/
import Derived.Test.YtkodindajfdagaaGreatDoorJA
import Derived.ProofKit
import Derived.OpenShut
import Derived.ShutString
import Derived.ChangeOld
import Derived.Deep.Grids
namespace Go.Proofs.YtkodindajfdagaaGreatDoor
open Go.RowKit Go.ChangeShapes Go.WideShapes Go.ChangeAt
theorem sl_of_cells {w : World} {x : Addr} {len cap : Nat} {vs : List Value} (hl : len ≤ cap) (hm : cap ≤ maxLen) (hz : vs.length = cap)
   (hcell : ∀ i,i < vs.length → w.cell? (x.add i) = vs[i]?) : Sl w (.slice (some x) len cap) (vs.take len):=by
 have hlen : (vs.take len).length = len:=by simp;omega
 refine ⟨some x,cap,by rw [hlen],by omega,by unfold maxLen at hm;omega,by simp,fun a ha hc => ?_⟩
 obtain rfl:=Option.some.inj ha
 have h0:=hcell 0 (by omega)
 obtain ⟨b,o,s⟩:=x
 have e0 : (⟨b,o,s⟩ : Addr).add 0 = ⟨b,o,s⟩:=by simp [Addr.add]
 rw [e0] at h0
 have hv : vs[0]? = some vs[0]:=by simp
 rw [hv] at h0
 have hsp:=World.cell?_spot h0
 dsimp only at hsp
 subst hsp
 refine ⟨rfl,World.block_lt_of_cell? _ _ h0,fun j hj => ?_⟩
 rw [hlen] at hj
 have hadd : (⟨b,o,none⟩ : Addr).add j = ⟨b,o + j,none⟩:=by unfold Addr.add;split <;> simp_all
 dsimp only
 rw [← hadd,hcell j (by omega),List.getElem?_take,if_pos hj]
theorem bytes_of_ints (zs : List Int) (h : ∀ n ∈ zs,(Lit.int .u8 n).wf = true) : ∃ bs : List UInt8,zs.map (Value.int .u8) = bv bs:=by
 refine ⟨zs.map fun z => UInt8.ofNat z.toNat,?_⟩
 simp only [bv,List.map_map]
 apply List.map_congr_left
 intro n hn
 have:=bounds_u8 (h n hn)
 simp
 omega
theorem open_bytes {w : World} {a : Option Addr} {len cap : Nat} {zs : List Int}
   (h : (a = none ∧ len = 0 ∧ cap = 0 ∧ zs = []) ∨ ∃ x,a = some x ∧ len ≤ cap ∧ cap ≤ maxLen ∧ zs.length = cap ∧ (∀ i,i < zs.length → w.cell? (x.add i) = some (.int .u8 (zs.getD i 0))) ∧ ∀ n ∈ zs,(Lit.int .u8 n).wf = true) :
   ∃ bs,Sl w (.slice a len cap) (bv bs):=by
 rcases h with ⟨rfl,rfl,rfl,rfl⟩ | ⟨x,rfl,hl,hm,hz,hcell,hwf⟩
 · exact ⟨[],Sl.nil w⟩
 · obtain ⟨bs,hbs⟩:=bytes_of_ints (zs.take len) (fun n hn => hwf n (List.mem_of_mem_take hn))
   refine ⟨bs,?_⟩
   rw [← hbs,List.map_take]
   refine sl_of_cells hl hm (by simpa using hz) (fun i hi => ?_)
   simp at hi
   rw [hcell i hi]
   simp [hi]
end Go.Proofs.YtkodindajfdagaaGreatDoor
