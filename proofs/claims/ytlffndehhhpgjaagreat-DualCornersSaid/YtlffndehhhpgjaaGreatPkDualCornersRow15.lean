/- Walks and plain laws for DualCornersRow, part 15. -/
import Derived.ChangeOld
import Derived.Deep.Slices
import Derived.Lib.SmallJoins
import Derived.Test.YtlffndehhhpgjaaGreatChecked
import Derived.Test.YtlffndehhhpgjaaGreatRows
import Derived.JoinedOf
import Derived.ProofKit
import Derived.Test.YtlffndehhhpgjaaGreatPkDualCornersRow14
namespace Go.Proofs.YtlffndehhhpgjaaGreat
set_option linter.unusedVariables false
set_option linter.unusedSimpArgs false
set_option maxRecDepth 100000
set_option maxHeartbeats 4000000
section
open Go.ChangeShapes Go.WideShapes Go.ChangeAt Go.RowKit Go.Deep
def zJN(n:Int):Prop:= -9223372036854775808<=n∧n<=9223372036854775807
theorem fits64{n:Int}(h:(Lit.int .i64 n).wf=true):zJN n:=by
 simpa[zJN,Lit.wf,IntKind.min,IntKind.max,IntKind.signed,IntKind.bits]using h
theorem zOP{w:World}{a:Addr}{v:Value}(h:w.cell? a=some v):a=⟨a.block,a.off,none⟩∧a.block<w.heap.size:=by
 unfold World.cell? at h
 split at h
 ·rename_i c _ _ hb
  obtain⟨b,o,s⟩:=a
  cases s with
  |none=>exact⟨rfl,(Array.getElem?_eq_some_iff.1 hb).1⟩
  |some s=>simp at h
 ·simp at h
theorem add_plain(b o:Nat)(i:Nat):(Addr.mk b o none).add i=⟨b,o+i,none⟩:=by
 unfold Addr.add
 split
 ·rename_i h;rw[h];rfl
 ·rfl
section
variable {H:Type} {enc:TypeId×Value->H} {P:Program} {w:World} {base:Nat} {held:Bool}
theorem zMY{e q:TypeId}{fuel:Nat}{a:Option Addr}{n cap:Nat}{x:DataW H×List MemPlace}(he:P.underlying e=some (.slice q))(hq:P.underlying q=some (.int .i64))(cq:P.cellsOf q=1)
 (h:DataW.trod enc P w base (fun _=>true) held fuel e [.slice a n cap]=some x):∃l:List Int,l.length=n∧n<=maxLen∧zAI w a l∧∀y∈l,zJN y:=by
 rcases open_ints he hq cq h with⟨hcs,_⟩|⟨x,l,c,zs,hcs,_,hl,hm,hz,_,hcell,hwz⟩
 ·simp at hcs
  obtain⟨rfl,rfl,rfl⟩:=hcs
  exact⟨[],rfl,by decide,fun j hj=>by simp at hj,fun y hy=>by simp at hy⟩
 ·simp at hcs
  obtain⟨rfl,rfl,rfl⟩:=hcs
  simp only[if_true]at hz
  refine⟨zs.take n,by rw[List.length_take];omega,by omega,fun j hj=>?_,fun y hy=>fits64 (hwz y (List.mem_of_mem_take hy))⟩
  rw[List.length_take]at hj
  have h0:=zOP (hcell 0 (by omega))
  simp only[Addr.add,if_true]at h0
  obtain⟨b,o,s⟩:=x
  have hs:s=none:=by have:=h0.1;simp at this;exact this
  subst hs
  refine⟨b,o,rfl,h0.2,?_⟩
  have:=hcell j (by omega)
  rw[add_plain]at this
  rw[this]
  simp[List.getElem?_take,show j<n by omega,List.getD]
theorem arg_ints{r:Reach}{b0:Nat}{e q:TypeId}{v:Value}{d:DataW H}{p:List MemPlace}(he:P.underlying e=some (.slice q))(hq:P.underlying q=some (.int .i64))(cq:P.cellsOf q=1)
 (hv:Value.okWide P w r b0 e v)(h:DataW.Trod enc P w base (fun _=>true) held e v d p):∃a n cap,∃l:List Int,v=.slice a n cap∧l.length=n∧n<=maxLen∧zAI w a l∧∀y∈l,zJN y:=by
 obtain⟨a,n,cap,rfl⟩:=okWide_slice he hv
 obtain⟨fuel,hf⟩:=h
 obtain⟨l,h1,h2,h3,h4⟩:=zMY he hq cq (by simpa[Value.cells]using hf)
 exact⟨a,n,cap,l,rfl,h1,h2,h3,h4⟩
theorem arg_rows{r:Reach}{b0:Nat}{t e q:TypeId}{v:Value}{d:DataW H}{p:List MemPlace}(ht:P.underlying t=some (.slice e))(ce:P.cellsOf e=1)(he:P.underlying e=some (.slice q))(hq:P.underlying q=some (.int .i64))(cq:P.cellsOf q=1)
 (hv:Value.okWide P w r b0 t v)(h:DataW.Trod enc P w base (fun _=>true) held t v d p):∃a n cap,∃l:List (List Int),v=.slice a n cap∧l.length=n∧n<=maxLen∧zAN w a l∧∀y∈l,∀z∈y,zJN z:=by
 obtain⟨a,n,cap,rfl⟩:=okWide_slice ht hv
 obtain⟨fuel,hf⟩:=h
 rcases open_slice1 ht ce (by simpa[Value.cells]using hf)with⟨hcs,_⟩|⟨x,len,c',m,nn,V,D,Pl,hcs,_,hl,hm,hmm,_,hx⟩
 ·simp at hcs
  obtain⟨rfl,rfl,rfl⟩:=hcs
  exact⟨none,0,0,[],rfl,rfl,by decide,fun j hj=>by simp at hj,fun y hy=>by simp at hy⟩
 simp at hcs
 obtain⟨rfl,rfl,rfl⟩:=hcs
 simp only[if_true]at hmm
 have each:∀i,i<n->∃y:List Int×Option Addr×Nat×Nat,w.cell? (x.add i)=some (.slice y.2.1 y.2.2.1 y.2.2.2)∧y.1.length=y.2.2.1∧y.2.2.1<=maxLen∧zAI w y.2.1 y.1∧(∀z∈y.1,zJN z):=by
  intro i hi
  obtain⟨hc,t0⟩:=hx i (by omega)
  have hsl:∃ra rn rc,V i=.slice ra rn rc:=by
   rcases open_ints he hq cq t0 with⟨hcs,_⟩|⟨x,l,c,zs,hcs,_⟩
   ·simp at hcs;exact⟨_,_,_,hcs⟩
   ·simp at hcs;exact⟨_,_,_,hcs⟩
  obtain⟨ra,rn,rc,hV⟩:=hsl
  rw[hV]at hc t0
  obtain⟨l,q1,q2,q3,q4⟩:=zMY he hq cq t0
  exact⟨(l,ra,rn,rc),hc,q1,q2,q3,q4⟩
 haveI:Inhabited (List Int×Option Addr×Nat×Nat):=⟨([],none,0,0)⟩
 obtain⟨y,hy⟩:=choose_lt each
 refine⟨some x,n,cap,(List.range n).map fun i=>(y i).1,rfl,by simp,by omega,fun j hj=>?_,fun z hz=>?_⟩
 ·have hjn:j<n:=by simpa using hj
  have hp:=zOP (hy 0 (by omega)).1
  simp only[Addr.add,if_true]at hp
  obtain⟨b,o,s⟩:=x
  have hs':s=none:=by have:=hp.1;simp at this;exact this
  subst hs'
  obtain⟨r0,r3,r4,r5,r6⟩:=hy j hjn
  rw[add_plain]at r0
  refine⟨b,o,(y j).2.1,(y j).2.2.1,(y j).2.2.2,rfl,hp.2,r0,?_,r4,?_⟩<;>simp only[List.getElem_map,List.getElem_range]<;>assumption
 ·obtain⟨i,hi,rfl⟩:=List.mem_map.1 hz
  exact(hy i (List.mem_range.1 hi)).2.2.2.2
end
end
section
namespace dualCorners
open Go.RowKit
theorem closedF:joinedFacts Tryz.prog 11 Tryz.f11 Rows.dualCornersSpec Rows.dualCornersRow=true:=by
 unfold joinedFacts
 simp only[Bool.and_eq_true]
 repeat' apply And.intro
 all_goals (as_aux_lemma=>kernel_rfl)
end dualCorners
end
end Go.Proofs.YtlffndehhhpgjaaGreat
