/- Walks and plain laws for DualNormsRow, part 4. -/
import Derived.Maps.AppendAt
import Derived.Deep.CutRange
import Derived.Lib.SliceRun
import Derived.Test.YtlffndehhhpgjaaGreatPkDualNormsRow3
namespace Go.Proofs.YtlffndehhhpgjaaGreat
set_option linter.unusedVariables false
set_option linter.unusedSimpArgs false
set_option maxRecDepth 100000
set_option maxHeartbeats 4000000
section
section
open Go.RowKit
def RowS(W:World)(v:Value)(l:List Int):Prop:=
 (∃g c,v=.slice (some ⟨g,0,none⟩) l.length c∧zBE W g l)∨(l=[]∧∃a c,v=.slice a 0 c)
theorem RowS.below{W W':World}{v:Value}{l:List Int}(h:RowS W v l)(hb:Below W.heap.size W W'):RowS W' v l:=by
 rcases h with⟨g,c,rfl,hs⟩|h
 ·exact .inl ⟨g,c,rfl,hs.keep (hb.block g hs.lt)⟩
 ·exact .inr h
def TabS(W:World)(base:Nat)(v:Value)(L:List (List Int)):Prop:=
 ∃vs,W.ownsRow base 24 1 v L.length vs∧∀j (hj:j<L.length),∃u,vs[j]? =some u∧RowS W u L[j]
theorem TabS.nil(W:World)(base:Nat):TabS W base (.slice none 0 0) []:=⟨[],World.ownsRow_nil _ _ _ _,fun j hj=>by simp at hj⟩
theorem TabS.below{W W':World}{base:Nat}{v:Value}{L:List (List Int)}(h:TabS W base v L)(hb:Below W.heap.size W W'):TabS W' base v L:=by
 obtain⟨vs,h1,h2⟩:=h
 refine⟨vs,zBF h1 hb,fun j hj=>?_⟩
 obtain⟨u,hu,hr⟩:=h2 j hj
 exact⟨u,hu,hr.below hb⟩
theorem TabS.snoc{W w1 w3:World}{base:Nat}{v v' u:Value}{L:List (List Int)}{r:List Int}{vs:List Value}(h1:W.ownsRow base 24 1 v L.length vs)
 (h2:∀j (hj:j<L.length),∃u,vs[j]? =some u∧RowS W u L[j])(hb:Below W.heap.size W w1)(hr:RowS w1 u r)(hg:w1.grownBy w3 v.ownBlock)
 (ho':w3.ownsRow base 24 1 v' (L.length+1) (vs++[u])):TabS w3 base v' (L++[r]):=by
 have hlen:vs.length=L.length:=by have:=h1.1;omega
 have hown:∀b,v.ownBlock=some b->∃c f,w1.heap[b]? =some (.cells c 24 f):=by
  intro b hb'
  rcases h1.2 with⟨rfl,_⟩|⟨g,cap,cur,rfl,hbg,hgg,_⟩
  ·simp[Value.ownBlock]at hb'
  ·obtain rfl:g=b:=by simpa[Value.ownBlock]using hb'
   exact⟨cur,_,(hb.block g (Array.getElem?_eq_some_iff.1 hgg).1).trans hgg⟩
 have hold:∀b l,zBE w1 b l->zBE w3 b l:=by
  intro b l hs
  refine hs.keep (hg.block b hs.lt ?_)
  intro e
  obtain⟨c,f,hc⟩:=hown b e.symm
  obtain⟨sp,hs⟩:=hs
  rw[hs]at hc
  simp at hc
 have hup:∀u l,RowS w1 u l->RowS w3 u l:=by
  rintro u l (⟨g,c,rfl,hs⟩|h)
  ·exact .inl ⟨g,c,rfl,hold _ _ hs⟩
  ·exact .inr h
 refine⟨vs++[u],by simpa using ho',fun j hj=>?_⟩
 simp only[List.length_append,List.length_cons,List.length_nil,Nat.zero_add]at hj
 by_cases hjl:j<L.length
 ·obtain⟨u',hu',hr'⟩:=h2 j hjl
  rw[List.getElem_append_left hjl]
  exact⟨u',by rw[List.getElem?_append_left (by omega)];exact hu',hup _ _ (hr'.below hb)⟩
 ·obtain rfl:j=L.length:=by omega
  rw[List.getElem_append_right (Nat.le_refl _)]
  simp only[Nat.sub_self,List.getElem_cons_zero]
  exact⟨u,by rw[List.getElem?_append_right (by omega),hlen];simp,hup _ _ hr⟩
end
section
open Go.RowKit
theorem rowS_own{W:World}{b0:Nat}{v:Value}{l:List Int}{n:Nat}(h:W.ownsRow b0 3 1 v n (l.map (Value.int .i64)))(hn:l.length=n):RowS W v l:=by
 rcases Nat.eq_zero_or_pos n with h0|h0
 ·obtain⟨a,c,rfl⟩:=zAH h
  subst h0
  exact .inr ⟨List.length_eq_zero_iff.1 hn,a,c,rfl⟩
 ·obtain⟨g,cap,rfl,_,hs⟩:=zIC h hn h0
  exact .inl ⟨g,cap,by rw[hn],hs⟩
theorem RowS.slice{W:World}{v:Value}{l:List Int}(h:RowS W v l):∃a c,v=.slice a l.length c:=by
 rcases h with⟨g,c,rfl,_⟩|⟨rfl,a,c,rfl⟩
 ·exact⟨_,_,rfl⟩
 ·exact⟨_,_,rfl⟩
end
section
open Go.RowKit
def RowN(N:Option Nat)(W:World)(v:Value)(l:List Int):Prop:=
 (∃g c,v=.slice (some ⟨g,0,none⟩) l.length c∧zBE W g l∧N≠some g)∨(l=[]∧∃a c,v=.slice a 0 c)
theorem RowN.row{N:Option Nat}{W:World}{v:Value}{l:List Int}(h:RowN N W v l):RowS W v l:=by
 rcases h with⟨g,c,e,hs,_⟩|h
 ·exact .inl ⟨g,c,e,hs⟩
 ·exact .inr h
def KeepN(N:Option Nat)(W W':World):Prop:=∀k c,W.heap[k]? =some (.cells c 3 (0,0))->N≠some k->W'.heap[k]? =W.heap[k]?
theorem RowN.keep{N:Option Nat}{W W':World}{v:Value}{l:List Int}(h:RowN N W v l)(hk:KeepN N W W'):RowN N W' v l:=by
 rcases h with⟨g,c,e,hs,hne⟩|h
 ·refine .inl ⟨g,c,e,?_,hne⟩
  obtain⟨sp,hs'⟩:=id hs
  exact hs.keep (hk g _ hs' hne)
 ·exact .inr h
theorem KeepN.below{N:Option Nat}{W W':World}(hb:Below W.heap.size W W'):KeepN N W W':=fun k c h _=>hb.block k (Array.getElem?_eq_some_iff.1 h).1
def TabN(N:Option Nat)(W:World)(base:Nat)(v:Value)(L:List (List Int)):Prop:=
 ∃vs,W.ownsRow base 24 1 v L.length vs∧∀j (hj:j<L.length),∃u,vs[j]? =some u∧RowN N W u L[j]
theorem TabN.nil(N:Option Nat)(W:World)(base:Nat):TabN N W base (.slice none 0 0) []:=⟨[],World.ownsRow_nil _ _ _ _,fun j hj=>by simp at hj⟩
theorem own_kept{W W':World}{base size n:Nat}{T:TypeId}{v:Value}{xs:List Value}(h:W.ownsRow base T size v n xs)(hk:∀k,v.ownBlock=some k->k<W.heap.size->W'.heap[k]? =W.heap[k]?):W'.ownsRow base T size v n xs:=by
 refine⟨h.1,?_⟩
 rcases h.2 with hn|⟨g,cap,cur,rfl,hbg,hgg,rest⟩
 ·exact .inl hn
 ·exact .inr ⟨g,cap,cur,rfl,hbg,(hk g rfl (Array.getElem?_eq_some_iff.1 hgg).1).trans hgg,rest⟩
theorem own_low{W:World}{base b0 size n:Nat}{T:TypeId}{v:Value}{xs:List Value}(h:W.ownsRow base T size v n xs)(hb:b0<=base):W.ownsRow b0 T size v n xs:=by
 refine⟨h.1,?_⟩
 rcases h.2 with hn|⟨g,cap,cur,rfl,hbg,rest⟩
 ·exact .inl hn
 ·exact .inr ⟨g,cap,cur,rfl,Nat.le_trans hb hbg,rest⟩
theorem own_type{W:World}{base size n k:Nat}{T:TypeId}{v:Value}{xs:List Value}(h:W.ownsRow base T size v n xs)(hk:v.ownBlock=some k):base<=k∧∃c,W.heap[k]? =some (.cells c T (0,0)):=by
 rcases h.2 with⟨rfl,_⟩|⟨g,cap,cur,rfl,hbg,hgg,_⟩
 ·simp[Value.ownBlock]at hk
 ·obtain rfl:g=k:=by simpa[Value.ownBlock]using hk
  exact⟨hbg,cur,hgg⟩
theorem TabN.type{N:Option Nat}{W:World}{base k:Nat}{v:Value}{L:List (List Int)}(h:TabN N W base v L)(hk:v.ownBlock=some k):base<=k∧k<W.heap.size∧∃c,W.heap[k]? =some (.cells c 24 (0,0)):=by
 obtain⟨vs,h1,_⟩:=h
 obtain⟨h2,c,h3⟩:=own_type h1 hk
 exact⟨h2,(Array.getElem?_eq_some_iff.1 h3).1,c,h3⟩
theorem TabN.low{N:Option Nat}{W:World}{base b0:Nat}{v:Value}{L:List (List Int)}(h:TabN N W base v L)(hb:b0<=base):TabN N W b0 v L:=by
 obtain⟨vs,h1,h2⟩:=h
 exact⟨vs,own_low h1 hb,h2⟩
theorem TabN.keep{N:Option Nat}{W W':World}{base:Nat}{v:Value}{L:List (List Int)}(h:TabN N W base v L)(hk:KeepN N W W')(ho:∀k,v.ownBlock=some k->k<W.heap.size->W'.heap[k]? =W.heap[k]?):TabN N W' base v L:=by
 obtain⟨vs,h1,h2⟩:=h
 refine⟨vs,own_kept h1 ho,fun j hj=>?_⟩
 obtain⟨u,hu,hr⟩:=h2 j hj
 exact⟨u,hu,hr.keep hk⟩
theorem TabN.below{N:Option Nat}{W W':World}{base:Nat}{v:Value}{L:List (List Int)}(h:TabN N W base v L)(hb:Below W.heap.size W W'):TabN N W' base v L:=
 h.keep (KeepN.below hb) fun k _ hk=>hb.block k hk
theorem TabN.snoc{N:Option Nat}{w1 w3:World}{base:Nat}{v v' u:Value}{L:List (List Int)}{r:List Int}{vs:List Value}(h1:w1.ownsRow base 24 1 v L.length vs)
 (h2:∀j (hj:j<L.length),∃u,vs[j]? =some u∧RowN N w1 u L[j])(hr:RowN N w1 u r)(hg:w1.grownBy w3 v.ownBlock)
 (ho':w3.ownsRow base 24 1 v' (L.length+1) (vs++[u])):TabN N w3 base v' (L++[r]):=by
 have hlen:vs.length=L.length:=by have:=h1.1;omega
 have hK:KeepN N w1 w3:=fun k c hc hn=>hg.block k (Array.getElem?_eq_some_iff.1 hc).1 fun e=>by
  obtain⟨_,c2,h2⟩:=own_type h1 e.symm
  rw[h2]at hc
  cases hc
 refine⟨vs++[u],by simpa using ho',fun j hj=>?_⟩
 simp only[List.length_append,List.length_cons,List.length_nil,Nat.zero_add]at hj
 by_cases hjl:j<L.length
 ·obtain⟨u',hu',hr'⟩:=h2 j hjl
  rw[List.getElem_append_left hjl]
  exact⟨u',by rw[List.getElem?_append_left (by omega)];exact hu',hr'.keep hK⟩
 ·obtain rfl:j=L.length:=by omega
  rw[List.getElem_append_right (Nat.le_refl _)]
  simp only[Nat.sub_self,List.getElem_cons_zero]
  exact⟨u,by rw[List.getElem?_append_right (by omega),hlen];simp,hr.keep hK⟩
end
section
open Go.RowKit
def castL(l:List Nat):List Int:=l.map (fun j:Nat=>(j:Int))
structure RedS (w:World) (R0:Nat) (wr:World) (l d r q p:Value) (left done rest:List (List Int)) (P:List Int) (J:List Nat):Prop where
 hl:TabN p.ownBlock wr w.heap.size l left
 hd:TabN p.ownBlock wr w.heap.size d done
 hr:TabN p.ownBlock wr R0 r rest
 hq:RowN p.ownBlock wr q P
 hp:wr.ownsRow w.heap.size 3 1 p J.length ((castL J).map (Value.int .i64))
 hb:Below w.heap.size w wr
 hR:R0<=wr.heap.size
 hw:w.heap.size<=R0
 lR:∀k,l.ownBlock=some k->k<R0
 dR:∀k,d.ownBlock=some k->k<R0
 pR:∀k,p.ownBlock=some k->k<R0
theorem RedS.below{w:World}{R0:Nat}{A B:World}{l d r q p:Value}{left done rest:List (List Int)}{P:List Int}{J:List Nat}(h:RedS w R0 A l d r q p left done rest P J)(hb:Below A.heap.size A B):RedS w R0 B l d r q p left done rest P J:=
 ⟨h.hl.below hb,h.hd.below hb,h.hr.below hb,h.hq.keep (KeepN.below hb),zBF h.hp hb,zAA h.hb hb,Nat.le_trans h.hR hb.size,h.hw,h.lR,h.dR,h.pR⟩
theorem TabN.lt{N:Option Nat}{W:World}{base:Nat}{v:Value}{L:List (List Int)}(h:TabN N W base v L){k:Nat}(hk:v.ownBlock=some k):k<W.heap.size:=(h.type hk).2.1
end
end
section
open Go.RowKit
theorem RedS.drop{w:World}{R0:Nat}{A:World}{l d r q p:Value}{left done rest:List (List Int)}{P:List Int}{J:List Nat}(h:RedS w R0 A l d r q p left done rest P J):RedS w R0 A (.slice none 0 0) d r q p [] done rest P J:=
 ⟨TabN.nil _ _ _,h.hd,h.hr,h.hq,h.hp,h.hb,h.hR,h.hw,fun k hk=>by simp[Value.ownBlock]at hk,h.dR,h.pR⟩
end
section
open Go.RowKit
theorem zEJ(n lo hi:Int)(w:World):Calls Tryz.prog 88 #[.int .i64 n,.int .i64 lo,.int .i64 hi] w fun e w'=>e=.returned (.bool (inB n lo hi))∧w=w':=by
 by_cases h1:lo<=n<;>by_cases h2:n<=hi
 all_goals
  go_enter Tryz.func88,Tryz.ntmps88
  go_wp2
  go_ret
  exact⟨zAR (by simp[inB,h1,h2]),rfl⟩
theorem beyond1(w:World)(b:Nat)(m:Int)(hm:0<=m∧m<=1000000000)(hc:w.cell? ⟨b,0,none⟩=some (.int .i64 m))(hb:b<w.heap.size):
 PredI Tryz.prog 167 #[.pointer (some ⟨b,0,none⟩)] w (fun n=>!(inB n (-m) m)):=by
 intro x W hW
 have hc':W.cell? ⟨b,0,none⟩=some (.int .i64 m):=(hW.cell (p:=⟨b,0,none⟩) hb).trans hc
 obtain⟨z,hz⟩:=exq (-m)
 have hw:IntKind.i64.wrap (-m)=z:=by rw[hz];exact IntWalk.i64_in _ (by omega)
 rw[<- hz]
 obtain⟨B,hB⟩:=exq (inB x z m)
 have HP:=hid (zEJ x z m W)
 rw[<- hB]at HP
 simp only[<- hB]
 clear hB hc hz
 show Calls Tryz.prog 167 #[.int .i64 x,.pointer (some ⟨b,0,none⟩)] W _
 go_enter Tryz.func167,Tryz.ntmps167
 go_wp2_with (go_at_call 88;refine HP.out.mono ?_;rintro e w1 ⟨rfl,rfl⟩)
 go_ret
 exact⟨rfl,Below.refl _ _⟩
def milB(l:List Int):Bool:=l.all (fun n=>inB n (-1000000) 1000000)
end
section
open Go.RowKit
theorem any_mil(h:List Int):h.any (fun n=>!(inB n (-1000000) 1000000))=!milB h:=by unfold milB;rw[List.not_all_eq_any_not]
theorem beyond_c(w:World)(m:Int):Calls Tryz.prog 106 #[.int .i64 m] w fun e w'=>∃b,e=.returned (.func (.func 167) #[] #[.pointer (some ⟨b,0,none⟩)])∧w'.cell? ⟨b,0,none⟩=some (.int .i64 m)∧b<w'.heap.size∧Below w.heap.size w w':=by
 go_enter Tryz.func106,Tryz.ntmps106
 go_wp2
 go_ret
 exact⟨w.heap.size,rfl,by rw[World.cell?_alloc_at _ _ _ _ rfl];rfl,by simp,(Below.refl _ _).alloc (Nat.le_refl _) _⟩
end
section
open Go.RowKit
theorem mil_le{h:List Int}(e:milB h=true):∀x∈h,-1000000<=x∧x<=1000000:=by
 intro x hx
 have:=List.all_eq_true.1 e x hx
 unfold inB at this
 simp only[Bool.and_eq_true,decide_eq_true_eq]at this
 omega
end
section
open Go.RowKit
def zGW(b:Nat):Nat->List Deferred->World->Prop
 |_,[],_=>True
 |top,d::ds,w=>∃h,b<=h∧h<top∧d={target:=.collected h,args:=#[]}∧w.heap[h]? =some (.deferred (some []))∧zGW b h ds w
theorem zGW.keep{b:Nat}{S:Nat->Prop}{A B:World}(hk:Keep S A B):∀{top:Nat} {D:List Deferred},(∀k,k<A.heap.size->b<=k->k<top->A.heap[k]? =some (.deferred (some []))->S k)->zGW b top D A->zGW b top D B
 |_,[],_,_=>trivial
 |top,d::ds,hS,h=>by
  obtain⟨k,h1,h2,h3,h4,h5⟩:=h
  have hlt:=(Array.getElem?_eq_some_iff.1 h4).1
  exact⟨k,h1,h2,h3,(hk.block k hlt (hS k hlt h1 h2 h4)).trans h4,zGW.keep hk (fun q hq hb hqk=>hS q hq hb (by omega)) h5⟩
theorem zGW.lt{b:Nat}{A:World}:∀{top:Nat} {D:List Deferred},zGW b top D A->zGW b A.heap.size D A
 |_,[],_=>trivial
 |top,d::ds,⟨k,h1,h2,h3,h4,h5⟩=>⟨k,h1,(Array.getElem?_eq_some_iff.1 h4).1,h3,h4,h5⟩
theorem zGW.below{b k top:Nat}{D:List Deferred}{A:World}(hk:top<=k):∀(o:Obj),zGW b top D A->zGW b top D (A.putObj k o):=fun o h=>by
 induction D generalizing top with
 |nil=>trivial
 |cons d ds ih=>
  obtain⟨q,h1,h2,h3,h4,h5⟩:=h
  exact⟨q,h1,h2,h3,(World.putObj_heap_other (by omega)).trans h4,ih (by omega) h5⟩
end
section
open Go.RowKit
attribute [local go_sem] Oper.semAt_some
theorem zGB.lt{E T:TypeId}{W:World}{base:Nat}{S:Nat->Prop}{v:Value}{ls:List (List Int)}(h:zGB E T W base S v ls):zGB E T W base (fun b=>S b∧b<W.heap.size) v ls:=by
 obtain⟨vs,ho,hg,he⟩:=h
 refine⟨vs,ho,fun k hk=>⟨hg k hk,(ho.lt k hk).2⟩,fun j hj=>?_⟩
 obtain⟨u,hu,a,n,cap,e,hn,hm,hel⟩:=he j hj
 refine⟨u,hu,a,n,cap,e,hn,hm,fun i hi=>?_⟩
 obtain⟨b,off,e,hS,hlt,rest⟩:=hel i hi
 exact⟨b,off,e,⟨hS,hlt⟩,hlt,rest⟩
theorem zGB.mono{E T:TypeId}{W:World}{base:Nat}{S S':Nat->Prop}{v:Value}{ls:List (List Int)}(h:zGB E T W base S v ls)(hs:∀b,S b->S' b):zGB E T W base S' v ls:=by
 obtain⟨vs,ho,hg,he⟩:=h
 refine⟨vs,ho,fun k hk=>hs _ (hg k hk),fun j hj=>?_⟩
 obtain⟨u,hu,a,n,cap,e,hn,hm,hel⟩:=he j hj
 refine⟨u,hu,a,n,cap,e,hn,hm,fun i hi=>?_⟩
 obtain⟨b,off,e,hS,hlt,rest⟩:=hel i hi
 exact⟨b,off,e,hs _ hS,hlt,rest⟩
theorem zGT:∀(m k:Nat) (a:Int),(comb m k a).length<=2 ^ m
 |0,0,a=>Nat.le_refl _
 |m+1,0,a=>Nat.one_le_two_pow
 |0,k+1,a=>by simp[comb]
 |m+1,k+1,a=>by
  simp only[comb,List.length_append,List.length_map]
  have h1:=zGT m k (a+1)
  have h2:=zGT m (k+1) (a+1)
  rw[Nat.pow_succ];omega
theorem ints_row{W:World}{it:Nat}{x:List Int}{sp:List Value}{E:TypeId}(h:W.heap[it]? =some (.cells (x.map (Value.int .i64)++sp).toArray E (0,0))):zAJ W (some ⟨it,0,none⟩) x:=by
 intro j hj
 refine⟨it,0,rfl,(Array.getElem?_eq_some_iff.1 h).1,?_⟩
 rw[Nat.zero_add]
 simp[World.cell?,h,List.getElem?_append_left,hj]
def SIt(o Z it b:Nat):Prop:=b≠o∧b≠Z∧b≠Z+1∧b≠Z+2∧b≠Z+3∧b≠it
def CircI(w:World)(q1 q6 q7 base Z it:Nat)(mv:Value)(W:Nat)(D:List Deferred)(L:List (List Int))(Y:World):Prop:=
 ∃v,Boxed Y q1 23 mv∧Boxed Y q6 3 (.int .i64 W)∧Boxed Y q7 22 v∧Below w.heap.size w Y∧Z+2<=Y.heap.size∧zGB 3 24 Y base (SIt q7 Z it) v L∧zGW base Z D Y∧(∃u,Boxed Y Z 3 u)∧∃u,Boxed Y (Z+1) 3 u
theorem CircI.keep{w:World}{q1 q6 q7 base Z it it2:Nat}{mv:Value}{W:Nat}{D:List Deferred}{L:List (List Int)}{A B:World}(h:CircI w q1 q6 q7 base Z it mv W D L A)(hk:Keep (fun k=>k≠Z+2∧k≠Z+2+1∧k≠it2) A B)
 (h1:q1<Z)(h6:q6<Z)(h7:q7<Z)(hw:w.heap.size<=Z)(hi:Z+4<=it2)(e:it=it2):CircI w q1 q6 q7 base Z it mv W D L B:=by
 subst e
 obtain⟨v,y1,y6,y7,yB,yS,yR,yD,⟨u0,z0⟩,u1,z1⟩:=h
 refine⟨v,(hk.block _ y1.lt (by omega)).trans y1,(hk.block _ y6.lt (by omega)).trans y6,(hk.block _ y7.lt (by omega)).trans y7,hk.below yB (by omega) (fun k _=>by omega),Nat.le_trans yS hk.size,
           yR.keep (hk.mono fun k hk=>⟨hk.2.2.2.1,hk.2.2.2.2.1,hk.2.2.2.2.2⟩),yD.keep hk (fun k _ _ hk _=>by omega),⟨u0,(hk.block _ z0.lt (by omega)).trans z0⟩,u1,(hk.block _ z1.lt (by omega)).trans z1⟩
theorem CircI.below{w:World}{q1 q6 q7 base Z it:Nat}{mv:Value}{W:Nat}{D:List Deferred}{L:List (List Int)}{A B:World}(h:CircI w q1 q6 q7 base Z it mv W D L A)(hb:Below A.heap.size A B):CircI w q1 q6 q7 base Z it mv W D L B:=by
 obtain⟨v,y1,y6,y7,yB,yS,yR,yD,⟨u0,z0⟩,u1,z1⟩:=h
 exact⟨v,(hb.block _ y1.lt).trans y1,(hb.block _ y6.lt).trans y6,(hb.block _ y7.lt).trans y7,zAA yB hb,Nat.le_trans yS hb.size,yR.keep (Keep.of_below hb),zGW.keep (Keep.of_below hb:Keep (fun _=>True) A B) (fun _ _ _ _ _=>trivial) yD,⟨u0,(hb.block _ z0.lt).trans z0⟩,u1,(hb.block _ z1.lt).trans z1⟩
end
section
open Go.RowKit
def CircRes(p:List Int×Int)(e:Ending)(w:World):Prop:=∃b k c,e=.returned (.tuple #[.slice b k c,.int .i64 p.2])∧p.1.length=k∧k<=maxLen∧zAJ w b p.1
theorem CircRes.nil(z:Int)(w:World):CircRes ([],z) (.returned (.tuple #[.slice none 0 0,.int .i64 z])) w:=⟨none,0,0,rfl,rfl,Nat.zero_le _,fun j hj=>by simp at hj⟩
end
section
open Go.RowKit
def twoM:Mask:=[[1,1,0],[0,1,1]]
theorem two_rows(w:World):zAT (((w.alloc (.cells #[.int .i64 1,.int .i64 1,.int .i64 0] 3)).alloc (.cells #[.int .i64 0,.int .i64 1,.int .i64 1] 3)).alloc (.cells #[.slice (some ⟨w.heap.size,0,none⟩) 3 3,.slice (some ⟨w.heap.size+1,0,none⟩) 3 3] 24)) (some ⟨w.heap.size+2,0,none⟩) twoM:=by
 obtain⟨w1,h1⟩:=exq (w.alloc (.cells #[.int .i64 1,.int .i64 1,.int .i64 0] 3))
 obtain⟨w2,h2⟩:=exq (w1.alloc (.cells #[.int .i64 0,.int .i64 1,.int .i64 1] 3))
 rw[<- h1,<- h2]
 have s1:w1.heap.size=w.heap.size+1:=by rw[h1];simp
 have s2:w2.heap.size=w.heap.size+2:=by rw[h2];simp[s1]
 have i1:zAJ w1 (some ⟨w.heap.size,0,none⟩) [1,1,0]:=fun j hj=>⟨w.heap.size,0,rfl,by omega,by
  rw[h1,World.cell?_alloc_at _ _ _ _ (by simp)]
  match j,hj with
  |0,_=>rfl
  |1,_=>rfl
  |2,_=>rfl⟩
 have i2:zAJ w2 (some ⟨w1.heap.size,0,none⟩) [0,1,1]:=fun j hj=>⟨w1.heap.size,0,rfl,by omega,by
  rw[h2,World.cell?_alloc_at _ _ _ _ (by simp)]
  match j,hj with
  |0,_=>rfl
  |1,_=>rfl
  |2,_=>rfl⟩
 rw[s1]at i2
 have b2:Below w1.heap.size w1 w2:=by rw[h2];exact(Below.refl _ _).alloc (Nat.le_refl _) _
 obtain⟨o,ho⟩:=exq (Obj.cells #[.slice (some ⟨w.heap.size,0,none⟩) 3 3,.slice (some ⟨w.heap.size+1,0,none⟩) 3 3] 24)
 rw[<- ho]
 have b3:Below w2.heap.size w2 (w2.alloc o):=(Below.refl _ _).alloc (Nat.le_refl _) _
 have hc:∀j,(w2.alloc o).cell? ⟨w.heap.size+2,j,none⟩=#[Value.slice (some ⟨w.heap.size,0,none⟩) 3 3,.slice (some ⟨w.heap.size+1,0,none⟩) 3 3][j]? :=fun j=>by
  rw[ho,World.cell?_alloc_at _ _ _ _ (by rw[s2])]
 intro j hj
 match j,hj with
 |0,_=>exact⟨_,0,some ⟨w.heap.size,0,none⟩,3,3,rfl,by simp[s2],hc 0,rfl,by decide,(i1.below b2).below b3⟩
 |1,_=>exact⟨_,0,some ⟨w.heap.size+1,0,none⟩,3,3,rfl,by simp[s2],hc 1,rfl,by decide,i2.below b3⟩
end
section
section
open Go.RowKit
theorem chosenT_c(w:World)(a:Option Addr)(n cap:Nat)(M:List (List Int))(hn:M.length=n)(hn6:n<=1000)(H:zAT w a M)(a2:Option Addr)(k2 cap2:Nat)(S:List Int)(hk2:S.length=k2)(hk21:k2<=1000)(H2:zAJ w a2 S)
 (hS:∀r∈M,∀j∈S,0<=j∧j<r.length)(g:Nat)(lb:Array Value)(eg:∀args w,(callFunc g args).run Tryz.prog w=.ok (.enter g args) w)(mo:Nat->List Int)(hmo:MoreP Tryz.prog g lb w n mo)(hml:∀i,i<n->(mo i).length<=1000):
 Calls Tryz.prog 220 #[.slice a n cap,.slice a2 k2 cap2,.func (.func g) #[] lb] w fun e w'=>∃v,e=.returned v∧TabS w' w.heap.size v (zDE M S mo)∧Below w.heap.size w w':=by
 have HN:=hid hn
 have HH:=hid H
 have HK2:=hid hk2
 have HH2:=hid H2
 have HS:=hid hS
 have HMO:=hid hmo
 have HML:=hid hml
 have HCT:=hid (fun(k:Nat) (hk:k<M.length)=>zHI (M:=M) (S:=S) (mo:=mo) hk)
 have HCL:=hid (zFH M S mo)
 obtain⟨C,hC⟩:=exq (zDE M S mo)
 rw[<- hC]at HCT HCL⊢
 clear hn H hk2 H2 hS hmo hml hC
 go_enter Tryz.func220,Tryz.ntmps220
 go_wp2
 go_loopw [7,15] (fun v i wr=>∃k:Nat,k<=n∧i=.int .i64 k∧TabS wr w.heap.size v (C.take k)∧Below w.heap.size w wr) (fun _ i _=>n-(intOf i).toNat)
 case atStart=>exact⟨0,Nat.zero_le _,rfl,TabS.nil _ _,Below.refl _ _⟩
 case round=>
  obtain⟨k,hk,rfl,ho,hbk⟩:=hrel
  obtain⟨wo,hwo⟩:=exq (wr)
  subst hwo
  by_cases hlt:k<n
  ·have hkM:k<M.length:=by rw[HN.out];exact hlt
   obtain⟨b,off,ra,rn,rc,rfl,hbs,hq0,hrn,hrm,hri⟩:=(HH.out.below hbk) k hkM
   have htk:=HCT.out k hkM
   have hsr:=HS.out M[k] (List.getElem_mem hkM)
   obtain⟨r,hr⟩:=exq (M[k])
   rw[<- hr]at htk hsr hrn hri
   have hlen:(C.take k).length=k:=by rw[List.length_take,HCL.out];omega
   have HL:=hid hlen
   have HTK:=hid htk
   have HSR:=hid hsr
   have HRN:=hid hrn
   have HRI:=hid hri
   have HO:=hid ho
   have HBK:=hid hbk
   obtain⟨va,vc,hv⟩:∃va vc,u7=.slice va k vc:=by
    obtain⟨_,ho1,_⟩:=ho
    obtain⟨a',c',e⟩:=zAH ho1
    exact⟨a',c',by rw[e,hlen]⟩
   subst hv
   clear hr htk hsr hrn hri hkM ho hlen
   go_wp2
   go_loopw [10,22] (fun v i wr=>∃t:Nat,t<=k2∧i=.int .i64 t∧wr.ownsRow wo.heap.size 3 1 v t (((S.take t).map (fun j=>vec r j.toNat)).map (Value.int .i64))∧Below wo.heap.size wo wr) (fun _ i _=>k2-(intOf i).toNat)
   case atStart=>exact⟨0,Nat.zero_le _,rfl,World.ownsRow_nil _ _ _ _,Below.refl _ _⟩
   case round=>
    obtain⟨t,ht,rfl,hown,hbt⟩:=hrel
    by_cases hlt2:t<k2
    ·have htS:t<S.length:=by rw[HK2.out];exact hlt2
     obtain⟨b2,off2,rfl,hbs2,hc2⟩:=(HH2.out.below (zAA HBK.out hbt)) t htS
     have hpp:=HSR.out S[t] (List.getElem_mem htS)
     have hg2:S[t]?.getD 0=S[t]:=by rw[List.getElem?_eq_getElem htS];rfl
     rw[hg2]at hc2
     have htk2:(S.take (t+1)).map (fun j=>vec r j.toNat)=(S.take t).map (fun j=>vec r j.toNat)++[vec r (S[t]).toNat]:=by
      rw[List.take_succ_eq_append_getElem htS,List.map_append];rfl
     obtain⟨q,hq⟩:∃q:Nat,S[t]=q:=⟨(S[t]).toNat,by omega⟩
     rw[hq]at hc2 hpp htk2
     rw[show((q:Int)).toNat=q by omega]at htk2
     have hqr:q<r.length:=by omega
     obtain⟨b3,off3,rfl,hbs3,hc3⟩:=(HRI.out.below hbt) q hqr
     have hqn:(q:Int)<(rn:Int):=by have:=HRN.out;omega
     have hq0':(0:Int)<=(q:Int):=by omega
     obtain⟨x,hx⟩:=exq (r[q]?.getD 0)
     have hxv:vec r q=x:=hx.symm
     rw[<- hx]at hc3
     rw[hxv]at htk2
     obtain⟨la,lc,rfl⟩:=zAH hown
     have HTK2:=hid htk2
     have HOW:=hid hown
     have M1:=hid (show t+1<=maxLen by unfold maxLen;omega)
     have M2:=hid (show(t+1)*8<=140737488355328 by omega)
     have M3:=hid (Nat.le_trans hbt.size (zCG wr (.cells #[.int .i64 x] 3)))
     clear hpp hg2 htk2 hq hx hxv hown htS hqr
     go_wp2_with (at_builtin;refine zBD _ rfl (.tmp 26) (.tmp 31) 24 rfl wo.heap.size 3 (.int .i64 0) 1 8 Tryz.underlying24 zIP rfl Nat.one_pos (.slice la t lc) t _ rfl (HOW.out.alloc _) (some ⟨wr.heap.size,0,none⟩) 1 1 [.int .i64 x] rfl rfl zCO (zCR wr _ _) (zHG _) M1.out M2.out M3.out ?_;refine Stop.of ?_)
     refine Stop.go ?_
     intro a3 c3 w3 own3 g3
     have hB3:Below wo.heap.size wo w3:=(hbt.alloc hbt.size _).grown g3 M3.out (fun k hk=>(HOW.out.lt k hk).1)
     go_wp2
     refine⟨⟨t+1,by omega,by go_num,?_,hB3⟩,by simp[intOf];omega⟩
     rw[HTK2.out]
     simpa using own3
    ·obtain rfl:t=k2:=by omega
     rw[List.take_of_length_le (by rw[HK2.out];exact Nat.le_refl _)]at hown
     obtain⟨la,lc,rfl⟩:=zAH hown
     have HMK:=hid (HMO.out k wr hlt (zAA HBK.out hbt))
     have HOW:=hid hown
     have hml:=HML.out k hlt
     obtain⟨m,hm⟩:=exq (mo k)
     rw[<- hm]at hml HMK HTK
     obtain⟨ml,hmle⟩:=exq (m.length)
     rw[<- hmle]at hml HMK
     have HME:=hid hmle
     clear hown hm hmle
     go_wp2_with (refine HMK.out.mono ?_;rintro e w2 ⟨ma,mc,rfl,hmi,hb2⟩;refine Stop.of ?_)
     refine Stop.go ?_
     have HO2:=hid (zBF HOW.out hb2)
     have HMI:=hid hmi
     have HB2:=hid (zAA hbt hb2)
     have N1:=hid (show t+ml<=maxLen by unfold maxLen;omega)
     have N2:=hid (show(t+ml)*8<=140737488355328 by omega)
     have N3:=hid (show wo.heap.size<=w2.heap.size from HB2.out.size)
     have N4:=hid (show(m.map (Value.int .i64)).length=ml*1 by rw[List.length_map,HME.out];omega)
     have N5:=hid (show ma=none->ml=0 from fun h=>by rw[HME.out];exact ints_none hmi h)
     have N6:=hid (zIS hmi)
     clear hmi hb2 hbt
     go_wp2_with (at_builtin;refine zBD _ rfl (.tmp 35) (.tmp 38) 24 rfl wo.heap.size 3 (.int .i64 0) 1 8 Tryz.underlying24 zIP rfl Nat.one_pos (.slice la t lc) t _ rfl HO2.out ma ml mc (m.map (Value.int .i64)) rfl N4.out N5.out N6.out (zKN _) N1.out N2.out N3.out ?_;refine Stop.of ?_)
     refine Stop.go ?_
     intro a3 c3 w3 own3 g3
     have hB3:Below wo.heap.size wo w3:=HB2.out.grown g3 N3.out (fun k hk=>(HO2.out.lt k hk).1)
     rw[<- List.map_map,<- List.map_append]at own3
     obtain⟨X,hX⟩:=exq (S.map (fun j=>vec r j.toNat)++m)
     rw[<- hX]at own3 HTK
     have hXl:X.length=t+ml:=by rw[hX,List.length_append,List.length_map,HK2.out,HME.out]
     have hsr:=rowS_own own3 hXl
     have HXL:=hid hXl
     obtain⟨vs,ho0,he⟩:=HO.out
     have HO0:=hid ho0
     have ho:=ho0
     rw[HL.out]at ho
     have hb2a:Below wo.heap.size wo (w3.alloc (.cells #[.slice a3 (t+ml) c3] 24)):=hB3.alloc hB3.size _
     have M1:=hid (show k+1<=maxLen by unfold maxLen;omega)
     have M2:=hid (show(k+1)*24<=140737488355328 by omega)
     have M3:=hid (Nat.le_trans HBK.out.size hb2a.size)
     have HO2':=hid (zBF ho hb2a)
     have HE:=hid he
     have HSR2:=hid (hsr.below ((Below.refl _ w3).alloc (Nat.le_refl _) (.cells #[.slice a3 (t+ml) c3] 24)))
     have HB2':=hid hb2a
     have HOO:=hid ho
     clear he hsr hb2a ho ho0 own3 hX hXl hml hB3 g3
     go_wp2_with (at_builtin;refine zBD _ rfl (.tmp 34) (.tmp 40) 22 rfl w.heap.size 24 (.slice none 0 0) 1 24 Tryz.underlying22 li_ints rfl Nat.one_pos (.slice va k vc) k vs rfl HO2'.out (some ⟨w3.heap.size,0,none⟩) 1 1 [.slice a3 (t+ml) c3] rfl rfl zCO (zCR w3 _ _) (zFK _ _ _) M1.out M2.out M3.out ?_;refine Stop.of ?_)
     refine Stop.go ?_
     intro a5 c5 w5 own5 g5
     have hsn:TabS w5 w.heap.size (.slice a5 (k+1) c5) (C.take k++[X]):=TabS.snoc HO0.out HE.out HB2'.out HSR2.out g5 (by rw[HL.out];exact own5)
     have hB5:Below w.heap.size w w5:=(HBK.out.trans (HB2'.out.mono HBK.out.size)).grown g5 M3.out (fun q hq=>(HO2'.out.lt q hq).1)
     rw[<- HTK.out]at hsn
     go_wp2
     exact⟨⟨k+1,by omega,by go_num,hsn,hB5⟩,by simp[intOf];omega⟩
  ·obtain rfl:k=n:=by omega
   rw[List.take_of_length_le (by rw[HCL.out,HN.out];exact Nat.le_refl _)]at ho
   go_wp2
   go_ret
   exact⟨_,rfl,ho,hbk⟩
end
section
open Go.RowKit
def ascB(l:List Int):Bool:=decide (∀i,i<l.length-1->l[i]?.getD 0<l[i+1]?.getD 0)
def zDX(W:Nat)(l:List Int):Int:=if ascB l=true then(if l.all (fun p=>inB p 0 ((W:Int)-1))=true then 0 else 5)else 7
def pixE(M:Mask)(l:List Int):Int:=if okM M=true then zDX (zAL M) l else 1
theorem asc_pair{l:List Int}(h:ascB l=true):l.Pairwise (· < ·):=by
 have h1:∀i,i<l.length-1->l[i]?.getD 0<l[i+1]?.getD 0:=of_decide_eq_true h
 have h2:∀d i,i+d+1<l.length->l[i]?.getD 0<l[i+d+1]?.getD 0:=by
  intro d
  induction d with
  |zero=>intro i hi;exact h1 i (by omega)
  |succ d ih=>intro i hi;exact Int.lt_trans (ih i (by omega)) (h1 (i+d+1) (by omega))
 rw[List.pairwise_iff_getElem]
 intro i j hi hj hij
 have:=h2 (j-i-1) i (by omega)
 rw[show i+(j-i-1)+1=j by omega,List.getElem?_eq_getElem hi,List.getElem?_eq_getElem hj]at this
 exact this
theorem pair_asc{l:List Int}(h:l.Pairwise (· < ·)):ascB l=true:=by
 refine decide_eq_true fun i hi=>?_
 rw[List.getElem?_eq_getElem (by omega),List.getElem?_eq_getElem (by omega)]
 exact List.pairwise_iff_getElem.1 h i (i+1) (by omega) (by omega) (by omega)
theorem asc_no{l:List Int}{k:Nat}(hk:k+1<l.length)(h:¬l[k]?.getD 0<l[k+1]?.getD 0):ascB l=false:=decide_eq_false fun h1=>h (h1 k (by omega))
theorem asc_yes{l:List Int}(h:∀i,i+1<l.length->l[i]?.getD 0<l[i+1]?.getD 0):ascB l=true:=decide_eq_true fun i hi=>h i (by omega)
theorem named_ok{W:Nat}{l:List Int}(h:zDX W l=0):zDP W l:=by
 unfold zDX at h
 split at h
 ·rename_i h1
  split at h
  ·rename_i h2
   refine⟨asc_pair h1,fun y hy=>?_⟩
   have:=List.all_eq_true.1 h2 y hy
   unfold inB at this
   simp only[Bool.and_eq_true,decide_eq_true_eq]at this
   omega
  ·omega
 ·omega
theorem named1(w:World)(b:Nat)(m:Int)(hm:0<=m∧m<=1000000000)(hc:w.cell? ⟨b,0,none⟩=some (.int .i64 m))(hb:b<w.heap.size):
 PredI Tryz.prog 248 #[.pointer (some ⟨b,0,none⟩)] w (fun n=>!(inB n 0 (m-1))):=by
 intro x W hW
 have hc':W.cell? ⟨b,0,none⟩=some (.int .i64 m):=(hW.cell (p:=⟨b,0,none⟩) hb).trans hc
 obtain⟨z,hz⟩:=exq (m-1)
 have hw:IntKind.i64.wrap (m-1)=z:=by rw[hz];exact IntWalk.i64_in _ (by omega)
 rw[<- hz]
 obtain⟨B,hB⟩:=exq (inB x 0 z)
 have HP:=hid (zEJ x 0 z W)
 rw[<- hB]at HP
 simp only[<- hB]
 clear hB hc hz
 show Calls Tryz.prog 248 #[.int .i64 x,.pointer (some ⟨b,0,none⟩)] W _
 go_enter Tryz.func248,Tryz.ntmps248
 go_wp2_with (go_at_call 88;refine HP.out.mono ?_;rintro e w1 ⟨rfl,rfl⟩)
 go_ret
 exact⟨rfl,Below.refl _ _⟩
theorem named_c(w:World)(W:Nat)(hW:W<=1000)(a:Option Addr)(n cap:Nat)(l:List Int)(hn:l.length=n)(hm:n<=maxLen)(H:zAJ w a l):
 Calls Tryz.prog 213 #[.int .i64 W,.slice a n cap] w fun e w'=>e=.returned (.int .i64 (zDX W l))∧Below w.heap.size w w':=by
 have HN:=hid hn
 have HH:=hid (fun(X:World) (hX:Below w.heap.size w X)=>H.below hX)
 obtain⟨E,hE⟩:=exq (zDX W l)
 rw[<- hE]
 have HE:=hid hE
 clear hn H hE
 have hm':n<=9223372036854775807:=by unfold maxLen at hm;omega
 go_enter Tryz.func213,Tryz.ntmps213
 obtain⟨w1,hw1⟩:=exq (w.alloc (.cells #[.int .i64 W] 3))
 have hb1:Below w.heap.size w w1:=by rw[hw1];exact(Below.refl _ _).alloc (Nat.le_refl _) _
 have hc1:w1.cell? ⟨w.heap.size,0,none⟩=some (.int .i64 W):=by rw[hw1,World.cell?_alloc_at _ _ _ _ rfl];rfl
 have hs1:w.heap.size<w1.heap.size:=by rw[hw1];simp
 have HB1:=hid hb1
 have HC1:=hid hc1
 have HW1:=hid hw1
 clear hb1 hc1 hw1
 go_wp2
 try rw[<- HW1.out]
 go_loopw [9] (fun i wr=>∃k:Nat,k<=n∧i=.int .i64 k∧wr=w1∧Hid (∀i,i+1<k->l[i]?.getD 0<l[i+1]?.getD 0)) (fun i _=>n-(intOf i).toNat)
 case atStart=>exact⟨0,Nat.zero_le _,rfl,by first|exact HW1.out.symm|rfl,hid (fun i h=>by omega)⟩
 case round=>
  obtain⟨k,hk,rfl,rfl,HNO⟩:=hrel
  by_cases hlt:k<n
  ·have hkl:k<l.length:=by rw[HN.out];exact hlt
   obtain⟨b,off,rfl,hbs,hc⟩:=(HH.out wr HB1.out) k hkl
   rcases Nat.eq_zero_or_pos k with h0|h0
   ·subst h0
    obtain⟨x,hx⟩:=exq (l[0]?.getD 0)
    rw[<- hx,Nat.add_zero]at hc
    clear hx hkl
    go_wp2
    exact⟨⟨1,by omega,by go_num,by first|trivial|rfl,hid (fun i h=>by omega)⟩,by simp[intOf];omega⟩
   ·obtain⟨p,rfl⟩:∃p,k=p+1:=⟨k-1,by omega⟩
    obtain⟨b',off',e',_,hc2⟩:=(HH.out wr HB1.out) p (by omega)
    cases e'
    have hpi:((p+1:Nat):Int)-1=(p:Int):=by omega
    have hpn:(p:Int)<(n:Int):=by omega
    have hpp:(0:Int)<((p+1:Nat):Int):=by omega
    have HNO2:=hid (fun(h:¬l[p]?.getD 0<l[p+1]?.getD 0)=>asc_no (by rw[HN.out];exact hlt) h)
    have HNX:=hid (fun(h:l[p]?.getD 0<l[p+1]?.getD 0)=>(show ∀i,i+1<p+1+1->l[i]?.getD 0<l[i+1]?.getD 0 from fun i hi=>by
     rcases Nat.lt_or_ge i p with h1|h1
     ·exact HNO.out i (by omega)
     ·have:i=p:=by omega
      subst this;exact h))
    obtain⟨x,hx⟩:=exq (l[p+1]?.getD 0)
    obtain⟨y,hy⟩:=exq (l[p]?.getD 0)
    rw[<- hx]at hc HNO2 HNX
    rw[<- hy]at hc2 HNO2 HNX
    clear hx hy hkl
    by_cases hle:x<=y
    ·have HA:=hid (HNO2.out (by omega))
     obtain rfl:E=7:=by rw[HE.out];unfold zDX;rw[HA.out];rfl
     go_wp2
     go_ret
     exact⟨rfl,HB1.out⟩
    ·have HX:=hid (HNX.out (by omega))
     go_wp2
     exact⟨⟨p+1+1,by omega,by go_num,by first|trivial|rfl,HX⟩,by simp[intOf];omega⟩
  ·obtain rfl:n=k:=by omega
   have HA:=hid (asc_yes (l:=l) (fun i hi=>HNO.out i (by rw[<- HN.out];exact hi)))
   have HCF:=hid (zIX wr a n cap l HN.out hm (HH.out wr HB1.out) 248 #[.pointer (some ⟨w.heap.size,0,none⟩)] (fun p=>!(inB p 0 ((W:Int)-1))) (enters_of Tryz.func248 (by kernel_rfl) rfl) (named1 wr w.heap.size W (by omega) HC1.out hs1))
   have hany:l.any (fun p=>!(inB p 0 ((W:Int)-1)))=!(l.all (fun p=>inB p 0 ((W:Int)-1))):=by rw[List.not_all_eq_any_not]
   rw[hany]at HCF
   have hee:=HE.out
   unfold zDX at hee
   rw[if_pos HA.out]at hee
   clear hany HNO
   cases hall:l.all (fun p=>inB p 0 ((W:Int)-1))
   ·rw[hall]at HCF hee
    obtain rfl:E=5:=hee
    clear hall
    go_wp2_with (go_at_call 105;refine HCF.out.mono ?_;rintro e w3 ⟨rfl,hb3⟩)
    go_ret
    exact⟨rfl,zAA HB1.out hb3⟩
   ·rw[hall]at HCF hee
    obtain rfl:E=0:=hee
    clear hall
    go_wp2_with (go_at_call 105;refine HCF.out.mono ?_;rintro e w3 ⟨rfl,hb3⟩)
    go_ret
    exact⟨rfl,zAA HB1.out hb3⟩
theorem pixels_c(w:World)(a a2:Option Addr)(n cap n2 cap2:Nat)(M:Mask)(l:List Int)(hn:M.length=n)(hn2:l.length=n2)(hm:n<=maxLen)(hm2:n2<=maxLen)(H:zAT w a M)(H2:zAJ w a2 l):
 Calls Tryz.prog 163 #[.slice a n cap,.slice a2 n2 cap2] w fun e w'=>e=.returned (.int .i64 (pixE M l))∧Below w.heap.size w w':=by
 have HV:=hid (zIN w a n cap M hn hm H)
 cases hok:okM M
 ·rw[hok]at HV
  have he:pixE M l=1:=by unfold pixE;rw[hok];rfl
  rw[he]
  clear hn hn2 H H2 hok he
  go_enter Tryz.func163,Tryz.ntmps163
  go_wp2_with (go_at_call 79;refine HV.out.mono ?_;rintro e w1 ⟨rfl,hb1⟩)
  go_ret
  exact⟨rfl,hb1⟩
 ·rw[hok]at HV
  have he:pixE M l=zDX (zAL M) l:=by unfold pixE;rw[if_pos hok]
  rw[he]
  obtain⟨hM,h1,h6,hc1,hc10⟩:=zFA hok
  obtain⟨b,off,ra,rc,rfl,hb,hc⟩:=zFL H (by omega)
  have hz:(0:Int)<(n:Int):=by omega
  obtain⟨W,hW⟩:=exq (zAL M)
  rw[<- hW]at hc hc1 hc10⊢
  have HS:=hid (fun(X:World) (hX:Below w.heap.size w X)=>(hX.cell (p:=⟨b,off,none⟩) hb).trans hc)
  have HNM:=hid (fun(X:World) (hX:Below w.heap.size w X)=>named_c X W (by omega) a2 n2 cap2 l hn2 hm2 (H2.below hX))
  obtain⟨E,hE⟩:=exq (zDX W l)
  rw[<- hE]at HNM⊢
  clear hn hn2 H H2 hok he hM hW hE hc hb
  go_enter Tryz.func163,Tryz.ntmps163
  go_wp2_with (go_at_call 79;refine HV.out.mono ?_;rintro e w1 ⟨rfl,hb1⟩;refine Stop.of ?_)
  refine Stop.go ?_
  have hc1':=HS.out w1 hb1
  have HB1:=hid hb1
  clear hb1
  go_wp2_with (go_at_call 213;refine(HNM.out w1 HB1.out).mono ?_;rintro e w2 ⟨rfl,hb2⟩)
  go_ret
  exact⟨rfl,zAA HB1.out hb2⟩
theorem pix_ok{M:Mask}{l:List Int}(h:pixE M l=0):okM M=true∧zDP (zAL M) l:=by
 unfold pixE at h
 split at h
 ·rename_i h1;exact⟨h1,named_ok h⟩
 ·omega
theorem set_le{W:Nat}{l:List Int}(h:zDP W l):l.length<=W:=by
 have h1:(l.map Int.toNat).Pairwise (· < ·):=by
  rw[List.pairwise_map]
  refine h.1.imp_of_mem fun {a b} ha hb hab=>?_
  have:=h.2 a ha
  have:=h.2 b hb
  omega
 have:=zJW (a:=0) (b:=W) h1 (fun x hx=>by
  obtain⟨y,hy,rfl⟩:=List.mem_map.1 hx
  have:=h.2 y hy
  omega)
 rw[List.length_map]at this
 omega
end
section
open Go.RowKit
end
end
section
section
open Go.RowKit
abbrev Rt:=Int×Int
def ratV(r:Rt):Value:=.agg #[.int .i64 r.1,.int .i64 r.2]
def zBI(r:Rt):List Value:=[.int .i64 r.1,.int .i64 r.2]
def zBS(l:List Rt):List Value:=l.flatMap zBI
theorem zEI(l:List Rt)(f:Rt):zBS (l++[f])=zBS l++zBI f:=by simp[zBS]
theorem zJI(l:List Rt):∀(j i:Nat) (hj:j<l.length),i<2->(zBS l)[j*2+i]? =(zBI l[j])[i]? :=by
 induction l with
 |nil=>intro j i hj;simp at hj
 |cons f l ih=>
  intro j i hj hi
  show(zBI f++zBS l)[j*2+i]? =_
  cases j with
  |zero=>rw[List.getElem?_append_left (by simp[zBI];omega)];simp
  |succ j=>
   rw[List.getElem?_append_right (by simp[zBI];omega)]
   have:=ih j i (by simpa using hj) hi
   rw[show(j+1)*2+i-(zBI f).length=j*2+i by simp[zBI];omega,this]
   simp
def zAX(w:World)(a:Option Addr)(l:List Rt):Prop:=
 ∀j (hj:j<l.length),∃b off,a=some ⟨b,off,none⟩∧b<w.heap.size∧w.cell? ⟨b,off+j*2,none⟩=some (.int .i64 l[j].1)∧w.cell? ⟨b,off+j*2+1,none⟩=some (.int .i64 l[j].2)
theorem zAX.below{w w':World}{a:Option Addr}{l:List Rt}(h:zAX w a l)(hb:Below w.heap.size w w'):zAX w' a l:=by
 intro j hj
 obtain⟨b,off,e,hlt,h0,h1⟩:=h j hj
 exact⟨b,off,e,Nat.lt_of_lt_of_le hlt hb.size,(hb.cell (p:=⟨b,_,none⟩) hlt).trans h0,(hb.cell (p:=⟨b,_,none⟩) hlt).trans h1⟩
def zCU(W:World)(base:Nat)(v:Value)(l:List Rt):Prop:=W.ownsRow base 29 2 v l.length (zBS l)
theorem zCU.nil(W:World)(base:Nat):zCU W base (.slice none 0 0) []:=World.ownsRow_nil _ _ _ _
theorem zCU.below{W W':World}{base:Nat}{v:Value}{l:List Rt}(h:zCU W base v l)(hb:Below W.heap.size W W'):zCU W' base v l:=zBF h hb
theorem zCU.reads{W:World}{base:Nat}{v:Value}{l:List Rt}(h:zCU W base v l):∃a cap,v=.slice a l.length cap∧l.length<=maxLen∧zAX W a l:=by
 rcases h.2 with⟨rfl,h0⟩|⟨g,cap,cur,rfl,hbg,hgg,hnc,hcm,hsz,htk⟩
 ·exact⟨none,0,by rw[h0],by rw[h0];decide,fun j hj=>by omega⟩
 ·refine⟨_,cap,rfl,by omega,fun j hj=>⟨g,0,rfl,(Array.getElem?_eq_some_iff.1 hgg).1,?_⟩⟩
  have hc:∀i,i<l.length*2->W.cell? ⟨g,i,none⟩=(zBS l)[i]? :=fun i hi=>
   World.ownsRow.cellAt (w:=W) (base:=base) (e:=29) (size:=2) (g:=g) (n:=l.length) (cap:=cap) (xs:=zBS l) ⟨h.1,.inr ⟨g,cap,cur,rfl,hbg,hgg,hnc,hcm,hsz,htk⟩⟩ i hi
  refine⟨?_,?_⟩
  ·rw[Nat.zero_add,hc _ (by omega)];exact zJI l j 0 hj (by omega)
  ·rw[Nat.zero_add,hc _ (by omega)];exact zJI l j 1 hj (by omega)
theorem zGP:(Tryz.prog.info? 29).map (fun i=>(i.zero,i.size,i.bytes))=some (some (.agg #[.int .i64 0,.int .i64 0]),2,16):=by kernel_rfl
theorem rat_one(f:Rt):∀u∈zBI f,u.oneCell'=true:=by
 intro u hu
 simp only[zBI,List.mem_cons,List.not_mem_nil,or_false]at hu
 rcases hu with rfl|rfl<;>rfl
theorem zKE(w:World)(f:Rt)(T:TypeId):∀ad,(some ⟨w.heap.size,0,none⟩:Option Addr)=some ad->∀j u,(zBI f)[j]? =some u->(w.alloc (.cells (zBI f).toArray T)).cell? (ad.add j)=some u:=by
 intro ad e j u hu
 cases e
 rw[Addr.add_lit,World.cell?_alloc_at _ _ _ _ rfl]
 simpa using hu
theorem zFI{x g:Int}(hx: -4611686018427387904<=x∧x<=4611686018427387904): -4611686018427387904<=x.tdiv g∧x.tdiv g<=4611686018427387904:=by
 have h:=Int.natAbs_tdiv x g
 have h2:(x.tdiv g).natAbs<=x.natAbs:=by rw[Int.natAbs_tdiv];exact Nat.div_le_self _ _
 omega
theorem of_c(w:World)(n d:Int)(hn: -4611686018427387904<=n∧n<=4611686018427387904)(hd: -4611686018427387904<=d∧d<=4611686018427387904)(h0:d≠0):
 Calls Tryz.prog 152 #[.int .i64 n,.int .i64 d] w fun e w'=>e=.returned (ratV (ofF n d))∧Below w.heap.size w w':=by
 have HD:=hid (fun(X:World)=>zFX X n d hn hd)
 have hg0:0<Int.gcd n d:=Nat.pos_of_ne_zero (fun h=>h0 (Int.gcd_eq_zero_iff.1 h).2)
 have hgl:Int.gcd n d<=4611686018427387904:=by
  have:=Int.gcd_le_natAbs_right n h0
  omega
 obtain⟨G,hG⟩:∃G:Int,G=((Int.gcd n d:Nat):Int):=⟨_,rfl⟩
 unfold ofF
 simp only[]
 rw[<- hG]at HD⊢
 have hG1:1<=G:=by omega
 have hG2:G<=4611686018427387904:=by omega
 clear hG hg0 hgl
 have b1:=zFI (g:=G) hn
 have b2:=zFI (g:=G) hd
 by_cases hs:d<0
 ·rw[if_pos hs]
  obtain⟨m,hm⟩:∃m:Int,m= -G:=⟨_,rfl⟩
  rw[<- hm]
  have b3:=zFI (g:=m) hn
  have b4:=zFI (g:=m) hd
  have hw1:IntKind.i64.wrap (n.tdiv m)=n.tdiv m:=IntWalk.i64_in _ (by omega)
  have hw2:IntKind.i64.wrap (d.tdiv m)=d.tdiv m:=IntWalk.i64_in _ (by omega)
  have hw00:wrap64 (-G)=m:=by unfold wrap64;omega
  have hne:¬(m=0):=by omega
  clear b1 b2 b3 b4 h0 hm hG1 hG2 hn hd
  go_enter Tryz.func152,Tryz.ntmps152
  go_wp2_with (go_at_call 206;refine(HD.out _).mono ?_;rintro e w1 ⟨rfl,k1,rfl⟩;refine Stop.of ?_)
  refine Stop.go ?_
  have hb1:Below w.heap.size w ((w.alloc (.cells #[.int .i64 0,.int .i64 0] 29)).drewN k1):=zAV ((Below.refl _ w).alloc (Nat.le_refl _) _) k1
  have hq1:((w.alloc (.cells #[.int .i64 0,.int .i64 0] 29)).drewN k1).heap[w.heap.size]? =some (.cells #[.int .i64 0,.int .i64 0] 29 (0,0)):=World.alloc_heap_new w _
  generalize (w.alloc (.cells #[.int .i64 0,.int .i64 0] 29)).drewN k1=w2 at hb1 hq1⊢
  go_wp2
  go_still_tail 7,(by kernel_rfl)
  change wpList _ _ _ _ _ w2.drew
  have hb2:=hb1.drew
  have hq2:w2.drew.heap[w.heap.size]? =some (.cells #[.int .i64 0,.int .i64 0] 29 (0,0)):=hq1
  generalize w2.drew=w3 at hb2 hq2⊢
  have c0:w3.cell? ⟨w.heap.size,0,none⟩=some (.int .i64 0):=by simp[World.cell?,hq2]
  have c1:w3.cell? ⟨w.heap.size,1,none⟩=some (.int .i64 0):=by simp[World.cell?,hq2]
  have f0:w3.frozen? ⟨w.heap.size,0,none⟩=false:=by simp[World.frozen?,hq2]
  have f1:w3.frozen? ⟨w.heap.size,1,none⟩=false:=by simp[World.frozen?,hq2]
  have hlt3:w.heap.size<w3.heap.size:=(Array.getElem?_eq_some_iff.1 hq2).1
  go_wp2
  simp[bodyPost,results,Tryz.results152,go_sem,c0,c1,f0,f1,hlt3]
  exact⟨rfl,zAE (zAE hb2 (Nat.le_refl _) 0 _) (Nat.le_refl _) 1 _⟩
 ·rw[if_neg hs]
  have hw1:IntKind.i64.wrap (n.tdiv G)=n.tdiv G:=IntWalk.i64_in _ (by omega)
  have hw2:IntKind.i64.wrap (d.tdiv G)=d.tdiv G:=IntWalk.i64_in _ (by omega)
  have hne:¬(G=0):=by omega
  clear b1 b2 h0 hG1 hG2 hn hd
  go_enter Tryz.func152,Tryz.ntmps152
  go_wp2_with (go_at_call 206;refine(HD.out _).mono ?_;rintro e w1 ⟨rfl,k1,rfl⟩;refine Stop.of ?_)
  refine Stop.go ?_
  have hb1:Below w.heap.size w ((w.alloc (.cells #[.int .i64 0,.int .i64 0] 29)).drewN k1):=zAV ((Below.refl _ w).alloc (Nat.le_refl _) _) k1
  have hq1:((w.alloc (.cells #[.int .i64 0,.int .i64 0] 29)).drewN k1).heap[w.heap.size]? =some (.cells #[.int .i64 0,.int .i64 0] 29 (0,0)):=World.alloc_heap_new w _
  generalize (w.alloc (.cells #[.int .i64 0,.int .i64 0] 29)).drewN k1=w2 at hb1 hq1⊢
  go_wp2
  go_still_tail 7,(by kernel_rfl)
  change wpList _ _ _ _ _ w2.drew
  have hb2:=hb1.drew
  have hq2:w2.drew.heap[w.heap.size]? =some (.cells #[.int .i64 0,.int .i64 0] 29 (0,0)):=hq1
  generalize w2.drew=w3 at hb2 hq2⊢
  have c0:w3.cell? ⟨w.heap.size,0,none⟩=some (.int .i64 0):=by simp[World.cell?,hq2]
  have c1:w3.cell? ⟨w.heap.size,1,none⟩=some (.int .i64 0):=by simp[World.cell?,hq2]
  have f0:w3.frozen? ⟨w.heap.size,0,none⟩=false:=by simp[World.frozen?,hq2]
  have f1:w3.frozen? ⟨w.heap.size,1,none⟩=false:=by simp[World.frozen?,hq2]
  have hlt3:w.heap.size<w3.heap.size:=(Array.getElem?_eq_some_iff.1 hq2).1
  go_wp2
  simp[bodyPost,results,Tryz.results152,go_sem,c0,c1,f0,f1,hlt3]
  exact⟨rfl,zAE (zAE hb2 (Nat.le_refl _) 0 _) (Nat.le_refl _) 1 _⟩
end
section
open Go.RowKit
def readE(M:Mask)(y:List Int):Int:=if y.length=M.length then(if milB y=true then 0 else 7)else 9
def zBH(M:Mask)(y l:List Int):Int:=if okM M=true then(if y.length=M.length then(if milB y=true then pixE M l else 7)else 9)else 1
theorem zJA(w:World)(a a2 a3:Option Addr)(n cap n2 cap2 n3 cap3:Nat)(M:Mask)(y l:List Int)(hn:M.length=n)(hn2:y.length=n2)(hn3:l.length=n3)(hm:n<=maxLen)(hm2:n2<=maxLen)(hm3:n3<=maxLen)(H:zAT w a M)(H2:zAJ w a2 y)(H3:zAJ w a3 l):
 Calls Tryz.prog 101 #[.slice a n cap,.slice a2 n2 cap2,.slice a3 n3 cap3] w fun e w'=>e=.returned (.int .i64 (zBH M y l))∧Below w.heap.size w w':=by
 have HV:=hid (zIN w a n cap M hn hm H)
 cases hok:okM M
 ·rw[hok]at HV
  have hp:zBH M y l=1:=by unfold zBH;rw[hok];rfl
  rw[hp]
  clear hn hn2 hn3 H H2 H3 hok hp
  go_enter Tryz.func101,Tryz.ntmps101
  go_wp2_with (go_at_call 79;refine HV.out.mono ?_;rintro e w1 ⟨rfl,hb1⟩)
  go_ret
  exact⟨rfl,hb1⟩
 ·rw[hok]at HV
  by_cases hl:n2=n
  ·subst hl
   have HII:=hid (fun(X:World) (hX:Below w.heap.size w X)=>H2.below hX)
   have HN2:=hid hn2
   have HPX:=hid (fun(X:World) (hX:Below w.heap.size w X)=>pixels_c X a a3 n2 cap n3 cap3 M l hn hn3 hm hm3 (H.below hX) (H3.below hX))
   have hdl:((n2:Int) !=(n2:Int))=false:=by simp
   have hpre:zBH M y l=if milB y=true then pixE M l else 7:=by unfold zBH;rw[if_pos hok,if_pos (by omega)]
   rw[hpre]
   obtain⟨E,hE⟩:=exq (pixE M l)
   rw[<- hE]at HPX⊢
   obtain⟨mz,hmz⟩:=exq (milB y)
   have HMZ:=hid hmz
   rw[<- hmz]
   clear hn H H2 H3 hok hn2 hn3 hpre hE hmz
   cases mz
   all_goals
    simp only[if_true,if_false,Bool.false_eq_true]
    go_enter Tryz.func101,Tryz.ntmps101
    go_wp2_with (go_at_call 79;refine HV.out.mono ?_;rintro e w1 ⟨rfl,hb1⟩;refine Stop.of ?_)
    refine Stop.go ?_
    have HBW1:=hid hb1
    clear hb1 HV
    go_wp2_with (go_at_call 106;refine(beyond_c _ 1000000).mono ?_;rintro e w2 ⟨q,rfl,hq,hqs,hb2⟩;refine Stop.of ?_)
    refine Stop.go ?_
    have HB2:=hid (zAA HBW1.out hb2)
    have HCF:=hid (zIX w2 a2 n2 cap2 y HN2.out hm2 (HII.out w2 HB2.out) 167 #[.pointer (some ⟨q,0,none⟩)] (fun n=>!(inB n (-1000000) 1000000)) (enters_of Tryz.func167 (by kernel_rfl) rfl) (beyond1 w2 q 1000000 (by decide) hq hqs))
    rw[any_mil,<- HMZ.out]at HCF
    clear hq hqs hb2
   ·go_wp2_with (go_at_call 105;refine HCF.out.mono ?_;rintro e w3 ⟨rfl,hb3⟩)
    go_ret
    exact⟨rfl,zAA HB2.out hb3⟩
   ·go_wp2_with (go_at_call 105;refine HCF.out.mono ?_;rintro e w3 ⟨rfl,hb3⟩;refine Stop.of ?_)
    refine Stop.go ?_
    have HB3:=hid (zAA HB2.out hb3)
    clear HCF hb3
    go_wp2_with (go_at_call 163;refine(HPX.out w3 HB3.out).mono ?_;rintro e w4 ⟨rfl,hb4⟩)
    go_ret
    exact⟨rfl,zAA HB3.out hb4⟩
  ·have hdl:((n2:Int) !=(n:Int))=true:=by simp;omega
   have hpre:zBH M y l=9:=by unfold zBH;rw[if_pos hok,if_neg (by omega)]
   rw[hpre]
   clear hn hn2 hn3 H H2 H3 hok hpre hl
   go_enter Tryz.func101,Tryz.ntmps101
   go_wp2_with (go_at_call 79;refine HV.out.mono ?_;rintro e w1 ⟨rfl,hb1⟩)
   go_ret
   exact⟨rfl,hb1⟩
end
section
open Go.RowKit
theorem solve1(w:World)(b:Nat)(a:Option Addr)(n cap N:Nat)(y:List Int)(hn:y.length=n)(hN:N<=n)(hm:n<=maxLen)(hc:w.cell? ⟨b,0,none⟩=some (.slice a n cap))(hb:b<w.heap.size)(H:zAJ w a y):
 MoreP Tryz.prog 265 #[.pointer (some ⟨b,0,none⟩)] w N (fun i=>[y[i]?.getD 0]):=by
 intro i W hi hW
 have hc':W.cell? ⟨b,0,none⟩=some (.slice a n cap):=(hW.cell (p:=⟨b,0,none⟩) hb).trans hc
 obtain⟨b2,o2,rfl,hb2,hc2⟩:=(H.below hW) i (by omega)
 show Calls Tryz.prog 265 #[.int .i64 i,.pointer (some ⟨b,0,none⟩)] W fun e W'=>∃a c,e=.returned (.slice a 1 c)∧zAJ W' a [y[i]?.getD 0]∧Below W.heap.size W W'
 obtain⟨x,hx⟩:=exq (y[i]?.getD 0)
 rw[<- hx]at hc2⊢
 have hin:(i:Int)<(n:Int):=by omega
 unfold maxLen at hm
 clear hn H hc hx
 go_enter Tryz.func265,Tryz.ntmps265
 go_wp2
 go_ret
 refine⟨some ⟨W.heap.size,0,none⟩,1,rfl,fun j hj=>⟨W.heap.size,0,rfl,by simp,?_⟩,(Below.refl _ _).alloc (Nat.le_refl _) _⟩
 obtain rfl:j=0:=by simpa using hj
 rw[World.cell?_alloc_at _ _ _ _ rfl];rfl
theorem chosenF_y{M:List (List Int)}{S y:List Int}(h:y.length=M.length):zDE M S (fun i=>[y[i]?.getD 0])=zAF (zDO M S) y:=by
 unfold zDE zAF zDO
 refine List.ext_getElem (by simp[h]) fun i h1 h2=>?_
 have hi:i<M.length:=by simpa using h1
 simp[List.getElem?_eq_getElem (show i<y.length by omega)]
def zCB(M:Mask)(l y:List Int):List Rt×Int:=if zBH M y l=0 then zAN (zAF (zDO M l) y) l.length else([],zBH M y l)
theorem zGA{M:Mask}{y l:List Int}(h:zBH M y l=0):okM M=true∧y.length=M.length∧milB y=true∧zDP (zAL M) l:=by
 unfold zBH at h
 by_cases h1:okM M=true
 ·rw[if_pos h1]at h
  by_cases h2:y.length=M.length
  ·rw[if_pos h2]at h
   by_cases h3:milB y=true
   ·rw[if_pos h3]at h
    exact⟨h1,h2,h3,(pix_ok h).2⟩
   ·rw[if_neg h3]at h;omega
  ·rw[if_neg h2]at h;omega
 ·rw[if_neg h1]at h;omega
theorem zKM{y:List Int}(h:milB y=true):∀v∈y,-((1000000:Nat):Int)<=v∧v<=((1000000:Nat):Int):=by
 intro v hv
 have:=List.all_eq_true.1 h v hv
 unfold inB at this
 simp only[Bool.and_eq_true,decide_eq_true_eq]at this
 omega
def ofTo(R:List (List Int))(J:List Nat)(n k:Nat):List Rt:=(List.range k).map fun i=>ofF (vec (R[i]?.getD []) n) (vec (R[i]?.getD []) (jf J i))
theorem zKI(R:List (List Int))(J:List Nat)(n k:Nat):(ofTo R J n k).length=k:=by simp[ofTo]
theorem ofTo_succ(R:List (List Int))(J:List Nat)(n k:Nat):ofTo R J n (k+1)=ofTo R J n k++[ofF (vec (R[k]?.getD []) n) (vec (R[k]?.getD []) (jf J k))]:=by
 unfold ofTo;rw[List.range_succ,List.map_append];rfl
def SolveSt(wr:World)(base:Nat)(v:Value)(R:List (List Int))(J:List Nat)(n k:Nat):Prop:=zCU wr base v (ofTo R J n (min k J.length))∧∀q,J.length<=q->q<k->vec (R[q]?.getD []) n=0
theorem solve_end{C:List (List Int)}{n:Nat}(hK:(pRed C n).2.length<=n)(h0:∀q,(pRed C n).2.length<=q->q<(pRed C n).1.length->vec ((pRed C n).1[q]?.getD []) n=0):
 zAN C n=if (pRed C n).2.length<n then([],11)else(ofTo (pRed C n).1 (pRed C n).2 n (pRed C n).2.length,0):=by
 unfold zAN
 simp only[]
 have h1:((pRed C n).1.drop (pRed C n).2.length).any (nz n)=false:=by
  rw[Bool.eq_false_iff]
  intro hc
  obtain⟨r,hr,hz⟩:=List.any_eq_true.1 hc
  obtain⟨i,hi,rfl⟩:=List.mem_iff_getElem.1 hr
  rw[List.getElem_drop]at hz
  have:=h0 ((pRed C n).2.length+i) (by omega) (by rw[List.length_drop]at hi;omega)
  rw[List.getElem?_eq_getElem (by rw[List.length_drop]at hi;omega)]at this
  simp only[nz,decide_eq_true_eq]at hz
  exact hz this
 rw[h1]
 simp only[Bool.false_eq_true,if_false]
 by_cases c:(pRed C n).2.length<n
 ·rw[if_pos c,if_pos c]
 ·rw[if_neg c,if_neg c]
  have:(pRed C n).2.length=n:=by omega
  rw[this];rfl
theorem solve_none{C:List (List Int)}{n q:Nat}(h1:(pRed C n).2.length<=q)(h2:q<(pRed C n).1.length)(h3:vec ((pRed C n).1[q]?.getD []) n≠0):zAN C n=([],8):=by
 unfold zAN
 simp only[]
 rw[if_pos]
 refine List.any_eq_true.2 ⟨(pRed C n).1[q],?_,?_⟩
 ·rw[List.mem_drop_iff_getElem];exact⟨q-(pRed C n).2.length,by omega,by congr 1;omega⟩
 ·rw[List.getElem?_eq_getElem h2]at h3
  simpa[nz]using h3
theorem solve_c(w:World)(a a2 a3:Option Addr)(n cap n2 cap2 n3 cap3:Nat)(M:Mask)(l y:List Int)(hn:M.length=n)(hn2:l.length=n2)(hn3:y.length=n3)(hm:n<=maxLen)(hm2:n2<=maxLen)(hm3:n3<=maxLen)(H:zAT w a M)(H2:zAJ w a2 l)(H3:zAJ w a3 y):
 Calls Tryz.prog 262 #[.slice a n cap,.slice a2 n2 cap2,.slice a3 n3 cap3] w fun e w'=>∃v base,e=.returned (.tuple #[v,.int .i64 (zCB M l y).2])∧w.heap.size<=base∧zCU w' base v (zCB M l y).1∧Below w.heap.size w w':=by
 have hmf:∀(fn:Fn) (first cap:Array Value) (w:World),(Instr.makeFunc fn first cap).run Tryz.prog w=.ok (.func fn first cap) w:=fun _ _ _ _=>rfl
 obtain⟨s,hs⟩:=exq (w.heap.size)
 obtain⟨wf,hwf⟩:=exq (w.alloc (.cells #[.slice a3 n3 cap3] 24))
 have hb0:Below w.heap.size w wf:=by rw[hwf];exact(Below.refl _ _).alloc (Nat.le_refl _) _
 have hcb:wf.cell? ⟨s,0,none⟩=some (.slice a3 n3 cap3):=by rw[hwf,hs,World.cell?_alloc_at _ _ _ _ rfl];rfl
 have hsf:s<wf.heap.size:=by rw[hwf,hs];simp
 have HCK:=hid (zJA wf a a3 a2 n cap n3 cap3 n2 cap2 M y l hn hn3 hn2 hm hm3 hm2 (H.below hb0) (H3.below hb0) (H2.below hb0))
 have HBF:=hid hb0
 by_cases hck:zBH M y l=0
 ·rw[hck]at HCK
  have hv:zCB M l y=zAN (zAF (zDO M l) y) n2:=by unfold zCB;rw[if_pos hck,hn2]
  rw[hv]
  obtain⟨hok,hyl,hmil,hso⟩:=zGA hck
  obtain⟨hM,h1,h6,hc1,hc10⟩:=zFA hok
  have hl10:=set_le hso
  have hn6:n<=6:=by omega
  have hn1:1<=n:=by omega
  have hn210:n2<=10:=by omega
  have hS:∀r∈M,∀j∈l,0<=j∧j<r.length:=fun r hr j hj=>by rw[hM.wid r hr];exact hso.2 j hj
  have HCh:=hid (fun(X:World) (hX:Below wf.heap.size wf X)=>
   have hX0:=zAA hb0 hX
   chosen_c X a n cap M hn (by omega) (H.below hX0) a2 n2 cap2 l hn2 (by omega) (H2.below hX0) hS 265 #[.pointer (some ⟨s,0,none⟩)] (enters_of Tryz.func265 (by kernel_rfl) rfl) (fun i=>[y[i]?.getD 0])
    (solve1 X s a3 n3 cap3 n y hn3 (by omega) hm3 ((hX.cell (p:=⟨s,0,none⟩) hsf).trans hcb) (Nat.lt_of_lt_of_le hsf hX.size) (H3.below hX0)) (fun i _=>⟨by simp,by simp⟩))
  rw[chosenF_y (by omega)]at HCh
  have hMC:MaskOk (zDO M l) n2:=by rw[<- hn2];exact hM.cols l
  have hY:=hMC.addY (y:=y) (by rw[zBX];omega) (Y:=1000000) (by omega) (zKM hmil)
  have hCl:(zAF (zDO M l) y).length=n:=by rw[zCY (by rw[zBX];omega),zBX,hn]
  obtain⟨C,hC⟩:=exq (zAF (zDO M l) y)
  rw[<- hC]at HCh hY hCl⊢
  have hle:∀t,t<=n2->∀r∈(pRed C t).1,r.length=n2+1∧BndL 1073741824 r:=fun t ht r hr=>by
   have h:=pRed_le hY.wid hY.le6 hY.one hY.all ht r hr
   exact⟨h.1,fun x hx=>by have:=h.2 x hx;omega⟩
  have HRd:=hid (fun(W1:World) (base:Nat) (v0:Value) (hO:OwnT W1 base W1.heap.size v0 C) (hb:base<=W1.heap.size)=>reduce_c W1 base v0 C (n2+1) hO hb hY.wid (by omega) (by omega) (by omega) n2 (by omega) hle)
  have hinv:=zBQ C hY.wid n2 (fun j hj q=>zBN (by decide) (fun r hr=>hY.one r hr j hj) q)
  have hRl:(pRed C n2).1.length=n:=by rw[zDI,hCl]
  have hRw:∀r∈(pRed C n2).1,r.length=n2+1:=fun r hr=>(hle n2 (Nat.le_refl _) r hr).1
  have hRb:∀r∈(pRed C n2).1,BndL 1073741824 r:=fun r hr=>(hle n2 (Nat.le_refl _) r hr).2
  have hJn:(pRed C n2).2.length<=n:=by have:=hinv.K_le;omega
  have hJ2:(pRed C n2).2.length<=n2:=by
   have:=zJW (a:=0) (b:=n2) hinv.asc (fun x hx=>⟨Nat.zero_le _,hinv.lt x hx⟩)
   omega
  have hJlt:∀k,k<(pRed C n2).2.length->jf (pRed C n2).2 k<n2:=fun k hk=>by
   unfold jf;rw[List.getElem?_eq_getElem hk];exact hinv.lt _ (List.getElem_mem hk)
  have hJpos:∀k,k<(pRed C n2).2.length->0<vec ((pRed C n2).1[k]?.getD []) (jf (pRed C n2).2 k):=fun k hk=>(hinv.pp k hk).2
  have HEND:=hid (solve_end (C:=C) (n:=n2) hJ2)
  have HNO:=hid (fun q=>solve_none (C:=C) (n:=n2) (q:=q))
  obtain⟨SV,hSV⟩:=exq (zAN C n2)
  rw[<- hSV]at HEND HNO⊢
  obtain⟨R,hR⟩:=exq ((pRed C n2).1)
  obtain⟨J,hJ⟩:=exq ((pRed C n2).2)
  have e1:(pRed C n2).1=R:=hR.symm
  have e2:(pRed C n2).2=J:=hJ.symm
  rw[e1]at HRd hRl hRw hRb hJpos HEND HNO
  rw[e2]at HRd hJn hJ2 hJlt hJpos HEND HNO
  obtain⟨K,hK⟩:=exq (J.length)
  rw[<- hK]at HRd hJn hJ2 hJlt hJpos HEND HNO
  have HKJ:=hid hK
  have HRL:=hid hRl
  have HRW:=hid hRw
  have HRB:=hid hRb
  have HJLT:=hid hJlt
  have HJPOS:=hid hJpos
  have HSS:=hid hs
  clear e1 e2 hR hJ hK hRl hRw hRb hJlt hJpos hSV hinv hle hC hCl hY hMC hS hso hmil hyl hok hM h1 h6 hc1 hc10 hl10 hck hv hn hn2 hn3 H H2 H3 hb0
  go_enter Tryz.func262,Tryz.ntmps262
  go_wp2_with fail
  rw[<- hwf,<- hs]
  clear hwf hs
  go_wp2_with (go_at_call 101;refine HCK.out.mono ?_;rintro e w1 ⟨rfl,hb1⟩;refine Stop.of ?_)
  refine Stop.go ?_
  go_wp2_with (go_at_call 220;refine(HCh.out w1 hb1).mono ?_;rintro e w2 ⟨v0,rfl,hO2,hb2⟩;refine Stop.of ?_)
  refine Stop.go ?_
  have HRd1:=hid (HRd.out w2 w1.heap.size v0 (OwnT.of hO2) hb2.size)
  clear hO2 HRd HCh
  go_wp2_with (go_at_call 195;refine HRd1.out.mono ?_;rintro e w3 ⟨vJ,rfl,hJo,hT3,hb3⟩;refine Stop.of ?_)
  refine Stop.go ?_
  rw[intsJ_vals]at hJo
  obtain⟨ja,jc,rfl,hJI,hJm⟩:=zCP hJo (by rw[intsJ_len,HKJ.out])
  have hv0:∃g0 c0,v0=.slice (some ⟨g0,0,none⟩) n c0:=by
   obtain⟨g0,c0,_,_,e,_⟩:=hT3.at 0 (by rw[HRL.out];omega)
   exact⟨g0,c0,by rw[e,HRL.out]⟩
  obtain⟨g0,c0,rfl⟩:=hv0
  have hRA:=hT3.rowsAt HRL.out (fun r hr=>by rw[HRW.out r hr];unfold maxLen;omega)
  have HJI:=hid hJI
  have HRA:=hid hRA
  have HBW:=hid (show Below w.heap.size w w3 from zAA HBF.out (hb1.trans ((hb2.trans hb3).mono hb1.size)))
  have hsz:s<=w3.heap.size:=by rw[HSS.out];exact HBW.out.size
  clear hJI hRA hJo hT3 hb1 hb2 hb3 HRd1 HCK HBF hcb hsf
  go_wp2
  go_loopw [12,33] (fun v i wr=>∃k:Nat,k<=n∧i=.int .i64 k∧SolveSt wr w3.heap.size v R J n2 k∧Below w3.heap.size w3 wr) (fun _ i _=>n-(intOf i).toNat)
  case atStart=>exact⟨0,Nat.zero_le _,rfl,⟨by rw[Nat.zero_min];exact zCU.nil _ _,fun q _ h=>by omega⟩,Below.refl _ _⟩
  case round=>
   obtain⟨k,hk,rfl,hst,hbk⟩:=hrel
   by_cases hlt:k<n
   ·obtain⟨b,off,ra,rn,rc,e,hbs,hc,hrn,hrm,hri⟩:=HRA.out k (by rw[HRL.out];exact hlt)
    cases e
    rw[Nat.zero_add]at hc
    have hrw:rn=n2+1:=by rw[<- hrn];exact HRW.out _ (List.getElem_mem _)
    have hcw:wr.cell? ⟨g0,k,none⟩=some (.slice ra rn rc):=(hbk.cell (p:=⟨g0,k,none⟩) hbs).trans hc
    clear hc
    obtain⟨b',off',rfl,hbs',hcx⟩:=hri n2 (by omega)
    have hkR:k<R.length:=by rw[HRL.out];exact hlt
    have hvx:∀c,(R[k])[c]?.getD 0=vec (R[k]?.getD []) c:=fun c=>by rw[List.getElem?_eq_getElem hkR];rfl
    rw[hvx]at hcx
    have hnx:(n2:Int)<(rn:Int):=by omega
    by_cases hkK:k<K
    ·obtain⟨p,hp⟩:=exq (jf J k)
     have hp2:p<n2:=by rw[hp];exact HJLT.out k hkK
     obtain⟨jb,jo,rfl,hjs,hcj⟩:=HJI.out k (by rw[intsJ_len,<- HKJ.out];exact hkK)
     have hjv:(intsJ J)[k]?.getD 0=(p:Int):=by
      have hkl:k<J.length:=by rw[<- HKJ.out];exact hkK
      unfold intsJ;rw[hp];unfold jf;simp[hkl]
     rw[hjv]at hcj
     obtain⟨b2,off2,e2,_,hcz⟩:=hri p (by omega)
     cases e2
     rw[hvx]at hcz
     have hzp:0<vec (R[k]?.getD []) p:=by rw[hp];exact HJPOS.out k hkK
     have hbx:=zEC (P:=fun x=> -((1073741824:Nat):Int)<=x∧x<=((1073741824:Nat):Int)) (by omega) (HRB.out _ (List.getElem_mem hkR))
     have hbx1:=hbx n2
     have hbx2:=hbx p
     have hRk:R[k]?.getD []=R[k]:=by rw[List.getElem?_eq_getElem hkR];rfl
     rw[<- hRk]at hbx1 hbx2
     have hsnoc:ofTo R J n2 (k+1)=ofTo R J n2 k++[ofF (vec (R[k]?.getD []) n2) (vec (R[k]?.getD []) p)]:=by rw[hp];exact ofTo_succ R J n2 k
     have HOf:=hid (fun(X:World)=>of_c X (vec (R[k]?.getD []) n2) (vec (R[k]?.getD []) p) (by omega) (by omega) (by omega))
     obtain⟨x,hx⟩:=exq (vec (R[k]?.getD []) n2)
     obtain⟨z,hz⟩:=exq (vec (R[k]?.getD []) p)
     rw[<- hx]at hcx HOf hsnoc
     rw[<- hz]at hcz HOf hsnoc
     obtain⟨Q,hQ⟩:=exq (ofF x z)
     rw[<- hQ]at HOf hsnoc
     obtain⟨q1,q2⟩:=Q
     have HSN:=hid hsnoc
     obtain⟨hst1,hst2⟩:=hst
     rw[<- HKJ.out,show min k K=k by omega]at hst1
     have HST2:=hid (show ∀q,J.length<=q->q<k+1->vec (R[q]?.getD []) n2=0 from fun q h1 h2=>by have:=HKJ.out;omega)
     obtain⟨T,hT⟩:=exq (ofTo R J n2 k)
     rw[<- hT]at hst1 hsnoc
     have hTl:T.length=k:=by rw[hT];exact zKI R J n2 k
     have HO:=hid hst1
     unfold zCU at hst1
     rw[hTl]at hst1
     have HO1:=hid hst1
     obtain⟨va,vc,rfl⟩:=zAH hst1
     have HSN2:=hid (show zBS (ofTo R J n2 (k+1))=zBS T++zBI (q1,q2)by rw[hsnoc,zEI])
     have HS:=hid (fun(X:World) (hX:Below w3.heap.size w3 X)=>show X.cell? ⟨b',off'+n2,none⟩=some (.int .i64 x)∧X.cell? ⟨jb,jo+k,none⟩=some (.int .i64 p)∧X.cell? ⟨b',off'+p,none⟩=some (.int .i64 z)from
      ⟨(hX.cell (p:=⟨b',off'+n2,none⟩) hbs').trans hcx,(hX.cell (p:=⟨jb,jo+k,none⟩) hjs).trans hcj,(hX.cell (p:=⟨b',off'+p,none⟩) hbs').trans hcz⟩)
     have M1:=hid (show k+1<=maxLen by unfold maxLen;omega)
     have M2:=hid (show(k+1)*16<=140737488355328 by omega)
     have HBK:=hid hbk
     have i1:(k:Int)<(K:Int):=by omega
     have i2:(p:Int)<(rn:Int):=by omega
     clear hst1 hst2 hcx hcj hcz hsnoc hx hz hQ hT hTl hRk hbx hbx1 hbx2 hzp hvx hri hrn hrw hjv hp hbk HO HSN
     simp only[ratV]at HOf
     go_wp2
     refine zAG (fun j' X=>wAll j'=true->X.cell? ⟨b',off'+n2,none⟩=some (.int .i64 x)∧X.cell? ⟨jb,jo+k,none⟩=some (.int .i64 p)∧X.cell? ⟨b',off'+p,none⟩=some (.int .i64 z)) (by kernel_rfl) ?_
     have hbd:Below w3.heap.size w3 wr.drew:=HBK.out.drew
     have HO2:=hid (zBF HO1.out ((Below.refl _ wr).drew))
     have HB3:=hid hbd
     generalize wr.drew=wd at hbd HO2 HB3⊢
     refine AnyT.tD (i:=0) (v:=.slice va k vc) rfl rfl (by rintro w' ⟨y1,y2,y3⟩;go_simp) (HS.out _ hbd) ?_;go_frame
     refine AnyT.tD (i:=1) (v:=.slice (some ⟨b',off',none⟩) rn rc) rfl rfl (by rintro w' ⟨y1,y2,y3⟩;go_simp) (HS.out _ hbd) ?_;go_frame
     refine AnyT.tD (i:=2) (v:=.int .i64 n2) rfl rfl (by rintro w' ⟨y1,y2,y3⟩;go_simp) (HS.out _ hbd) ?_;go_frame
     refine AnyT.tD (i:=3) (v:=.pointer (some ⟨b',off'+n2,none⟩)) rfl rfl (by rintro w' ⟨y1,y2,y3⟩;go_simp) (HS.out _ hbd) ?_;go_frame
     refine AnyT.tD (i:=4) (v:=.int .i64 x) rfl rfl (by rintro w' ⟨y1,y2,y3⟩;go_simp) (HS.out _ hbd) ?_;go_frame
     refine AnyT.tD (i:=5) (v:=.slice (some ⟨b',off',none⟩) rn rc) rfl rfl (by rintro w' ⟨y1,y2,y3⟩;go_simp) (HS.out _ hbd) ?_;go_frame
     refine AnyT.tD (i:=6) (v:=.slice (some ⟨jb,jo,none⟩) K jc) rfl rfl (by rintro w' ⟨y1,y2,y3⟩;go_simp) (HS.out _ hbd) ?_;go_frame
     refine AnyT.tD (i:=7) (v:=.int .i64 k) rfl rfl (by rintro w' ⟨y1,y2,y3⟩;go_simp) (HS.out _ hbd) ?_;go_frame
     refine AnyT.tD (i:=8) (v:=.pointer (some ⟨jb,jo+k,none⟩)) rfl rfl (by rintro w' ⟨y1,y2,y3⟩;go_simp) (HS.out _ hbd) ?_;go_frame
     refine AnyT.tD (i:=9) (v:=.int .i64 p) rfl rfl (by rintro w' ⟨y1,y2,y3⟩;go_simp) (HS.out _ hbd) ?_;go_frame
     refine AnyT.tD (i:=10) (v:=.pointer (some ⟨b',off'+p,none⟩)) rfl rfl (by rintro w' ⟨y1,y2,y3⟩;go_simp) (HS.out _ hbd) ?_;go_frame
     refine AnyT.tD (i:=11) (v:=.int .i64 z) rfl rfl (by rintro w' ⟨y1,y2,y3⟩;go_simp) (HS.out _ hbd) ?_;go_frame
     refine AnyT.nx (i:=12) rfl ?_
     go_wp2_with (go_at_call 152;refine(HOf.out _).mono ?_;rintro e w4 ⟨rfl,hbl4⟩;refine Stop.of ?_)
     refine Stop.go ?_
     have HB4:=hid (zAA hbd hbl4)
     have HO4:=hid (zBF HO2.out hbl4)
     have M3:=hid (Nat.le_trans HB4.out.size (zCG w4 (.cells (zBI (q1,q2)).toArray 29)))
     clear hbd hbl4
     go_wp2
     refine⟨fun _=>HS.out _ HB4.out,?_⟩
     refine AnyT.nx (i:=13) rfl ?_
     go_wp2
     have hbA:Below w3.heap.size w3 (w4.alloc (.cells (zBI (q1,q2)).toArray 29)):=HB4.out.alloc HB4.out.size _
     refine⟨fun _=>HS.out _ hbA,?_⟩
     refine AnyT.nx (i:=14) rfl ?_
     refine zBD _ rfl (.tmp 43) (.tmp 56) 42 rfl w3.heap.size 29 (.agg #[.int .i64 0,.int .i64 0]) 2 16 Tryz.underlying42 zGP rfl (by decide) (.slice va k vc) k _ rfl (HO4.out.alloc _) (some ⟨w4.heap.size,0,none⟩) 1 1 (zBI (q1,q2)) rfl rfl zCO (zKE w4 (q1,q2) _) (rat_one _) M1.out M2.out M3.out ?_
     intro a5 c5 w5 own5 g5
     have hb5:Below w3.heap.size w3 w5:=hbA.grown g5 M3.out (fun q hq=>(HO4.out.lt q hq).1)
     refine⟨fun _=>HS.out _ hb5,?_⟩
     refine AnyT.tD (i:=15) (v:=.slice a5 (k+1) c5) rfl rfl (by rintro w' ⟨y1,y2,y3⟩;go_simp) (HS.out _ hb5) ?_;go_frame
     refine AnyT.done (by kernel_rfl) ?_ _
     go_wp2
     refine⟨⟨k+1,by omega,by go_num,⟨?_,HST2.out⟩,hb5⟩,by simp[intOf];omega⟩
     rw[<- HKJ.out,show min (k+1) K=k+1 by omega]
     unfold zCU
     rw[zKI,HSN2.out]
     exact own5
    ·have HX8:=hid (fun(h:vec (R[k]?.getD []) n2≠0)=>HNO.out k (by omega) (by rw[HRL.out];exact hlt) h)
     have HX0:=hid (fun(h:vec (R[k]?.getD []) n2=0)=>show SolveSt wr w3.heap.size u12 R J n2 (k+1)from⟨by have h1:=hst.1;rw[<- HKJ.out,show min k K=min (k+1) K by omega]at h1;rw[<- HKJ.out];exact h1,fun q h1 h2=>by
      rcases Nat.lt_or_ge q k with h3|h3
      ·exact hst.2 q h1 h3
      ·obtain rfl:q=k:=by omega
       exact h⟩)
     obtain⟨x,hx⟩:=exq (vec (R[k]?.getD []) n2)
     rw[<- hx]at hcx HX8 HX0
     have i1:¬((k:Int)<(K:Int)):=by omega
     have HBK:=hid hbk
     have hcx':wr.cell? ⟨b',off'+n2,none⟩=some (.int .i64 x):=(hbk.cell (p:=⟨b',off'+n2,none⟩) hbs').trans hcx
     clear hx hst hbk hcx hvx hri hrn hrw
     by_cases h0:x=0
     ·subst h0
      have HX:=hid (HX0.out rfl)
      clear HX0 HX8
      go_wp2
      exact⟨⟨k+1,by omega,by go_num,HX.out,HBK.out⟩,by simp[intOf];omega⟩
     ·have hxb:(x !=0)=true:=by simpa using h0
      obtain rfl:SV=([],8):=HX8.out h0
      clear HX0 HX8
      go_wp2
      go_ret2
      exact⟨.slice none 0 0,rfl,w.heap.size,Nat.le_refl _,zCU.nil _ _,zAA HBW.out HBK.out⟩
   ·obtain rfl:k=n:=by omega
    have hSV:SV=if K<n2 then([],11)else(ofTo R J n2 K,0):=HEND.out fun q h1 h2=>hst.2 q (by rw[<- HKJ.out];exact h1) (by rw[HRL.out]at h2;exact h2)
    have hst1:=hst.1
    rw[<- HKJ.out,show min k K=K by omega]at hst1
    have HO:=hid hst1
    have HBK:=hid hbk
    obtain⟨va,vc,hve⟩:=zAH hst1
    rw[zKI]at hve
    subst hve
    clear hst1 hst hbk
    by_cases hKn:K<n2
    ·rw[if_pos hKn]at hSV
     subst hSV
     have i2:(K:Int)<(n2:Int):=by omega
     go_wp2
     go_ret2
     exact⟨.slice none 0 0,rfl,w.heap.size,Nat.le_refl _,zCU.nil _ _,zAA HBW.out HBK.out⟩
    ·rw[if_neg hKn]at hSV
     subst hSV
     have i2:¬((K:Int)<(n2:Int)):=by omega
     go_wp2
     go_ret2
     exact⟨_,rfl,w3.heap.size,HBW.out.size,HO.out,zAA HBW.out HBK.out⟩
 ·have hv:zCB M l y=([],zBH M y l):=by unfold zCB;rw[if_neg hck]
  rw[hv]
  obtain⟨E,hE⟩:=exq (zBH M y l)
  rw[<- hE]at HCK hck⊢
  have hpb:(E !=0)=true:=by simpa using hck
  have HSS:=hid hs
  clear hn hn2 hn3 H H2 H3 hv hE hb0
  go_enter Tryz.func262,Tryz.ntmps262
  go_wp2_with fail
  rw[<- hwf,<- hs]
  clear hwf hs
  go_wp2_with (go_at_call 101;refine HCK.out.mono ?_;rintro e w1 ⟨rfl,hb1⟩)
  go_ret2
  exact⟨.slice none 0 0,w.heap.size,rfl,Nat.le_refl _,zCU.nil _ _,zAA HBF.out hb1⟩
end
end
section
abbrev FitT:=List Int×List Rt
def fitF(M:Mask)(y S:List Int):Option FitT:=if (zCB M S y).2=0∧(zCB M S y).1.all (fun r=>decide (r.1≠0))=true then some (S,(zCB M S y).1)else none
def zBG(M:Mask)(y:List Int)(W t:Nat):List FitT:=(List.range t).flatMap fun j=>(comb W j 0).filterMap (fitF M y)
theorem zBT(M:Mask)(y:List Int)(W t:Nat):zBG M y W (t+1)=zBG M y W t++(comb W t 0).filterMap (fitF M y):=by
 unfold zBG;rw[List.range_succ,List.flatMap_append];simp
def zBV(M:Mask)(y:List Int)(k:Nat):List FitT:=zBG M y (zAL M) (min (min k (zAL M)) M.length+1)
theorem zHS{M:Mask}{y S:List Int}{f:FitT}(h:fitF M y S=some f):f=(S,(zCB M S y).1)∧(zCB M S y).2=0∧∀r∈f.2,r.1≠0:=by
 unfold fitF at h
 split at h
 ·rename_i h1
  cases h
  exact⟨rfl,h1.1,fun r hr=>by simpa using List.all_eq_true.1 h1.2 r hr⟩
 ·cases h
def wholeR(r:Rt):Bool:=decide (r.2=1)&&inB r.1 (-1000000) 1000000
def spreadTo1(W:Nat)(f:FitT)(k:Nat):List Int:=(List.range k).foldl (fun out i=>out.set (f.1[i]?.getD 0).toNat (f.2[i]?.getD (0,0)).1) (List.replicate W 0)
def spreadI(W:Nat)(f:FitT):List Int:=spreadTo1 W f f.1.length
def wholeOne(W:Nat)(f:FitT):Option (List Int):=if f.2.all wholeR=true then some (spreadI W f)else none
def wholeF(M:Mask)(y:List Int)(k:Nat):List (List Int):=(zBV M y k).filterMap (wholeOne (zAL M))
end
section
section
theorem zEH{a b c d:Int}(hb:0<b)(hd:0<d)(h:a*d=c*b):zAK a b=zAK c d:=by
 have g1:0<Int.gcd a b:=Nat.pos_of_ne_zero fun e=>by have:=(Int.gcd_eq_zero_iff.1 e).2;omega
 have g2:0<Int.gcd c d:=Nat.pos_of_ne_zero fun e=>by have:=(Int.gcd_eq_zero_iff.1 e).2;omega
 have k1:Int.gcd (a*d) (b*d)=Int.gcd a b*d.natAbs:=Int.gcd_mul_right _ _ _
 have k2:Int.gcd (c*b) (d*b)=Int.gcd c d*b.natAbs:=Int.gcd_mul_right _ _ _
 rw[h,Int.mul_comm b d,k2]at k1
 obtain⟨a1,ha⟩:=Int.gcd_dvd_left a b
 obtain⟨b1,hb1⟩:=Int.gcd_dvd_right a b
 obtain⟨c1,hc⟩:=Int.gcd_dvd_left c d
 obtain⟨d1,hd1⟩:=Int.gcd_dvd_right c d
 unfold zAK
 obtain⟨G,hG⟩:∃G:Int,G=((Int.gcd a b:Nat):Int):=⟨_,rfl⟩
 obtain⟨H,hH⟩:∃G:Int,G=((Int.gcd c d:Nat):Int):=⟨_,rfl⟩
 have k3:H*b=G*d:=by
  have:=congrArg (fun n:Nat=>(n:Int)) k1
  simp only[Int.natCast_mul]at this
  rw[<- hG,<- hH]at this
  rw[show((b.natAbs:Nat):Int)=b by omega,show((d.natAbs:Nat):Int)=d by omega]at this
  exact this
 rw[<- hG]at ha hb1⊢
 rw[<- hH]at hc hd1⊢
 have hG0:G≠0:=by omega
 have hH0:H≠0:=by omega
 have e1:b1=d1:=by
  rw[hb1,hd1]at k3
  have:(H*G)*b1=(H*G)*d1:=by grind
  exact Int.eq_of_mul_eq_mul_left (Int.mul_ne_zero hH0 hG0) this
 have hb10:b1≠0:=fun e=>by rw[e]at hb1;omega
 have e2:a1=c1:=by
  rw[ha,hd1,hc,hb1,<- e1]at h
  have:(G*H*b1)*a1=(G*H*b1)*c1:=by grind
  exact Int.eq_of_mul_eq_mul_left (Int.mul_ne_zero (Int.mul_ne_zero hG0 hH0) hb10) this
 rw[Int.tdiv_eq_of_eq_mul_left hG0 (c:=a1) (by rw[ha];exact Int.mul_comm _ _),Int.tdiv_eq_of_eq_mul_left hG0 (c:=b1) (by rw[hb1];exact Int.mul_comm _ _),
  Int.tdiv_eq_of_eq_mul_left hH0 (c:=c1) (by rw[hc];exact Int.mul_comm _ _),Int.tdiv_eq_of_eq_mul_left hH0 (c:=d1) (by rw[hd1];exact Int.mul_comm _ _),e1,e2]
end
section
section
open Go.RowKit
def SeenAt(w:World)(g0:Nat)(M:Mask)(W:Nat):Prop:=
 ∀i,i<M.length->∃gi x,w.cell? ⟨g0,i,none⟩=some (.slice (some ⟨gi,0,none⟩) (W+M.length) (W+M.length+x))∧g0<w.heap.size∧gi<w.heap.size∧zAJ w (some ⟨gi,0,none⟩) ((RE M W)[i]?.getD [])∧((RE M W)[i]?.getD []).length=W+M.length
theorem SeenAt.below{w w':World}{g0:Nat}{M:Mask}{W:Nat}(h:SeenAt w g0 M W)(hb:Below w.heap.size w w'):SeenAt w' g0 M W:=by
 intro i hi
 obtain⟨gi,x,h1,h2,h3,h4,h5⟩:=h i hi
 exact⟨gi,x,(hb.cell (p:=⟨g0,i,none⟩) h2).trans h1,Nat.lt_of_lt_of_le h2 hb.size,Nat.lt_of_lt_of_le h3 hb.size,h4.below hb,h5⟩
end
section
open Go.RowKit
end
section
open Go.RowKit
end
section
open Go.RowKit
theorem clone_c(w:World)(a:Option Addr)(n cap:Nat)(l:List Int)(hn:l.length=n)(hm:n*8<=140737488355328)(H:zAJ w a l):
 Calls Tryz.prog 231 #[.slice a n cap] w fun e w'=>∃v,e=.returned v∧w'.ownsRow w.heap.size 3 1 v n (l.map (Value.int .i64))∧Below w.heap.size w w':=by
 obtain⟨i0,hi,hz0,hz1,hz2⟩:=info_parts zIP
 have heq:=fun(w:World) (a:Option Addr) (n c:Nat)=>Lib.run_eql_slice_nil (P:=Tryz.prog) w 24 3 a n c 0 0 Tryz.underlying24
 cases a with
 |none=>
  have h0:n=0:=by
   rcases Nat.eq_zero_or_pos n with h|h
   ·exact h
   ·obtain⟨_,_,e,_⟩:=H 0 (by omega);cases e
  subst h0
  have hl:l=[]:=List.eq_nil_of_length_eq_zero hn
  subst hl
  clear hn H hm
  go_enter Tryz.func231,Tryz.ntmps231
  go_wp2
  go_ret
  exact⟨_,rfl,World.ownsRow_nil _ _ _ _,Below.refl _ _⟩
 |some ad=>
  have HN:=hid hn
  have hnews:∀j u,(l.map (Value.int .i64))[j]? =some u->(w.alloc (.cells #[] 3)).cell? (ad.add j)=some u:=by
   intro j u hu
   rw[List.getElem?_map]at hu
   obtain⟨x,hx,rfl⟩:=Option.map_eq_some_iff.1 hu
   obtain⟨hjl,e⟩:=List.getElem?_eq_some_iff.1 hx
   obtain⟨b,off,ea,hb,hc⟩:=H j hjl
   cases ea
   rw[Addr.add_lit]
   refine(((Below.refl _ w).alloc (Nat.le_refl _) (.cells #[] 3)).cell (p:=⟨b,off+j,none⟩) hb).trans ?_
   rw[hc,hx];rfl
  have HNews:=hid hnews
  clear hnews H hn
  go_enter Tryz.func231,Tryz.ntmps231
  go_wp2_with (at_builtin;refine wpList_append_own _ rfl _ _ 24 rfl w.heap.size 3 i0 (.int .i64 0) 1 8 Tryz.underlying24 hi hz0 hz1 hz2 rfl (by decide) _ 0 [] rfl (World.ownsRow_made _ _ 0 (Nat.le_refl _) (by unfold maxLen;omega) rfl) ad n cap (l.map (Value.int .i64)) rfl (by rw[List.length_map,HN.out];omega) HNews.out (zKN _) (by unfold maxLen;omega) (by omega) (by simp) ?_;intro v' w1 hown' hgrow _)
  go_ret
  refine⟨_,rfl,by simpa using hown',((Below.refl _ w).alloc (Nat.le_refl _) _).grown hgrow (by simp) (fun k hk=>by cases hk;exact Nat.le_refl _)⟩
end
section
open Go.RowKit
end
section
open Go.RowKit
end
end
end
section
open Go.RowKit
def PredQ(P:Program)(g:Nat)(lb:Array Value)(w:World)(p:Rt->Bool):Prop:=
 ∀(r:Rt) (W:World),Below w.heap.size w W->Calls P g (#[ratV r]++lb) W fun e W'=>e=.returned (.bool (p r))∧Below W.heap.size W W'
theorem indexQ(w:World)(a:Option Addr)(n cap:Nat)(l:List Rt)(hn:l.length=n)(hm:n<=maxLen)(H:zAX w a l)(g:Nat)(lb:Array Value)(p:Rt->Bool)(hp:PredQ Tryz.prog g lb w p)(eg:∀args w,(callFunc g args).run Tryz.prog w=.ok (.enter g args) w):
 Calls Tryz.prog 146 #[.slice a n cap,.func (.func g) #[] lb] w fun e w'=>e=.returned (.int .i64 (idxP p l 0))∧Below w.heap.size w w':=by
 have HN:=hid hn
 have HH:=hid H
 have HP:=hid hp
 clear hn H hp
 unfold maxLen at hm
 go_enter Tryz.func146,Tryz.ntmps146
 go_wp2
 go_loopw [8] (fun i wr=>∃k:Nat,k<=n∧i=.int .i64 k∧Below w.heap.size w wr∧∀i y,i<k->l[i]? =some y->p y=false) (fun i _=>n-(intOf i).toNat)
 case atStart=>exact⟨0,Nat.zero_le _,rfl,Below.refl _ _,fun i y h=>by omega⟩
 case round=>
  obtain⟨k,hk,rfl,hb,hno⟩:=hrel
  have HNO:=hid hno
  clear hno
  by_cases hlt:k<n
  ·have hkl:k<l.length:=by rw[HN.out];exact hlt
   obtain⟨b,off,rfl,hbs,h0,h1⟩:=(HH.out.below hb) k hkl
   have HK:=hid (List.getElem?_eq_getElem hkl)
   obtain⟨⟨r1,r2⟩,hr⟩:∃r,r=l[k]'hkl:=⟨_,rfl⟩
   rw[<- hr]at h0 h1 HK
   simp only[]at h0 h1
   have HC:=hid (HP.out (r1,r2) wr hb)
   obtain⟨B,hB⟩:=exq (p (r1,r2))
   rw[<- hB]at HC
   have HBB:=hid hB.symm
   clear hr hB hkl
   go_wp2_with (refine HC.out.mono ?_;rintro e w1 ⟨rfl,hb1⟩;refine Stop.of ?_)
   refine Stop.go ?_
   cases B
   ·go_wp2
    refine⟨⟨k+1,by omega,by go_num,zAA hb hb1,?_⟩,by simp[intOf];omega⟩
    intro i y hi hy
    by_cases e:i=k
    ·subst e;rw[HK.out]at hy;cases hy;exact HBB.out
    ·exact HNO.out i y (by omega) hy
   ·go_wp2
    go_ret
    refine⟨zCC ?_,zAA hb hb1⟩
    rw[zGQ p l 0 k _ HK.out HBB.out HNO.out];simp
  ·go_wp2
   go_ret
   refine⟨zCC ?_,hb⟩
   rw[zEX]
   intro x hx
   obtain⟨i,hi,e⟩:=List.getElem_of_mem hx
   exact HNO.out i x (by have:=HN.out;omega) (by rw[List.getElem?_eq_getElem hi,e])
theorem containsQ(w:World)(a:Option Addr)(n cap:Nat)(l:List Rt)(hn:l.length=n)(hm:n<=maxLen)(H:zAX w a l)(g:Nat)(lb:Array Value)(p:Rt->Bool)(hp:PredQ Tryz.prog g lb w p)(eg:∀args w,(callFunc g args).run Tryz.prog w=.ok (.enter g args) w):
 Calls Tryz.prog 80 #[.slice a n cap,.func (.func g) #[] lb] w fun e w'=>e=.returned (.bool (l.any p))∧Below w.heap.size w w':=by
 have HC:=hid (indexQ w a n cap l hn hm H g lb p hp eg)
 have HG':=hid (zIU p l 0)
 clear hn H hp
 go_enter Tryz.func80,Tryz.ntmps80
 go_wp2_with (refine HC.out.mono ?_;rintro e w1 ⟨rfl,hb1⟩)
 go_ret
 refine⟨zAR ?_,hb1⟩
 rw[Bool.eq_iff_iff,decide_eq_true_iff,HG'.out]
theorem fit1(w:World):PredQ Tryz.prog 263 #[] w (fun r=>decide (r.1=0)):=by
 rintro⟨r1,r2⟩ W hb
 have hbz:Below W.heap.size W (W.alloc (.cells #[.int .i64 r1,.int .i64 r2] 29)):=(Below.refl _ _).alloc (Nat.le_refl _) _
 simp only[ratV]
 go_enter Tryz.func263,Tryz.ntmps263
 go_wp2
 go_ret
 exact⟨zAR (by rw[Bool.eq_iff_iff];simp),hbz⟩
theorem qpixels_c(w:World)(a a2:Option Addr)(n cap n2 cap2:Nat)(M:Mask)(hn:M.length=n)(h1:1<=n)(H:zAT w a M):
 Calls Tryz.prog 255 #[.agg #[.slice a n cap,.slice a2 n2 cap2]] w fun e w'=>e=.returned (.int .i64 (zAL M))∧Below w.heap.size w w':=by
 obtain⟨b,off,ra,rc,rfl,hb,hc⟩:=zFL H (by omega)
 have hbz:Below w.heap.size w (w.alloc (.cells #[.slice (some ⟨b,off,none⟩) n cap,.slice a2 n2 cap2] 216)):=(Below.refl _ _).alloc (Nat.le_refl _) _
 have hcz:=(hbz.cell (p:=⟨b,off,none⟩) hb).trans hc
 have i0:(0:Int)<(n:Int):=by omega
 obtain⟨W,hW⟩:=exq (zAL M)
 rw[<- hW]at hcz⊢
 have HB:=hid hbz
 clear hbz hc hb hn H hW
 go_enter Tryz.func255,Tryz.ntmps255
 go_wp2
 go_ret
 exact⟨rfl,HB.out⟩
def FitV(lo:Nat)(S:Nat->Prop)(f:FitT)(v:Value)(W:World):Prop:=
 ∃pa pn pc va vn vc,v=.agg #[.slice pa pn pc,.slice va vn vc]∧f.1.length=pn∧f.2.length=vn∧pn<=maxLen∧vn<=maxLen∧zAJ W pa f.1∧zAX W va f.2∧
  (∀b o,pa=some ⟨b,o,none⟩->lo<=b∧b<W.heap.size∧¬S b∧∃c z,W.heap[b]? =some (.cells c 3 z))∧(∀b o,va=some ⟨b,o,none⟩->lo<=b∧b<W.heap.size∧¬S b∧∃c z,W.heap[b]? =some (.cells c 29 z))
def FitPost(o:Option FitT)(lo:Nat)(e:Ending)(w':World):Prop:=
 (o=none∧e=.returned (.tuple #[.agg #[.slice none 0 0,.slice none 0 0],.bool false]))∨(∃f v,o=some f∧e=.returned (.tuple #[v,.bool true])∧FitV lo (fun _=>False) f v w')
theorem zIJ{w:World}{base:Nat}{T:TypeId}{k n:Nat}{a:Option Addr}{c:Nat}{xs:List Value}(h:w.ownsRow base T k (.slice a n c) n xs):∀b o,a=some ⟨b,o,none⟩->base<=b∧b<w.heap.size:=by
 rintro b o rfl
 rcases h.2 with⟨h1,_⟩|⟨g,cap,cur,h1,hbg,hgg,_⟩
 ·cases h1
 ·cases h1;exact⟨hbg,(Array.getElem?_eq_some_iff.1 hgg).1⟩
theorem own_typed{w:World}{base:Nat}{T:TypeId}{k n:Nat}{a:Option Addr}{c:Nat}{xs:List Value}(h:w.ownsRow base T k (.slice a n c) n xs):∀b o,a=some ⟨b,o,none⟩->∃c z,w.heap[b]? =some (.cells c T z):=by
 rintro b o rfl
 rcases h.2 with⟨h1,_⟩|⟨g,cap,cur,h1,hbg,hgg,_⟩
 ·cases h1
 ·cases h1;exact⟨_,_,hgg⟩
theorem fit_c(w:World)(a a2 a3:Option Addr)(n cap n2 cap2 n3 cap3:Nat)(M:Mask)(y S:List Int)(hn:M.length=n)(hn2:y.length=n2)(hn3:S.length=n3)(hm:n<=maxLen)(hm2:n2<=maxLen)(hm3:n3<=1000)(H:zAT w a M)(H2:zAJ w a2 y)(H3:zAJ w a3 S):
 Calls Tryz.prog 256 #[.agg #[.slice a n cap,.slice a2 n2 cap2],.slice a3 n3 cap3] w fun e w'=>FitPost (fitF M y S) w.heap.size e w'∧Below w.heap.size w w':=by
 obtain⟨wz,hwz⟩:=exq ((w.alloc (.cells #[.slice a n cap,.slice a2 n2 cap2] 216)).alloc (.cells #[.slice none 0 0,.slice none 0 0] 73))
 obtain⟨s0,hs⟩:=exq (w.heap.size)
 have hbz:Below w.heap.size w wz:=by rw[hwz];exact((Below.refl _ _).alloc (Nat.le_refl _) _).alloc (by simp) _
 have l0:wz.cell? ⟨s0,0,none⟩=some (.slice a n cap):=by rw[hwz,hs,World.cell?_alloc_past _ _ _ (by simp),World.cell?_alloc_at _ _ _ _ rfl];rfl
 have l1:wz.cell? ⟨s0,1,none⟩=some (.slice a2 n2 cap2):=by rw[hwz,hs,World.cell?_alloc_past _ _ _ (by simp),World.cell?_alloc_at _ _ _ _ rfl];rfl
 have q0:wz.heap[s0+1]? =some (.cells #[.slice none 0 0,.slice none 0 0] 73 (0,0)):=by
  have:=World.alloc_heap_new (w.alloc (.cells #[.slice a n cap,.slice a2 n2 cap2] 216)) (.cells #[.slice none 0 0,.slice none 0 0] 73)
  rw[hwz,hs];simpa using this
 have hs1:s0+1<wz.heap.size:=(Array.getElem?_eq_some_iff.1 q0).1
 have HSO:=hid (solve_c wz a a3 a2 n cap n3 cap3 n2 cap2 M S y hn hn3 hn2 hm (Nat.le_trans hm3 (by decide)) hm2 (H.below hbz) (H3.below hbz) (H2.below hbz))
 have HCL:=hid (fun(X:World) (hX:Below w.heap.size w X)=>clone_c X a3 n3 cap3 S hn3 (by omega) (H3.below hX))
 have HFC:=hid (fun(X:World) (va:Option Addr) (vc:Nat) (vl:List Rt) (hvm:vl.length<=maxLen) (hv:zAX X va vl)=>containsQ X va vl.length vc vl rfl hvm hv _ #[] _ (fit1 X) (enters_of Tryz.func263 (by kernel_rfl) rfl))
 have HFF:=hid (show fitF M y S=if (zCB M S y).2=0∧(zCB M S y).1.all (fun r=>decide (r.1≠0))=true then some (S,(zCB M S y).1)else none from rfl)
 obtain⟨F,hF⟩:=exq (fitF M y S)
 obtain⟨⟨V,E⟩,hVE⟩:∃V,V=zCB M S y:=⟨_,rfl⟩
 rw[<- hVE]at HSO HFF
 rw[<- hF]at HFF⊢
 simp only[]at HSO HFF
 have HB:=hid hbz
 have HQ:=hid (fun(X:World) (hX:Below wz.heap.size wz X)=>(hX.block _ hs1).trans q0)
 have HS:=hid hs
 have HN3:=hid hn3
 have hs1':=hid hs1
 clear hbz hn hn2 hn3 H H2 H3 hF hVE q0 hs1
 go_enter Tryz.func256,Tryz.ntmps256
 go_wp2_with fail
 rw[<- hs,<- hwz]
 clear hs hwz
 go_wp2_with (go_at_call 262;refine HSO.out.mono ?_;rintro e w1 ⟨v,base,rfl,hbs,hO,hb1⟩;refine Stop.of ?_)
 refine Stop.go ?_
 obtain⟨va,vc,rfl,hvm,hvr⟩:=hO.reads
 have HVB:=hid (zIJ hO)
 have HVT:=hid (own_typed hO)
 have HVR:=hid hvr
 have HVM:=hid hvm
 have HB1:=hid hb1
 have HBS:=hid hbs
 clear hO hvr hvm hb1 hbs HSO l0 l1
 have hz:∀X:World,Below wz.heap.size wz X->X.cell? ⟨s0+1,0,none⟩=some (.slice none 0 0)∧X.cell? ⟨s0+1,1,none⟩=some (.slice none 0 0)∧X.frozen? ⟨s0+1,0,none⟩=false∧X.frozen? ⟨s0+1,1,none⟩=false∧s0+1<X.heap.size:=fun X hX=>by
  have h:=HQ.out X hX
  exact⟨by simp[World.cell?,h],by simp[World.cell?,h],by simp[World.frozen?,h],by simp[World.frozen?,h],(Array.getElem?_eq_some_iff.1 h).1⟩
 have HZ:=hid hz
 clear hz
 by_cases hE:E=0
 rotate_left
 ·obtain rfl:F=none:=by rw[HFF.out,if_neg (fun h=>hE h.1)]
  have hEb:(E !=0)=true:=by simpa using hE
  obtain⟨z0,z1,f0,f1,hlt⟩:=HZ.out _ HB1.out
  have HFI:=hid (show Below w.heap.size w ((w1.setCell ⟨s0+1,0,none⟩ (.slice none 0 0)).setCell ⟨s0+1,1,none⟩ (.slice none 0 0))from by
   have hg:w.heap.size<=s0+1:=by rw[HS.out];omega
   exact zAE (zAE (zAA HB.out HB1.out) hg _ _) hg _ _)
  go_wp2
  refine bodyPost_ret (v:=.tuple #[.agg #[.slice none 0 0,.slice none 0 0],.bool false]) ?_ rfl ⟨.inl ⟨rfl,rfl⟩,HFI.out⟩
  simp[results,Tryz.results256,go_sem,z0,z1,f0,f1,hlt]
 ·subst hE
  have HFC1:=hid (HFC.out w1 va vc V HVM.out HVR.out)
  have hany:V.any (fun r=>decide (r.1=0))=!V.all (fun r=>decide (r.1≠0)):=by
   rw[List.not_all_eq_any_not];congr 1;funext r;simp
  rw[hany]at HFC1
  obtain⟨A,hA⟩:=exq (V.all (fun r=>decide (r.1≠0)))
  rw[<- hA]at HFC1 HFF
  clear hA hany HFC
  go_wp2_with (go_at_call 80;refine HFC1.out.mono ?_;rintro e w2 ⟨rfl,hb2⟩;refine Stop.of ?_)
  refine Stop.go ?_
  have HB2:=hid (zAA HB1.out hb2)
  have HVR2:=hid (HVR.out.below hb2)
  have HVT2:=hid (fun(b o:Nat) (h:va=some ⟨b,o,none⟩)=>show ∃c z,w2.heap[b]? =some (.cells c 29 z)from by obtain⟨c,z,hh⟩:=HVT.out b o h;exact⟨c,z,(hb2.block b (HVB.out b o h).2).trans hh⟩)
  have HVB2:=hid (fun b o h=>show base<=b∧b<w2.heap.size from by have:=HVB.out b o h;have:=hb2.size;omega)
  clear hb2 HFC1
  cases A
  ·obtain rfl:F=none:=by rw[HFF.out];rfl
   obtain⟨z0,z1,f0,f1,hlt⟩:=HZ.out _ HB2.out
   have HFI:=hid (show Below w.heap.size w ((w2.setCell ⟨s0+1,0,none⟩ (.slice none 0 0)).setCell ⟨s0+1,1,none⟩ (.slice none 0 0))from by
    have hg:w.heap.size<=s0+1:=by rw[HS.out];omega
    exact zAE (zAE (zAA HB.out HB2.out) hg _ _) hg _ _)
   go_wp2
   refine bodyPost_ret (v:=.tuple #[.agg #[.slice none 0 0,.slice none 0 0],.bool false]) ?_ rfl ⟨.inl ⟨rfl,rfl⟩,HFI.out⟩
   simp[results,Tryz.results256,go_sem,z0,z1,f0,f1,hlt]
  ·obtain rfl:F=some (S,V):=by rw[HFF.out];rfl
   go_wp2_with (go_at_call 231;refine(HCL.out _ (zAA HB.out HB2.out)).mono ?_;rintro e w3 ⟨v3,rfl,ho3,hb3⟩;refine Stop.of ?_)
   refine Stop.go ?_
   obtain⟨pa,pc,rfl,hpi,_⟩:=zCP ho3 HN3.out
   have HB3:=hid (zAA HB2.out hb3)
   obtain⟨z0,z1,f0,f1,hlt⟩:=HZ.out _ HB3.out
   have hgS:w.heap.size<=s0+1:=by rw[HS.out];omega
   have HFI:=hid (show Below w.heap.size w ((w3.setCell ⟨s0+1,0,none⟩ (.slice pa n3 pc)).setCell ⟨s0+1,1,none⟩ (.slice va V.length vc))from zAE (zAE (zAA HB.out HB3.out) hgS _ _) hgS _ _)
   have hpb:=zIJ ho3
   have hpt:=own_typed ho3
   have hbz2:s0+1<w2.heap.size:=by have:=HB2.out.size;have:=hs1'.out;omega
   have hsz:w.heap.size<=w2.heap.size:=Nat.le_trans HB.out.size HB2.out.size
   have hbs:wz.heap.size<=base:=HBS.out
   have HFV:=hid (show FitV w.heap.size (fun _=>False) (S,V) (.agg #[.slice pa n3 pc,.slice va V.length vc]) ((w3.setCell ⟨s0+1,0,none⟩ (.slice pa n3 pc)).setCell ⟨s0+1,1,none⟩ (.slice va V.length vc))from by
    have hkeep:∀k,k≠s0+1->((w3.setCell ⟨s0+1,0,none⟩ (.slice pa n3 pc)).setCell ⟨s0+1,1,none⟩ (.slice va V.length vc)).heap[k]? =w3.heap[k]? :=fun k hk=>(Below.heap_setCell _ _ _ _ hk).trans (Below.heap_setCell _ _ _ _ hk)
    refine⟨pa,n3,pc,va,V.length,vc,rfl,HN3.out,rfl,Nat.le_trans hm3 (by decide),HVM.out,?_,?_,?_,?_⟩
    ·intro j hj
     obtain⟨b,o,e,hb,hc⟩:=hpi j hj
     have:=hpb b o e
     refine⟨b,o,e,by simp[World.setCell];omega,?_⟩
     rw[World.cell?_of_block (hkeep b (by omega))];exact hc
    ·intro j hj
     obtain⟨b,o,e,hb,h0,h1⟩:=(HVR2.out.below hb3) j hj
     have:=HVB2.out b o e
     have hs2:=hs1'.out
     refine⟨b,o,e,by simp[World.setCell];omega,?_,?_⟩
     ·rw[World.cell?_of_block (hkeep b (by omega))];exact h0
     ·rw[World.cell?_of_block (hkeep b (by omega))];exact h1
    ·intro b o e
     have:=hpb b o e
     exact⟨by omega,by simp[World.setCell];omega,fun h=>h,by obtain⟨c,z,hh⟩:=hpt b o e;exact⟨c,z,(hkeep b (by omega)).trans hh⟩⟩
    ·intro b o e
     have:=HVB2.out b o e
     have hvt:=HVT2.out b o e
     have hs2:=hs1'.out
     have h3z:=hb3.size
     exact⟨by have:=HB.out.size;omega,by simp[World.setCell];omega,fun h=>h,by obtain⟨c,z,hh⟩:=hvt;exact⟨c,z,(hkeep b (by omega)).trans ((hb3.block b this.2).trans hh)⟩⟩)
   clear ho3 hpi hb3 hpb hpt HVR HVR2 HCL
   go_wp2
   refine bodyPost_ret (v:=.tuple #[.agg #[.slice pa n3 pc,.slice va V.length vc],.bool true]) ?_ rfl ⟨.inr ⟨_,_,rfl,rfl,HFV.out⟩,HFI.out⟩
   simp[results,Tryz.results256,go_sem,z0,z1,f0,f1,hlt]
end
end Go.Proofs.YtlffndehhhpgjaaGreat
