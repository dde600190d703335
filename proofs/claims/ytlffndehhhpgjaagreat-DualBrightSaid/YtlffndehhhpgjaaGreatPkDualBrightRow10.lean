/- Walks and plain laws for DualBrightRow, part 10. -/
import Derived.Lib.SliceRun
import Derived.Test.YtlffndehhhpgjaaGreatPkDualBrightRow9
namespace Go.Proofs.YtlffndehhhpgjaaGreat
set_option linter.unusedVariables false
set_option linter.unusedSimpArgs false
set_option maxRecDepth 100000
set_option maxHeartbeats 4000000
open _root_.List renaming getElem?_eq_getElem → yAA, getElem_mem → yAH, all_eq_true → yAT, getElem?_eq_none → yAY, getElem?_map → yAZ, length_cons → yBB, mem_map → yBJ, mem_cons → yBP, range_succ → yBQ, ext_getElem → yCC, length_nil → yCD, flatMap_append → yDD, cons_append → yDG, nil_append → yDL, getElem_of_mem → yDQ, append_toArray → yDR, not_all_eq_any_not → yDU, size_toArray → yED, push_toArray → yEF, nodup_cons → yET, length_pos_iff → yEU, prefix_refl → yGF
open _root_.Nat renaming le_refl → yAC, le_trans → yAF, lt_of_lt_of_le → yAJ, zero_le → yAK, lt_or_ge → yAP, eq_zero_or_pos → yBR, mul_le_mul_right → yFB
open _root_.Int renaming natAbs_mul → yAR, mul_le_mul_of_nonneg_right → yAX, eq_of_mul_eq_mul_left → yBE, lt_or_le → yBK, mul_pos → yBN, lt_trichotomy → yBS, mul_neg_of_neg_of_pos → yBU, mul_comm → yBV, mul_nonneg → yBY, mul_ne_zero → yCE, mul_le_mul_of_nonneg_left → yCJ, lt_or_gt_of_ne → yCL, mul_neg_of_pos_of_neg → yCM, natCast_mul → yCP, le_of_mul_le_mul_right → yCT, mul_nonpos_of_nonneg_of_nonpos → yCV, le_refl → yDE, natAbs_dvd_natAbs → yDT, mul_pos_of_neg_of_neg → yEH, mul_assoc → yER, ediv_nonneg → yEW, mul_nonpos_of_nonpos_of_nonneg → yEX, emod_add_mul_ediv → yEZ, dvd_refl → yFI, neg_mul → yGK, mul_neg → yGL
open _root_.Array renaming getElem?_eq_some_iff → yAB, replicate_zero → yDI, replicate_succ → yDJ
open _root_.Option renaming getD_some → yBA, map_some → yFD
section
structure Circ (M:List (List Int)) (n:Nat) (c:List Int):Prop where
 len:c.length=n
 ker:zEO M n (vec c)
 prim:Prim (vec c)
 pos:0<zBN c
 least:∀v,zEO M n v->(∀j,j<n->vec c j=0->v j=0)->(∃j,j<n∧v j≠0)->∀j,j<n->vec c j≠0->v j≠0
theorem zIB:∀(l:List Int),zBN l≠0->∃j,j<l.length∧vec l j=zBN l∧∀i,i<j->vec l i=0
 | [],h=>by simp[zBN]at h
 |x::l,h=>by
  by_cases e:x=0
  ·have h1:zBN (x::l)=zBN l:=by show(if x=0 then zBN l else x)=_;rw[if_pos e]
   rw[h1]at h⊢
   obtain⟨j,hj,h2,h3⟩:=zIB l h
   refine⟨j+1,by simp;omega,by rw[<- h2];simp[vec],fun i hi=>?_⟩
   cases i with
   |zero=>simp[vec,e]
   |succ i=>have:=h3 i (by omega);simpa[vec]using this
  ·have h1:zBN (x::l)=x:=by show(if x=0 then zBN l else x)=_;rw[if_neg e]
   rw[h1]
   exact⟨0,by simp,by simp[vec],fun i hi=>by omega⟩
theorem zPZ:∀(l:List Int) (j:Nat),vec l j≠0->(∀i,i<j->vec l i=0)->zBN l=vec l j
 | [],j,h,_=>by simp[vec]at h
 |x::l,0,h,_=>by
  have hx:x≠0:=by simpa[vec]using h
  show(if x=0 then zBN l else x)=_
  rw[if_neg hx];simp[vec]
 |x::l,j+1,h,h0=>by
  have hx:x=0:=by have:=h0 0 (by omega);simpa[vec]using this
  show(if x=0 then zBN l else x)=_
  rw[if_pos hx,zPZ l j (by simpa[vec]using h) (fun i hi=>by have:=h0 (i+1) (by omega);simpa[vec]using this)]
  simp[vec]
theorem vec_ext{l m:List Int}(hl:l.length=m.length)(h:∀j,vec l j=vec m j):l=m:=
 yCC hl fun j h1 h2=>by have:=h j;rwa [zCV h1,zCV h2]at this
theorem zEO.lin{M:List (List Int)}{n:Nat}{u v:Vec}(hu:zEO M n u)(hv:zEO M n v)(x y:Int):zEO M n (fun c=>x*u c+y*v c):=by
 intro q hq
 have h1:=hu q hq
 have h2:=hv q hq
 unfold dotS at*
 rw[zAS (g:=fun c=>x*(rowv M q c*u c)+y*(rowv M q c*v c)) (fun c _=>by grind),zLK,zED,zED,h1,h2];simp
theorem Circ.one{M:List (List Int)}{n:Nat}{c d:List Int}(hc:Circ M n c)(hd:Circ M n d)(hs:∀j,j<n->vec c j=0->vec d j=0):c=d:=by
 obtain⟨j0,hj0,e0,z0⟩:=zIB d (by have:=hd.pos;omega)
 rw[hd.len]at hj0
 have hd0:vec d j0≠0:=by have:=hd.pos;omega
 have hcd:=hc.least _ hd.ker hs ⟨j0,hj0,hd0⟩
 -- same support
 have hc0:vec c j0≠0:=fun e=>hd0 (hs j0 hj0 e)
 have zc:∀i,i<j0->vec c i=0:=fun i hi=>Classical.byContradiction fun h=>hcd i (by omega) h (z0 i hi)
 have ec:=zPZ c j0 hc0 zc
 have hk:∀j,vec d j0*vec c j=vec c j0*vec d j:=by
  intro j
  rcases yAP j n with hj|hj
  ·refine Classical.byContradiction fun hne=>?_
   have hv:=hc.ker.lin hd.ker (vec d j0) (-(vec c j0))
   have:=hc.least _ hv (fun i hi h=>by rw[h,hs i hi h];simp) ⟨j,hj,fun h=>hne (by rw[yGK]at h;omega)⟩ j0 hj0 hc0
   refine this ?_
   rw[yGK,yBV];omega
  ·rw[zFP (l:=c) (c:=j) (by rw[hc.len];exact hj),zFP (l:=d) (c:=j) (by rw[hd.len];exact hj)];simp
 refine vec_ext (by rw[hc.len,hd.len]) fun j=>prim_eq (x:=vec d j0) (y:=vec c j0) ?_ ?_ hk hc.prim hd.prim j
 ·have:=hd.pos;omega
 ·have:=hc.pos;omega
theorem zLB{M:List (List Int)}{n:Nat}(h:MaskOk M n){S c:List Int}(hS:zCI n S)(hne:S≠[])(hc:zCA M n S=some c):Circ M n c:=by
 obtain⟨f1,f2,_,f4,f5⟩:=zIF h hS hne hc
 refine⟨f1,f2,f4,f5,fun v hv h0 hn j hj hcj=>?_⟩
 refine circ_least h hS hc hv (fun i hi hm=>h0 i hi ?_) hn j ((zJZ h hS hc j).1 hcj)
 exact Classical.byContradiction fun e=>hm ((zJZ h hS hc i).1 e)
theorem comb_nodup0{n:Nat}{S:List Int}(hS:zCI n S):S.length<=n:=by
 rcases yAP n S.length with h|h
 ·have h1:=zJW n 0 S hS.1 (fun y hy=>by have:=hS.2 y hy;omega)
  rw[zFL n S.length 0 h]at h1
  simp at h1
 ·exact h
theorem circP_iff{M:List (List Int)}{n:Nat}(h:MaskOk M n){c:List Int}:c∈zEN M n↔Circ M n c:=by
 rw[zOL]
 constructor
 ·rintro⟨k,S,hk,hS,hc⟩
  have hl:=zCG _ _ _ S hS
  exact zLB h (zHR hS) (fun e=>by rw[e]at hl;simp at hl) hc
 ·intro hc
  obtain⟨j0,hj0,e0,_⟩:=zIB c (by have:=hc.pos;omega)
  rw[hc.len]at hj0
  obtain⟨S,d,hS,_,hne,hsub,hd⟩:=zOJ h _ (vec c) rfl hc.ker ⟨j0,hj0,by have:=hc.pos;omega⟩
  have hD:=zLB h hS hne hd
  have e:=hc.one hD (fun j hj hz=>Classical.byContradiction fun hn=>by
   have:=hsub _ ((zJZ h hS hd j).1 hn)
   exact(zCP.1 this).2 hz)
  subst e
  obtain⟨k,hk⟩:∃k,S.length=k+1:=⟨S.length-1,by have:=yEU.2 hne;omega⟩
  have h1:¬zDE M n+1<S.length:=fun hlt=>by rw[zQG h hlt]at hd;cases hd
  have h2:S.length<=n:=by
   have:=(comb_nodup0 hS)
   exact this
  have h3:=zJW n 0 S hS.1 (fun y hy=>by have:=hS.2 y hy;omega)
  rw[hk]at h3
  exact⟨k,S,by omega,h3,hd⟩
theorem zID:∀(m k:Nat) (a:Int),(comb m k a).Nodup
 |_,0,_=>by unfold comb;simp
 |0,_+1,_=>by unfold comb;simp
 |m+1,k+1,a=>by
  unfold comb
  rw[List.nodup_append]
  refine⟨?_,zID m (k+1) (a+1),?_⟩
  ·unfold List.Nodup
   rw[List.pairwise_map]
   exact(zID m k (a+1)).imp fun h e=>h (by simpa using e)
  ·rintro x hx y hy rfl
   obtain⟨z,_,rfl⟩:=yBJ.1 hx
   have:=(zJX _ _ _ _ hy).2 a (by simp)
   omega
end
section
def SolM(M:List (List Int))(n:Nat)(y:List Int)(l:Nat->Int)(D:Int):Prop:=0<D∧∀q,q<M.length->sm (fun i=>rowv M q i*l i) n=vec y q*D
theorem min_ratio{P:Nat->Prop}{a b:Nat->Int}(ha:∀j,P j->0<=a j)(hb:∀j,P j->0<b j):∀n:Nat,(∃j,j<n∧P j)->∃p,p<n∧P p∧∀j,j<n->P j->a p*b j<=a j*b p
 |0,h=>by obtain⟨j,hj,_⟩:=h;omega
 |n+1,h=>by
  by_cases hn:∃j,j<n∧P j
  ·obtain⟨p,hp,hP,hmin⟩:=min_ratio ha hb n hn
   by_cases hPn:P n∧a n*b p<a p*b n
   ·refine⟨n,by omega,hPn.1,fun j hj hPj=>?_⟩
    rcases yAP j n with c|c
    ·have h1:=hmin j c hPj
     -- a n/b n<a p/b p<=a j/b j
     have hbp:=hb p hP
     have hbj:=hb j hPj
     have hbn:=hb n hPn.1
     have h2:a n*b j*b p<=a j*b n*b p:=by
      have e1:a n*b p*b j<=a p*b n*b j:=yAX (by omega) (by omega)
      have e2:a p*b j*b n<=a j*b p*b n:=yAX h1 (by omega)
      have e3:a n*b j*b p=a n*b p*b j:=by grind
      have e4:a p*b n*b j=a p*b j*b n:=by grind
      have e5:a j*b n*b p=a j*b p*b n:=by grind
      omega
     exact yCT h2 hbp
    ·have:j=n:=by omega
     subst this;exact yDE _
   ·refine⟨p,by omega,hP,fun j hj hPj=>?_⟩
    rcases yAP j n with c|c
    ·exact hmin j c hPj
    ·have:j=n:=by omega
     subst this
     rcases yBK (a j*b p) (a p*b j)with h1|h1
     ·exact absurd ⟨hPj,h1⟩ hPn
     ·exact h1
  ·obtain⟨j,hj,hPj⟩:=h
   have:j=n:=by
    rcases yAP j n with c|c
    ·exact absurd ⟨j,c,hPj⟩ hn
    ·omega
   subst this
   exact⟨j,by omega,hPj,fun i hi hPi=>by
    rcases yAP i j with c|c
    ·exact absurd ⟨i,c,hPi⟩ hn
    ·have:i=j:=by omega
     subst this;exact yDE _⟩
theorem dep_circ{M:List (List Int)}{n:Nat}(hM:MaskOk M n){S:List Int}(hS:zCI n S)(hne:zDE (zAO M S) S.length≠S.length):∃c,c∈zEN M n∧c.length=n∧zEO M n (vec c)∧(∀j:Nat,vec c j≠0->(j:Int)∈S)∧∃j,j<n∧vec c j≠0:=by
 have hrk:=(hM.cols S).rank_ker
 have hkl:0<(zDJ M S).length:=by
  show 0<(zII (RP (zAO M S) S.length) (JP (zAO M S) S.length) S.length).length
  omega
 have hm:(zDJ M S)[0]∈zDJ M S:=yAH _
 obtain⟨u,hu⟩:=exq ((zDJ M S)[0])
 rw[<- hu]at hm
 obtain⟨k1,k2,k3,f,hf,k4⟩:=(hM.cols S).kern hm
 have hv:=(zGA (M:=M) hS).2 k1
 obtain⟨v,hve⟩:=exq (vec (zAK n S u S.length))
 have hnz:∃j,j<n∧v j≠0:=by
  have hf2:=hS.2 S[f] (yAH hf)
  refine⟨(S[f]).toNat,by omega,?_⟩
  rw[hve]
  exact(zHE hS k2).2 ⟨f,hf,by omega,by omega⟩
 rw[<- hve]at hv
 obtain⟨T,c,hT,hTl,hTne,hSub,hcc⟩:=zOJ hM (zBK n v).length v rfl hv hnz
 have hC:=zLB hM hT hTne hcc
 obtain⟨f1,f2,_,f4,f5⟩:=zIF hM hT hTne hcc
 refine⟨c,(circP_iff hM).2 hC,f1,f2,fun j hj=>?_,?_⟩
 ·have h1:=hSub _ ((zJZ hM hT hcc j).1 hj)
  have h2:=(zCP.1 h1).2
  rw[hve]at h2
  obtain⟨i,hi,e,_⟩:=(zHE hS k2).1 h2
  rw[<- e];exact yAH hi
 ·obtain⟨j0,hj0,e0,_⟩:=zIB c (by omega)
  exact⟨j0,by omega,by omega⟩
def CostB(M:List (List Int))(n:Nat)(l w:Nat->Int):Prop:=
 ∀c,c∈zEN M n->∀e:Int,(e=1∨e= -1)->(∀j,j<n->vec c j≠0->l j≠0)->(∀j,j<n->l j*(e*vec c j)<=0)->sm (fun j=>w j*(e*vec c j)) n<=0
theorem lp_reduce{M:List (List Int)}{n:Nat}(hM:MaskOk M n){y:List Int}(w:Nat->Int):∀(s:Nat) (l:Nat->Int) (D:Int),(zBK n l).length=s->SolM M n y l D->CostB M n l w->
 ∃(k:Nat->Int) (E:Int),SolM M n y k E∧zDE (zAO M (zBK n k)) (zBK n k).length=(zBK n k).length∧(∀j,j<n->k j≠0->0<k j*l j)∧sm (fun j=>w j*k j) n*D<=sm (fun j=>w j*l j) n*E:=by
 intro s
 induction s using Nat.strongRecOn with
 |ind s ih=>
  intro l D hs hl hw
  by_cases hr:zDE (zAO M (zBK n l)) (zBK n l).length=(zBK n l).length
  ·refine⟨l,D,hl,hr,fun j hj h=>?_,yDE _⟩
   rcases yCL h with c|c
   ·exact yEH c c
   ·exact yBN c c
  ·obtain⟨c,hc,hcl,hck,hcs,hcn⟩:=dep_circ hM (zET n l) hr
   have hsub:∀j,j<n->vec c j≠0->l j≠0:=fun j hj h=>(zCP.1 (hcs j h)).2
   -- the direction:the cost does not grow,and some number becomes less
   have hdir:∃e:Int,(e=1∨e= -1)∧0<=sm (fun j=>w j*(e*vec c j)) n∧∃j,j<n∧0<l j*(e*vec c j):=by
    have hneg:∀e:Int,sm (fun j=>w j*(-e*vec c j)) n= -sm (fun j=>w j*(e*vec c j)) n:=fun e=>by
     have:=zED (-1) (fun j=>w j*(e*vec c j)) n
     rw[<- zAS (f:=fun j=> -1*(w j*(e*vec c j))) (g:=fun j=>w j*(-e*vec c j)) (fun j _=>by grind),this]
     omega
    have hex:∀e:Int,(e=1∨e= -1)->¬(∃j,j<n∧0<l j*(e*vec c j))->∀j,j<n->l j*(e*vec c j)<=0:=fun e _ h j hj=>by
     rcases yBK 0 (l j*(e*vec c j))with c1|c1
     ·exact absurd ⟨j,hj,c1⟩ h
     ·exact c1
    rcases yBS 0 (sm (fun j=>w j*(1*vec c j)) n)with c1|c1|c1
    ·by_cases h:∃j,j<n∧0<l j*(1*vec c j)
     ·exact⟨1,.inl rfl,by omega,h⟩
     ·have:=hw c hc 1 (.inl rfl) hsub (hex 1 (.inl rfl) h)
      omega
    ·obtain⟨j,hj,hcj⟩:=hcn
     have hlj:=hsub j hj hcj
     rcases yCL (yCE hlj hcj)with c2|c2
     ·refine⟨-1,.inr rfl,by rw[hneg 1];omega,j,hj,?_⟩
      have:l j*(-1*vec c j)= -(l j*vec c j):=by grind
      omega
     ·refine⟨1,.inl rfl,by omega,j,hj,?_⟩
      have:l j*(1*vec c j)=l j*vec c j:=by grind
      omega
    ·by_cases h:∃j,j<n∧0<l j*(-1*vec c j)
     ·exact⟨-1,.inr rfl,by rw[hneg 1];omega,h⟩
     ·have:=hw c hc (-1) (.inr rfl) hsub (hex (-1) (.inr rfl) h)
      rw[hneg 1]at this
      omega
   obtain⟨e,he,hσ,hpos⟩:=hdir
   have hen:e≠0:=by rcases he with h|h<;>omega
   obtain⟨h,hh⟩:∃h:Nat->Int,h=fun j=>e*vec c j:=⟨_,rfl⟩
   have hhk:∀q,q<M.length->sm (fun i=>rowv M q i*h i) n=0:=fun q hq=>by
    have:=hck q hq
    unfold dotS at this
    rw[zAS (g:=fun i=>e*(rowv M q i*vec c i)) (fun i _=>by rw[hh];grind),zED,this]
    simp
   have hhs:∀j,j<n->h j≠0->l j≠0:=fun j hj hz=>hsub j hj fun hz2=>hz (by rw[hh];simp[hz2])
   have hσ':0<=sm (fun j=>w j*h j) n:=by rw[hh];exact hσ
   have hpos':∃j,j<n∧0<l j*h j:=by rw[hh];exact hpos
   clear hσ hpos
   -- the least ratio
   obtain⟨p,hp,hPp,hmin⟩:=min_ratio (P:=fun j=>0<l j*h j) (a:=fun j=>((l j).natAbs:Int)) (b:=fun j=>((h j).natAbs:Int)) (fun j _=>by omega) (fun j hj=>by
    have:h j≠0:=fun hz=>by rw[hz]at hj;simp at hj
    omega) n hpos'
   have hhp:h p≠0:=fun hz=>by rw[hz]at hPp;simp at hPp
   have hlp:l p≠0:=fun hz=>by rw[hz]at hPp;simp at hPp
   obtain⟨A,hA⟩:∃A:Int,A=((h p).natAbs:Int):=⟨_,rfl⟩
   obtain⟨B,hB⟩:∃B:Int,B=((l p).natAbs:Int):=⟨_,rfl⟩
   have hA0:0<A:=by omega
   have hB0:0<B:=by omega
   obtain⟨k,hk⟩:∃k:Nat->Int,k=fun j=>A*l j-B*h j:=⟨_,rfl⟩
   have hkp:k p=0:=by
    rw[hk,hA,hB]
    show((h p).natAbs:Int)*l p-((l p).natAbs:Int)*h p=0
    rcases yCL hhp with c1|c1
    ·have c2:l p<0:=by
      rcases yCL hlp with c2|c2
      ·exact c2
      ·have:=yCM c2 c1;omega
     have e1:((h p).natAbs:Int)= -h p:=by omega
     have e2:((l p).natAbs:Int)= -l p:=by omega
     rw[e1,e2];grind
    ·have c2:0<l p:=by
      rcases yCL hlp with c2|c2
      ·have:=yBU c2 c1;omega
      ·exact c2
     have e1:((h p).natAbs:Int)=h p:=by omega
     have e2:((l p).natAbs:Int)=l p:=by omega
     rw[e1,e2];grind
   have hkl0:∀j,j<n->k j≠0->l j≠0:=fun j hj hz hz2=>by
    apply hz
    have h0:h j=0:=Classical.byContradiction fun h1=>hhs j hj h1 hz2
    rw[hk];show A*l j-B*h j=0
    rw[hz2,h0];simp
   have hks:∀j,j<n->0<=k j*l j:=fun j hj=>by
    rw[hk]
    show 0<=(A*l j-B*h j)*l j
    have e1:(A*l j-B*h j)*l j=A*(l j*l j)-B*(l j*h j):=by grind
    rw[e1]
    have e2:0<=A*(l j*l j):=yBY (by omega) (by
     rcases yBK (l j) 0 with c1|c1
     ·exact Int.le_of_lt (yEH c1 c1)
     ·exact yBY c1 c1)
    rcases yBK 0 (l j*h j)with c1|c1
    ·have h1:((l p).natAbs:Int)*((h j).natAbs:Int)<=((l j).natAbs:Int)*((h p).natAbs:Int):=hmin j hj c1
     rw[<- hA,<- hB]at h1
     -- B* |h j| <= |l j| *A,times|l j|
     have h2:B*((h j).natAbs:Int)*((l j).natAbs:Int)<=((l j).natAbs:Int)*A*((l j).natAbs:Int):=yAX h1 (by omega)
     have h3:((l j).natAbs:Int)*((l j).natAbs:Int)=l j*l j:=by rw[<- yCP,<- yAR,Int.natAbs_of_nonneg];exact(by
      rcases yBK (l j) 0 with c1|c1
      ·exact Int.le_of_lt (yEH c1 c1)
      ·exact yBY c1 c1)
     have h4:((h j).natAbs:Int)*((l j).natAbs:Int)=l j*h j:=by rw[yBV,<- yCP,<- yAR,Int.natAbs_of_nonneg (by omega)]
     have h5:B*((h j).natAbs:Int)*((l j).natAbs:Int)=B*(l j*h j):=by rw[yER,h4]
     have h6:((l j).natAbs:Int)*A*((l j).natAbs:Int)=A*(l j*l j):=by rw[<- h3];grind
     omega
    ·have:B*(l j*h j)<=0:=yCV (by omega) c1
     omega
   have hsol:SolM M n y k (D*A):=by
    refine⟨yBN hl.1 hA0,fun q hq=>?_⟩
    have e1:=hl.2 q hq
    have e2:=hhk q hq
    rw[zAS (g:=fun i=>A*(rowv M q i*l i)+(-B)*(rowv M q i*h i)) (fun i _=>by rw[hk];grind),zLK,zED,zED,e1,e2]
    grind
   have hlt:(zBK n k).length<s:=by
    rw[<- hs]
    have hn1:(zBK n k).Nodup:=(zET n k).1.imp (fun h=>by omega)
    have hpm:(p:Int)∈zBK n l:=zCP.2 ⟨hp,hlp⟩
    have hpn:(p:Int)∉zBK n k:=fun hm=>(zCP.1 hm).2 hkp
    have:=zNL (l:=(p:Int)::zBK n k) (m:=zBK n l) (yET.2 ⟨hpn,hn1⟩) (fun x hx=>by
     rcases yBP.1 hx with rfl|hx
     ·exact hpm
     ·have hb:=(zET n k).2 x hx
      obtain⟨j,rfl⟩:∃j:Nat,x=(j:Int):=⟨x.toNat,by omega⟩
      obtain⟨h1,h2⟩:=zCP.1 hx
      exact zCP.2 ⟨h1,hkl0 j h1 h2⟩)
    simp at this
    omega
   have hw':CostB M n k w:=fun d hd f hf hdl hdn=>by
    refine hw d hd f hf (fun j hj hz=>hkl0 j hj (hdl j hj hz)) (fun j hj=>?_)
    by_cases hz:vec d j=0
    ·rw[hz];simp
    ·have hkj:=hdl j hj hz
     have h1:=hdn j hj
     have h2:=hks j hj
     have hlj:=hkl0 j hj hkj
     -- k and l have one sign
     rcases yCL hkj with c1|c1
     ·have c2:l j<0:=by
       rcases yCL hlj with c2|c2
       ·exact c2
       ·have:=yBU c1 c2;omega
      have c3:0<=f*vec d j:=by
       rcases yBK (f*vec d j) 0 with c3|c3
       ·have:=yEH c1 c3;omega
       ·exact c3
      exact yEX (by omega) c3
     ·have c2:0<l j:=by
       rcases yCL hlj with c2|c2
       ·have:=yCM c1 c2;omega
       ·exact c2
      have c3:f*vec d j<=0:=by
       rcases yBK 0 (f*vec d j)with c3|c3
       ·have:=yBN c1 c3;omega
       ·exact c3
      exact yCV (by omega) c3
   obtain⟨z,E,hz1,hz2,hz3,hz4⟩:=ih _ hlt k (D*A) rfl hsol hw'
   refine⟨z,E,hz1,hz2,fun j hj hzj=>?_,?_⟩
   ·have h1:=hz3 j hj hzj
    have hkj:k j≠0:=fun e0=>by rw[e0]at h1;simp at h1
    have h2:=hks j hj
    have hlj:=hkl0 j hj hkj
    rcases yCL hkj with c1|c1
    ·have c2:l j<0:=by
      rcases yCL hlj with c2|c2
      ·exact c2
      ·have:=yBU c1 c2;omega
     have c3:z j<0:=by
      rcases yBK (z j) 0 with c3|c3
      ·exact c3
      ·have:=yCV c3 (show k j<=0 by omega);omega
     exact yEH c3 c2
    ·have c2:0<l j:=by
      rcases yCL hlj with c2|c2
      ·have:=yCM c1 c2;omega
      ·exact c2
     have c3:0<z j:=by
      rcases yBK 0 (z j)with c3|c3
      ·exact c3
      ·have:=yEX c3 (show 0<=k j by omega);omega
     exact yBN c3 c2
   ·-- the cost
    have hcost:sm (fun j=>w j*k j) n=A*sm (fun j=>w j*l j) n-B*sm (fun j=>w j*h j) n:=by
     rw[zAS (g:=fun j=>A*(w j*l j)+(-B)*(w j*h j)) (fun i _=>by rw[hk];grind),zLK,zED,zED]
     have: -B*sm (fun j=>w j*h j) n= -(B*sm (fun j=>w j*h j) n):=by grind
     omega
    have hBσ:0<=B*sm (fun j=>w j*h j) n:=yBY (by omega) hσ'
    have hE:=hz1.1
    have h1:sm (fun j=>w j*k j) n*E<=A*sm (fun j=>w j*l j) n*E:=yAX (by omega) (by omega)
    have h2:sm (fun j=>w j*z j) n*D*A<=sm (fun j=>w j*l j) n*E*A:=by
     have e1:sm (fun j=>w j*z j) n*D*A=sm (fun j=>w j*z j) n*(D*A):=by grind
     have e2:sm (fun j=>w j*l j) n*E*A=A*sm (fun j=>w j*l j) n*E:=by grind
     omega
    exact yCT h2 hA0
end
section
theorem cop_dvd{b a d:Int}(h:Int.gcd a b=1)(h1:b∣a*d):b∣d:=by
 have h2:b.natAbs∣a.natAbs*d.natAbs:=by rw[<- yAR];exact yDT.2 h1
 have h3:Nat.Coprime b.natAbs a.natAbs:=by rw[Nat.coprime_comm];exact h
 exact yDT.1 (h3.dvd_of_dvd_mul_left h2)
theorem zHI{a b:Int}(h:Int.gcd a b=1):zBF a b=(a,b):=by unfold zBF;rw[h];simp
theorem zNN{n d:Int}(hd:0<d):∃g a b:Int,zBF n d=(a,b)∧0<g∧0<b∧n=a*g∧d=b*g∧Int.gcd a b=1:=by
 obtain⟨c1,_,_,c4,c5⟩:=zDS (a:=n) hd
 obtain⟨⟨a,b⟩,hab⟩:∃p,p=zBF n d:=⟨_,rfl⟩
 rw[<- hab]at c1 c4 c5
 simp only[]at c1 c4 c5
 -- b divides n*b,so b|a*d,so b|d
 have h1:b∣a*d:=⟨n,by rw[c5];exact yBV _ _⟩
 have h2:b∣d:=cop_dvd c4 h1
 obtain⟨g,hg⟩:=h2
 have hg0:0<g:=by
  rcases yBK 0 g with h|h
  ·exact h
  ·have:b*g<=0:=yCV (by omega) h
   omega
 refine⟨g,a,b,hab.symm,hg0,c1,?_,hg,c4⟩
 have:b*n=b*(a*g):=by rw[yBV b n,<- c5,hg];grind
 exact yBE (by omega) this
theorem low_div{n d a b g:Int}(hd:0<d)(hg:0<g)(hb:0<b)(hn:n=a*g)(he:d=b*g)(hc:Int.gcd a b=1)(k:Int):n%d*k%d=0↔b∣k:=by
 have h1:n%d*k%d=n*k%d:=by rw[Int.mul_emod,Int.emod_emod_of_dvd _ (yFI d),<- Int.mul_emod]
 rw[h1]
 constructor
 ·intro h
  obtain⟨c,hc2⟩:=Int.dvd_of_emod_eq_zero h
  rw[hn,he]at hc2
  have:g*(a*k)=g*(b*c):=by grind
  have h3:=yBE (by omega) this
  exact cop_dvd hc ⟨c,h3⟩
 ·rintro⟨c,rfl⟩
  rw[hn,he]
  refine Int.emod_eq_zero_of_dvd ⟨a*c,by grind⟩
theorem low_val{n d a b g:Int}(hn0:0<=n)(hd:0<d)(hg:0<g)(hn:n=a*g)(he:d=b*g):n/d*b+n%d*b/d=a:=by
 have h1:n%d*b=d*(a-n/d*b):=by
  have h2:=yEZ n d -- n%d+d*(n/d)=n
  have h3:n%d=n-d*(n/d):=by omega
  rw[h3,Int.sub_mul,Int.mul_sub]
  have:n*b=d*a:=by rw[hn,he];grind
  rw[this];grind
 rw[h1,Int.mul_ediv_cancel_left _ (by omega)]
 omega
theorem low_nonneg{n d a b g:Int}(hn0:0<=n)(hg:0<g)(hn:n=a*g):0<=a:=by
 rcases yBK a 0 with h|h
 ·have:=yBU h hg;omega
 ·exact h
theorem low_neg{n d:Int}(hd:0<d):zBF (-n) d=(-(zBF n d).1,(zBF n d).2):=by
 obtain⟨g,a,b,e,hg,hb,hn,he,hc⟩:=zNN (n:=n) hd
 rw[e]
 have h2:zBF (-n) d=zBF (-a) b:=zMX hd hb (by rw[hn,he];grind)
 rw[h2,zHI (by rw[Int.neg_gcd];exact hc)]
theorem zPC{a b:Int}:zAL (-a,b)=zAL (a,b):=by
 rw[Bool.eq_iff_iff,zAR,zAR]
 simp only[Int.neg_gcd]
 constructor<;>(rintro⟨h1,h2,h3,h4,h5⟩;exact⟨h1,h2,by omega,by omega,h5⟩)
theorem low_big{n d:Int}(hn0:0<=n)(hd:0<d)(h:10000000000<n/d):zAL (zBF n d)=false:=by
 obtain⟨g,a,b,e,hg,hb,hn,he,hc⟩:=zNN (n:=n) hd
 rw[e]
 cases hv:zAL (a,b)
 ·rfl
 ·have h1:=(zAR.1 hv).2.2.2.1
  simp only[]at h1
  have h2:n/d<=a:=by
   have h3:n/d*d<=n:=by rw[yBV];exact Int.mul_ediv_self_le (by omega)
   have h4:n/d*(b*g)<=a*g:=by rw[<- he,<- hn];exact h3
   have h5:n/d*b*g<=a*g:=by rw[yER];exact h4
   have h6:=yCT h5 hg
   have h7:n/d*1<=n/d*b:=yCJ (by omega) (yEW hn0 (by omega))
   omega
  omega
end
section
abbrev FitT:=List Int×List Rt
def fitF(M:Mask)(y S:List Int):Option FitT:=if (zCC M S y).2=0∧(zCC M S y).1.all (fun r=>decide (r.1≠0))=true then some (S,(zCC M S y).1)else none
def zBT(M:Mask)(y:List Int)(W t:Nat):List FitT:=(List.range t).flatMap fun j=>(comb W j 0).filterMap (fitF M y)
theorem zCX(M:Mask)(y:List Int)(W t:Nat):zBT M y W (t+1)=zBT M y W t++(comb W t 0).filterMap (fitF M y):=by
 unfold zBT;rw[yBQ,yDD];simp
def zBZ(M:Mask)(y:List Int)(k:Nat):List FitT:=zBT M y (zAD M) (min (min k (zAD M)) M.length+1)
theorem zMJ{M:Mask}{y S:List Int}{f:FitT}(h:fitF M y S=some f):f=(S,(zCC M S y).1)∧(zCC M S y).2=0∧∀r∈f.2,r.1≠0:=by
 unfold fitF at h
 split at h
 ·rename_i h1
  cases h
  exact⟨rfl,h1.1,fun r hr=>by simpa using yAT.1 h1.2 r hr⟩
 ·cases h
end
section
def nrmI(l:Nat->Int)(n:Nat):Int:=sm (fun j=>((l j).natAbs:Int)) n
theorem nrmI_pos(l:Nat->Int):∀n,0<=nrmI l n
 |0=>yDE _
 |n+1=>by
  have:=nrmI_pos l n
  show 0<=nrmI l n+((l n).natAbs:Int)
  omega
def zCU(x:List Rt):Nat->Int×Int
 |0=>(0,1)
 |k+1=>((zCU x k).1*(zAB x k).2+(zCU x k).2*((zAB x k).1.natAbs:Int),(zCU x k).2*(zAB x k).2)
def nrmQ(x:List Rt):Int×Int:=zCU x x.length
theorem zNK{x:List Rt}(h:∀k,0<(zAB x k).2):∀k,0<(zCU x k).2∧0<=(zCU x k).1
 |0=>⟨by show(0:Int)<1;omega,yDE _⟩
 |k+1=>by
  obtain⟨h1,h2⟩:=zNK h k
  have h3:=h k
  exact⟨yBN h1 h3,Int.add_nonneg (yBY h2 (by omega)) (yBY (by omega) (by omega))⟩
theorem zJL{x:List Rt}{l:Nat->Int}{D:Int}(hD:0<D)(hp:∀k,0<(zAB x k).2):∀n,(∀k,k<n->(zAB x k).1*D=l k*(zAB x k).2)->(zCU x n).1*D=(zCU x n).2*nrmI l n
 |0,_=>by simp[zCU,nrmI,sm]
 |n+1,h=>by
  have ih:=zJL hD hp n (fun k hk=>h k (by omega))
  have e:=h n (by omega)
  have e2:((zAB x n).1.natAbs:Int)*D=((l n).natAbs:Int)*(zAB x n).2:=by
   have h1:=congrArg Int.natAbs e
   rw[yAR,yAR]at h1
   have h2:=hp n
   have h3:(((zAB x n).1.natAbs*D.natAbs:Nat):Int)=(((l n).natAbs*(zAB x n).2.natAbs:Nat):Int):=by rw[h1]
   rw[yCP,yCP]at h3
   have h4:((D.natAbs:Nat):Int)=D:=by omega
   have h5:(((zAB x n).2.natAbs:Nat):Int)=(zAB x n).2:=by omega
   rw[h4,h5]at h3
   exact h3
  show((zCU x n).1*(zAB x n).2+(zCU x n).2*((zAB x n).1.natAbs:Int))*D=(zCU x n).2*(zAB x n).2*(nrmI l n+((l n).natAbs:Int))
  generalize (zCU x n).1=a at*
  generalize (zCU x n).2=b at*
  generalize (zAB x n).2=c at*
  generalize ((zAB x n).1.natAbs:Int)=u at*
  generalize ((l n).natAbs:Int)=v at*
  generalize nrmI l n=N at*
  have:(a*c+b*u)*D=(a*D)*c+b*(u*D):=by grind
  rw[this,ih,e2];grind
def sgnI(z:Int):Int:=if z<0 then-1 else if z=0 then 0 else 1
theorem zMA(z:Int):sgnI z*z=(z.natAbs:Int):=by unfold sgnI;split<;>(try split)<;>omega
end
section
def hiS(l:Nat->Int)(j:Nat):Int:=if l j=0 then 1 else sgnI (l j)
end
section
theorem solve_vals{R:List (List Int)}{n:Nat}(he:(zAX R n).2=0):(zAX R n).1=(List.range n).map fun k=>ofF (vec ((pRed R n).1[k]?.getD []) n) (vec ((pRed R n).1[k]?.getD []) (jf (pRed R n).2 k)):=by
 unfold zAX at he⊢
 simp only[]at he⊢
 split at he
 ·simp at he
 ·rename_i h1
  split at he
  ·simp at he
  ·rename_i h2
   rw[if_neg h1,if_neg h2]
theorem zHG{M:List (List Int)}{n:Nat}(h:MaskOk M n){y:List Int}(hy:y.length=M.length)(hmil:∀v∈y,-1000000<=v∧v<=1000000)(he:(zAX (zAJ M y) n).2=0):
 ∃(l:Nat->Int) (D:Int),0<D∧D<=288∧(∀k,k<n->(zAB (zAX (zAJ M y) n).1 k).1*D=l k*(zAB (zAX (zAJ M y) n).1 k).2)∧(∀k,k<n->(l k).natAbs<=720000000)∧
  SolM M n y l D∧(∀k,0<(zAB (zAX (zAJ M y) n).1 k).2)∧zDE M n=n∧(∀k,zAL (zAB (zAX (zAJ M y) n).1 k)=true):=by
 obtain⟨hr,l',D',hD',k1,k2⟩:=solve_to h hy hmil he
 have hY:=h.addY hy (Y:=1000000) (by decide) (by simpa using hmil)
 have hi:=zCO (zAJ M y) hY.wid n (fun j hj q=>zCF (by decide) (fun r hr=>hY.one r hr j hj) q)
 have hpiv:=zMN h hy hY
 have hJl:(pRed (zAJ M y) n).2.length=n:=by rw[hpiv];exact hr
 have hasc:(pRed (zAJ M y) n).2=List.range' 0 n:=zMK hi.asc (fun x hx=>by have:=hi.lt x hx;omega) hJl
 have hjf:∀k,k<n->jf (pRed (zAJ M y) n).2 k=k:=fun k hk=>by
  rw[hasc];unfold jf;rw[List.getElem?_range' hk];simp
 have hval:=solve_vals he
 have hat:∀k,k<n->zAB (zAX (zAJ M y) n).1 k=ofF (rowv (pRed (zAJ M y) n).1 k n) (rowv (pRed (zAJ M y) n).1 k k):=fun k hk=>by
  rw[hval]
  unfold zAB
  rw[yAZ,List.getElem?_range hk]
  simp only[yFD,yBA]
  rw[hjf k hk];rfl
 have hout:∀k,n<=k->zAB (zAX (zAJ M y) n).1 k=(0,1):=fun k hk=>by
  rw[hval];unfold zAB
  rw[yAY (by simp;exact hk)];rfl
 have hJ1:∀x∈(pRed (zAJ M y) n).2,∀r,-1<=rowv (zAJ M y) r x∧rowv (zAJ M y) r x<=1:=fun x hx r=>zCF (by decide) (fun r hr=>hY.one r hr x (hi.lt x hx)) r
 have hpv:=fun k (hk:k<n)=>hi.piv_288 hY.le6 hJ1 (k:=k) (by omega)
 obtain⟨A,hs,hA⟩:=hi.st
 have hA1:∀k,k<(pRed (zAJ M y) n).2.length->∀r,-1<=A r (jf (pRed (zAJ M y) n).2 k)∧A r (jf (pRed (zAJ M y) n).2 k)<=1:=by
  intro k hk r
  obtain⟨q0,e⟩:=hA r
  rw[e]
  exact hJ1 _ (by unfold jf;rw[yAA hk];exact yAH hk) q0
 have hAY:∀r,-(1000000:Int)<=A r n∧A r n<=1000000:=fun r=>by
  obtain⟨q0,e⟩:=hA r
  rw[e]
  exact zCF (c:=n) (by omega) (fun r hr=>zDY (P:=fun x=> -(1000000:Int)<=x∧x<=1000000) (by omega) (hY.all r hr) n) q0
 have hd288:=det_288 (zDH (jf (pRed (zAJ M y) n).2) A (pRed (zAJ M y) n).2.length) (fun x hx r=>by
  obtain⟨k,hk,rfl⟩:=zGF.1 hx
  exact hA1 k hk r) (zDB (pRed (zAJ M y) n).2.length) (by rw[zFK,zDP]) (by rw[zDP];exact yAF hs.le hY.le6)
 have hd0:=hs.d0
 obtain⟨d,hd⟩:=exq (det (zDH (jf (pRed (zAJ M y) n).2) A (pRed (zAJ M y) n).2.length) (zDB (pRed (zAJ M y) n).2.length))
 rw[<- hd]at hd288 hd0
 -- the minors
 have hmin:∀k,k<n->∃E:Int,E.natAbs<=720000000∧rowv (pRed (zAJ M y) n).1 k k*E=d*rowv (pRed (zAJ M y) n).1 k n:=by
  intro k hk
  have hk':k<(pRed (zAJ M y) n).2.length:=by omega
  obtain⟨⟨s,hs2,e0⟩,e⟩:=hs.minorU hk'
  rw[<- hd]at e0
  have e1:=e n
  rw[e0,hjf k hk]at e1
  have hl:=(zGO (J:=jf (pRed (zAJ M y) n).2) (A:=A) hk').2
  have hb:=det_le2 (c:=fun r=>A r n) hAY (zBV (jf (pRed (zAJ M y) n).2) A k (pRed (zAJ M y) n).2.length) (fun d hd r=>by obtain⟨k,hk,rfl⟩:=zEB hd;exact hA1 k hk r) (zDB (pRed (zAJ M y) n).2.length) (by rw[zFK];exact hl.symm)
  rw[hl]at hb
  have hK6:(pRed (zAJ M y) n).2.length<=6:=yAF hs.le hY.le6
  have hfact:∀a:Nat,a+1<=6->((a+1:Nat):Int)*(1000000*(fact a:Int))<=720000000:=fun a ha=>by
   have:a=0∨a=1∨a=2∨a=3∨a=4∨a=5:=by omega
   rcases this with rfl|rfl|rfl|rfl|rfl|rfl<;>decide
  have hf:=hfact (zBV (jf (pRed (zAJ M y) n).2) A k (pRed (zAJ M y) n).2.length).length (by omega)
  rw[hl]at hf
  refine⟨s*minorU (pRed (zAJ M y) n).2.length (jf (pRed (zAJ M y) n).2) A k n,?_,?_⟩
  ·have:(s*minorU (pRed (zAJ M y) n).2.length (jf (pRed (zAJ M y) n).2) A k n).natAbs=(minorU (pRed (zAJ M y) n).2.length (jf (pRed (zAJ M y) n).2) A k n).natAbs:=by
    rw[yAR]
    rcases hs2 with rfl|rfl<;>simp
   rw[this]
   unfold minorU
   omega
  ·have h1:s*s=1:=by rcases hs2 with rfl|rfl<;>rfl
   generalize minorU (pRed (zAJ M y) n).2.length (jf (pRed (zAJ M y) n).2) A k n=E at*
   generalize rowv (pRed (zAJ M y) n).1 k k=b at*
   generalize rowv (pRed (zAJ M y) n).1 k n=a at*
   have:b*(s*E)=s*(b*E):=by grind
   rw[this,e1]
   have:s*(s*d*a)=(s*s)*(d*a):=by grind
   rw[this,h1];omega
 -- the values over|d|
 have key:∀k,k<n->∃E:Int,E.natAbs<=720000000∧(zAB (zAX (zAJ M y) n).1 k).1*(d.natAbs:Int)=E*(zAB (zAX (zAJ M y) n).1 k).2:=by
  intro k hk
  obtain⟨E,h1,h2⟩:=hmin k hk
  have hb:=(hpv k hk).1
  rw[hjf k hk]at hb
  rw[hat k hk,zNJ hb]
  obtain⟨c1,_,_,_,c5⟩:=zDS (a:=rowv (pRed (zAJ M y) n).1 k n) hb
  generalize rowv (pRed (zAJ M y) n).1 k k=b at*
  generalize rowv (pRed (zAJ M y) n).1 k n=a at*
  generalize zBF a b=p at*
  obtain⟨p1,p2⟩:=p
  dsimp only at*
  have e1:b*(p1*d)=b*(E*p2):=by
   have:b*(p1*d)=(p1*b)*d:=by grind
   rw[this,c5]
   have:b*(E*p2)=(b*E)*p2:=by grind
   rw[this,h2];grind
  have e2:=yBE (show b≠0 by omega) e1
  rcases yBK d 0 with c|c
  ·refine⟨-E,by omega,?_⟩
   have:(d.natAbs:Int)= -d:=by omega
   rw[this,yGL,e2,yGK]
  ·refine⟨E,h1,?_⟩
   have:(d.natAbs:Int)=d:=by omega
   rw[this,e2]
 have hpos:∀k,0<(zAB (zAX (zAJ M y) n).1 k).2:=fun k=>by
  rcases yAP k n with hk|hk
  ·have hb:=(hpv k hk).1
   rw[hjf k hk]at hb
   rw[hat k hk,zNJ hb]
   exact(zDS hb).1
  ·rw[hout k hk];decide
 have hex:∃l:Nat->Int,∀k,k<n->(l k).natAbs<=720000000∧(zAB (zAX (zAJ M y) n).1 k).1*(d.natAbs:Int)=l k*(zAB (zAX (zAJ M y) n).1 k).2:=by
  refine⟨fun k=>if hk:k<n then Classical.choose (key k hk)else 0,fun k hk=>?_⟩
  simp only[dif_pos hk]
  exact Classical.choose_spec (key k hk)
 obtain⟨l,hl⟩:=hex
 refine⟨l,(d.natAbs:Int),by omega,by omega,fun k hk=>(hl k hk).2,fun k hk=>(hl k hk).1,⟨by omega,fun q hq=>?_⟩,hpos,hr,fun k=>?_⟩
 ·-- the system
  have e1:=k1 q hq
  have e2:∀c,c<n->D'*(rowv M q c*l c)=(d.natAbs:Int)*(rowv M q c*l' c):=fun c hc=>by
   have h1:=(hl c hc).2
   have h2:=k2 c hc
   have hp:=hpos c
   generalize zAB (zAX (zAJ M y) n).1 c=p at*
   obtain⟨p1,p2⟩:=p
   dsimp only at*
   have h3:p2*(l c*D')=p2*(l' c*(d.natAbs:Int)):=by
    have:p2*(l c*D')=(l c*p2)*D':=by grind
    rw[this,<- h1]
    have:p1*(d.natAbs:Int)*D'=(p1*D')*(d.natAbs:Int):=by grind
    rw[this,h2];grind
   have h4:=yBE (show p2≠0 by omega) h3
   have:D'*(rowv M q c*l c)=rowv M q c*(l c*D'):=by grind
   rw[this,h4];grind
  have e3:D'*sm (fun i=>rowv M q i*l i) n=D'*(vec y q*(d.natAbs:Int)):=by
   rw[<- zED,zAS e2,zED,e1];grind
  exact yBE (show D'≠0 by omega) e3
 ·rcases yAP k n with hk|hk
  ·have hb:=hpv k hk
   rw[hjf k hk]at hb
   rw[hat k hk,zNJ hb.1]
   have b3:=sys_le hY k n
   obtain⟨c1,c2,c3,c4,_⟩:=zDS (a:=rowv (pRed (zAJ M y) n).1 k n) hb.1
   rw[zAR]
   exact⟨by omega,by omega,by omega,by omega,c4⟩
  ·rw[hout k hk];decide
theorem nrmI_le{l:Nat->Int}{B:Nat}:∀n:Nat,(∀k,k<n->(l k).natAbs<=B)->nrmI l n<=((n*B:Nat):Int)
 |0,_=>by simp[nrmI,sm]
 |n+1,h=>by
  have h1:=nrmI_le n (fun k hk=>h k (by omega))
  have h2:=h n (by omega)
  show nrmI l n+((l n).natAbs:Int)<=_
  rw[Nat.succ_mul];omega
theorem solve_norm{M:List (List Int)}{n:Nat}(h:MaskOk M n){y:List Int}(hy:y.length=M.length)(hmil:∀v∈y,-1000000<=v∧v<=1000000)(he:(zAX (zAJ M y) n).2=0):
 0<(zCU (zAX (zAJ M y) n).1 n).2∧zAL (zBF (zCU (zAX (zAJ M y) n).1 n).1 (zCU (zAX (zAJ M y) n).1 n).2)=true:=by
 obtain⟨l,D,hD,hD288,h1,h2,_,hp,hr,_⟩:=zHG h hy hmil he
 obtain⟨p1,p2⟩:=zNK hp n
 refine⟨p1,?_⟩
 have e:=zJL hD hp n h1
 have hn6:n<=6:=by have:=zQX h;have:=h.le6;omega
 have hl:=nrmI_le n h2
 have hN:=nrmI_pos l n
 have e2:zBF (zCU (zAX (zAJ M y) n).1 n).1 (zCU (zAX (zAJ M y) n).1 n).2=zBF (nrmI l n) D:=zMX p1 hD (by rw[e,yBV])
 rw[e2]
 obtain⟨c1,c2,c3,c4,_⟩:=zDS (a:=nrmI l n) hD
 have:n*720000000<=6*720000000:=yFB _ hn6
 rw[zAR]
 exact⟨by omega,by omega,by omega,by omega,c4⟩
end
section
open Go.RowKit
def IterS(P:Program)(g:Nat)(lb:Array Value){α:Type}(V:Nat->(Nat->Prop)->α->Value->World->Prop)(xs:List α)(fp:Nat->Prop)(w0:World):Prop:=
 ∀(l:Nat) (J Jx:(Nat->Prop)->List α->World->Prop) (W:World),Below w0.heap.size w0 W->
  (∀S S' s A B,Jx S s A->(∀k,S k->S' k)->(∀k,S' k->S k∨A.heap.size<=k)->Keep (fun k=>¬S' k) A B->Jx S' s B)->
  (∀S S' s A B,J S s A->(∀k,S k->S' k)->(∀k,S' k->S k∨A.heap.size<=k)->Keep (fun k=>¬S' k) A B->J S' s B)->
  (∀S pre x v W1,pre++[x] <+: xs->(∀k,S k->W.heap.size<=k∧k<W1.heap.size)->W.heap.size<=W1.heap.size->J S pre W1->V W.heap.size S x v W1->
    YieldAt Fence.wide 0 P l #[v] W1 fun e W'=>
     (W1.heap.size<=W'.heap.size∧(∀k,fp k∨S k->W'.heap[k]? =W1.heap[k]?))∧((e=.returned (.bool true)∧J S (pre++[x]) W')∨(e=.returned (.bool false)∧Jx S (pre++[x]) W')))->
  J (fun _=>False) [] W->
  CallsIn Fence.wide 0 P g (#[.func (.yield l) #[] #[]]++lb) W fun e W'=>(∃v,e=.returned v)∧((∃S,(∀k,S k->W.heap.size<=k∧k<W'.heap.size)∧J S xs W')∨(∃S pre,pre <+: xs∧Jx S pre W'))
def roundEndS{α:Type}(S:Nat->Prop)(I:List α->World->Prop)(Ix:Code->List α->World->Prop)(xs:List α)(W:World):Exit->Act->World->Prop
 | .normal,_,W'=>W.heap.size<=W'.heap.size∧(∀k,S k->W'.heap[k]? =W.heap[k]?)∧I xs W'
 | .ret,_,W'=>W.heap.size<=W'.heap.size∧(∀k,S k->W'.heap[k]? =W.heap[k]?)∧Ix .ret xs W'
 | .exit id,_,W'=>W.heap.size<=W'.heap.size∧(∀k,S k->W'.heap[k]? =W.heap[k]?)∧Ix (.exit id) xs W'
 | .goto t,_,W'=>W.heap.size<=W'.heap.size∧(∀k,S k->W'.heap[k]? =W.heap[k]?)∧Ix (.goto t) xs W'
 | .panic _,_,_=>False
 | .outgrown,_,_=>False
theorem range_s{P:Program}{g:Operand}{p:Tmp}{assign body:Code}{Q:Exit->Act->World->Prop}{a:Act}{w:World}
 {gf:Nat}{lb:Array Value}(hg:a.eval g=.func (.func gf) #[] lb)(eg:∀args w,(callFunc gf args).run P w=.ok (.enter gf args) w)
 {α:Type}{V:Nat->(Nat->Prop)->α->Value->World->Prop}{xs:List α}{fp:Nat->Prop}{w0:World}(hseq:IterS P gf lb V xs fp w0)(hb0:Below w0.heap.size w0 w)(hfp:∀k,fp k->k<w.heap.size)
 (I:(Nat->Prop)->List α->World->Prop)(Ix:(Nat->Prop)->Code->List α->World->Prop)
 (hI:∀S S' s A B,I S s A->(∀k,S k->S' k)->(∀k,S' k->S k∨A.heap.size<=k)->(∀k,S' k->w.heap.size+2<=k)->w.heap.size+2<=A.heap.size->Keep (fun k=>k≠w.heap.size∧k≠w.heap.size+1∧¬S' k) A B->I S' s B)
 (hIx:∀S S' c s A B,Ix S c s A->(∀k,S k->S' k)->(∀k,S' k->S k∨A.heap.size<=k)->(∀k,S' k->w.heap.size+2<=k)->w.heap.size+2<=A.heap.size->Keep (fun k=>k≠w.heap.size∧k≠w.heap.size+1∧¬S' k) A B->Ix S' c s B)
 (hV:∀S x v A B,V (w.heap.size+2) S x v A->Keep (fun k=>k≠w.heap.size∧k≠w.heap.size+1) A B->V (w.heap.size+2) S x v B)
 (h0:∀W,Keep (fun k=>k<w.heap.size) w W->w.heap.size+2<=W.heap.size->I (fun _=>False) [] W)(Ax:Value->Act->World->Prop)
 (hAx:∀v a' A B,Ax v a' A->Keep (fun k=>k≠w.heap.size∧k≠w.heap.size+1) A B->Ax v a' B)
 (hassign:∀(l:Nat) (S:Nat->Prop) (x:α) (v:Value) (W:World) (K:Act->World->Prop),w.heap.size+2<=W.heap.size->V (w.heap.size+2) S x v W->(∀a' W',Below W.heap.size W W'->Ax v a' W'->K a' W')->
   assign.wpIn (Fence.wide.inRound l) 0 P (Exit.then K (fun _ _ _=>False)) {tmps:=a.tmps.setIfInBounds p v,defers:=[]} W)
 (hbody:∀(l:Nat) (S:Nat->Prop) (pre:List α) (x:α) (v:Value) (a':Act) (W:World),pre++[x] <+: xs->(∀k,S k->w.heap.size+2<=k∧k<W.heap.size)->I S pre W->V (w.heap.size+2) S x v W->Ax v a' W->w.heap.size+2<=W.heap.size->
   (∃o,W.heap[w.heap.size]? =some o∧o.isCells=false)->(∃o,W.heap[w.heap.size+1]? =some o∧o.isCells=false)->
   body.wpIn (Fence.wide.inRound l) 0 P (roundEndS (fun k=>fp k∨k=w.heap.size∨k=w.heap.size+1∨S k) (I S) (Ix S) (pre++[x]) W) a' W)
 (hdone:∀(S:Nat->Prop) (W:World),w.heap.size+2<=W.heap.size->(∀k,S k->w.heap.size+2<=k∧k<W.heap.size)->I S xs W->W.heap[w.heap.size]? =some (.deferred (some []))->Q .normal {a with defers:={target:=.collected w.heap.size,args:=#[]}::a.defers} W)
 (hstop:∀(S:Nat->Prop) (c:Code) (pre:List α) (W:World),pre <+: xs->(∀k,S k->w.heap.size+2<=k)->Ix S c pre W->W.heap[w.heap.size]? =some (.deferred (some []))->c.wpIn Fence.wide 0 P Q {a with defers:={target:=.collected w.heap.size,args:=#[]}::a.defers} W):
 (Code.rangeFunc g #[p] assign body).wpIn Fence.wide 0 P Q a w:=by
 refine wpIn_rangeFunc ?_
 intro fn hfn
 obtain⟨rec,hrec⟩:∃rec:LoopState->Option Code->Loop,rec=fun st pe=>{state:=st,pending:=pe,fn,tmps:=a.tmps,params:=#[p],assign,body,defers:=w.heap.size}:=⟨_,rfl⟩
 obtain⟨W1,hW1⟩:∃W1,(w.alloc (.deferred (some []))).alloc (.loop (rec .ready none))=W1:=⟨_,rfl⟩
 have hsz1:W1.heap.size=w.heap.size+2:=by rw[<- hW1];simp
 have hL1:W1.heap[w.heap.size+1]? =some (.loop (rec .ready none)):=by
  rw[<- hW1];have:=World.alloc_heap_new (w.alloc (.deferred (some []))) (.loop (rec .ready none));rwa [World.size_alloc]at this
 have hK1:W1.heap[w.heap.size]? =some (.deferred (some [])):=by
  rw[<- hW1];exact(Below.heap_alloc _ _ _ (by simp)).trans (World.alloc_heap_new w _)
 have hbw:Below w.heap.size w W1:=by rw[<- hW1];exact((Below.refl _ w).alloc (yAC _) _).alloc (by simp) _
 refine⟨w.heap.size+1,[{target:=.collected w.heap.size,args:=#[]}],W1,{target:=.fn (.func gf) lb,args:=#[.func (.yield (w.heap.size+1)) #[] #[]]},W1,gf,
  #[.func (.yield (w.heap.size+1)) #[] #[]]++lb,W1,?_,?_,?_,?_,fun h=>by simp[Fence.wide]at h,?_⟩
 ·rw[<- hW1,hrec];exact run_enterLoop_outer _ _ _ _ _
 ·simp only[resolve,hg]
  simp[go_sem]
 ·intro f' hf';exact trivial
 ·simp[invoke,go_sem,eg]
 ·refine(hseq (w.heap.size+1)
   (fun S pre W=>(I S pre W∧w.heap.size+2<=W.heap.size∧∀k,S k->w.heap.size+2<=k)∧W.heap[w.heap.size+1]? =some (.loop (rec .ready none))∧W.heap[w.heap.size]? =some (.deferred (some [])))
   (fun S pre W=>∃c,(Ix S c pre W∧w.heap.size+2<=W.heap.size∧∀k,S k->w.heap.size+2<=k)∧W.heap[w.heap.size+1]? =some (.loop (rec .done (some c)))∧W.heap[w.heap.size]? =some (.deferred (some [])))
   W1 (zAA hb0 hbw) ?_ ?_ ?_ ?_).mono ?_
  ·rintro S S' s A B ⟨c,⟨hi,hsA,hSl⟩,hl,hk⟩ hSS hSn hAB
   have hS':∀k,S' k->w.heap.size+2<=k:=fun k h=>by
    rcases hSn k h with h1|h1
    ·exact hSl k h1
    ·omega
   exact⟨c,⟨hIx S S' c s A B hi hSS hSn hS' hsA (hAB.mono fun k hk=>hk.2.2),yAF hsA hAB.size,hS'⟩,
    (hAB.block _ (yAB.1 hl).1 (fun h=>by have:=hS' _ h;omega)).trans hl,(hAB.block _ (yAB.1 hk).1 (fun h=>by have:=hS' _ h;omega)).trans hk⟩
  ·rintro S S' s A B ⟨⟨hi,hsA,hSl⟩,hl,hk⟩ hSS hSn hAB
   have hS':∀k,S' k->w.heap.size+2<=k:=fun k h=>by
    rcases hSn k h with h1|h1
    ·exact hSl k h1
    ·omega
   exact⟨⟨hI S S' s A B hi hSS hSn hS' hsA (hAB.mono fun k hk=>hk.2.2),yAF hsA hAB.size,hS'⟩,
    (hAB.block _ (yAB.1 hl).1 (fun h=>by have:=hS' _ h;omega)).trans hl,(hAB.block _ (yAB.1 hk).1 (fun h=>by have:=hS' _ h;omega)).trans hk⟩
  ·rintro S pre x v W hpre hSb hsz ⟨⟨hi,hsW,hSl⟩,hl,hk⟩ hv
   rw[hsz1]at hv hSb
   have hlt:w.heap.size+1<W.heap.size:=(yAB.1 hl).1
   have hy:=run_yield (P:=P) (args:=#[v]) hl (by rw[hrec];simp)
   rw[hrec]at hy
   have hy':(Instr.yield (w.heap.size+1) #[v]).run P W=.ok (.round (w.heap.size+1) fn (a.tmps.setIfInBounds p v) assign body) W:=by
    simpa using hy
   refine⟨fn,_,assign,body,hy',roundIn_of_wpIn hfn ?_⟩
   refine hassign _ S x v W _ hsW hv ?_
   intro a' W' hbW' hax
   have hlW':W'.heap[w.heap.size+1]? =some (.loop (rec .ready none)):=(hbW'.block _ hlt).trans hl
   have hkW':W'.heap[w.heap.size]? =some (.deferred (some [])):=(hbW'.block _ (by omega)).trans hk
   have hltW':w.heap.size+1<W'.heap.size:=by have:=hbW'.size;omega
   refine⟨_,run_beginRound hlW' (by rw[hrec]),?_⟩
   have hl2:(W'.putObj (w.heap.size+1) (.loop {rec .ready none with state:=.busy})).heap[w.heap.size+1]? =some (.loop {rec .ready none with state:=.busy}):=World.putObj_heap_same hltW'
   have hkp:=Keep.put W' (w.heap.size+1) (.loop {rec .ready none with state:=.busy})
   have hkp2:Keep (fun k=>k≠w.heap.size∧k≠w.heap.size+1) W' _:=hkp.mono fun k hk=>hk.2
   have hIW':=hI S S pre _ _ (hI S S pre _ _ hi (fun _ h=>h) (fun _ h=>.inl h) hSl hsW (Keep.of_below hbW')) (fun _ h=>h) (fun _ h=>.inl h) hSl (yAF hsW hbW'.size) (hkp2.mono fun k hk=>⟨hk.1,hk.2.1⟩)
   refine wpIn_mono (hbody _ S pre x v a' _ hpre (fun k h=>⟨hSl k h,by have:=(hSb k h).2;exact yAJ this (yAF hbW'.size hkp.size)⟩) hIW' (hV S x v _ _ (hV S x v _ _ hv (Keep.of_below hbW')) hkp2) (hAx _ _ _ _ hax hkp2) (yAF (yAF hsW hbW'.size) hkp.size) ⟨_,(World.putObj_heap_other (by omega)).trans hkW',rfl⟩ ⟨_,hl2,rfl⟩) ?_
   have fin:∀(jump:Option Code) (W3:World),(∀k,(fp k∨k=w.heap.size∨k=w.heap.size+1∨S k)->W3.heap[k]? =(W'.putObj (w.heap.size+1) (.loop {rec .ready none with state:=.busy})).heap[k]?)->
    (Instr.endRound (w.heap.size+1) jump).run P W3=.ok (.bool jump.isNone) (W3.putObj (w.heap.size+1) (.loop (rec (if jump.isNone then .ready else .done) jump)))∧
    W3.heap[w.heap.size+1]? =some (.loop {rec .ready none with state:=.busy})∧
    (W3.putObj (w.heap.size+1) (.loop (rec (if jump.isNone then .ready else .done) jump))).heap[w.heap.size+1]? =some (.loop (rec (if jump.isNone then .ready else .done) jump))∧
    (W3.putObj (w.heap.size+1) (.loop (rec (if jump.isNone then .ready else .done) jump))).heap[w.heap.size]? =some (.deferred (some [])):=fun jump W3 hk3=>by
    have hl3:=(hk3 (w.heap.size+1) (by simp)).trans hl2
    have:=run_endRound (P:=P) jump hl3
    rw[hrec]at this⊢
    refine⟨this,by rw[hrec]at hl3;exact hl3,World.putObj_heap_same (yAB.1 hl3).1,(World.putObj_heap_other (by omega)).trans ((hk3 w.heap.size (by simp)).trans ((World.putObj_heap_other (by omega)).trans hkW'))⟩
   rintro e a3 W3 hp
   have keepP:∀(o:Obj),Keep (fun k=>k≠w.heap.size∧k≠w.heap.size+1) W3 (W3.putObj (w.heap.size+1) o):=fun o=>(Keep.put W3 (w.heap.size+1) o).mono fun k hk=>hk.2
   have both:∀(o:Obj),W'.heap.size<=W3.heap.size->(∀k,(fp k∨k=w.heap.size∨k=w.heap.size+1∨S k)->W3.heap[k]? =(W'.putObj (w.heap.size+1) (.loop {rec .ready none with state:=.busy})).heap[k]?)->
    W.heap.size<=(W3.putObj (w.heap.size+1) o).heap.size∧∀k,fp k∨S k->(W3.putObj (w.heap.size+1) o).heap[k]? =W.heap[k]? :=fun o hs3 hk3=>by
    refine⟨yAF (yAF hbW'.size hs3) (keepP o).size,fun k hk=>?_⟩
    have hne:k≠w.heap.size+1:=by
     rcases hk with hk|hk
     ·have:=hfp k hk;omega
     ·have:=hSl k hk;omega
    have hltk:k<W.heap.size:=by
     rcases hk with hk|hk
     ·have:=hfp k hk;omega
     ·exact(hSb k hk).2
    exact(World.putObj_heap_other hne).trans ((hk3 k (by rcases hk with hk|hk<;>simp[hk])).trans ((World.putObj_heap_other hne).trans (hbW'.block k hltk)))
   cases e with
   |normal=>
    obtain⟨hs3,hk3,hi3⟩:=hp
    obtain⟨hr,hl3,hl4,hk4⟩:=fin none W3 hk3
    have hs3':W.heap.size<=W3.heap.size:=yAF (yAF hbW'.size hkp.size) hs3
    exact⟨_,_,hr,both _ (yAF hkp.size hs3) hk3,.inl ⟨rfl,⟨hI S S _ _ _ hi3 (fun _ h=>h) (fun _ h=>.inl h) hSl (yAF hsW hs3') ((keepP _).mono fun k hk=>⟨hk.1,hk.2.1⟩),yAF (yAF hsW hs3') (keepP _).size,hSl⟩,hl4,hk4⟩⟩
   |ret=>
    obtain⟨hs3,hk3,hi3⟩:=hp
    obtain⟨hr,hl3,hl4,hk4⟩:=fin (some .ret) W3 hk3
    have hs3':W.heap.size<=W3.heap.size:=yAF (yAF hbW'.size hkp.size) hs3
    exact⟨_,_,hr,both _ (yAF hkp.size hs3) hk3,.inr ⟨rfl,.ret,⟨hIx S S _ _ _ _ hi3 (fun _ h=>h) (fun _ h=>.inl h) hSl (yAF hsW hs3') ((keepP _).mono fun k hk=>⟨hk.1,hk.2.1⟩),yAF (yAF hsW hs3') (keepP _).size,hSl⟩,hl4,hk4⟩⟩
   |exit id=>
    obtain⟨hs3,hk3,hi3⟩:=hp
    obtain⟨hr,hl3,hl4,hk4⟩:=fin (some (.exit id)) W3 hk3
    have hs3':W.heap.size<=W3.heap.size:=yAF (yAF hbW'.size hkp.size) hs3
    exact⟨_,_,hr,both _ (yAF hkp.size hs3) hk3,.inr ⟨rfl,.exit id,⟨hIx S S _ _ _ _ hi3 (fun _ h=>h) (fun _ h=>.inl h) hSl (yAF hsW hs3') ((keepP _).mono fun k hk=>⟨hk.1,hk.2.1⟩),yAF (yAF hsW hs3') (keepP _).size,hSl⟩,hl4,hk4⟩⟩
   |goto t=>
    obtain⟨hs3,hk3,hi3⟩:=hp
    obtain⟨hr,hl3,hl4,hk4⟩:=fin (some (.goto t)) W3 hk3
    have hs3':W.heap.size<=W3.heap.size:=yAF (yAF hbW'.size hkp.size) hs3
    exact⟨_,_,hr,both _ (yAF hkp.size hs3) hk3,.inr ⟨rfl,.goto t,⟨hIx S S _ _ _ _ hi3 (fun _ h=>h) (fun _ h=>.inl h) hSl (yAF hsW hs3') ((keepP _).mono fun k hk=>⟨hk.1,hk.2.1⟩),yAF (yAF hsW hs3') (keepP _).size,hSl⟩,hl4,hk4⟩⟩
   |panic ch=>exact hp.elim
   |outgrown=>exact hp.elim
  ·exact⟨⟨h0 W1 (Keep.of_below hbw |>.mono fun k _=>trivial) (by omega),by omega,fun k h=>h.elim⟩,hL1,hK1⟩
  ·rintro e W2 ⟨⟨v,rfl⟩,(⟨S,hSw,⟨hi,hs2,hSl⟩,hl,hk⟩|⟨S,pre,hSp,c,⟨hi,hs2,hSl⟩,hl,hk⟩)⟩
   ·refine⟨none,_,by have:=run_endLoop (P:=P) hl (by rw[hrec];simp);rw[hrec]at this;exact this,hdone S _ (yAF hs2 (Keep.put W2 _ _).size) (fun k h=>⟨hSl k h,yAJ (hSw k h).2 (Keep.put W2 _ _).size⟩) (hI S S _ _ _ hi (fun _ h=>h) (fun _ h=>.inl h) hSl hs2 ((Keep.put W2 _ _).mono fun k hk=>hk.2.1)) ((World.putObj_heap_other (by omega)).trans hk)⟩
   ·refine⟨some c,_,by have:=run_endLoop (P:=P) hl (by rw[hrec];simp);rw[hrec]at this;exact this,hstop S c pre _ hSp hSl (hIx S S _ _ _ _ hi (fun _ h=>h) (fun _ h=>.inl h) hSl hs2 ((Keep.put W2 _ _).mono fun k hk=>hk.2.1)) ((World.putObj_heap_other (by omega)).trans hk)⟩
end
section
open Go.RowKit
def PredQ(P:Program)(g:Nat)(lb:Array Value)(w:World)(p:Rt->Bool):Prop:=
 ∀(r:Rt) (W:World),Below w.heap.size w W->Calls P g (#[ratV r]++lb) W fun e W'=>e=.returned (.bool (p r))∧Below W.heap.size W W'
theorem indexQ(w:World)(a:Option Addr)(n cap:Nat)(l:List Rt)(hn:l.length=n)(hm:n<=maxLen)(H:zCB w a l)(g:Nat)(lb:Array Value)(p:Rt->Bool)(hp:PredQ Tryz.prog g lb w p)(eg:∀args w,(callFunc g args).run Tryz.prog w=.ok (.enter g args) w):
 Calls Tryz.prog 146 #[.slice a n cap,.func (.func g) #[] lb] w fun e w'=>e=.returned (.int .i64 (idxP p l 0))∧Below w.heap.size w w':=by
 have HN:=hid hn
 have HH:=hid H
 have HP:=hid hp
 clear hn H hp
 unfold maxLen at hm
 go_enter Tryz.func146,Tryz.ntmps146
 go_wp2
 go_loopw [8] (fun i wr=>∃k:Nat,k<=n∧i=.int .i64 k∧Below w.heap.size w wr∧∀i y,i<k->l[i]? =some y->p y=false) (fun i _=>n-(intOf i).toNat)
 case atStart=>exact⟨0,yAK _,rfl,Below.refl _ _,fun i y h=>by omega⟩
 case round=>
  obtain⟨k,hk,rfl,hb,hno⟩:=hrel
  have HNO:=hid hno
  clear hno
  by_cases hlt:k<n
  ·have hkl:k<l.length:=by rw[HN.out];exact hlt
   obtain⟨b,off,rfl,hbs,h0,h1⟩:=(HH.out.below hb) k hkl
   have HK:=hid (yAA hkl)
   obtain⟨⟨r1,r2⟩,hr⟩:∃r,r=l[k]'hkl:=⟨_,rfl⟩
   rw[<- hr]at h0 h1 HK
   simp only[]at h0 h1
   have HC:=hid (HP.out (r1,r2) wr hb)
   obtain⟨B,hB⟩:=exq (p (r1,r2))
   rw[<- hB]at HC
   have HBB:=hid hB.symm
   clear hr hB hkl
   go_wp2_with (refine HC.out.mono ?_;rintro e w1 ⟨rfl,hb1⟩;refine Stop.of ?_)
   refine Stop.go ?_
   cases B
   ·go_wp2
    refine⟨⟨k+1,by omega,by go_num,zAA hb hb1,?_⟩,by simp[intOf];omega⟩
    intro i y hi hy
    by_cases e:i=k
    ·subst e;rw[HK.out]at hy;cases hy;exact HBB.out
    ·exact HNO.out i y (by omega) hy
   ·go_wp2
    go_ret
    refine⟨zDC ?_,zAA hb hb1⟩
    rw[zIW p l 0 k _ HK.out HBB.out HNO.out];simp
  ·go_wp2
   go_ret
   refine⟨zDC ?_,hb⟩
   rw[zGR]
   intro x hx
   obtain⟨i,hi,e⟩:=yDQ hx
   exact HNO.out i x (by have:=HN.out;omega) (by rw[yAA hi,e])
theorem zOG(w:World)(a:Option Addr)(n cap:Nat)(l:List Rt)(hn:l.length=n)(hm:n<=maxLen)(H:zCB w a l)(g:Nat)(lb:Array Value)(p:Rt->Bool)(hp:PredQ Tryz.prog g lb w p)(eg:∀args w,(callFunc g args).run Tryz.prog w=.ok (.enter g args) w):
 Calls Tryz.prog 80 #[.slice a n cap,.func (.func g) #[] lb] w fun e w'=>e=.returned (.bool (l.any p))∧Below w.heap.size w w':=by
 have HC:=hid (indexQ w a n cap l hn hm H g lb p hp eg)
 have HG':=hid (zKV p l 0)
 clear hn H hp
 go_enter Tryz.func80,Tryz.ntmps80
 go_wp2_with (refine HC.out.mono ?_;rintro e w1 ⟨rfl,hb1⟩)
 go_ret
 refine⟨zAP ?_,hb1⟩
 rw[Bool.eq_iff_iff,decide_eq_true_iff,HG'.out]
theorem fit1(w:World):PredQ Tryz.prog 263 #[] w (fun r=>decide (r.1=0)):=by
 rintro⟨r1,r2⟩ W hb
 have hbz:Below W.heap.size W (W.alloc (.cells #[.int .i64 r1,.int .i64 r2] 29)):=(Below.refl _ _).alloc (yAC _) _
 simp only[ratV]
 go_enter Tryz.func263,Tryz.ntmps263
 go_wp2
 go_ret
 exact⟨zAP (by rw[Bool.eq_iff_iff];simp),hbz⟩
theorem qpixels_c(w:World)(a a2:Option Addr)(n cap n2 cap2:Nat)(M:Mask)(hn:M.length=n)(h1:1<=n)(H:zAM w a M):
 Calls Tryz.prog 255 #[.agg #[.slice a n cap,.slice a2 n2 cap2]] w fun e w'=>e=.returned (.int .i64 (zAD M))∧Below w.heap.size w w':=by
 obtain⟨b,off,ra,rc,rfl,hb,hc⟩:=zCT H (by omega)
 have hbz:Below w.heap.size w (w.alloc (.cells #[.slice (some ⟨b,off,none⟩) n cap,.slice a2 n2 cap2] 216)):=(Below.refl _ _).alloc (yAC _) _
 have hcz:=(hbz.cell (p:=⟨b,off,none⟩) hb).trans hc
 have i0:(0:Int)<(n:Int):=by omega
 obtain⟨W,hW⟩:=exq (zAD M)
 rw[<- hW]at hcz⊢
 have HB:=hid hbz
 clear hbz hc hb hn H hW
 go_enter Tryz.func255,Tryz.ntmps255
 go_wp2
 go_ret
 exact⟨rfl,HB.out⟩
def FitV(lo:Nat)(S:Nat->Prop)(f:FitT)(v:Value)(W:World):Prop:=
 ∃pa pn pc va vn vc,v=.agg #[.slice pa pn pc,.slice va vn vc]∧f.1.length=pn∧f.2.length=vn∧pn<=maxLen∧vn<=maxLen∧zAH W pa f.1∧zCB W va f.2∧
  (∀b o,pa=some ⟨b,o,none⟩->lo<=b∧b<W.heap.size∧¬S b∧∃c z,W.heap[b]? =some (.cells c 3 z))∧(∀b o,va=some ⟨b,o,none⟩->lo<=b∧b<W.heap.size∧¬S b∧∃c z,W.heap[b]? =some (.cells c 29 z))
def FitPost(o:Option FitT)(lo:Nat)(e:Ending)(w':World):Prop:=
 (o=none∧e=.returned (.tuple #[.agg #[.slice none 0 0,.slice none 0 0],.bool false]))∨(∃f v,o=some f∧e=.returned (.tuple #[v,.bool true])∧FitV lo (fun _=>False) f v w')
theorem zNI{w:World}{base:Nat}{T:TypeId}{k n:Nat}{a:Option Addr}{c:Nat}{xs:List Value}(h:w.ownsRow base T k (.slice a n c) n xs):∀b o,a=some ⟨b,o,none⟩->base<=b∧b<w.heap.size:=by
 rintro b o rfl
 rcases h.2 with⟨h1,_⟩|⟨g,cap,cur,h1,hbg,hgg,_⟩
 ·cases h1
 ·cases h1;exact⟨hbg,(yAB.1 hgg).1⟩
theorem own_typed{w:World}{base:Nat}{T:TypeId}{k n:Nat}{a:Option Addr}{c:Nat}{xs:List Value}(h:w.ownsRow base T k (.slice a n c) n xs):∀b o,a=some ⟨b,o,none⟩->∃c z,w.heap[b]? =some (.cells c T z):=by
 rintro b o rfl
 rcases h.2 with⟨h1,_⟩|⟨g,cap,cur,h1,hbg,hgg,_⟩
 ·cases h1
 ·cases h1;exact⟨_,_,hgg⟩
theorem fit_c(w:World)(a a2 a3:Option Addr)(n cap n2 cap2 n3 cap3:Nat)(M:Mask)(y S:List Int)(hn:M.length=n)(hn2:y.length=n2)(hn3:S.length=n3)(hm:n<=maxLen)(hm2:n2<=maxLen)(hm3:n3<=1000)(H:zAM w a M)(H2:zAH w a2 y)(H3:zAH w a3 S):
 Calls Tryz.prog 256 #[.agg #[.slice a n cap,.slice a2 n2 cap2],.slice a3 n3 cap3] w fun e w'=>FitPost (fitF M y S) w.heap.size e w'∧Below w.heap.size w w':=by
 obtain⟨wz,hwz⟩:=exq ((w.alloc (.cells #[.slice a n cap,.slice a2 n2 cap2] 216)).alloc (.cells #[.slice none 0 0,.slice none 0 0] 73))
 obtain⟨s0,hs⟩:=exq (w.heap.size)
 have hbz:Below w.heap.size w wz:=by rw[hwz];exact((Below.refl _ _).alloc (yAC _) _).alloc (by simp) _
 have l0:wz.cell? ⟨s0,0,none⟩=some (.slice a n cap):=by rw[hwz,hs,World.cell?_alloc_past _ _ _ (by simp),World.cell?_alloc_at _ _ _ _ rfl];rfl
 have l1:wz.cell? ⟨s0,1,none⟩=some (.slice a2 n2 cap2):=by rw[hwz,hs,World.cell?_alloc_past _ _ _ (by simp),World.cell?_alloc_at _ _ _ _ rfl];rfl
 have q0:wz.heap[s0+1]? =some (.cells #[.slice none 0 0,.slice none 0 0] 73 (0,0)):=by
  have:=World.alloc_heap_new (w.alloc (.cells #[.slice a n cap,.slice a2 n2 cap2] 216)) (.cells #[.slice none 0 0,.slice none 0 0] 73)
  rw[hwz,hs];simpa using this
 have hs1:s0+1<wz.heap.size:=(yAB.1 q0).1
 have HSO:=hid (solve_c wz a a3 a2 n cap n3 cap3 n2 cap2 M S y hn hn3 hn2 hm (yAF hm3 (by decide)) hm2 (H.below hbz) (H3.below hbz) (H2.below hbz))
 have HCL:=hid (fun(X:World) (hX:Below w.heap.size w X)=>clone_c X a3 n3 cap3 S hn3 (by omega) (H3.below hX))
 have HFC:=hid (fun(X:World) (va:Option Addr) (vc:Nat) (vl:List Rt) (hvm:vl.length<=maxLen) (hv:zCB X va vl)=>zOG X va vl.length vc vl rfl hvm hv _ #[] _ (fit1 X) (enters_of Tryz.func263 (by kernel_rfl) rfl))
 have HFF:=hid (show fitF M y S=if (zCC M S y).2=0∧(zCC M S y).1.all (fun r=>decide (r.1≠0))=true then some (S,(zCC M S y).1)else none from rfl)
 obtain⟨F,hF⟩:=exq (fitF M y S)
 obtain⟨⟨V,E⟩,hVE⟩:∃V,V=zCC M S y:=⟨_,rfl⟩
 rw[<- hVE]at HSO HFF
 rw[<- hF]at HFF⊢
 simp only[]at HSO HFF
 have HB:=hid hbz
 have HQ:=hid (fun(X:World) (hX:Below wz.heap.size wz X)=>(hX.block _ hs1).trans q0)
 have HS:=hid hs
 have HN3:=hid hn3
 have hs1':=hid hs1
 clear hbz hn hn2 hn3 H H2 H3 hF hVE q0 hs1
 go_enter Tryz.func256,Tryz.ntmps256
 go_wp2_with fail
 rw[<- hs,<- hwz]
 clear hs hwz
 go_wp2_with (go_at_call 262;refine HSO.out.mono ?_;rintro e w1 ⟨v,base,rfl,hbs,hO,hb1⟩;refine Stop.of ?_)
 refine Stop.go ?_
 obtain⟨va,vc,rfl,hvm,hvr⟩:=hO.reads
 have HVB:=hid (zNI hO)
 have HVT:=hid (own_typed hO)
 have HVR:=hid hvr
 have HVM:=hid hvm
 have HB1:=hid hb1
 have HBS:=hid hbs
 clear hO hvr hvm hb1 hbs HSO l0 l1
 have hz:∀X:World,Below wz.heap.size wz X->X.cell? ⟨s0+1,0,none⟩=some (.slice none 0 0)∧X.cell? ⟨s0+1,1,none⟩=some (.slice none 0 0)∧X.frozen? ⟨s0+1,0,none⟩=false∧X.frozen? ⟨s0+1,1,none⟩=false∧s0+1<X.heap.size:=fun X hX=>by
  have h:=HQ.out X hX
  exact⟨by simp[World.cell?,h],by simp[World.cell?,h],by simp[World.frozen?,h],by simp[World.frozen?,h],(yAB.1 h).1⟩
 have HZ:=hid hz
 clear hz
 by_cases hE:E=0
 rotate_left
 ·obtain rfl:F=none:=by rw[HFF.out,if_neg (fun h=>hE h.1)]
  have hEb:(E !=0)=true:=by simpa using hE
  obtain⟨z0,z1,f0,f1,hlt⟩:=HZ.out _ HB1.out
  have HFI:=hid (show Below w.heap.size w ((w1.setCell ⟨s0+1,0,none⟩ (.slice none 0 0)).setCell ⟨s0+1,1,none⟩ (.slice none 0 0))from by
   have hg:w.heap.size<=s0+1:=by rw[HS.out];omega
   exact zAE (zAE (zAA HB.out HB1.out) hg _ _) hg _ _)
  go_wp2
  refine bodyPost_ret (v:=.tuple #[.agg #[.slice none 0 0,.slice none 0 0],.bool false]) ?_ rfl ⟨.inl ⟨rfl,rfl⟩,HFI.out⟩
  simp[results,Tryz.results256,go_sem,z0,z1,f0,f1,hlt]
 ·subst hE
  have HFC1:=hid (HFC.out w1 va vc V HVM.out HVR.out)
  have hany:V.any (fun r=>decide (r.1=0))=!V.all (fun r=>decide (r.1≠0)):=by
   rw[yDU];congr 1;funext r;simp
  rw[hany]at HFC1
  obtain⟨A,hA⟩:=exq (V.all (fun r=>decide (r.1≠0)))
  rw[<- hA]at HFC1 HFF
  clear hA hany HFC
  go_wp2_with (go_at_call 80;refine HFC1.out.mono ?_;rintro e w2 ⟨rfl,hb2⟩;refine Stop.of ?_)
  refine Stop.go ?_
  have HB2:=hid (zAA HB1.out hb2)
  have HVR2:=hid (HVR.out.below hb2)
  have HVT2:=hid (fun(b o:Nat) (h:va=some ⟨b,o,none⟩)=>show ∃c z,w2.heap[b]? =some (.cells c 29 z)from by obtain⟨c,z,hh⟩:=HVT.out b o h;exact⟨c,z,(hb2.block b (HVB.out b o h).2).trans hh⟩)
  have HVB2:=hid (fun b o h=>show base<=b∧b<w2.heap.size from by have:=HVB.out b o h;have:=hb2.size;omega)
  clear hb2 HFC1
  cases A
  ·obtain rfl:F=none:=by rw[HFF.out];rfl
   obtain⟨z0,z1,f0,f1,hlt⟩:=HZ.out _ HB2.out
   have HFI:=hid (show Below w.heap.size w ((w2.setCell ⟨s0+1,0,none⟩ (.slice none 0 0)).setCell ⟨s0+1,1,none⟩ (.slice none 0 0))from by
    have hg:w.heap.size<=s0+1:=by rw[HS.out];omega
    exact zAE (zAE (zAA HB.out HB2.out) hg _ _) hg _ _)
   go_wp2
   refine bodyPost_ret (v:=.tuple #[.agg #[.slice none 0 0,.slice none 0 0],.bool false]) ?_ rfl ⟨.inl ⟨rfl,rfl⟩,HFI.out⟩
   simp[results,Tryz.results256,go_sem,z0,z1,f0,f1,hlt]
  ·obtain rfl:F=some (S,V):=by rw[HFF.out];rfl
   go_wp2_with (go_at_call 231;refine(HCL.out _ (zAA HB.out HB2.out)).mono ?_;rintro e w3 ⟨v3,rfl,ho3,hb3⟩;refine Stop.of ?_)
   refine Stop.go ?_
   obtain⟨pa,pc,rfl,hpi,_⟩:=zCK ho3 HN3.out
   have HB3:=hid (zAA HB2.out hb3)
   obtain⟨z0,z1,f0,f1,hlt⟩:=HZ.out _ HB3.out
   have hgS:w.heap.size<=s0+1:=by rw[HS.out];omega
   have HFI:=hid (show Below w.heap.size w ((w3.setCell ⟨s0+1,0,none⟩ (.slice pa n3 pc)).setCell ⟨s0+1,1,none⟩ (.slice va V.length vc))from zAE (zAE (zAA HB.out HB3.out) hgS _ _) hgS _ _)
   have hpb:=zNI ho3
   have hpt:=own_typed ho3
   have hbz2:s0+1<w2.heap.size:=by have:=HB2.out.size;have:=hs1'.out;omega
   have hsz:w.heap.size<=w2.heap.size:=yAF HB.out.size HB2.out.size
   have hbs:wz.heap.size<=base:=HBS.out
   have HFV:=hid (show FitV w.heap.size (fun _=>False) (S,V) (.agg #[.slice pa n3 pc,.slice va V.length vc]) ((w3.setCell ⟨s0+1,0,none⟩ (.slice pa n3 pc)).setCell ⟨s0+1,1,none⟩ (.slice va V.length vc))from by
    have hkeep:∀k,k≠s0+1->((w3.setCell ⟨s0+1,0,none⟩ (.slice pa n3 pc)).setCell ⟨s0+1,1,none⟩ (.slice va V.length vc)).heap[k]? =w3.heap[k]? :=fun k hk=>(Below.heap_setCell _ _ _ _ hk).trans (Below.heap_setCell _ _ _ _ hk)
    refine⟨pa,n3,pc,va,V.length,vc,rfl,HN3.out,rfl,yAF hm3 (by decide),HVM.out,?_,?_,?_,?_⟩
    ·intro j hj
     obtain⟨b,o,e,hb,hc⟩:=hpi j hj
     have:=hpb b o e
     refine⟨b,o,e,by simp[World.setCell];omega,?_⟩
     rw[World.cell?_of_block (hkeep b (by omega))];exact hc
    ·intro j hj
     obtain⟨b,o,e,hb,h0,h1⟩:=(HVR2.out.below hb3) j hj
     have:=HVB2.out b o e
     have hs2:=hs1'.out
     refine⟨b,o,e,by simp[World.setCell];omega,?_,?_⟩
     ·rw[World.cell?_of_block (hkeep b (by omega))];exact h0
     ·rw[World.cell?_of_block (hkeep b (by omega))];exact h1
    ·intro b o e
     have:=hpb b o e
     exact⟨by omega,by simp[World.setCell];omega,fun h=>h,by obtain⟨c,z,hh⟩:=hpt b o e;exact⟨c,z,(hkeep b (by omega)).trans hh⟩⟩
    ·intro b o e
     have:=HVB2.out b o e
     have hvt:=HVT2.out b o e
     have hs2:=hs1'.out
     have h3z:=hb3.size
     exact⟨by have:=HB.out.size;omega,by simp[World.setCell];omega,fun h=>h,by obtain⟨c,z,hh⟩:=hvt;exact⟨c,z,(hkeep b (by omega)).trans ((hb3.block b this.2).trans hh)⟩⟩)
   clear ho3 hpi hb3 hpb hpt HVR HVR2 HCL
   go_wp2
   refine bodyPost_ret (v:=.tuple #[.agg #[.slice pa n3 pc,.slice va V.length vc],.bool true]) ?_ rfl ⟨.inr ⟨_,_,rfl,rfl,HFV.out⟩,HFI.out⟩
   simp[results,Tryz.results256,go_sem,z0,z1,f0,f1,hlt]
end
section
open Go.RowKit
section
variable {P:Program} {ops:Array Oper} {Q:Exit->Act->World->Prop} {md:Region.Mode} {S:World->Prop}
theorem wpOp_inWide(n:Nat){i:Nat}{K:Act->World->Prop}{a:Act}{w:World}(hq:¬LetsOut Q)(h:wpOp P ops Q i K a w):wpOpIn Fence.wide n P ops Q i K a w:=by
 unfold wpOp at h
 unfold wpOpIn
 cases ho:ops[i]? with
 |none=>simpa[ho]using h
 |some o=>
  simp only[ho]at h⊢
  split
  ·rename_i hw
   simp only[hw,if_true]at h
   have h:=h.resolve_right (fun x=>hq x.2)
   refine⟨fun f _=>trivial,?_⟩
   rw[show Fence.wide.round=none from rfl,Oper.semAt_none]
   unfold Oper.wp at h
   generalize (execOp a.eval o).run P w=r at*
   cases r with
   |ok x w'=>
    cases x<;>simp only[Oper.upon,Oper.uponIn]at h⊢ <;>first
     |exact h
     |exact⟨fun h=>by simp[Fence.wide]at h,callsIn_wide.2 h⟩
     | (refine⟨fun h=>by simp[Fence.wide]at h,fun c cs _=>?_⟩
        obtain⟨v,w'',hr,hs⟩:=h c cs
        exact⟨v,w'',hr,(StepsIn.of_steps hs).mono fun m _=>fenced_wide P m⟩)
   |halt x w'=>cases x<;>simp only[Oper.upon,Oper.uponIn]at h⊢ <;>exact h
  ·rename_i hw
   simp only[hw]at h
   exact⟨fun f _=>trivial,h⟩
theorem AnyT.inWide{T:Nat->World->Prop}(n:Nat)(hq:¬LetsOut Q):∀(fuel:Nat) (listed:Array Bool) (a:Act) (w:World),
 AnyT P md ops Q T fuel listed a w->wpAnyIn Fence.wide n P md ops Q fuel listed a w
 |0,_,_,_,h=>h
 |fuel+1,_,_,_,h=>⟨h.1,fun i hi=>wpOpIn_mono (fun a' w' h'=>AnyT.inWide n hq fuel _ a' w' h'.2) (wpOp_inWide n hq (h.2 i hi))⟩
theorem wide_region(T:Nat->World->Prop)(n:Nat){id:Nat}{a:Act}{w:World}(hm:P.follows .mixedOrders=true)(hq:¬LetsOut Q)
 (h:AnyT P .any ops Q T ops.size (Array.replicate ops.size false) a w.drew):(Code.region id ops true).wpIn Fence.wide n P Q a w:=
 wpIn_region_any hm (AnyT.inWide n hq _ _ _ _ h)
end
def markL(hs:List Nat):List Deferred:=hs.map fun h=>{target:=.collected h,args:=#[]}
theorem zFF{F:Fence}{n:Nat}{P:Program}{fn:Func}{tmps:Array Value}{R:Ending->World->Prop}:∀(hs:List Nat) (w:World),hs.Nodup->(∀h∈hs,w.heap[h]? =some (.deferred (some [])))->
 (∀w',Keep (fun k=>k∉hs) w w'->LeavesIn F n P fn tmps R [] .returning w')->LeavesInM F n P fn tmps R (markL hs) .returning w
 | [],w,_,_,h=>h w (Keep.refl _ _)
 |k::hs,w,hd,hm,h=>by
  obtain⟨h1,h2⟩:=yET.1 hd
  refine⟨by simp[markL],.inl ⟨k,_,by rfl,run_takeDeferred (hm k (by simp)),?_⟩⟩
  refine zFF hs _ h2 (fun q hq=>(World.putObj_heap_other (by rintro rfl;exact h1 hq)).trans (hm q (by simp[hq]))) fun w' hk=>h w' ?_
  have hp:=Keep.put w k (.deferred none)
  refine⟨hk.os.trans hp.os,hk.tape.trans hp.tape,hk.output.trans hp.output,yAF hp.size hk.size,fun i hi hs'=>?_⟩
  have hne:i≠k:=fun e=>hs' (by simp[e])
  exact(hk.block i (yAJ hi hp.size) (fun h=>hs' (by simp[h]))).trans (World.putObj_heap_other hne)
def SetV(lo:Nat)(S:Nat->Prop)(x:List Int)(v:Value)(W:World):Prop:=∃a c,v=.slice a x.length c∧zAH W a x∧∀b o,a=some ⟨b,o,none⟩->lo<=b
theorem SetV.keep{lo:Nat}{S:Nat->Prop}{x:List Int}{v:Value}{A B:World}{T:Nat->Prop}(h:SetV lo S x v A)(hk:Keep T A B)(hT:∀k,lo<=k->T k):SetV lo S x v B:=by
 obtain⟨a,c,e,hi,hb⟩:=h
 refine⟨a,c,e,fun j hj=>?_,hb⟩
 obtain⟨b,o,e2,hlt,hc⟩:=hi j hj
 exact⟨b,o,e2,yAJ hlt hk.size,hk.cell hc (hT b (hb b o e2))⟩
theorem iter_setsS(w0:World)(n k kb nb:Nat)(hn:n<=1000)(hk:k<=1000)(hkb:kb<w0.heap.size)(hnb:nb<w0.heap.size)(hf0:w0.cell? ⟨kb,0,none⟩=some (.int .i64 k))(hf1:w0.cell? ⟨nb,0,none⟩=some (.int .i64 n)):
 IterS Tryz.prog 222 #[.pointer (some ⟨kb,0,none⟩),.pointer (some ⟨nb,0,none⟩)] SetV (comb n k 0) (fun q=>q=kb∨q=nb) w0:=by
 rcases yBR k with rfl|h1
 ·intro l J Jx W hb hJx hJ hY h0
  have hxs:comb n 0 0=[[]]:=by unfold comb;rfl
  rw[hxs]at hY⊢
  have hg0:W.cell? ⟨kb,0,none⟩=some (.int .i64 0):=(hb.cell (p:=⟨kb,0,none⟩) hkb).trans hf0
  have hg1:W.cell? ⟨nb,0,none⟩=some (.int .i64 n):=(hb.cell (p:=⟨nb,0,none⟩) hnb).trans hf1
  have hkW:kb<W.heap.size:=yAJ hkb hb.size
  have hnW:nb<W.heap.size:=yAJ hnb hb.size
  have HJ:=hid hJ
  have HY:=hid hY
  have H0:=hid h0
  have HALL:=hid (all_c W 0 (by decide))
  clear hJ hJx hY h0 hf0 hf1 hb hxs
  refine callsIn_of_wp Tryz.func222 rfl trivial ?_ rfl
  simp only[Tryz.ntmps222,yED,yBB,yCD,Nat.reduceAdd,Nat.reduceSub,yDJ,yDI,yEF,yDR,yDL,yDG]
  gi_wp2_with (refine⟨trivial,rfl,?_⟩;gi_at_call 194;refine(callsIn_wide.2 HALL.out).mono ?_;rintro e w1 ⟨v,rfl,ho1,hb1⟩;refine Stop.of ?_)
  refine Stop.go ?_
  obtain⟨va,vc,rfl⟩:=zAC ho1
  have hVB:=zNI ho1
  have hJ1:J (fun _=>False) [] w1:=HJ.out _ _ _ _ _ H0.out (fun _ h=>h) (fun _ h=>h.elim) (Keep.of_below hb1)
  have hc0:w1.cell? ⟨kb,0,none⟩=some (.int .i64 0):=(hb1.cell (p:=⟨kb,0,none⟩) hkW).trans hg0
  have hc1:w1.cell? ⟨nb,0,none⟩=some (.int .i64 n):=(hb1.cell (p:=⟨nb,0,none⟩) hnW).trans hg1
  have hyk:=HY.out (fun _=>False) [] [] (.slice va 0 vc) w1 (yGF _) (fun _ h=>h.elim) hb1.size hJ1 ⟨va,vc,rfl,fun j hj=>by simp at hj,fun b o e=>(hVB b o e).1⟩
  have hn0:(0:Int)<=(n:Int):=by omega
  have HB1:=hid hb1
  clear ho1 hVB hJ1 HALL hb1
  gi_wp2
  refine wpIn_loop_once ?_
  obtain⟨fn,tmps,assign,body,hy,hR⟩:=hyk
  gi_wp2
  refine⟨rfl,hR.mono ?_⟩
  clear hR hy
  rintro e W3 ⟨⟨hs3,hk3⟩,⟨rfl,hJ3⟩|⟨rfl,hJx⟩⟩
  ·have hg30:W3.cell? ⟨kb,0,none⟩=some (.int .i64 0):=(World.cell?_of_block (a:=⟨kb,0,none⟩) (hk3 kb (Or.inl (Or.inl rfl)))).trans hc0
   have HJ3:=hid hJ3
   clear hJ3 hk3 hc0 hc1
   gi_wp2
   refine wpIn_loop_once ?_
   gi_wp2
   gi_quiet (fail)
   gi_wp2
   refine bodyPost_ret (results_none rfl _ _ _) rfl ?_
   exact⟨⟨_,rfl⟩,.inl ⟨fun _=>False,fun _ h=>h.elim,HJ.out _ _ _ _ _ HJ3.out (fun _ h=>h) (fun _ h=>h.elim) ((Keep.refl _ _).drewN _)⟩⟩
  ·gi_wp2
   refine bodyPost_ret (results_none rfl _ _ _) rfl ?_
   exact⟨⟨_,rfl⟩,.inr ⟨fun _=>False,[[]],yGF _,hJx⟩⟩
 ·intro l J Jx W hb hJx hJ hY h0
  refine(iter_sets w0 n k kb nb hn hk h1 hkb hnb hf0 hf1 l (fun it pre X=>(pre=[]∧Keep (fun q=>q≠it) W X)∨(J (fun q=>q=it) pre X∧it<X.heap.size)) (fun pre X=>∃S,Jx S pre X) W hb ?_ ?_ ?_).mono ?_
  ·rintro it s A B _ (⟨e,hj⟩|⟨hj,hl⟩) hab
   ·exact .inl ⟨e,hj.trans hab⟩
   ·exact .inr ⟨hJ _ _ _ _ _ hj (fun _ h=>h) (fun _ h=>.inl h) hab,yAJ hl hab.size⟩
  ·intro it pre x cap sp W1 hpre hit hit1 hj hrow
   have hj:J (fun q=>q=it) pre W1:=by
    rcases hj with⟨e,hj⟩|⟨hj,_⟩
    ·rw[e]
     exact hJ _ _ _ _ _ h0 (fun _ h=>h.elim) (fun q hq=>.inr (by rw[hq];exact hit)) hj
    ·exact hj
   have hsz:W.heap.size<=W1.heap.size:=by omega
   have:=hY (fun q=>q=it) pre x (.slice (some ⟨it,0,none⟩) x.length cap) W1 hpre (fun q hq=>by subst hq;exact⟨hit,hit1⟩) hsz hj ⟨_,_,rfl,ints_row hrow,fun b o e=>by simp only[Option.some.injEq,Addr.mk.injEq]at e;rw[<- e.1];exact hit⟩
   obtain⟨fn,tmps,assign,body,hy,hR⟩:=this
   refine⟨fn,tmps,assign,body,hy,hR.mono ?_⟩
   rintro e W3 ⟨⟨h2,h3⟩,⟨he,h1⟩|⟨he,h⟩⟩
   ·exact .inl ⟨he,.inr ⟨h1,yAJ hit1 h2⟩,h2,h3⟩
   ·exact .inr ⟨he,_,h⟩
  ·intro it hit
   exact .inl ⟨rfl,Keep.refl _ _⟩
  ·rintro e W' ⟨hv,⟨it,hit,⟨e,hj⟩|⟨hj,hl⟩⟩|⟨pre,hpre,S,hj⟩⟩
   ·rw[e]
    refine⟨hv,.inl ⟨fun q=>q=it∧q<W'.heap.size,fun q hq=>by rw[hq.1];exact⟨hit,by have:=hq.2;rwa [hq.1]at this⟩,hJ _ _ _ _ _ h0 (fun _ h=>h.elim) (fun q hq=>.inr (by rw[hq.1];exact hit)) ?_⟩⟩
    exact⟨hj.os,hj.tape,hj.output,hj.size,fun i hi _=>hj.block i hi (fun e=>by omega)⟩
   ·exact⟨hv,.inl ⟨_,fun q hq=>by rw[hq];exact⟨hit,hl⟩,hj⟩⟩
   ·exact⟨hv,.inr ⟨_,_,hpre,hj⟩⟩
end
end Go.Proofs.YtlffndehhhpgjaaGreat
