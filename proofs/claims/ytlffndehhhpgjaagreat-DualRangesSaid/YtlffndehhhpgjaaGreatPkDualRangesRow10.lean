/- Walks and plain laws for DualRangesRow, part 10. -/
import Derived.Lib.AppendZeros
import Derived.Deep.CutRange
import Derived.WalkSmall
import Derived.Test.YtlffndehhhpgjaaGreatPkDualRangesRow9
namespace Go.Proofs.YtlffndehhhpgjaaGreat
set_option linter.unusedVariables false
set_option linter.unusedSimpArgs false
set_option maxRecDepth 100000
set_option maxHeartbeats 4000000
section
structure Circ (M:List (List Int)) (n:Nat) (c:List Int):Prop where
 len:c.length=n
 ker:zEC M n (vec c)
 prim:Prim (vec c)
 pos:0<zCG c
 least:∀v,zEC M n v->(∀j,j<n->vec c j=0->v j=0)->(∃j,j<n∧v j≠0)->∀j,j<n->vec c j≠0->v j≠0
theorem zHR:∀(l:List Int),zCG l≠0->∃j,j<l.length∧vec l j=zCG l∧∀i,i<j->vec l i=0
 | [],h=>by simp[zCG]at h
 |x::l,h=>by
  by_cases e:x=0
  ·have h1:zCG (x::l)=zCG l:=by show(if x=0 then zCG l else x)=_;rw[if_pos e]
   rw[h1]at h⊢
   obtain⟨j,hj,h2,h3⟩:=zHR l h
   refine⟨j+1,by simp;omega,by rw[<- h2];simp[vec],fun i hi=>?_⟩
   cases i with
   |zero=>simp[vec,e]
   |succ i=>have:=h3 i (by omega);simpa[vec]using this
  ·have h1:zCG (x::l)=x:=by show(if x=0 then zCG l else x)=_;rw[if_neg e]
   rw[h1]
   exact⟨0,by simp,by simp[vec],fun i hi=>by omega⟩
theorem zOB:∀(l:List Int) (j:Nat),vec l j≠0->(∀i,i<j->vec l i=0)->zCG l=vec l j
 | [],j,h,_=>by simp[vec]at h
 |x::l,0,h,_=>by
  have hx:x≠0:=by simpa[vec]using h
  show(if x=0 then zCG l else x)=_
  rw[if_neg hx];simp[vec]
 |x::l,j+1,h,h0=>by
  have hx:x=0:=by have:=h0 0 (by omega);simpa[vec]using this
  show(if x=0 then zCG l else x)=_
  rw[if_pos hx,zOB l j (by simpa[vec]using h) (fun i hi=>by have:=h0 (i+1) (by omega);simpa[vec]using this)]
  simp[vec]
theorem vec_ext{l m:List Int}(hl:l.length=m.length)(h:∀j,vec l j=vec m j):l=m:=
 List.ext_getElem hl fun j h1 h2=>by have:=h j;rwa [zCY h1,zCY h2]at this
theorem zEC.lin{M:List (List Int)}{n:Nat}{u v:Vec}(hu:zEC M n u)(hv:zEC M n v)(x y:Int):zEC M n (fun c=>x*u c+y*v c):=by
 intro q hq
 have h1:=hu q hq
 have h2:=hv q hq
 unfold dotS at*
 rw[zAP (g:=fun c=>x*(rowv M q c*u c)+y*(rowv M q c*v c)) (fun c _=>by grind),zKM,zDR,zDR,h1,h2];simp
theorem Circ.one{M:List (List Int)}{n:Nat}{c d:List Int}(hc:Circ M n c)(hd:Circ M n d)(hs:∀j,j<n->vec c j=0->vec d j=0):c=d:=by
 obtain⟨j0,hj0,e0,z0⟩:=zHR d (by have:=hd.pos;omega)
 rw[hd.len]at hj0
 have hd0:vec d j0≠0:=by have:=hd.pos;omega
 have hcd:=hc.least _ hd.ker hs ⟨j0,hj0,hd0⟩
 -- same support
 have hc0:vec c j0≠0:=fun e=>hd0 (hs j0 hj0 e)
 have zc:∀i,i<j0->vec c i=0:=fun i hi=>Classical.byContradiction fun h=>hcd i (by omega) h (z0 i hi)
 have ec:=zOB c j0 hc0 zc
 have hk:∀j,vec d j0*vec c j=vec c j0*vec d j:=by
  intro j
  rcases Nat.lt_or_ge j n with hj|hj
  ·refine Classical.byContradiction fun hne=>?_
   have hv:=hc.ker.lin hd.ker (vec d j0) (-(vec c j0))
   have:=hc.least _ hv (fun i hi h=>by rw[h,hs i hi h];simp) ⟨j,hj,fun h=>hne (by rw[Int.neg_mul]at h;omega)⟩ j0 hj0 hc0
   refine this ?_
   rw[Int.neg_mul,Int.mul_comm];omega
  ·rw[zFL (l:=c) (c:=j) (by rw[hc.len];exact hj),zFL (l:=d) (c:=j) (by rw[hd.len];exact hj)];simp
 refine vec_ext (by rw[hc.len,hd.len]) fun j=>prim_eq (x:=vec d j0) (y:=vec c j0) ?_ ?_ hk hc.prim hd.prim j
 ·have:=hd.pos;omega
 ·have:=hc.pos;omega
theorem zKB{M:List (List Int)}{n:Nat}(h:MaskOk M n){S c:List Int}(hS:zCK n S)(hne:S≠[])(hc:zGP M n S=some c):Circ M n c:=by
 obtain⟨f1,f2,_,f4,f5⟩:=zOG h hS hne hc
 refine⟨f1,f2,f4,f5,fun v hv h0 hn j hj hcj=>?_⟩
 refine circ_least h hS hc hv (fun i hi hm=>h0 i hi ?_) hn j ((zJJ h hS hc j).1 hcj)
 exact Classical.byContradiction fun e=>hm ((zJJ h hS hc i).1 e)
theorem comb_nodup0{n:Nat}{S:List Int}(hS:zCK n S):S.length<=n:=by
 rcases Nat.lt_or_ge n S.length with h|h
 ·have h1:=zJH n 0 S hS.1 (fun y hy=>by have:=hS.2 y hy;omega)
  rw[zEY n S.length 0 h]at h1
  simp at h1
 ·exact h
theorem circP_iff{M:List (List Int)}{n:Nat}(h:MaskOk M n){c:List Int}:c∈circP M n↔Circ M n c:=by
 rw[circP_mem]
 constructor
 ·rintro⟨k,S,hk,hS,hc⟩
  have hl:=zCW _ _ _ S hS
  exact zKB h (comb_ok hS) (fun e=>by rw[e]at hl;simp at hl) hc
 ·intro hc
  obtain⟨j0,hj0,e0,_⟩:=zHR c (by have:=hc.pos;omega)
  rw[hc.len]at hj0
  obtain⟨S,d,hS,_,hne,hsub,hd⟩:=zNA h _ (vec c) rfl hc.ker ⟨j0,hj0,by have:=hc.pos;omega⟩
  have hD:=zKB h hS hne hd
  have e:=hc.one hD (fun j hj hz=>Classical.byContradiction fun hn=>by
   have:=hsub _ ((zJJ h hS hd j).1 hn)
   exact(zCM.1 this).2 hz)
  subst e
  obtain⟨k,hk⟩:∃k,S.length=k+1:=⟨S.length-1,by have:=List.length_pos_iff.2 hne;omega⟩
  have h1:¬zFJ M n+1<S.length:=fun hlt=>by rw[circ1_many h hlt]at hd;cases hd
  have h2:S.length<=n:=by
   have:=(comb_nodup0 hS)
   exact this
  have h3:=zJH n 0 S hS.1 (fun y hy=>by have:=hS.2 y hy;omega)
  rw[hk]at h3
  exact⟨k,S,by omega,h3,hd⟩
theorem zHT:∀(m k:Nat) (a:Int),(comb m k a).Nodup
 |_,0,_=>by unfold comb;simp
 |0,_+1,_=>by unfold comb;simp
 |m+1,k+1,a=>by
  unfold comb
  rw[List.nodup_append]
  refine⟨?_,zHT m (k+1) (a+1),?_⟩
  ·unfold List.Nodup
   rw[List.pairwise_map]
   exact(zHT m k (a+1)).imp fun h e=>h (by simpa using e)
  ·rintro x hx y hy rfl
   obtain⟨z,_,rfl⟩:=List.mem_map.1 hx
   have:=(zJI _ _ _ _ hy).2 a (by simp)
   omega
end
section
def SolM(M:List (List Int))(n:Nat)(y:List Int)(l:Nat->Int)(D:Int):Prop:=0<D∧∀q,q<M.length->sm (fun i=>rowv M q i*l i) n=vec y q*D
theorem min_ratio{P:Nat->Prop}{a b:Nat->Int}(ha:∀j,P j->0<=a j)(hb:∀j,P j->0<b j):∀n:Nat,(∃j,j<n∧P j)->∃p,p<n∧P p∧∀j,j<n->P j->a p*b j<=a j*b p
 |0,h=>by obtain⟨j,hj,_⟩:=h;omega
 |n+1,h=>by
  by_cases hn:∃j,j<n∧P j
  ·obtain⟨p,hp,hP,hmin⟩:=min_ratio ha hb n hn
   by_cases hPn:P n∧a n*b p<a p*b n
   ·refine⟨n,by omega,hPn.1,fun j hj hPj=>?_⟩
    rcases Nat.lt_or_ge j n with c|c
    ·have h1:=hmin j c hPj
     -- a n/b n<a p/b p<=a j/b j
     have hbp:=hb p hP
     have hbj:=hb j hPj
     have hbn:=hb n hPn.1
     have h2:a n*b j*b p<=a j*b n*b p:=by
      have e1:a n*b p*b j<=a p*b n*b j:=Int.mul_le_mul_of_nonneg_right (by omega) (by omega)
      have e2:a p*b j*b n<=a j*b p*b n:=Int.mul_le_mul_of_nonneg_right h1 (by omega)
      have e3:a n*b j*b p=a n*b p*b j:=by grind
      have e4:a p*b n*b j=a p*b j*b n:=by grind
      have e5:a j*b n*b p=a j*b p*b n:=by grind
      omega
     exact Int.le_of_mul_le_mul_right h2 hbp
    ·have:j=n:=by omega
     subst this;exact Int.le_refl _
   ·refine⟨p,by omega,hP,fun j hj hPj=>?_⟩
    rcases Nat.lt_or_ge j n with c|c
    ·exact hmin j c hPj
    ·have:j=n:=by omega
     subst this
     rcases Int.lt_or_le (a j*b p) (a p*b j)with h1|h1
     ·exact absurd ⟨hPj,h1⟩ hPn
     ·exact h1
  ·obtain⟨j,hj,hPj⟩:=h
   have:j=n:=by
    rcases Nat.lt_or_ge j n with c|c
    ·exact absurd ⟨j,c,hPj⟩ hn
    ·omega
   subst this
   exact⟨j,by omega,hPj,fun i hi hPi=>by
    rcases Nat.lt_or_ge i j with c|c
    ·exact absurd ⟨i,c,hPi⟩ hn
    ·have:i=j:=by omega
     subst this;exact Int.le_refl _⟩
theorem sm_nonpos{f:Nat->Int}:∀n:Nat,(∀j,j<n->f j<=0)->sm f n<=0
 |0,_=>Int.le_refl _
 |n+1,h=>by
  have:=sm_nonpos n (fun j hj=>h j (by omega))
  have:=h n (by omega)
  show sm f n+f n<=0
  omega
theorem dep_circ{M:List (List Int)}{n:Nat}(hM:MaskOk M n){S:List Int}(hS:zCK n S)(hne:zFJ (zAQ M S) S.length≠S.length):∃c,c∈circP M n∧c.length=n∧zEC M n (vec c)∧(∀j:Nat,vec c j≠0->(j:Int)∈S)∧∃j,j<n∧vec c j≠0:=by
 have hrk:=(hM.cols S).rank_ker
 have hkl:0<(zIX M S).length:=by
  show 0<(zMN (RP (zAQ M S) S.length) (JP (zAQ M S) S.length) S.length).length
  omega
 have hm:(zIX M S)[0]∈zIX M S:=List.getElem_mem _
 obtain⟨u,hu⟩:=exq ((zIX M S)[0])
 rw[<- hu]at hm
 obtain⟨k1,k2,k3,f,hf,k4⟩:=(hM.cols S).kern hm
 have hv:=(zFR (M:=M) hS).2 k1
 obtain⟨v,hve⟩:=exq (vec (zAY n S u S.length))
 have hnz:∃j,j<n∧v j≠0:=by
  have hf2:=hS.2 S[f] (List.getElem_mem hf)
  refine⟨(S[f]).toNat,by omega,?_⟩
  rw[hve]
  exact(zGU hS k2).2 ⟨f,hf,by omega,by omega⟩
 rw[<- hve]at hv
 obtain⟨T,c,hT,hTl,hTne,hSub,hcc⟩:=zNA hM (zBJ n v).length v rfl hv hnz
 have hC:=zKB hM hT hTne hcc
 obtain⟨f1,f2,_,f4,f5⟩:=zOG hM hT hTne hcc
 refine⟨c,(circP_iff hM).2 hC,f1,f2,fun j hj=>?_,?_⟩
 ·have h1:=hSub _ ((zJJ hM hT hcc j).1 hj)
  have h2:=(zCM.1 h1).2
  rw[hve]at h2
  obtain⟨i,hi,e,_⟩:=(zGU hS k2).1 h2
  rw[<- e];exact List.getElem_mem hi
 ·obtain⟨j0,hj0,e0,_⟩:=zHR c (by omega)
  exact⟨j0,by omega,by omega⟩
def CostB(M:List (List Int))(n:Nat)(l w:Nat->Int):Prop:=
 ∀c,c∈circP M n->∀e:Int,(e=1∨e= -1)->(∀j,j<n->vec c j≠0->l j≠0)->(∀j,j<n->l j*(e*vec c j)<=0)->sm (fun j=>w j*(e*vec c j)) n<=0
theorem lp_reduce{M:List (List Int)}{n:Nat}(hM:MaskOk M n){y:List Int}(w:Nat->Int):∀(s:Nat) (l:Nat->Int) (D:Int),(zBJ n l).length=s->SolM M n y l D->CostB M n l w->
 ∃(k:Nat->Int) (E:Int),SolM M n y k E∧zFJ (zAQ M (zBJ n k)) (zBJ n k).length=(zBJ n k).length∧(∀j,j<n->k j≠0->0<k j*l j)∧sm (fun j=>w j*k j) n*D<=sm (fun j=>w j*l j) n*E:=by
 intro s
 induction s using Nat.strongRecOn with
 |ind s ih=>
  intro l D hs hl hw
  by_cases hr:zFJ (zAQ M (zBJ n l)) (zBJ n l).length=(zBJ n l).length
  ·refine⟨l,D,hl,hr,fun j hj h=>?_,Int.le_refl _⟩
   rcases Int.lt_or_gt_of_ne h with c|c
   ·exact Int.mul_pos_of_neg_of_neg c c
   ·exact Int.mul_pos c c
  ·obtain⟨c,hc,hcl,hck,hcs,hcn⟩:=dep_circ hM (zFD n l) hr
   have hsub:∀j,j<n->vec c j≠0->l j≠0:=fun j hj h=>(zCM.1 (hcs j h)).2
   -- the direction:the cost does not grow,and some number becomes less
   have hdir:∃e:Int,(e=1∨e= -1)∧0<=sm (fun j=>w j*(e*vec c j)) n∧∃j,j<n∧0<l j*(e*vec c j):=by
    have hneg:∀e:Int,sm (fun j=>w j*(-e*vec c j)) n= -sm (fun j=>w j*(e*vec c j)) n:=fun e=>by
     have:=zDR (-1) (fun j=>w j*(e*vec c j)) n
     rw[<- zAP (f:=fun j=> -1*(w j*(e*vec c j))) (g:=fun j=>w j*(-e*vec c j)) (fun j _=>by grind),this]
     omega
    have hex:∀e:Int,(e=1∨e= -1)->¬(∃j,j<n∧0<l j*(e*vec c j))->∀j,j<n->l j*(e*vec c j)<=0:=fun e _ h j hj=>by
     rcases Int.lt_or_le 0 (l j*(e*vec c j))with c1|c1
     ·exact absurd ⟨j,hj,c1⟩ h
     ·exact c1
    rcases Int.lt_trichotomy 0 (sm (fun j=>w j*(1*vec c j)) n)with c1|c1|c1
    ·by_cases h:∃j,j<n∧0<l j*(1*vec c j)
     ·exact⟨1,.inl rfl,by omega,h⟩
     ·have:=hw c hc 1 (.inl rfl) hsub (hex 1 (.inl rfl) h)
      omega
    ·obtain⟨j,hj,hcj⟩:=hcn
     have hlj:=hsub j hj hcj
     rcases Int.lt_or_gt_of_ne (Int.mul_ne_zero hlj hcj)with c2|c2
     ·refine⟨-1,.inr rfl,by rw[hneg 1];omega,j,hj,?_⟩
      have:l j*(-1*vec c j)= -(l j*vec c j):=by grind
      omega
     ·refine⟨1,.inl rfl,by omega,j,hj,?_⟩
      have:l j*(1*vec c j)=l j*vec c j:=by grind
      omega
    ·by_cases h:∃j,j<n∧0<l j*(-1*vec c j)
     ·exact⟨-1,.inr rfl,by rw[hneg 1];omega,h⟩
     ·have:=hw c hc (-1) (.inr rfl) hsub (hex (-1) (.inr rfl) h)
      rw[hneg 1]at this
      omega
   obtain⟨e,he,hσ,hpos⟩:=hdir
   have hen:e≠0:=by rcases he with h|h<;>omega
   obtain⟨h,hh⟩:∃h:Nat->Int,h=fun j=>e*vec c j:=⟨_,rfl⟩
   have hhk:∀q,q<M.length->sm (fun i=>rowv M q i*h i) n=0:=fun q hq=>by
    have:=hck q hq
    unfold dotS at this
    rw[zAP (g:=fun i=>e*(rowv M q i*vec c i)) (fun i _=>by rw[hh];grind),zDR,this]
    simp
   have hhs:∀j,j<n->h j≠0->l j≠0:=fun j hj hz=>hsub j hj fun hz2=>hz (by rw[hh];simp[hz2])
   have hσ':0<=sm (fun j=>w j*h j) n:=by rw[hh];exact hσ
   have hpos':∃j,j<n∧0<l j*h j:=by rw[hh];exact hpos
   clear hσ hpos
   -- the least ratio
   obtain⟨p,hp,hPp,hmin⟩:=min_ratio (P:=fun j=>0<l j*h j) (a:=fun j=>((l j).natAbs:Int)) (b:=fun j=>((h j).natAbs:Int)) (fun j _=>by omega) (fun j hj=>by
    have:h j≠0:=fun hz=>by rw[hz]at hj;simp at hj
    omega) n hpos'
   have hhp:h p≠0:=fun hz=>by rw[hz]at hPp;simp at hPp
   have hlp:l p≠0:=fun hz=>by rw[hz]at hPp;simp at hPp
   obtain⟨A,hA⟩:∃A:Int,A=((h p).natAbs:Int):=⟨_,rfl⟩
   obtain⟨B,hB⟩:∃B:Int,B=((l p).natAbs:Int):=⟨_,rfl⟩
   have hA0:0<A:=by omega
   have hB0:0<B:=by omega
   obtain⟨k,hk⟩:∃k:Nat->Int,k=fun j=>A*l j-B*h j:=⟨_,rfl⟩
   have hkp:k p=0:=by
    rw[hk,hA,hB]
    show((h p).natAbs:Int)*l p-((l p).natAbs:Int)*h p=0
    rcases Int.lt_or_gt_of_ne hhp with c1|c1
    ·have c2:l p<0:=by
      rcases Int.lt_or_gt_of_ne hlp with c2|c2
      ·exact c2
      ·have:=Int.mul_neg_of_pos_of_neg c2 c1;omega
     have e1:((h p).natAbs:Int)= -h p:=by omega
     have e2:((l p).natAbs:Int)= -l p:=by omega
     rw[e1,e2];grind
    ·have c2:0<l p:=by
      rcases Int.lt_or_gt_of_ne hlp with c2|c2
      ·have:=Int.mul_neg_of_neg_of_pos c2 c1;omega
      ·exact c2
     have e1:((h p).natAbs:Int)=h p:=by omega
     have e2:((l p).natAbs:Int)=l p:=by omega
     rw[e1,e2];grind
   have hkl0:∀j,j<n->k j≠0->l j≠0:=fun j hj hz hz2=>by
    apply hz
    have h0:h j=0:=Classical.byContradiction fun h1=>hhs j hj h1 hz2
    rw[hk];show A*l j-B*h j=0
    rw[hz2,h0];simp
   have hks:∀j,j<n->0<=k j*l j:=fun j hj=>by
    rw[hk]
    show 0<=(A*l j-B*h j)*l j
    have e1:(A*l j-B*h j)*l j=A*(l j*l j)-B*(l j*h j):=by grind
    rw[e1]
    have e2:0<=A*(l j*l j):=Int.mul_nonneg (by omega) (by
     rcases Int.lt_or_le (l j) 0 with c1|c1
     ·exact Int.le_of_lt (Int.mul_pos_of_neg_of_neg c1 c1)
     ·exact Int.mul_nonneg c1 c1)
    rcases Int.lt_or_le 0 (l j*h j)with c1|c1
    ·have h1:((l p).natAbs:Int)*((h j).natAbs:Int)<=((l j).natAbs:Int)*((h p).natAbs:Int):=hmin j hj c1
     rw[<- hA,<- hB]at h1
     -- B* |h j| <= |l j| *A,times|l j|
     have h2:B*((h j).natAbs:Int)*((l j).natAbs:Int)<=((l j).natAbs:Int)*A*((l j).natAbs:Int):=Int.mul_le_mul_of_nonneg_right h1 (by omega)
     have h3:((l j).natAbs:Int)*((l j).natAbs:Int)=l j*l j:=by rw[<- Int.natCast_mul,<- Int.natAbs_mul,Int.natAbs_of_nonneg];exact(by
      rcases Int.lt_or_le (l j) 0 with c1|c1
      ·exact Int.le_of_lt (Int.mul_pos_of_neg_of_neg c1 c1)
      ·exact Int.mul_nonneg c1 c1)
     have h4:((h j).natAbs:Int)*((l j).natAbs:Int)=l j*h j:=by rw[Int.mul_comm,<- Int.natCast_mul,<- Int.natAbs_mul,Int.natAbs_of_nonneg (by omega)]
     have h5:B*((h j).natAbs:Int)*((l j).natAbs:Int)=B*(l j*h j):=by rw[Int.mul_assoc,h4]
     have h6:((l j).natAbs:Int)*A*((l j).natAbs:Int)=A*(l j*l j):=by rw[<- h3];grind
     omega
    ·have:B*(l j*h j)<=0:=Int.mul_nonpos_of_nonneg_of_nonpos (by omega) c1
     omega
   have hsol:SolM M n y k (D*A):=by
    refine⟨Int.mul_pos hl.1 hA0,fun q hq=>?_⟩
    have e1:=hl.2 q hq
    have e2:=hhk q hq
    rw[zAP (g:=fun i=>A*(rowv M q i*l i)+(-B)*(rowv M q i*h i)) (fun i _=>by rw[hk];grind),zKM,zDR,zDR,e1,e2]
    grind
   have hlt:(zBJ n k).length<s:=by
    rw[<- hs]
    have hn1:(zBJ n k).Nodup:=(zFD n k).1.imp (fun h=>by omega)
    have hpm:(p:Int)∈zBJ n l:=zCM.2 ⟨hp,hlp⟩
    have hpn:(p:Int)∉zBJ n k:=fun hm=>(zCM.1 hm).2 hkp
    have:=zMI (l:=(p:Int)::zBJ n k) (m:=zBJ n l) (List.nodup_cons.2 ⟨hpn,hn1⟩) (fun x hx=>by
     rcases List.mem_cons.1 hx with rfl|hx
     ·exact hpm
     ·have hb:=(zFD n k).2 x hx
      obtain⟨j,rfl⟩:∃j:Nat,x=(j:Int):=⟨x.toNat,by omega⟩
      obtain⟨h1,h2⟩:=zCM.1 hx
      exact zCM.2 ⟨h1,hkl0 j h1 h2⟩)
    simp at this
    omega
   have hw':CostB M n k w:=fun d hd f hf hdl hdn=>by
    refine hw d hd f hf (fun j hj hz=>hkl0 j hj (hdl j hj hz)) (fun j hj=>?_)
    by_cases hz:vec d j=0
    ·rw[hz];simp
    ·have hkj:=hdl j hj hz
     have h1:=hdn j hj
     have h2:=hks j hj
     have hlj:=hkl0 j hj hkj
     -- k and l have one sign
     rcases Int.lt_or_gt_of_ne hkj with c1|c1
     ·have c2:l j<0:=by
       rcases Int.lt_or_gt_of_ne hlj with c2|c2
       ·exact c2
       ·have:=Int.mul_neg_of_neg_of_pos c1 c2;omega
      have c3:0<=f*vec d j:=by
       rcases Int.lt_or_le (f*vec d j) 0 with c3|c3
       ·have:=Int.mul_pos_of_neg_of_neg c1 c3;omega
       ·exact c3
      exact Int.mul_nonpos_of_nonpos_of_nonneg (by omega) c3
     ·have c2:0<l j:=by
       rcases Int.lt_or_gt_of_ne hlj with c2|c2
       ·have:=Int.mul_neg_of_pos_of_neg c1 c2;omega
       ·exact c2
      have c3:f*vec d j<=0:=by
       rcases Int.lt_or_le 0 (f*vec d j)with c3|c3
       ·have:=Int.mul_pos c1 c3;omega
       ·exact c3
      exact Int.mul_nonpos_of_nonneg_of_nonpos (by omega) c3
   obtain⟨z,E,hz1,hz2,hz3,hz4⟩:=ih _ hlt k (D*A) rfl hsol hw'
   refine⟨z,E,hz1,hz2,fun j hj hzj=>?_,?_⟩
   ·have h1:=hz3 j hj hzj
    have hkj:k j≠0:=fun e0=>by rw[e0]at h1;simp at h1
    have h2:=hks j hj
    have hlj:=hkl0 j hj hkj
    rcases Int.lt_or_gt_of_ne hkj with c1|c1
    ·have c2:l j<0:=by
      rcases Int.lt_or_gt_of_ne hlj with c2|c2
      ·exact c2
      ·have:=Int.mul_neg_of_neg_of_pos c1 c2;omega
     have c3:z j<0:=by
      rcases Int.lt_or_le (z j) 0 with c3|c3
      ·exact c3
      ·have:=Int.mul_nonpos_of_nonneg_of_nonpos c3 (show k j<=0 by omega);omega
     exact Int.mul_pos_of_neg_of_neg c3 c2
    ·have c2:0<l j:=by
      rcases Int.lt_or_gt_of_ne hlj with c2|c2
      ·have:=Int.mul_neg_of_pos_of_neg c1 c2;omega
      ·exact c2
     have c3:0<z j:=by
      rcases Int.lt_or_le 0 (z j)with c3|c3
      ·exact c3
      ·have:=Int.mul_nonpos_of_nonpos_of_nonneg c3 (show 0<=k j by omega);omega
     exact Int.mul_pos c3 c2
   ·-- the cost
    have hcost:sm (fun j=>w j*k j) n=A*sm (fun j=>w j*l j) n-B*sm (fun j=>w j*h j) n:=by
     rw[zAP (g:=fun j=>A*(w j*l j)+(-B)*(w j*h j)) (fun i _=>by rw[hk];grind),zKM,zDR,zDR]
     have: -B*sm (fun j=>w j*h j) n= -(B*sm (fun j=>w j*h j) n):=by grind
     omega
    have hBσ:0<=B*sm (fun j=>w j*h j) n:=Int.mul_nonneg (by omega) hσ'
    have hE:=hz1.1
    have h1:sm (fun j=>w j*k j) n*E<=A*sm (fun j=>w j*l j) n*E:=Int.mul_le_mul_of_nonneg_right (by omega) (by omega)
    have h2:sm (fun j=>w j*z j) n*D*A<=sm (fun j=>w j*l j) n*E*A:=by
     have e1:sm (fun j=>w j*z j) n*D*A=sm (fun j=>w j*z j) n*(D*A):=by grind
     have e2:sm (fun j=>w j*l j) n*E*A=A*sm (fun j=>w j*l j) n*E:=by grind
     omega
    exact Int.le_of_mul_le_mul_right h2 hA0
end
section
theorem cop_dvd{b a d:Int}(h:Int.gcd a b=1)(h1:b∣a*d):b∣d:=by
 have h2:b.natAbs∣a.natAbs*d.natAbs:=by rw[<- Int.natAbs_mul];exact Int.natAbs_dvd_natAbs.2 h1
 have h3:Nat.Coprime b.natAbs a.natAbs:=by rw[Nat.coprime_comm];exact h
 exact Int.natAbs_dvd_natAbs.1 (h3.dvd_of_dvd_mul_left h2)
def lowV(n d:Int):Option Rt:=if zAM (zBC n d)=true then some (zBC n d)else none
theorem zFE{a b:Int}(h:Int.gcd a b=1):zBC a b=(a,b):=by unfold zBC;rw[h];simp
theorem lowV_congr{n d m e:Int}(hd:0<d)(he:0<e)(h:n*e=m*d):lowV n d=lowV m e:=by
 unfold lowV;rw[zIL hd he h]
theorem zEU{n d:Int}(hd:0<d):∃g a b:Int,zBC n d=(a,b)∧0<g∧0<b∧n=a*g∧d=b*g∧Int.gcd a b=1:=by
 obtain⟨c1,_,_,c4,c5⟩:=zDF (a:=n) hd
 obtain⟨⟨a,b⟩,hab⟩:∃p,p=zBC n d:=⟨_,rfl⟩
 rw[<- hab]at c1 c4 c5
 simp only[]at c1 c4 c5
 -- b divides n*b,so b|a*d,so b|d
 have h1:b∣a*d:=⟨n,by rw[c5];exact Int.mul_comm _ _⟩
 have h2:b∣d:=cop_dvd c4 h1
 obtain⟨g,hg⟩:=h2
 have hg0:0<g:=by
  rcases Int.lt_or_le 0 g with h|h
  ·exact h
  ·have:b*g<=0:=Int.mul_nonpos_of_nonneg_of_nonpos (by omega) h
   omega
 refine⟨g,a,b,hab.symm,hg0,c1,?_,hg,c4⟩
 have:b*n=b*(a*g):=by rw[Int.mul_comm b n,<- c5,hg];grind
 exact Int.eq_of_mul_eq_mul_left (by omega) this
theorem low_div{n d a b g:Int}(hd:0<d)(hg:0<g)(hb:0<b)(hn:n=a*g)(he:d=b*g)(hc:Int.gcd a b=1)(k:Int):n%d*k%d=0↔b∣k:=by
 have h1:n%d*k%d=n*k%d:=by rw[Int.mul_emod,Int.emod_emod_of_dvd _ (Int.dvd_refl d),<- Int.mul_emod]
 rw[h1]
 constructor
 ·intro h
  obtain⟨c,hc2⟩:=Int.dvd_of_emod_eq_zero h
  rw[hn,he]at hc2
  have:g*(a*k)=g*(b*c):=by grind
  have h3:=Int.eq_of_mul_eq_mul_left (by omega) this
  exact cop_dvd hc ⟨c,h3⟩
 ·rintro⟨c,rfl⟩
  rw[hn,he]
  refine Int.emod_eq_zero_of_dvd ⟨a*c,by grind⟩
theorem low_val{n d a b g:Int}(hn0:0<=n)(hd:0<d)(hg:0<g)(hn:n=a*g)(he:d=b*g):n/d*b+n%d*b/d=a:=by
 have h1:n%d*b=d*(a-n/d*b):=by
  have h2:=Int.emod_add_mul_ediv n d -- n%d+d*(n/d)=n
  have h3:n%d=n-d*(n/d):=by omega
  rw[h3,Int.sub_mul,Int.mul_sub]
  have:n*b=d*a:=by rw[hn,he];grind
  rw[this];grind
 rw[h1,Int.mul_ediv_cancel_left _ (by omega)]
 omega
theorem low_nonneg{n d a b g:Int}(hn0:0<=n)(hg:0<g)(hn:n=a*g):0<=a:=by
 rcases Int.lt_or_le a 0 with h|h
 ·have:=Int.mul_neg_of_neg_of_pos h hg;omega
 ·exact h
theorem low_neg{n d:Int}(hd:0<d):zBC (-n) d=(-(zBC n d).1,(zBC n d).2):=by
 obtain⟨g,a,b,e,hg,hb,hn,he,hc⟩:=zEU (n:=n) hd
 rw[e]
 have h2:zBC (-n) d=zBC (-a) b:=zIL hd hb (by rw[hn,he];grind)
 rw[h2,zFE (by rw[Int.neg_gcd];exact hc)]
theorem zNH{a b:Int}:zAM (-a,b)=zAM (a,b):=by
 rw[Bool.eq_iff_iff,zBK,zBK]
 simp only[Int.neg_gcd]
 constructor<;>(rintro⟨h1,h2,h3,h4,h5⟩;exact⟨h1,h2,by omega,by omega,h5⟩)
theorem low_big{n d:Int}(hn0:0<=n)(hd:0<d)(h:10000000000<n/d):zAM (zBC n d)=false:=by
 obtain⟨g,a,b,e,hg,hb,hn,he,hc⟩:=zEU (n:=n) hd
 rw[e]
 cases hv:zAM (a,b)
 ·rfl
 ·have h1:=(zBK.1 hv).2.2.2.1
  simp only[]at h1
  have h2:n/d<=a:=by
   have h3:n/d*d<=n:=by rw[Int.mul_comm];exact Int.mul_ediv_self_le (by omega)
   have h4:n/d*(b*g)<=a*g:=by rw[<- he,<- hn];exact h3
   have h5:n/d*b*g<=a*g:=by rw[Int.mul_assoc];exact h4
   have h6:=Int.le_of_mul_le_mul_right h5 hg
   have h7:n/d*1<=n/d*b:=Int.mul_le_mul_of_nonneg_left (by omega) (Int.ediv_nonneg hn0 (by omega))
   omega
  omega
end
section
def nrmI(l:Nat->Int)(n:Nat):Int:=sm (fun j=>((l j).natAbs:Int)) n
theorem nrmI_pos(l:Nat->Int):∀n,0<=nrmI l n
 |0=>Int.le_refl _
 |n+1=>by
  have:=nrmI_pos l n
  show 0<=nrmI l n+((l n).natAbs:Int)
  omega
def zCE(x:List Rt):Nat->Int×Int
 |0=>(0,1)
 |k+1=>((zCE x k).1*(zAE x k).2+(zCE x k).2*((zAE x k).1.natAbs:Int),(zCE x k).2*(zAE x k).2)
def nrmQ(x:List Rt):Int×Int:=zCE x x.length
theorem zFV{x:List Rt}(h:∀k,0<(zAE x k).2):∀k,0<(zCE x k).2∧0<=(zCE x k).1
 |0=>⟨by show(0:Int)<1;omega,Int.le_refl _⟩
 |k+1=>by
  obtain⟨h1,h2⟩:=zFV h k
  have h3:=h k
  exact⟨Int.mul_pos h1 h3,Int.add_nonneg (Int.mul_nonneg h2 (by omega)) (Int.mul_nonneg (by omega) (by omega))⟩
theorem zGZ{x:List Rt}{l:Nat->Int}{D:Int}(hD:0<D)(hp:∀k,0<(zAE x k).2):∀n,(∀k,k<n->(zAE x k).1*D=l k*(zAE x k).2)->(zCE x n).1*D=(zCE x n).2*nrmI l n
 |0,_=>by simp[zCE,nrmI,sm]
 |n+1,h=>by
  have ih:=zGZ hD hp n (fun k hk=>h k (by omega))
  have e:=h n (by omega)
  have e2:((zAE x n).1.natAbs:Int)*D=((l n).natAbs:Int)*(zAE x n).2:=by
   have h1:=congrArg Int.natAbs e
   rw[Int.natAbs_mul,Int.natAbs_mul]at h1
   have h2:=hp n
   have h3:(((zAE x n).1.natAbs*D.natAbs:Nat):Int)=(((l n).natAbs*(zAE x n).2.natAbs:Nat):Int):=by rw[h1]
   rw[Int.natCast_mul,Int.natCast_mul]at h3
   have h4:((D.natAbs:Nat):Int)=D:=by omega
   have h5:(((zAE x n).2.natAbs:Nat):Int)=(zAE x n).2:=by omega
   rw[h4,h5]at h3
   exact h3
  show((zCE x n).1*(zAE x n).2+(zCE x n).2*((zAE x n).1.natAbs:Int))*D=(zCE x n).2*(zAE x n).2*(nrmI l n+((l n).natAbs:Int))
  generalize (zCE x n).1=a at*
  generalize (zCE x n).2=b at*
  generalize (zAE x n).2=c at*
  generalize ((zAE x n).1.natAbs:Int)=u at*
  generalize ((l n).natAbs:Int)=v at*
  generalize nrmI l n=N at*
  have:(a*c+b*u)*D=(a*D)*c+b*(u*D):=by grind
  rw[this,ih,e2];grind
def sgnI(z:Int):Int:=if z<0 then-1 else if z=0 then 0 else 1
theorem zIJ(z:Int):sgnI z*z=(z.natAbs:Int):=by unfold sgnI;split<;>(try split)<;>omega
theorem sgnI_same{z k:Int}(h:k≠0->0<k*z):sgnI z*k=(k.natAbs:Int):=by
 by_cases hk:k=0
 ·subst hk;simp
 ·have h1:=h hk
  unfold sgnI
  rcases Int.lt_or_gt_of_ne hk with c|c
  ·have:z<0:=by
    rcases Int.lt_or_le z 0 with c2|c2
    ·exact c2
    ·have:=Int.mul_nonpos_of_nonpos_of_nonneg (show k<=0 by omega) c2;omega
   rw[if_pos this];omega
  ·have:0<z:=by
    rcases Int.lt_or_le 0 z with c2|c2
    ·exact c2
    ·have:=Int.mul_nonpos_of_nonneg_of_nonpos (show 0<=k by omega) c2;omega
   rw[if_neg (by omega),if_neg (by omega)];omega
theorem sgnI_opp{z h:Int}(h1:z*h<=0):sgnI z*h<=0:=by
 unfold sgnI
 split
 ·rename_i c
  rcases Int.lt_or_le h 0 with c2|c2
  ·have:=Int.mul_pos_of_neg_of_neg c c2;omega
  ·omega
 ·split
  ·simp
  ·rename_i c c1
   rcases Int.lt_or_le 0 h with c2|c2
   ·have:=Int.mul_pos (show 0<z by omega) c2;omega
   ·omega
theorem lp_norm{M:List (List Int)}{n:Nat}(hM:MaskOk M n){y:List Int}{l:Nat->Int}{D:Int}(hl:SolM M n y l D):
 ∃(k:Nat->Int) (E:Int),SolM M n y k E∧zFJ (zAQ M (zBJ n k)) (zBJ n k).length=(zBJ n k).length∧(∀j,j<n->k j≠0->0<k j*l j)∧nrmI k n*D<=nrmI l n*E:=by
 obtain⟨k,E,h1,h2,h3,h4⟩:=lp_reduce hM (fun j=>sgnI (l j)) _ l D rfl hl (fun c hc e he hs ho=>sm_nonpos n fun j hj=>sgnI_opp (ho j hj))
 refine⟨k,E,h1,h2,h3,?_⟩
 have e1:sm (fun j=>sgnI (l j)*k j) n=nrmI k n:=zAP fun j hj=>sgnI_same (h3 j hj)
 have e2:sm (fun j=>sgnI (l j)*l j) n=nrmI l n:=zAP fun j hj=>zIJ _
 rw[e1,e2]at h4
 exact h4
end
section
theorem solve_vals{R:List (List Int)}{n:Nat}(he:(zBA R n).2=0):(zBA R n).1=(List.range n).map fun k=>ofF (vec ((pRed R n).1[k]?.getD []) n) (vec ((pRed R n).1[k]?.getD []) (jf (pRed R n).2 k)):=by
 unfold zBA at he⊢
 simp only[]at he⊢
 split at he
 ·simp at he
 ·rename_i h1
  split at he
  ·simp at he
  ·rename_i h2
   rw[if_neg h1,if_neg h2]
theorem zGW{M:List (List Int)}{n:Nat}(h:MaskOk M n){y:List Int}(hy:y.length=M.length)(hmil:∀v∈y,-1000000<=v∧v<=1000000)(he:(zBA (zAJ M y) n).2=0):
 ∃(l:Nat->Int) (D:Int),0<D∧D<=288∧(∀k,k<n->(zAE (zBA (zAJ M y) n).1 k).1*D=l k*(zAE (zBA (zAJ M y) n).1 k).2)∧(∀k,k<n->(l k).natAbs<=720000000)∧
  SolM M n y l D∧(∀k,0<(zAE (zBA (zAJ M y) n).1 k).2)∧zFJ M n=n∧(∀k,zAM (zAE (zBA (zAJ M y) n).1 k)=true):=by
 obtain⟨hr,l',D',hD',k1,k2⟩:=solve_to h hy hmil he
 have hY:=h.addY hy (Y:=1000000) (by decide) (by simpa using hmil)
 have hi:=zCI (zAJ M y) hY.wid n (fun j hj q=>zCC (by decide) (fun r hr=>hY.one r hr j hj) q)
 have hpiv:=zLN h hy hY
 have hJl:(pRed (zAJ M y) n).2.length=n:=by rw[hpiv];exact hr
 have hasc:(pRed (zAJ M y) n).2=List.range' 0 n:=zLJ hi.asc (fun x hx=>by have:=hi.lt x hx;omega) hJl
 have hjf:∀k,k<n->jf (pRed (zAJ M y) n).2 k=k:=fun k hk=>by
  rw[hasc];unfold jf;rw[List.getElem?_range' hk];simp
 have hval:=solve_vals he
 have hat:∀k,k<n->zAE (zBA (zAJ M y) n).1 k=ofF (rowv (pRed (zAJ M y) n).1 k n) (rowv (pRed (zAJ M y) n).1 k k):=fun k hk=>by
  rw[hval]
  unfold zAE
  rw[List.getElem?_map,List.getElem?_range hk]
  simp only[Option.map_some,Option.getD_some]
  rw[hjf k hk];rfl
 have hout:∀k,n<=k->zAE (zBA (zAJ M y) n).1 k=(0,1):=fun k hk=>by
  rw[hval];unfold zAE
  rw[List.getElem?_eq_none (by simp;exact hk)];rfl
 have hJ1:∀x∈(pRed (zAJ M y) n).2,∀r,-1<=rowv (zAJ M y) r x∧rowv (zAJ M y) r x<=1:=fun x hx r=>zCC (by decide) (fun r hr=>hY.one r hr x (hi.lt x hx)) r
 have hpv:=fun k (hk:k<n)=>hi.piv_288 hY.le6 hJ1 (k:=k) (by omega)
 obtain⟨A,hs,hA⟩:=hi.st
 have hA1:∀k,k<(pRed (zAJ M y) n).2.length->∀r,-1<=A r (jf (pRed (zAJ M y) n).2 k)∧A r (jf (pRed (zAJ M y) n).2 k)<=1:=by
  intro k hk r
  obtain⟨q0,e⟩:=hA r
  rw[e]
  exact hJ1 _ (by unfold jf;rw[List.getElem?_eq_getElem hk];exact List.getElem_mem hk) q0
 have hAY:∀r,-(1000000:Int)<=A r n∧A r n<=1000000:=fun r=>by
  obtain⟨q0,e⟩:=hA r
  rw[e]
  exact zCC (c:=n) (by omega) (fun r hr=>zEQ (P:=fun x=> -(1000000:Int)<=x∧x<=1000000) (by omega) (hY.all r hr) n) q0
 have hd288:=det_288 (zCU (jf (pRed (zAJ M y) n).2) A (pRed (zAJ M y) n).2.length) (fun x hx r=>by
  obtain⟨k,hk,rfl⟩:=zFW.1 hx
  exact hA1 k hk r) (zCQ (pRed (zAJ M y) n).2.length) (by rw[zEX,zDA]) (by rw[zDA];exact Nat.le_trans hs.le hY.le6)
 have hd0:=hs.d0
 obtain⟨d,hd⟩:=exq (det (zCU (jf (pRed (zAJ M y) n).2) A (pRed (zAJ M y) n).2.length) (zCQ (pRed (zAJ M y) n).2.length))
 rw[<- hd]at hd288 hd0
 -- the minors
 have hmin:∀k,k<n->∃E:Int,E.natAbs<=720000000∧rowv (pRed (zAJ M y) n).1 k k*E=d*rowv (pRed (zAJ M y) n).1 k n:=by
  intro k hk
  have hk':k<(pRed (zAJ M y) n).2.length:=by omega
  obtain⟨⟨s,hs2,e0⟩,e⟩:=hs.minorU hk'
  rw[<- hd]at e0
  have e1:=e n
  rw[e0,hjf k hk]at e1
  have hl:=(zGF (J:=jf (pRed (zAJ M y) n).2) (A:=A) hk').2
  have hb:=det_le2 (c:=fun r=>A r n) hAY (zBR (jf (pRed (zAJ M y) n).2) A k (pRed (zAJ M y) n).2.length) (fun d hd r=>by obtain⟨k,hk,rfl⟩:=zDL hd;exact hA1 k hk r) (zCQ (pRed (zAJ M y) n).2.length) (by rw[zEX];exact hl.symm)
  rw[hl]at hb
  have hK6:(pRed (zAJ M y) n).2.length<=6:=Nat.le_trans hs.le hY.le6
  have hfact:∀a:Nat,a+1<=6->((a+1:Nat):Int)*(1000000*(fact a:Int))<=720000000:=fun a ha=>by
   have:a=0∨a=1∨a=2∨a=3∨a=4∨a=5:=by omega
   rcases this with rfl|rfl|rfl|rfl|rfl|rfl<;>decide
  have hf:=hfact (zBR (jf (pRed (zAJ M y) n).2) A k (pRed (zAJ M y) n).2.length).length (by omega)
  rw[hl]at hf
  refine⟨s*minorU (pRed (zAJ M y) n).2.length (jf (pRed (zAJ M y) n).2) A k n,?_,?_⟩
  ·have:(s*minorU (pRed (zAJ M y) n).2.length (jf (pRed (zAJ M y) n).2) A k n).natAbs=(minorU (pRed (zAJ M y) n).2.length (jf (pRed (zAJ M y) n).2) A k n).natAbs:=by
    rw[Int.natAbs_mul]
    rcases hs2 with rfl|rfl<;>simp
   rw[this]
   unfold minorU
   omega
  ·have h1:s*s=1:=by rcases hs2 with rfl|rfl<;>rfl
   generalize minorU (pRed (zAJ M y) n).2.length (jf (pRed (zAJ M y) n).2) A k n=E at*
   generalize rowv (pRed (zAJ M y) n).1 k k=b at*
   generalize rowv (pRed (zAJ M y) n).1 k n=a at*
   have:b*(s*E)=s*(b*E):=by grind
   rw[this,e1]
   have:s*(s*d*a)=(s*s)*(d*a):=by grind
   rw[this,h1];omega
 -- the values over|d|
 have key:∀k,k<n->∃E:Int,E.natAbs<=720000000∧(zAE (zBA (zAJ M y) n).1 k).1*(d.natAbs:Int)=E*(zAE (zBA (zAJ M y) n).1 k).2:=by
  intro k hk
  obtain⟨E,h1,h2⟩:=hmin k hk
  have hb:=(hpv k hk).1
  rw[hjf k hk]at hb
  rw[hat k hk,zMG hb]
  obtain⟨c1,_,_,_,c5⟩:=zDF (a:=rowv (pRed (zAJ M y) n).1 k n) hb
  generalize rowv (pRed (zAJ M y) n).1 k k=b at*
  generalize rowv (pRed (zAJ M y) n).1 k n=a at*
  generalize zBC a b=p at*
  obtain⟨p1,p2⟩:=p
  dsimp only at*
  have e1:b*(p1*d)=b*(E*p2):=by
   have:b*(p1*d)=(p1*b)*d:=by grind
   rw[this,c5]
   have:b*(E*p2)=(b*E)*p2:=by grind
   rw[this,h2];grind
  have e2:=Int.eq_of_mul_eq_mul_left (show b≠0 by omega) e1
  rcases Int.lt_or_le d 0 with c|c
  ·refine⟨-E,by omega,?_⟩
   have:(d.natAbs:Int)= -d:=by omega
   rw[this,Int.mul_neg,e2,Int.neg_mul]
  ·refine⟨E,h1,?_⟩
   have:(d.natAbs:Int)=d:=by omega
   rw[this,e2]
 have hpos:∀k,0<(zAE (zBA (zAJ M y) n).1 k).2:=fun k=>by
  rcases Nat.lt_or_ge k n with hk|hk
  ·have hb:=(hpv k hk).1
   rw[hjf k hk]at hb
   rw[hat k hk,zMG hb]
   exact(zDF hb).1
  ·rw[hout k hk];decide
 have hex:∃l:Nat->Int,∀k,k<n->(l k).natAbs<=720000000∧(zAE (zBA (zAJ M y) n).1 k).1*(d.natAbs:Int)=l k*(zAE (zBA (zAJ M y) n).1 k).2:=by
  refine⟨fun k=>if hk:k<n then Classical.choose (key k hk)else 0,fun k hk=>?_⟩
  simp only[dif_pos hk]
  exact Classical.choose_spec (key k hk)
 obtain⟨l,hl⟩:=hex
 refine⟨l,(d.natAbs:Int),by omega,by omega,fun k hk=>(hl k hk).2,fun k hk=>(hl k hk).1,⟨by omega,fun q hq=>?_⟩,hpos,hr,fun k=>?_⟩
 ·-- the system
  have e1:=k1 q hq
  have e2:∀c,c<n->D'*(rowv M q c*l c)=(d.natAbs:Int)*(rowv M q c*l' c):=fun c hc=>by
   have h1:=(hl c hc).2
   have h2:=k2 c hc
   have hp:=hpos c
   generalize zAE (zBA (zAJ M y) n).1 c=p at*
   obtain⟨p1,p2⟩:=p
   dsimp only at*
   have h3:p2*(l c*D')=p2*(l' c*(d.natAbs:Int)):=by
    have:p2*(l c*D')=(l c*p2)*D':=by grind
    rw[this,<- h1]
    have:p1*(d.natAbs:Int)*D'=(p1*D')*(d.natAbs:Int):=by grind
    rw[this,h2];grind
   have h4:=Int.eq_of_mul_eq_mul_left (show p2≠0 by omega) h3
   have:D'*(rowv M q c*l c)=rowv M q c*(l c*D'):=by grind
   rw[this,h4];grind
  have e3:D'*sm (fun i=>rowv M q i*l i) n=D'*(vec y q*(d.natAbs:Int)):=by
   rw[<- zDR,zAP e2,zDR,e1];grind
  exact Int.eq_of_mul_eq_mul_left (show D'≠0 by omega) e3
 ·rcases Nat.lt_or_ge k n with hk|hk
  ·have hb:=hpv k hk
   rw[hjf k hk]at hb
   rw[hat k hk,zMG hb.1]
   have b3:=sys_le hY k n
   obtain⟨c1,c2,c3,c4,_⟩:=zDF (a:=rowv (pRed (zAJ M y) n).1 k n) hb.1
   rw[zBK]
   exact⟨by omega,by omega,by omega,by omega,c4⟩
  ·rw[hout k hk];decide
theorem nrmI_le{l:Nat->Int}{B:Nat}:∀n:Nat,(∀k,k<n->(l k).natAbs<=B)->nrmI l n<=((n*B:Nat):Int)
 |0,_=>by simp[nrmI,sm]
 |n+1,h=>by
  have h1:=nrmI_le n (fun k hk=>h k (by omega))
  have h2:=h n (by omega)
  show nrmI l n+((l n).natAbs:Int)<=_
  rw[Nat.succ_mul];omega
theorem solve_norm{M:List (List Int)}{n:Nat}(h:MaskOk M n){y:List Int}(hy:y.length=M.length)(hmil:∀v∈y,-1000000<=v∧v<=1000000)(he:(zBA (zAJ M y) n).2=0):
 0<(zCE (zBA (zAJ M y) n).1 n).2∧zAM (zBC (zCE (zBA (zAJ M y) n).1 n).1 (zCE (zBA (zAJ M y) n).1 n).2)=true:=by
 obtain⟨l,D,hD,hD288,h1,h2,_,hp,hr,_⟩:=zGW h hy hmil he
 obtain⟨p1,p2⟩:=zFV hp n
 refine⟨p1,?_⟩
 have e:=zGZ hD hp n h1
 have hn6:n<=6:=by have:=rank_le h;have:=h.le6;omega
 have hl:=nrmI_le n h2
 have hN:=nrmI_pos l n
 have e2:zBC (zCE (zBA (zAJ M y) n).1 n).1 (zCE (zBA (zAJ M y) n).1 n).2=zBC (nrmI l n) D:=zIL p1 hD (by rw[e,Int.mul_comm])
 rw[e2]
 obtain⟨c1,c2,c3,c4,_⟩:=zDF (a:=nrmI l n) hD
 have:n*720000000<=6*720000000:=Nat.mul_le_mul_right _ hn6
 rw[zBK]
 exact⟨by omega,by omega,by omega,by omega,c4⟩
end
section
open Go.RowKit
def fitsR(M:Mask)(y:List Int)(k:Int):List FitT:=(allF M y).filter (fun f=>decide ((f.1.length:Int)<=k))
end
section
open Go.RowKit
theorem zGA{M:Mask}{y:List Int}{f:FitT}(h:f∈allF M y):zCK (zAB M) f.1∧f.2.length=f.1.length∧f.1.length<=zAB M:=by
 unfold allF at h
 obtain⟨S,hS,e⟩:=List.mem_filterMap.1 h
 obtain⟨h1,h2⟩:=fitF_len e
 rw[h1]
 exact⟨(zPQ hS).2,h2,(zPQ hS).1⟩
end
section
theorem lvls_fits(M:Mask)(y:List Int)(n:Nat):∀k,(lvls n k).filterMap (fitF M y)=zBU M y n (k+1)
 |0=>by
  rw[zCP]
  show(comb n 0 0).filterMap (fitF M y)=zBU M y n 0++_
  simp[zBU]
 |k+1=>by
  rw[zCP,<- lvls_fits M y n k]
  show(lvls n k++comb n (k+1) 0).filterMap (fitF M y)=_
  rw[List.filterMap_append]
theorem allF_to(M:Mask)(y:List Int):allF M y=zBU M y (zAB M) (zAB M+1):=lvls_fits M y _ _
theorem fits_size{M:Mask}{y:List Int}{W j:Nat}{f:FitT}(h:f∈(comb W j 0).filterMap (fitF M y)):f.1.length=j:=by
 obtain⟨S,hS,e⟩:=List.mem_filterMap.1 h
 rw[(fitF_len e).1]
 exact zCW _ _ _ _ hS
theorem fits_cut(M:Mask)(y:List Int)(W k:Nat):∀t,(zBU M y W t).filter (fun f=>decide ((f.1.length:Int)<=(k:Int)))=zBU M y W (min t (k+1))
 |0=>by simp[zBU]
 |t+1=>by
  rw[zCP,List.filter_append,fits_cut M y W k t]
  rcases Nat.lt_or_ge k t with h|h
  ·have h1:((comb W t 0).filterMap (fitF M y)).filter (fun f=>decide ((f.1.length:Int)<=(k:Int)))=[]:=by
    rw[List.filter_eq_nil_iff]
    intro f hf
    have:=fits_size hf
    simp;omega
   rw[h1,List.append_nil,show min t (k+1)=k+1 by omega,show min (t+1) (k+1)=k+1 by omega]
  ·have h1:((comb W t 0).filterMap (fitF M y)).filter (fun f=>decide ((f.1.length:Int)<=(k:Int)))=(comb W t 0).filterMap (fitF M y):=by
    rw[List.filter_eq_self]
    intro f hf
    have:=fits_size hf
    simp;omega
   rw[h1,show min t (k+1)=t by omega,show min (t+1) (k+1)=t+1 by omega,zCP]
theorem fit_long{M:Mask}{y S:List Int}(h:M.length<S.length):fitF M y S=none:=by
 unfold fitF
 rw[if_neg]
 rintro⟨h0,_⟩
 unfold zCA at h0
 split at h0
 ·rename_i hc
  obtain⟨hM,hy,hyB,hS⟩:=zGJ hc
  have hmo:=(zCT hM).1
  have hY:=(hmo.cols S).addY (y:=y) (by rw[zBN];exact hy) (Y:=1000000) (by decide) (fun v hv=>by
   unfold milB at hyB
   have:=List.all_eq_true.1 hyB v hv
   unfold inB at this
   simp at this;omega)
  have hi:=zCI (zAJ (zAQ M S) y) hY.wid S.length (fun j hj q=>zCC (by decide) (fun r hr=>hY.one r hr j hj) q)
  have hk:=hi.K_le
  rw[zDY (by rw[zBN];exact hy),zBN]at hk
  unfold zBA at h0
  simp only[]at h0
  split at h0
  ·simp at h0
  ·split at h0
   ·simp at h0
   ·omega
 ·rename_i hc;exact hc h0
theorem fits_long(M:Mask)(y:List Int)(W:Nat):∀d,zBU M y W (M.length+1+d)=zBU M y W (M.length+1)
 |0=>rfl
 |d+1=>by
  rw[show M.length+1+(d+1)=(M.length+1+d)+1 by omega,zCP,fits_long M y W d]
  have h1:(comb W (M.length+1+d) 0).filterMap (fitF M y)=[]:=by
   rw[List.filterMap_eq_nil_iff]
   intro S hS
   refine fit_long ?_
   rw[zCW _ _ _ _ hS];omega
  rw[h1,List.append_nil]
theorem fits_same(M:Mask)(y:List Int)(k:Nat):fitsR M y (k:Int)=zBI M y k:=by
 unfold fitsR zBI
 rw[allF_to,fits_cut]
 rcases Nat.lt_or_ge M.length (min k (zAB M))with h|h
 ·obtain⟨d,hd⟩:∃d,min (zAB M+1) (k+1)=M.length+1+d:=⟨min (zAB M+1) (k+1)-(M.length+1),by omega⟩
  rw[hd,fits_long,show min (min k (zAB M)) M.length+1=M.length+1 by omega]
 ·rw[show min (zAB M+1) (k+1)=min (min k (zAB M)) M.length+1 by omega]
end
section
open Go.RowKit
theorem light_c(w:World)(a:Option Addr)(n cap:Nat)(M:Mask)(hn:M.length=n)(hm:n<=maxLen)(H:zAN w a M):
 Calls Tryz.prog 16 #[.slice a n cap] w fun e w'=>SomeB e∧w=w':=by
 have HN:=hid hn
 have HH:=hid H
 clear hn H
 unfold maxLen at hm
 go_enter Tryz.func16,Tryz.ntmps16
 go_wp2
 go_loop [3,8] (fun s i=>∃k:Nat,k<=n∧i=.int .i64 k∧∃z:Int,s=.int .i64 z) (fun _ i=>n-(intOf i).toNat)
 case atStart=>exact⟨0,Nat.zero_le _,rfl,_,rfl⟩
 case round=>
  obtain⟨k,hk,rfl,z,rfl⟩:=hrel
  by_cases hlt:k<n
  ·have hkl:k<M.length:=by rw[HN.out];exact hlt
   obtain⟨b,off,ra,rn,rc,rfl,hbs,hq0,hrn,hrm,hri⟩:=HH.out k hkl
   clear hrn hri hkl hrm
   by_cases h7:(7:Int)<(rn:Int)
   ·by_cases h10:(rn:Int)<=10
    ·go_wp2
     go_ret
     exact⟨⟨_,rfl⟩,rfl⟩
    ·go_wp2
     go_round
     case rel=>exact⟨k+1,by omega,by go_num,_,rfl⟩
     case measure=>simp[intOf];omega
   ·go_wp2
    go_round
    case rel=>exact⟨k+1,by omega,by go_num,_,rfl⟩
    case measure=>simp[intOf];omega
  ·go_wp2
   go_ret
   exact⟨⟨_,rfl⟩,rfl⟩
end
section
open Go.RowKit
theorem named_of{W:Nat}{l:List Int}(h:zCK W l):zDS W l=0:=by
 have h1:ascB l=true:=by
  unfold ascB
  rw[decide_eq_true_eq]
  intro i hi
  rw[List.getElem?_eq_getElem (by omega),List.getElem?_eq_getElem (by omega)]
  exact List.pairwise_iff_getElem.1 h.1 i (i+1) (by omega) (by omega) (by omega)
 unfold zDS
 rw[if_pos h1,if_pos]
 rw[List.all_eq_true]
 intro p hp
 have:=h.2 p hp
 unfold inB;simp;omega
theorem pix_of{M:Mask}{S:List Int}(hM:okM M=true)(h:zCK (zAB M) S):pixE M S=0:=by unfold pixE;rw[if_pos hM,named_of h]
theorem zPO{M:Mask}{y S:List Int}(hM:okM M=true)(hy:y.length=M.length)(hmil:milB y=true)(h:zCK (zAB M) S):zAV M y S=0:=by
 unfold zAV;rw[if_pos hM,if_pos hy,if_pos hmil,pix_of hM h]
end
section
theorem fits_mem{M:Mask}{y:List Int}(hM:okM M=true)(hy:y.length=M.length)(hmil:milB y=true){f:FitT}:f∈zBI M y 10↔∃S,zCK (zAB M) S∧fitF M y S=some f:=by
 obtain⟨hO,hm1,_,hc1,hc10⟩:=zCT hM
 have hmil':∀v∈y,-1000000<=v∧v<=1000000:=fun v hv=>by have:=zHN hmil v hv;omega
 unfold zBI zBU
 rw[List.mem_flatMap]
 constructor
 ·rintro⟨j,_,hj⟩
  obtain⟨S,hS,hf⟩:=List.mem_filterMap.1 hj
  exact⟨S,comb_ok hS,hf⟩
 ·rintro⟨S,hS,hf⟩
  obtain⟨_,h1,_⟩:=zLH hf
  have hsv:zCA M S y=zBA (zAJ (zAQ M S) y) S.length:=by unfold zCA;rw[if_pos (zPO hM hy hmil hS)]
  rw[hsv]at h1
  obtain⟨hr,_⟩:=solve_to (hO.cols S) (by rw[zBN];exact hy) hmil' h1
  have hrk:=rank_le (hO.cols S)
  rw[hr,zBN]at hrk
  have hW:=set_le hS
  refine⟨S.length,List.mem_range.2 (by omega),List.mem_filterMap.2 ⟨S,zJH (zAB M) 0 S hS.1 (fun y hy=>by have:=hS.2 y hy;omega),hf⟩⟩
theorem sum_supp{n:Nat}{k:Nat->Int}(r:Nat->Int):sm (fun i=>zFU (zBJ n k) r i*vec ((zBJ n k).map fun j=>k j.toNat) i) (zBJ n k).length=sm (fun c=>r c*k c) n:=by
 have hS:=zFD n k
 rw[<- zHS hS r _ (Nat.le_refl _)]
 unfold dotS
 refine zAP fun c hc=>?_
 rw[zHX hS (fun j hj hm=>?_) hc]
 rcases Classical.em (k j=0)with c|c
 ·exact c
 ·exact absurd (zCM.2 ⟨hj,c⟩) hm
theorem nrm_supp{n:Nat}{k:Nat->Int}:nrmI (vec ((zBJ n k).map fun j=>k j.toNat)) (zBJ n k).length=nrmI k n:=by
 have h:=sum_supp (n:=n) (k:=k) (fun c=>sgnI (k c))
 have e1:sm (fun c=>sgnI (k c)*k c) n=nrmI k n:=zAP fun c _=>zIJ _
 rw[e1]at h
 rw[<- h]
 refine zAP fun i hi=>?_
 have e2:vec ((zBJ n k).map fun j=>k j.toNat) i=k ((zBJ n k)[i]).toNat:=by unfold vec;rw[List.getElem?_map,List.getElem?_eq_getElem hi];rfl
 have e3:zFU (zBJ n k) (fun c=>sgnI (k c)) i=sgnI (k ((zBJ n k)[i]).toNat):=by unfold zFU;rw[List.getElem?_eq_getElem hi]
 rw[e2,e3,zIJ]
theorem fit_of_sol{M:Mask}{y:List Int}(hM:okM M=true)(hy:y.length=M.length)(hmil:milB y=true){k:Nat->Int}{E:Int}(hk:SolM M (zAB M) y k E)(hr:zFJ (zAQ M (zBJ (zAB M) k)) (zBJ (zAB M) k).length=(zBJ (zAB M) k).length):
 ∃f,f∈zBI M y 10∧f.1=zBJ (zAB M) k∧f.2.length=f.1.length∧(∀i,i<f.1.length->(zAE f.2 i).1*E=k ((f.1[i]?.getD 0).toNat)*(zAE f.2 i).2)∧(∀i,0<(zAE f.2 i).2)∧(nrmQ f.2).1*E=(nrmQ f.2).2*nrmI k (zAB M)∧0<(nrmQ f.2).2:=by
 obtain⟨hO,hm1,_,hc1,hc10⟩:=zCT hM
 have hmil':∀v∈y,-1000000<=v∧v<=1000000:=fun v hv=>by have:=zHN hmil v hv;omega
 have hS:=zFD (zAB M) k
 have hy':y.length=(zAQ M (zBJ (zAB M) k)).length:=by rw[zBN];exact hy
 have hsys:∀q,q<(zAQ M (zBJ (zAB M) k)).length->sm (fun i=>rowv (zAQ M (zBJ (zAB M) k)) q i*vec ((zBJ (zAB M) k).map fun j=>k j.toNat) i) (zBJ (zAB M) k).length=vec y q*E:=by
  intro q hq
  rw[zBN]at hq
  rw[zHU,sum_supp,hk.2 q hq]
 obtain⟨k1,k2,k3⟩:=solve_of (hO.cols _) hy' hmil' hr (show E≠0 by have:=hk.1;omega) hsys
 obtain⟨_,_,_,_,_,_,_,hpos,_,_⟩:=zGW (hO.cols _) hy' hmil' k1
 have hsv:zCA M (zBJ (zAB M) k) y=zBA (zAJ (zAQ M (zBJ (zAB M) k)) y) (zBJ (zAB M) k).length:=by unfold zCA;rw[if_pos (zPO hM hy hmil hS)]
 have hvk:∀i (hi:i<(zBJ (zAB M) k).length),vec ((zBJ (zAB M) k).map fun j=>k j.toNat) i=k ((zBJ (zAB M) k)[i]).toNat:=fun i hi=>by unfold vec;rw[List.getElem?_map,List.getElem?_eq_getElem hi];rfl
 obtain⟨P,hP⟩:=exq (zBA (zAJ (zAQ M (zBJ (zAB M) k)) y) (zBJ (zAB M) k).length)
 rw[<- hP]at k1 k2 k3 hpos hsv
 have hfit:fitF M y (zBJ (zAB M) k)=some (zBJ (zAB M) k,P.1):=by
  unfold fitF
  rw[hsv,if_pos]
  refine⟨k1,List.all_eq_true.2 fun r hr=>?_⟩
  obtain⟨i,hi,rfl⟩:=List.mem_iff_getElem.1 hr
  have hi':i<(zBJ (zAB M) k).length:=by omega
  obtain⟨c1,c2,_⟩:=k3 i hi'
  have e1:zAE P.1 i=P.1[i]:=by unfold zAE;rw[List.getElem?_eq_getElem hi];rfl
  rw[e1,hvk i hi']at c1
  rw[e1]at c2
  have h0:k ((zBJ (zAB M) k)[i]).toNat≠0:=by
   have hm:=List.getElem_mem hi'
   have hb:=hS.get hi'
   rw[show(zBJ (zAB M) k)[i]=((((zBJ (zAB M) k)[i]).toNat:Nat):Int)by omega]at hm
   exact(zCM.1 hm).2
  rw[decide_eq_true_eq]
  intro e
  rw[e,Int.zero_mul]at c1
  exact Int.mul_ne_zero h0 (by omega) c1.symm
 have hvals:∀i,i<(zBJ (zAB M) k).length->(zAE P.1 i).1*E=vec ((zBJ (zAB M) k).map fun j=>k j.toNat) i*(zAE P.1 i).2:=fun i hi=>(k3 i hi).1
 have hn:=zGZ hk.1 hpos (zBJ (zAB M) k).length hvals
 rw[nrm_supp]at hn
 have hq:nrmQ P.1=zCE P.1 (zBJ (zAB M) k).length:=by unfold nrmQ;rw[k2]
 refine⟨(zBJ (zAB M) k,P.1),(fits_mem hM hy hmil).2 ⟨_,hS,hfit⟩,rfl,k2,fun i hi=>?_,hpos,by rw[hq];exact hn,by rw[hq];exact(zFV hpos _).1⟩
 have hi':i<(zBJ (zAB M) k).length:=hi
 have:=hvals i hi'
 rw[hvk i hi']at this
 show(zAE P.1 i).1*E=k (((zBJ (zAB M) k)[i]?.getD 0).toNat)*(zAE P.1 i).2
 rw[List.getElem?_eq_getElem hi']
 exact this
theorem zNZ{M:Mask}{y:List Int}(hM:okM M=true)(hy:y.length=M.length)(hmil:milB y=true){l:Nat->Int}{D:Int}(hl:SolM M (zAB M) y l D):
 ∃f,f∈zBI M y 10∧0<(nrmQ f.2).2∧(nrmQ f.2).1*D<=nrmI l (zAB M)*(nrmQ f.2).2:=by
 obtain⟨hO,_⟩:=zCT hM
 obtain⟨k,E,h1,h2,_,h4⟩:=lp_norm hO hl
 obtain⟨f,f1,_,_,_,_,f2,f3⟩:=fit_of_sol hM hy hmil h1 h2
 refine⟨f,f1,f3,?_⟩
 have hE:=h1.1
 -- (n*D)*E<=(N*d)*E
 have e:(nrmQ f.2).1*D*E<=nrmI l (zAB M)*(nrmQ f.2).2*E:=by
  have e1:(nrmQ f.2).1*D*E=(nrmQ f.2).2*(nrmI k (zAB M)*D):=by
   have:(nrmQ f.2).1*D*E=((nrmQ f.2).1*E)*D:=by grind
   rw[this,f2];grind
  have e2:nrmI l (zAB M)*(nrmQ f.2).2*E=(nrmQ f.2).2*(nrmI l (zAB M)*E):=by grind
  rw[e1,e2]
  exact Int.mul_le_mul_of_nonneg_left h4 (by omega)
 exact Int.le_of_mul_le_mul_right e hE
theorem zDD{M:Mask}{y:List Int}(hM:okM M=true)(hy:y.length=M.length)(hmil:milB y=true){f:FitT}(hf:f∈zBI M y 10):
 zCK (zAB M) f.1∧f.2.length=f.1.length∧f.2.all zAM=true∧(∀r∈f.2,r.1≠0)∧0<(nrmQ f.2).2∧zAM (zBC (nrmQ f.2).1 (nrmQ f.2).2)=true∧zFJ (zAQ M f.1) f.1.length=f.1.length∧
  ∃(l:Nat->Int) (D:Int),SolM M (zAB M) y l D∧D<=288∧(∀c,c<zAB M->(c:Int)∉f.1->l c=0)∧(∀i (hi:i<f.1.length),(zAE f.2 i).1*D=l (f.1[i]).toNat*(zAE f.2 i).2)∧(nrmQ f.2).1*D=(nrmQ f.2).2*nrmI l (zAB M):=by
 obtain⟨hO,hm1,_,hc1,hc10⟩:=zCT hM
 have hmil':∀v∈y,-1000000<=v∧v<=1000000:=fun v hv=>by have:=zHN hmil v hv;omega
 obtain⟨S,hS,hfit⟩:=(fits_mem hM hy hmil).1 hf
 obtain⟨rfl,h1,h2⟩:=zLH hfit
 have hsv:zCA M S y=zBA (zAJ (zAQ M S) y) S.length:=by unfold zCA;rw[if_pos (zPO hM hy hmil hS)]
 rw[hsv]at h1 h2⊢
 have hy':y.length=(zAQ M S).length:=by rw[zBN];exact hy
 obtain⟨l,D,hD,hD288,k1,_,k3,hpos,hr,hv⟩:=zGW (hO.cols S) hy' hmil' h1
 obtain⟨n1,n2⟩:=solve_norm (hO.cols S) hy' hmil' h1
 have hlen:=zNN h1
 obtain⟨P,hP⟩:=exq ((zBA (zAJ (zAQ M S) y) S.length).1)
 rw[<- hP]at h2 k1 hpos hv n1 n2 hlen⊢
 have hq:nrmQ P=zCE P S.length:=by unfold nrmQ;rw[hlen]
 -- spread
 have hL:((List.range S.length).map l).length=S.length:=by simp
 have hvL:∀i,i<S.length->vec ((List.range S.length).map l) i=l i:=fun i hi=>by unfold vec;rw[List.getElem?_map,List.getElem?_range hi];rfl
 have hin:∀i (hi:i<S.length),vec (zAY (zAB M) S ((List.range S.length).map l) S.length) (S[i]).toNat=l i:=fun i hi=>by
  rw[zDZ hS S.length (Nat.le_refl _) i hi hi]
  exact hvL i hi
 have hsum:∀r:Nat->Int,sm (fun i=>zFU S r i*l i) S.length=sm (fun c=>r c*vec (zAY (zAB M) S ((List.range S.length).map l) S.length) c) (zAB M):=fun r=>by
  have:=zHS (l:=(List.range S.length).map l) hS r S.length (Nat.le_refl _)
  unfold dotS at this
  rw[this]
  exact zAP fun i hi=>by rw[hvL i hi]
 refine⟨hS,hlen,List.all_eq_true.2 fun r hr=>?_,h2,by rw[hq];exact n1,by rw[hq];exact n2,hr,vec (zAY (zAB M) S ((List.range S.length).map l) S.length),D,⟨hD,fun q hq=>?_⟩,hD288,fun c hc hn=>zFQ hS hn S.length (Nat.le_refl _),fun i hi=>by rw[hin i hi];exact k1 i hi,?_⟩
 ·obtain⟨i,hi,rfl⟩:=List.mem_iff_getElem.1 hr
  have:=hv i
  unfold zAE at this
  rw[List.getElem?_eq_getElem hi]at this
  exact this
 ·have:=k3.2 q (by rw[zBN];exact hq)
  rw[zHU,hsum]at this
  exact this
 ·rw[hq,zGZ hD hpos S.length k1]
  congr 1
  have h:=hsum (fun c=>sgnI (vec (zAY (zAB M) S ((List.range S.length).map l) S.length) c))
  have e1:sm (fun c=>sgnI (vec (zAY (zAB M) S ((List.range S.length).map l) S.length) c)*vec (zAY (zAB M) S ((List.range S.length).map l) S.length) c) (zAB M)=nrmI (vec (zAY (zAB M) S ((List.range S.length).map l) S.length)) (zAB M):=zAP fun c _=>zIJ _
  rw[e1]at h
  rw[<- h]
  refine zAP fun i hi=>?_
  have e3:zFU S (fun c=>sgnI (vec (zAY (zAB M) S ((List.range S.length).map l) S.length) c)) i=sgnI (l i):=by
   unfold zFU;rw[List.getElem?_eq_getElem hi]
   simp only[]
   rw[hin i hi]
  rw[e3,zIJ]
end
section
def zAL:List Int->List Int->Bool
 | [],[]=>false
 | [],_::_=>true
 |_::_,[]=>false
 |x::a,y::b=>if x=y then zAL a b else decide (x<y)
theorem zMW:∀a,zAL a a=false
 | []=>rfl
 |x::a=>by unfold zAL;rw[if_pos rfl];exact zMW a
theorem zDX:∀a b,a=b∨zAL a b=true∨zAL b a=true
 | [],[]=>.inl rfl
 | [],_::_=>.inr (.inl rfl)
 |_::_,[]=>.inr (.inr rfl)
 |x::a,y::b=>by
  by_cases e:x=y
  ·subst e
   rcases zDX a b with h|h|h
   ·exact .inl (by rw[h])
   ·exact .inr (.inl (by unfold zAL;rw[if_pos rfl];exact h))
   ·exact .inr (.inr (by unfold zAL;rw[if_pos rfl];exact h))
  ·rcases Int.lt_or_gt_of_ne e with h|h
   ·exact .inr (.inl (by unfold zAL;rw[if_neg e];simpa using h))
   ·exact .inr (.inr (by unfold zAL;rw[if_neg (fun h=>e h.symm)];simpa using h))
theorem zHF:∀{a b},zAL a b=true->zAL b a=false
 | [],[],h=>by cases h
 | [],_::_,_=>rfl
 |_::_,[],h=>by cases h
 |x::a,y::b,h=>by
  unfold zAL at h⊢
  by_cases e:x=y
  ·subst e;rw[if_pos rfl]at h⊢;exact zHF h
  ·rw[if_neg e]at h
   rw[if_neg (fun h=>e h.symm)]
   have:x<y:=by simpa using h
   rw[decide_eq_false_iff_not];omega
theorem zDO:∀{a b c},zAL a b=true->zAL b c=true->zAL a c=true
 | [],_,[],_,h=>by rename_i b _;cases b<;>cases h
 | [],_,_::_,_,_=>rfl
 |_::_,[],_,h,_=>by cases h
 |_::_,_::_,[],_,h=>by cases h
 |x::a,y::b,z::c,h1,h2=>by
  unfold zAL at h1 h2⊢
  by_cases e:x=y
  ·subst e
   rw[if_pos rfl]at h1
   by_cases e2:x=z
   ·subst e2;rw[if_pos rfl]at h2⊢;exact zDO h1 h2
   ·rw[if_neg e2]at h2⊢;exact h2
  ·rw[if_neg e]at h1
   have h1':x<y:=by simpa using h1
   by_cases e2:y=z
   ·subst e2;rw[if_neg e];exact h1
   ·rw[if_neg e2]at h2
    have h2':y<z:=by simpa using h2
    rw[if_neg (by omega)];simp;omega
def zAS(f:FitT):Rt:=zBC (nrmQ f.2).1 (nrmQ f.2).2
def cmpF(r s:Rt):Int:=cmpR r.1 r.2 s.1 s.2
def zOP(s:Rt×List FitT)(f:FitT):Rt×List FitT:=
 if s.2=[]∨cmpF (zAS f) s.1<0 then(zAS f,[f])else if cmpF (zAS f) s.1=0 then(s.1,s.2++[f])else s
def zBG(l:List FitT):Rt×List FitT:=l.foldl zOP ((0,0),[])
theorem zHJ(l:List FitT)(f:FitT):zBG (l++[f])=zOP (zBG l) f:=by unfold zBG;rw[List.foldl_append];rfl
theorem zPN{r s:Rt}(hr:0<r.2)(hs:0<s.2):cmpF r s=cmpI (r.1*s.2) (s.1*r.2):=by
 unfold cmpF cmpR dF;rw[if_neg (by omega),if_neg (by omega)]
theorem cmpF_neg{r s:Rt}(hr:0<r.2)(hs:0<s.2):cmpF r s<0↔r.1*s.2<s.1*r.2:=by
 rw[zPN hr hs];unfold cmpI;split<;>(try split)<;>omega
theorem cmpF_zero{r s:Rt}(hr:0<r.2)(hs:0<s.2):cmpF r s=0↔r.1*s.2=s.1*r.2:=by
 rw[zPN hr hs];unfold cmpI;split<;>(try split)<;>omega
theorem low_eq{r s:Rt}(hr:zAM r=true)(hs:zAM s=true)(h:r.1*s.2=s.1*r.2):r=s:=by
 obtain⟨r1,r2⟩:=r
 obtain⟨s1,s2⟩:=s
 obtain⟨a1,_,_,_,a5⟩:=zBK.1 hr
 obtain⟨b1,_,_,_,b5⟩:=zBK.1 hs
 simp only[]at*
 rw[<- zFE a5,<- zFE b5]
 exact zIL (by omega) (by omega) h
theorem zEN:∀(l:List FitT),(∀f∈l,zAM (zAS f)=true)->(l=[]->zBG l=((0,0),[]))∧(l≠[]->(zBG l).2≠[]∧(∃f∈l,(zBG l).1=zAS f)∧
 (∀f∈l,(zBG l).1.1*(zAS f).2<=(zAS f).1*(zBG l).1.2)∧(zBG l).2=l.filter (fun f=>decide (zAS f=(zBG l).1))):=by
 intro l
 induction hn:l.length generalizing l with
 |zero=>
  intro _
  have:l=[]:=List.length_eq_zero_iff.1 hn
  subst this
  exact⟨fun _=>rfl,fun h=>absurd rfl h⟩
 |succ n ih=>
  intro hv
  obtain⟨m,f,rfl⟩:∃m f,l=m++[f]:=⟨l.dropLast,l.getLast (by intro e;rw[e]at hn;simp at hn),(List.dropLast_concat_getLast _).symm⟩
  have hml:m.length=n:=by simpa using hn
  have hvm:∀g∈m,zAM (zAS g)=true:=fun g hg=>hv g (List.mem_append_left _ hg)
  have hvf:zAM (zAS f)=true:=hv f (by simp)
  have pf:0<(zAS f).2:=by have:=(zBK.1 hvf).1;omega
  obtain⟨i1,i2⟩:=ih m hml hvm
  refine⟨fun h=>by simp at h,fun _=>?_⟩
  rw[zHJ]
  by_cases hm:m=[]
  ·subst hm
   have e:zOP (zBG []) f=(zAS f,[f]):=by unfold zOP;rw[if_pos (.inl rfl)]
   rw[List.nil_append,e]
   exact⟨by simp,⟨f,by simp,rfl⟩,fun g hg=>by rw[List.mem_singleton.1 hg];exact Int.le_refl _,by simp⟩
  ·obtain⟨j1,⟨g0,hg0,j2⟩,j3,j4⟩:=i2 hm
   have ps:0<(zBG m).1.2:=by rw[j2];have:=(zBK.1 (hvm g0 hg0)).1;omega
   have vs:zAM (zBG m).1=true:=by rw[j2];exact hvm g0 hg0
   unfold zOP
   by_cases c1:(zBG m).2=[]∨cmpF (zAS f) (zBG m).1<0
   ·rw[if_pos c1]
    have c2:(zAS f).1*(zBG m).1.2<(zBG m).1.1*(zAS f).2:=by
     rcases c1 with c|c
     ·exact absurd c j1
     ·exact(cmpF_neg pf ps).1 c
    have hlt:∀g∈m,(zAS f).1*(zAS g).2<(zAS g).1*(zAS f).2:=fun g hg=>by
     have h1:=j3 g hg
     have pg:0<(zAS g).2:=by have:=(zBK.1 (hvm g hg)).1;omega
     have e1:(zAS f).1*(zBG m).1.2*(zAS g).2<(zBG m).1.1*(zAS f).2*(zAS g).2:=Int.mul_lt_mul_of_pos_right c2 pg
     have e2:(zBG m).1.1*(zAS g).2*(zAS f).2<=(zAS g).1*(zBG m).1.2*(zAS f).2:=Int.mul_le_mul_of_nonneg_right h1 (by omega)
     have e3:(zAS f).1*(zAS g).2*(zBG m).1.2<(zAS g).1*(zAS f).2*(zBG m).1.2:=by
      have x1:(zAS f).1*(zAS g).2*(zBG m).1.2=(zAS f).1*(zBG m).1.2*(zAS g).2:=by grind
      have x2:(zBG m).1.1*(zAS f).2*(zAS g).2=(zBG m).1.1*(zAS g).2*(zAS f).2:=by grind
      have x3:(zAS g).1*(zAS f).2*(zBG m).1.2=(zAS g).1*(zBG m).1.2*(zAS f).2:=by grind
      omega
     exact Int.lt_of_mul_lt_mul_right e3 (by omega)
    refine⟨by simp,⟨f,by simp,rfl⟩,fun g hg=>?_,?_⟩
    ·rcases List.mem_append.1 hg with h|h
     ·exact Int.le_of_lt (hlt g h)
     ·rw[List.mem_singleton.1 h];exact Int.le_refl _
    ·rw[List.filter_append]
     have:m.filter (fun g=>decide (zAS g=zAS f))=[]:=by
      rw[List.filter_eq_nil_iff]
      intro g hg
      rw[decide_eq_true_eq]
      intro e
      have:=hlt g hg
      rw[e]at this
      omega
     show [f]=_
     rw[this];simp
   ·rw[if_neg c1]
    have c1':¬cmpF (zAS f) (zBG m).1<0:=fun h=>c1 (.inr h)
    have c3:(zBG m).1.1*(zAS f).2<=(zAS f).1*(zBG m).1.2:=by
     rcases Int.lt_or_le ((zAS f).1*(zBG m).1.2) ((zBG m).1.1*(zAS f).2)with h|h
     ·exact absurd ((cmpF_neg pf ps).2 h) c1'
     ·exact h
    have hle:∀g∈m++[f],(zBG m).1.1*(zAS g).2<=(zAS g).1*(zBG m).1.2:=fun g hg=>by
     rcases List.mem_append.1 hg with h|h
     ·exact j3 g h
     ·rw[List.mem_singleton.1 h];exact c3
    by_cases c2:cmpF (zAS f) (zBG m).1=0
    ·rw[if_pos c2]
     have e:zAS f=(zBG m).1:=low_eq hvf vs ((cmpF_zero pf ps).1 c2)
     refine⟨by simp,⟨g0,List.mem_append_left _ hg0,j2⟩,hle,?_⟩
     rw[List.filter_append,<- j4]
     simp[e]
    ·rw[if_neg c2]
     refine⟨j1,⟨g0,List.mem_append_left _ hg0,j2⟩,hle,?_⟩
     rw[List.filter_append,<- j4]
     have:¬zAS f=(zBG m).1:=fun e=>c2 ((cmpF_zero pf ps).2 (by rw[e]))
     simp[this]
def AscF(l:List FitT):Prop:=l.Pairwise (fun f g=>zAL f.1 g.1=true)
theorem asc_uniq{l m:List FitT}(hl:AscF l)(hm:AscF m)(h:l.Perm m):l=m:=
 List.Perm.eq_of_pairwise (fun a b _ _ h1 h2=>by rw[zHF h1]at h2;cases h2) hl hm h
def insC(f:FitT):List FitT->List FitT
 | []=>[f]
 |g::l=>if zAL f.1 g.1=true then f::g::l else g::insC f l
def zGV(l:List FitT):List FitT:=l.foldl (fun o f=>insC f o) []
theorem zFX(f:FitT):∀l,(insC f l).Perm (f::l)
 | []=>List.Perm.refl _
 |g::l=>by
  unfold insC
  split
  ·exact List.Perm.refl _
  ·exact((zFX f l).cons g).trans (List.Perm.swap f g l)
theorem zPD{f:FitT}:∀{l:List FitT},AscF l->(∀g∈l,g.1≠f.1)->AscF (insC f l)
 | [],_,_=>by unfold insC AscF;simp
 |g::l,h,hn=>by
  unfold AscF at h
  rw[List.pairwise_cons]at h
  unfold insC
  split
  ·rename_i c
   unfold AscF
   rw[List.pairwise_cons]
   refine⟨fun x hx=>?_,List.pairwise_cons.2 h⟩
   rcases List.mem_cons.1 hx with rfl|hx
   ·exact c
   ·exact zDO c (h.1 x hx)
  ·rename_i c
   have ih:=zPD (f:=f) h.2 (fun x hx=>hn x (by simp[hx]))
   unfold AscF
   rw[List.pairwise_cons]
   refine⟨fun x hx=>?_,ih⟩
   rcases List.mem_cons.1 ((zFX f l).mem_iff.1 hx)with rfl|hx
   ·rcases zDX x.1 g.1 with e|e|e
    ·exact absurd e.symm (hn g (by simp))
    ·exact absurd e c
    ·exact e
   ·exact h.1 x hx
theorem zHI:∀{l:List FitT},(l.map (·.1)).Nodup->AscF (zGV l)∧(zGV l).Perm l:=by
 intro l
 induction hn:l.length generalizing l with
 |zero=>
  intro _
  have:l=[]:=List.length_eq_zero_iff.1 hn
  subst this
  exact⟨List.Pairwise.nil,List.Perm.refl _⟩
 |succ n ih=>
  intro hd
  obtain⟨m,f,rfl⟩:∃m f,l=m++[f]:=⟨l.dropLast,l.getLast (by intro e;rw[e]at hn;simp at hn),(List.dropLast_concat_getLast _).symm⟩
  rw[List.map_append,List.nodup_append]at hd
  obtain⟨h1,h2⟩:=ih (by simpa using hn) hd.1
  have e:zGV (m++[f])=insC f (zGV m):=by unfold zGV;rw[List.foldl_append];rfl
  rw[e]
  refine⟨zPD h1 fun g hg e=>?_,(zFX f _).trans ((h2.cons f).trans (List.perm_append_singleton f m).symm)⟩
  have hg':=h2.mem_iff.1 hg
  exact hd.2.2 g.1 (List.mem_map.2 ⟨g,hg',rfl⟩) f.1 (by simp) e
def zFC(M:Mask)(y:List Int):List FitT:=zGV (zBG (zBI M y 10)).2
end
section
def cmpQ(f g:FitT):Int:=cmpI ((nrmQ f.2).1*(nrmQ g.2).2) ((nrmQ g.2).1*(nrmQ f.2).2)
theorem cmpQ_F{f g:FitT}(hf:0<(nrmQ f.2).2)(hg:0<(nrmQ g.2).2):cmpQ f g=cmpF (zAS f) (zAS g):=by
 obtain⟨a,x,y,e1,ha,hy,e2,e3,_⟩:=zEU (n:=(nrmQ f.2).1) hf
 obtain⟨b,u,v,e4,hb,hv,e5,e6,_⟩:=zEU (n:=(nrmQ g.2).1) hg
 unfold cmpQ zAS
 rw[e1,e4,zPN (by exact hy) (by exact hv),e2,e3,e5,e6]
 simp only[]
 have p:0<a*b:=Int.mul_pos ha hb
 have h1:x*a*(v*b)=x*v*(a*b):=by grind
 have h2:u*b*(y*a)=u*y*(a*b):=by grind
 rw[h1,h2]
 unfold cmpI
 have k1:x*v*(a*b)<u*y*(a*b)↔x*v<u*y:=⟨fun h=>Int.lt_of_mul_lt_mul_right h (by omega),fun h=>Int.mul_lt_mul_of_pos_right h p⟩
 have k2:u*y*(a*b)<x*v*(a*b)↔u*y<x*v:=⟨fun h=>Int.lt_of_mul_lt_mul_right h (by omega),fun h=>Int.mul_lt_mul_of_pos_right h p⟩
 have k3:x*v*(a*b)=u*y*(a*b)↔x*v=u*y:=⟨fun h=>Int.eq_of_mul_eq_mul_right (by omega) h,fun h=>by rw[h]⟩
 simp only[k1,k2,k3]
def stepR(out:List FitT)(f:FitT):List FitT:=
 match out with
 | []=>[f]
 |g::t=>if 0<cmpQ f g then g::t else if cmpQ f g<0 then [f]else insC f (g::t)
def refC(l:List FitT):List FitT:=l.foldl stepR []
theorem zLV(l:List FitT)(f:FitT):refC (l++[f])=stepR (refC l) f:=by unfold refC;rw[List.foldl_append];rfl
theorem zNK(l:List FitT)(f:FitT):zGV (l++[f])=insC f (zGV l):=by unfold zGV;rw[List.foldl_append];rfl
theorem zEM:∀l:List FitT,(zGV l).Perm l:=by
 intro l
 induction hn:l.length generalizing l with
 |zero=>
  have:l=[]:=List.length_eq_zero_iff.1 hn
  subst this;exact List.Perm.refl _
 |succ n ih=>
  obtain⟨m,f,rfl⟩:∃m f,l=m++[f]:=⟨l.dropLast,l.getLast (by intro e;rw[e]at hn;simp at hn),(List.dropLast_concat_getLast _).symm⟩
  rw[zNK]
  exact(zFX f _).trans (((ih m (by simpa using hn)).cons f).trans (List.perm_append_singleton f m).symm)
theorem ins_at{f:FitT}{out:List FitT}{at_:Nat}(ha:AscF out)(hne:∀g∈out,g.1≠f.1)(hat:at_<=out.length)(h1:∀g∈out.drop at_,zAL f.1 g.1=true)(h2:at_=0∨∃g,out[at_-1]? =some g∧zAL f.1 g.1=false):
 out.take at_++f::out.drop at_=insC f out:=by
 refine asc_uniq ?_ (zPD ha hne) ?_
 ·unfold AscF at ha⊢
  have hs:(out.take at_++out.drop at_).Pairwise (fun f g=>zAL f.1 g.1=true):=by rw[List.take_append_drop];exact ha
  rw[List.pairwise_append]at hs
  rw[List.pairwise_append,List.pairwise_cons]
  refine⟨hs.1,⟨h1,hs.2.1⟩,fun x hx y hy=>?_⟩
  rcases List.mem_cons.1 hy with rfl|hy
  ·rcases h2 with rfl|⟨g,hg,hge⟩
   ·simp at hx
   ·have hgm:g∈out:=List.mem_of_getElem? hg
    have hgf:zAL g.1 y.1=true:=by
     rcases zDX g.1 y.1 with h|h|h
     ·exact absurd h (hne g hgm)
     ·exact h
     ·rw[hge]at h;cases h
    obtain⟨i,hi,rfl⟩:=List.mem_iff_getElem.1 hx
    rw[List.getElem_take]
    have hil:i<at_:=by simp at hi;omega
    obtain⟨hl,hge2⟩:=List.getElem?_eq_some_iff.1 hg
    rcases Nat.lt_or_ge i (at_-1)with h|h
    ·have:=List.pairwise_iff_getElem.1 ha i (at_-1) (by omega) hl h
     rw[hge2]at this
     exact zDO this hgf
    ·have e:i=at_-1:=by omega
     subst e;rw[hge2];exact hgf
  ·exact hs.2.2 x hx y hy
 ·refine List.Perm.trans ?_ (zFX f out).symm
  refine(List.perm_middle).trans ?_
  rw[List.take_append_drop]
theorem refC_eq:∀(l:List FitT),(∀f∈l,0<(nrmQ f.2).2∧zAM (zAS f)=true)->(l.map (·.1)).Nodup->refC l=zGV (zBG l).2∧AscF (refC l)∧(∀g∈refC l,g∈l)∧(∀g∈refC l,zAS g=(zBG l).1):=by
 intro l
 induction hn:l.length generalizing l with
 |zero=>
  intro _ _
  have:l=[]:=List.length_eq_zero_iff.1 hn
  subst this
  have e0:refC []=[]:=rfl
  refine⟨rfl,List.Pairwise.nil,fun g hg=>?_,fun g hg=>?_⟩<;>(rw[e0]at hg;cases hg)
 |succ n ih=>
  intro hv hd
  obtain⟨m,f,rfl⟩:∃m f,l=m++[f]:=⟨l.dropLast,l.getLast (by intro e;rw[e]at hn;simp at hn),(List.dropLast_concat_getLast _).symm⟩
  have hd':=hd
  rw[List.map_append,List.nodup_append]at hd'
  obtain⟨i1,i2,i3,i4⟩:=ih m (by simpa using hn) (fun g hg=>hv g (List.mem_append_left _ hg)) hd'.1
  have hvf:=hv f (by simp)
  have hvm:∀g∈m++[f],zAM (zAS g)=true:=fun g hg=>(hv g hg).2
  obtain⟨k1,k2⟩:=zEN (m++[f]) hvm
  have hne:∀g∈refC m,g.1≠f.1:=fun g hg e=>hd'.2.2 g.1 (List.mem_map.2 ⟨g,i3 g hg,rfl⟩) f.1 (by simp) e
  have main:refC (m++[f])=zGV (zBG (m++[f])).2:=by
   rw[zLV,zHJ]
   unfold zOP
   cases hr:refC m with
   |nil=>
    have he:(zBG m).2=[]:=by
     have hp:=zEM (zBG m).2
     rw[<- i1,hr]at hp
     exact List.Perm.eq_nil hp.symm
    rw[if_pos (.inl he)]
    rfl
   |cons g t=>
    have hgm:g∈refC m:=by rw[hr];simp
    have hgv:=hv g (List.mem_append_left _ (i3 g hgm))
    have hge:=i4 g hgm
    have hs0:(zBG m).2≠[]:=by
     intro e
     rw[i1,e]at hr
     exact absurd hr (by simp[zGV])
    rw[<- hge,<- cmpQ_F hvf.1 hgv.1]
    show(if 0<cmpQ f g then g::t else if cmpQ f g<0 then [f]else insC f (g::t))=_
    by_cases c1:0<cmpQ f g
    ·rw[if_pos c1,if_neg (by intro h;rcases h with h|h;exact hs0 h;omega),if_neg (by omega),<- i1,hr]
    ·rw[if_neg c1]
     by_cases c2:cmpQ f g<0
     ·rw[if_pos c2,if_pos (.inr c2)];rfl
     ·rw[if_neg c2,if_neg (by intro h;rcases h with h|h;exact hs0 h;exact c2 h),if_pos (by omega),zNK,<- i1,hr]
  have hmem:∀g∈refC (m++[f]),g∈(zBG (m++[f])).2:=fun g hg=>by rw[main]at hg;exact(zEM _).mem_iff.1 hg
  obtain⟨_,_,_,k3⟩:=k2 (by simp)
  refine⟨main,?_,fun g hg=>?_,fun g hg=>?_⟩
  ·rw[main]
   refine(zHI ?_).1
   rw[k3]
   exact(List.filter_sublist.map _).nodup hd
  ·have:=hmem g hg
   rw[k3]at this
   exact(List.mem_filter.1 this).1
  ·have:=hmem g hg
   rw[k3]at this
   simpa using (List.mem_filter.1 this).2
end
section
open Go.RowKit
theorem AnyT.weak{P:Program}{md:Region.Mode}{ops:Array Oper}{Q:Exit->Act->World->Prop}{T T':Nat->World->Prop}(hT:∀j w,T' j w->T j w):∀(fuel:Nat) (listed:Array Bool) (a:Act) (w:World),AnyT P md ops Q T' fuel listed a w->AnyT P md ops Q T fuel listed a w
 |0,_,_,_,h=>h
 |fuel+1,listed,a,w,h=>⟨h.1,fun i hi=>wpOp_mono (fun a' w' h'=>⟨hT _ _ h'.1,AnyT.weak hT fuel _ _ _ h'.2⟩) (h.2 i hi)⟩
theorem AnyT.takeG{P:Program}{md:Region.Mode}{ops:Array Oper}{Q:Exit->Act->World->Prop}{S:World->Prop}{T:Nat->World->Prop}{i d:Nat}{oi:Oper}{v:Value}{fuel:Nat}{listed:Array Bool}{a:Act}{w:World}{Wf:Nat->Bool}(hT:∀j w,T j w->Wf j=true->S w)(hTi:∀w,S w->T i w)(hi:ops[i]? =some oi)(hd:oi.dst=some d)
 (hs:Region.noSelect ops=true)(hf:Region.free md ops listed i=true)(hr:(Region.ready md ops listed).contains i=true)
 (hQ:∀c a w,Q (.panic c) (a.put (some d) v) w->Q (.panic c) a w)
 (hW:(List.range ops.size).all (fun j=>waits md ops i j||Wf j)=true)(hw:Region.wanted oi (yielded ops a.tmps)=true)(hy:∀w,S w->(execOp a.eval oi).run P w=.ok (.value v) w)(hS:S w)
 (h:AnyT P md ops Q T fuel (listed.setIfInBounds i true) (a.put (some d) v) w):AnyT P md ops Q T (fuel+1) listed a w:=
 AnyT.take hi hs hf hr (by rw[hd];exact hQ) (fun j hj w hT'=>hT j w hT' (by
  by_cases e:j<ops.size
  ·have:=List.all_eq_true.1 hW j (List.mem_range.2 e)
   rw[hj]at this;simpa using this
  ·unfold waits at hj;rw[Array.getElem?_eq_none (by omega)]at hj;cases hj)) hTi (.inl ⟨hw,hy⟩) hS (by rw[hd];exact h)
end
section
open Go.RowKit
def zBW(w:World)(g:Nat)(V:Int):Prop:=w.heap[g]? =some (.cells #[.int .i64 (V/18446744073709551616),.int .u64 (V%18446744073709551616)] 100 (0,0))
theorem zBW.lt{w:World}{g:Nat}{V:Int}(h:zBW w g V):g<w.heap.size:=(Array.getElem?_eq_some_iff.1 h).1
theorem zBW.keep{w w':World}{g:Nat}{V:Int}(h:zBW w g V)(hk:w'.heap[g]? =w.heap[g]?):zBW w' g V:=hk.trans h
theorem zBW.cells{w:World}{g:Nat}{V a b:Int}(h:zBW w g V)(p:WP V a b):w.cell? ⟨g,0,none⟩=some (.int .i64 a)∧w.cell? ⟨g,1,none⟩=some (.int .u64 b)∧w.frozen? ⟨g,0,none⟩=false∧w.frozen? ⟨g,1,none⟩=false∧g<w.heap.size:=by
 have hl:=h.lt
 unfold zBW at h
 rw[p.1,p.2]
 exact⟨by simp[World.cell?,h],by simp[World.cell?,h],by simp[World.frozen?,h],by simp[World.frozen?,h],hl⟩
theorem zBW.set{w:World}{g:Nat}{V U a b:Int}(h:zBW w g V)(p:WP U a b):zBW ((w.setCell ⟨g,0,none⟩ (.int .i64 a)).setCell ⟨g,1,none⟩ (.int .u64 b)) g U:=by
 have h1:=zAR h 0 (v:=.int .i64 a)
 have h2:=zAR h1 1 (v:=.int .u64 b)
 unfold zBW
 rw[h2,p.1,p.2];rfl
theorem zBT(w:World)(b:Nat)(x y:Value):Keep (fun g=>g≠b) w ((w.setCell ⟨b,0,none⟩ x).setCell ⟨b,1,none⟩ y):=(Keep.set w b 0 x).trans (Keep.set _ b 1 y)
theorem zBW.other{w:World}{g b:Nat}{V:Int}(h:zBW w g V)(hn:g≠b)(x y:Value):zBW ((w.setCell ⟨b,0,none⟩ x).setCell ⟨b,1,none⟩ y) g V:=h.keep ((zBT w b x y).block g h.lt hn)
theorem zBW.made(w:World){V a b:Int}(p:WP V a b):zBW (w.alloc (.cells #[.int .i64 a,.int .u64 b] 100)) w.heap.size V:=by
 unfold zBW
 rw[World.alloc_heap_new,p.1,p.2]
theorem zJQ(j:Nat):(0:Int)<2 ^ j:=Int.pow_pos (by decide)
def OverS(A B:Int)(j:Nat)(q r t:Int):Prop:=0<=q∧0<=r∧r<B∧0<=t∧t<=1∧(r+r+t<B->A/2 ^ j/B=q+q∧A/2 ^ j%B=r+r+t)∧(¬r+r+t<B->A/2 ^ j/B=q+q+1∧A/2 ^ j%B=r+r+t-B)
theorem over_step{A B:Int}(hB:0<B)(hA:0<=A)(j:Nat){q r t:Int}(hq:q=A/2 ^ (j+1)/B)(hr:r=A/2 ^ (j+1)%B)(ht:t=A/2 ^ j%2):
 OverS A B j q r t:=by
 have e:A/2 ^ (j+1)=A/2 ^ j/2:=by rw[Int.pow_succ,Int.ediv_ediv_of_nonneg (by have:=zJQ j;omega)]
 obtain⟨T,hT⟩:=exq (A/2 ^ j)
 have hT0:0<=T:=by rw[hT];exact Int.ediv_nonneg hA (by have:=zJQ j;omega)
 unfold OverS
 rw[e,<- hT]at hq hr
 rw[<- hT]at ht⊢
 have h1:=Int.emod_add_mul_ediv (T/2) B
 have h2:=Int.emod_nonneg (T/2) (show B≠0 by omega)
 have h3:=Int.emod_lt_of_pos (T/2) hB
 have h4:0<=T/2/B:=Int.ediv_nonneg (by omega) (by omega)
 rw[<- hq,<- hr]at h1
 rw[<- hr]at h2 h3
 rw[<- hq]at h4
 have hTt:T=2*(r+B*q)+t:=by omega
 refine⟨h4,h2,h3,by omega,by omega,fun h=>?_,fun h=>?_⟩
 ·have hx:T=(r+r+t)+(q+q)*B:=by rw[hTt];grind
  rw[hx,Int.add_mul_ediv_right _ _ (by omega),Int.ediv_eq_zero_of_lt (by omega) h,Int.add_mul_emod_self_right,Int.emod_eq_of_lt (by omega) h]
  omega
 ·have hx:T=(r+r+t-B)+(q+q+1)*B:=by rw[hTt];grind
  rw[hx,Int.add_mul_ediv_right _ _ (by omega),Int.ediv_eq_zero_of_lt (by omega) (by omega),Int.add_mul_emod_self_right,Int.emod_eq_of_lt (by omega) (by omega)]
  omega
theorem bit_low{A:Int}(hA:0<=A){j:Nat}(hj:j<64):A%18446744073709551616/2 ^ j%2=A/2 ^ j%2:=by
 have hp:=zJQ j
 have e1:(18446744073709551616:Int)=2 ^ j*(2*2 ^ (63-j)):=by
  have:(2:Int) ^ j*(2*2 ^ (63-j))=2 ^ (j+(1+(63-j))):=by rw[Int.pow_add,Int.pow_add];rfl
  rw[this,show j+(1+(63-j))=64 by omega];rfl
 have h1:=Int.emod_add_mul_ediv A 18446744073709551616
 generalize A%18446744073709551616=a at*
 generalize A/18446744073709551616=h at*
 rw[<- h1,e1]
 have e2:a+2 ^ j*(2*2 ^ (63-j))*h=a+2 ^ j*(2*(2 ^ (63-j)*h)):=by grind
 rw[e2,Int.add_mul_ediv_left _ _ (by omega)]
 omega
theorem bit_high{A:Int}(j:Nat)(hj:64<=j):A/18446744073709551616/2 ^ (j-64)=A/2 ^ j:=by
 rw[Int.ediv_ediv_of_nonneg (by decide)]
 congr 1
 have:(18446744073709551616:Int)*2 ^ (j-64)=2 ^ (64+(j-64)):=by rw[Int.pow_add];rfl
 rw[this,show 64+(j-64)=j by omega]
theorem zJM(w:World)(V:Int)(hV: -170141183460469231731687303715884105728<V∧V<170141183460469231731687303715884105728):
 Calls Tryz.prog 148 #[zCH V] w fun e w'=>e=.returned (.int .i64 (cmpI V 0))∧Below w.heap.size w w':=by
 have HC:=hid (fun X=>zDU X V 0)
 have hw0:zCH 0=.agg #[.int .i64 0,.int .u64 0]:=by simp[zCH]
 rw[hw0]at HC
 obtain⟨a,b,p⟩:=WP.ex V
 rw[p.val]at HC⊢
 obtain⟨C,hC⟩:=exq (cmpI V 0)
 rw[<- hC]at HC⊢
 clear p hC hV hw0
 go_enter Tryz.func148,Tryz.ntmps148
 go_wp2_with (go_at_call 207;refine(HC.out _).mono ?_;rintro e w1 ⟨rfl,hb1⟩)
 go_ret
 exact⟨rfl,zAA ((Below.refl _ _).alloc (Nat.le_refl _) _) hb1⟩
theorem zOK(w:World)(A B:Int)(hA:0<=A∧A<170141183460469231731687303715884105728)(hB:0<B∧B<85070591730234615865843651857942052864):
 Calls Tryz.prog 150 #[zCH A,zCH B] w fun e w'=>e=.returned (.tuple #[zCH (A/B),zCH (A%B)])∧Below w.heap.size w w':=by
 obtain⟨ah,al,pA⟩:=WP.ex A
 obtain⟨bh,bl,pB⟩:=WP.ex B
 obtain⟨s,hs⟩:=exq (w.heap.size)
 obtain⟨wz,hwz⟩:=exq ((((w.alloc (.cells #[.int .i64 ah,.int .u64 al] 100)).alloc (.cells #[.int .i64 bh,.int .u64 bl] 100)).alloc (.cells #[.int .i64 0,.int .u64 0] 100)).alloc (.cells #[.int .i64 0,.int .u64 0] 100))
 have p0:WP 0 0 0:=⟨by decide,by decide⟩
 have hbz:Below w.heap.size w wz:=by rw[hwz];exact((((Below.refl _ _).alloc (Nat.le_refl _) _).alloc (by simp) _).alloc (by simp;omega) _).alloc (by simp;omega) _
 have hsz:wz.heap.size=s+4:=by rw[hwz,hs];simp
 have qa:zBW wz s A:=by
  rw[hwz,hs]
  exact(((zBW.made w pA).keep (Below.heap_alloc _ _ _ (by simp))).keep (Below.heap_alloc _ _ _ (by simp;omega))).keep (Below.heap_alloc _ _ _ (by simp;omega))
 have qb:zBW wz (s+1) B:=by
  have h:=zBW.made (w.alloc (.cells #[.int .i64 ah,.int .u64 al] 100)) pB
  rw[World.size_alloc]at h
  rw[hwz,hs]
  exact(h.keep (Below.heap_alloc _ _ _ (by simp))).keep (Below.heap_alloc _ _ _ (by simp))
 have qq:zBW wz (s+2) 0:=by
  have h:=zBW.made ((w.alloc (.cells #[.int .i64 ah,.int .u64 al] 100)).alloc (.cells #[.int .i64 bh,.int .u64 bl] 100)) p0
  rw[World.size_alloc,World.size_alloc]at h
  rw[hwz,hs]
  exact h.keep (Below.heap_alloc _ _ _ (by simp))
 have qr:zBW wz (s+3) 0:=by
  have h:=zBW.made (((w.alloc (.cells #[.int .i64 ah,.int .u64 al] 100)).alloc (.cells #[.int .i64 bh,.int .u64 bl] 100)).alloc (.cells #[.int .i64 0,.int .u64 0] 100)) p0
  rw[World.size_alloc,World.size_alloc,World.size_alloc]at h
  rw[hwz,hs]
  exact h
 have HST:=hid (show ∀j:Nat,OverS A B j (A/2 ^ (j+1)/B) (A/2 ^ (j+1)%B) (A/2 ^ j%2)from fun j=>over_step hB.1 hA.1 j (q:=A/2 ^ (j+1)/B) (r:=A/2 ^ (j+1)%B) (t:=A/2 ^ j%2) rfl rfl rfl)
 have HTOP:=hid (show A/2 ^ 128/B=0∧A/2 ^ 128%B=0 from by
  have e:A/2 ^ 128=0:=Int.ediv_eq_zero_of_lt hA.1 (by have:=hA.2;omega)
  rw[e];simp)
 have hQB:=hid (fun(j:Nat)=>show A/2 ^ j/B<=A from by
  have h1:A/2 ^ j<=A:=Int.ediv_le_self _ hA.1
  have h2:A/2 ^ j/B<=A/2 ^ j:=Int.ediv_le_self _ (Int.ediv_nonneg hA.1 (by have:=zJQ j;omega))
  omega)
 rw[pA.val,pB.val]
 have HBZ:=hid hbz
 have HSZ:=hid hsz
 have QA:=hid qa
 have QB:=hid qb
 have PA:=hid pA
 have PB:=hid pB
 clear hbz hsz qa qb
 go_enter Tryz.func150,Tryz.ntmps150
 go_wp2_with fail
 rw[<- hs,<- hwz]
 have HSV:=hid hs
 have HP0:=hid p0
 have HAA:=hid hA
 have HBB:=hid hB
 clear hwz hs p0 hA hB pA pB
 go_loopw [6] (fun i wr=>∃k:Nat,k<=128∧i=.int .i64 ((k:Int)-1)∧Keep (fun g=>g≠s+2∧g≠s+3) wz wr∧zBW wr (s+2) (A/2 ^ k/B)∧zBW wr (s+3) (A/2 ^ k%B)) (fun i _=>(intOf i+1).toNat)
 case atStart=>exact⟨128,by omega,rfl,Keep.refl _ _,by rw[HTOP.out.1];exact qq,by rw[HTOP.out.2];exact qr⟩
 case round=>
  obtain⟨k,hk,rfl,hkp,hq,hr⟩:=hrel
  have hsz:=HSZ.out
  cases k with
  |succ j=>
   have hj0:(((j+1:Nat):Int)-1)=(j:Int):=by omega
   rw[hj0]
   obtain⟨q,hqe⟩:=exq (A/2 ^ (j+1)/B)
   obtain⟨r,hre⟩:=exq (A/2 ^ (j+1)%B)
   obtain⟨t,hte⟩:=exq (A/2 ^ j%2)
   have hst:=HST.out j
   unfold OverS at hst
   rw[<- hqe,<- hre,<- hte]at hst
   rw[<- hqe]at hq
   rw[<- hre]at hr
   have hA':=hkp.block s (by omega) (by show s≠s+2∧s≠s+3;omega)
   have qa:=QA.out.keep hA'
   obtain⟨c0,c1,_,_,_⟩:=qa.cells PA.out
   have ht2:0<=t∧t<=1:=by omega
   have hqn:=hst.2.2.2.2.2
   have hst2:0<=r∧r<B:=⟨hst.2.1,hst.2.2.1⟩
   have QBW:=hid (QB.out.keep (hkp.block (s+1) (by omega) (by show s+1≠s+2∧s+1≠s+3;omega)))
   have hqe':=hqe
   have hqq2':q+q<=A:=by
    rcases Int.lt_or_le (r+r+t) B with c|c
    ·have:=(hst.2.2.2.2.2.1 c).1;have:=hQB.out j;omega
    ·have:=(hst.2.2.2.2.2.2 (by omega)).1;have:=hQB.out j;omega
   have HSTP:=hid hst
   have HQ:=hid hq
   have HR:=hid hr
   have HKP:=hid hkp
   have hj127:j<=127:=by omega
   clear hst hq hr hkp qa hA' hj0 hqe hre hk
   obtain⟨r1,r2,pr⟩:=WP.ex r
   obtain⟨k1,k2,pk⟩:=WP.ex q
   obtain⟨x1,x2,px⟩:=WP.ex (r+r)
   obtain⟨y1,y2,py⟩:=WP.ex (r+r+t)
   obtain⟨z1,z2,pz⟩:=WP.ex (q+q)
   have hr0:=HR.out
   obtain⟨d0,d1,d2,d3,d4⟩:=hr0.cells pr
   have hq0:=HQ.out
   obtain⟨e0,e1,e2,e3,e4⟩:=hq0.cells pk
   have hAA:=HAA.out
   have hBB:=HBB.out
   have hst:=HSTP.out
   have hpt:zCH t=.agg #[.int .i64 0,.int .u64 t]:=by
    unfold zCH
    rw[show t/18446744073709551616=0 by omega,show t%18446744073709551616=t by omega]
   have hP1:=hid (show ∀X:World,Calls Tryz.prog 161 #[.agg #[.int .i64 r1,.int .u64 r2],.agg #[.int .i64 r1,.int .u64 r2]] X fun e w'=>e=.returned (.agg #[.int .i64 x1,.int .u64 x2])∧Below X.heap.size X w' from fun X=>by
    have:=zJN X r r (by omega) (by omega) (by omega)
    rw[pr.val,px.val]at this;exact this)
   have hP2:=hid (show ∀X:World,Calls Tryz.prog 161 #[.agg #[.int .i64 x1,.int .u64 x2],.agg #[.int .i64 0,.int .u64 t]] X fun e w'=>e=.returned (.agg #[.int .i64 y1,.int .u64 y2])∧Below X.heap.size X w' from fun X=>by
    have:=zJN X (r+r) t (by omega) (by omega) (by omega)
    rw[px.val,hpt,py.val]at this;exact this)
   have hqq:q<=A∧0<=q:=⟨by rw[hqe'];exact hQB.out _,hst.1⟩
   have hqq2:q+q<=A:=hqq2'
   have HQ0:=hid (And.intro hst.1 hqq2')
   have hP3:=hid (show ∀X:World,Calls Tryz.prog 161 #[.agg #[.int .i64 k1,.int .u64 k2],.agg #[.int .i64 k1,.int .u64 k2]] X fun e w'=>e=.returned (.agg #[.int .i64 z1,.int .u64 z2])∧Below X.heap.size X w' from fun X=>by
    have:=zJN X q q (by omega) (by omega) (by omega)
    rw[pk.val,pz.val]at this;exact this)
   have hbit:(j<64->bits BinOp.and IntKind.u64 (al/2 ^ j) 1=t)∧(64<=j->bits BinOp.and IntKind.u64 (ah/2 ^ (j-64)) 1=t)∧IntKind.u64.wrap ah=ah:=by
    have e1:=PA.out.1
    have e2:=PA.out.2
    refine⟨fun h=>?_,fun h=>?_,?_⟩
    ·have h1:0<=al/2 ^ j:=Int.ediv_nonneg (by omega) (by have:=zJQ j;omega)
     have h2:al/2 ^ j<=al:=Int.ediv_le_self _ (by omega)
     rw[and_one_u64 _ h1 (by omega),e2,hte]
     exact bit_low hAA.1 h
    ·have h1:0<=ah/2 ^ (j-64):=Int.ediv_nonneg (by omega) (by have:=zJQ (j-64);omega)
     have h2:ah/2 ^ (j-64)<=ah:=Int.ediv_le_self _ (by omega)
     rw[and_one_u64 _ h1 (by omega),e1,hte,bit_high j h]
    ·rw[IntKind.wrap_u64];omega
   obtain⟨hb1,hb2,hb3⟩:=hbit
   have HCM:=hid (show ∀X:World,Calls Tryz.prog 207 #[.agg #[.int .i64 y1,.int .u64 y2],.agg #[.int .i64 bh,.int .u64 bl]] X fun e w'=>e=.returned (.int .i64 (cmpI (r+r+t) B))∧Below X.heap.size X w' from fun X=>by
    have:=zDU X (r+r+t) B
    rw[py.val,PB.out.val]at this;exact this)
   have PR:=hid pr
   have PK:=hid pk
   have PZ:=hid pz
   clear hst hAA hBB hpt hqq hqq2 hqe' hqq2' hte pr pk px pz hr0 hq0
   have PY:=hid py
   clear py
   have HQN:=hid hqn
   have HST2:=hid hst2
   have HK:=hid (fun(X:World) (hX:Below wr.heap.size wr X)=>And.intro (HR.out.keep (hX.block _ HR.out.lt)) (And.intro (HQ.out.keep (hX.block _ HQ.out.lt)) (QBW.out.keep (hX.block _ QBW.out.lt))))
   have HSL:=hid (And.intro HR.out.lt (And.intro HQ.out.lt QBW.out.lt))
   clear hqn hst2
   have h64:(j<64∧bits BinOp.and IntKind.u64 (al/2 ^ j) 1=t)∨(¬j<64∧bits BinOp.and IntKind.u64 (ah/2 ^ (j-64)) 1=t):=by
    by_cases h:j<64
    ·exact .inl ⟨h,hb1 h⟩
    ·exact .inr ⟨h,hb2 (by omega)⟩
   clear hb1 hb2
   rcases h64 with⟨h64,hb1⟩|⟨h64,hb1⟩
   all_goals
    go_upto_region 7 with fail
    clear hb1 hb3
    go_wp2_with (go_at_call 161;refine(hP1.out _).mono ?_;rintro e w1 ⟨rfl,hb1⟩;refine Stop.of ?_)
    refine Stop.go ?_
    have HB1:=hid hb1
    clear hb1
    go_wp2_with (go_at_call 161;refine(hP2.out _).mono ?_;rintro e w2 ⟨rfl,hb2⟩;refine Stop.of ?_)
    refine Stop.go ?_
    have HB2:=hid (zAA HB1.out hb2)
    clear hb2 d0 d1 d2 d3 d4 e0 e1 e2 e3 e4
    obtain⟨m1,m2,m3⟩:=HK.out _ HB2.out
    obtain⟨a0,a1,a2,a3,a4⟩:=m1.cells PR.out
    have M1:=hid (zBW.set m1 PY.out)
    have M2:=hid (m2.other (b:=s+3) (by omega) (.int .i64 y1) (.int .u64 y2))
    have M3:=hid (m3.other (b:=s+3) (by omega) (.int .i64 y1) (.int .u64 y2))
    have KP:=hid (show Keep (fun g=>g≠s+2∧g≠s+3) wr ((w2.setCell ⟨s+3,0,none⟩ (.int .i64 y1)).setCell ⟨s+3,1,none⟩ (.int .u64 y2))from(Keep.of_below HB2.out:Keep (fun g=>g≠s+2∧g≠s+3) _ _).trans ((zBT w2 (s+3) _ _).mono fun g h=>h.2))
    obtain⟨v0,v1,v2,v3,v4⟩:=M1.out.cells PY.out
    obtain⟨g0,g1,g2,g3,g4⟩:=M2.out.cells PK.out
    clear m1 m2 m3
    go_wp2_with (go_at_call 161;refine(hP3.out _).mono ?_;rintro e w3 ⟨rfl,hb3⟩;refine Stop.of ?_)
    refine Stop.go ?_
    have HB3:=hid hb3
    have L1:=hid (M1.out.keep (hb3.block _ M1.out.lt))
    have L2:=hid (M2.out.keep (hb3.block _ M2.out.lt))
    have L3:=hid (M3.out.keep (hb3.block _ M3.out.lt))
    clear hb3 v0 v1 v2 v3 v4 g0 g1 g2 g3 g4 a0 a1 a2 a3 a4
    obtain⟨g0,g1,g2,g3,g4⟩:=L2.out.cells PK.out
    have N2:=hid (zBW.set L2.out PZ.out)
    have N1:=hid (L1.out.other (b:=s+2) (by omega) (.int .i64 z1) (.int .u64 z2))
    have N3:=hid (L3.out.other (b:=s+2) (by omega) (.int .i64 z1) (.int .u64 z2))
    have KN:=hid (KP.out.trans ((Keep.of_below HB3.out:Keep (fun g=>g≠s+2∧g≠s+3) _ _).trans ((zBT w3 (s+2) (.int .i64 z1) (.int .u64 z2)).mono fun g h=>h.1)))
    obtain⟨v0,v1,v2,v3,v4⟩:=N1.out.cells PY.out
    obtain⟨i0,i1,i2,i3,i4⟩:=N3.out.cells PB.out
    go_wp2_with (go_at_call 207;refine(HCM.out _).mono ?_;rintro e w4 ⟨rfl,hb4⟩;refine Stop.of ?_)
    refine Stop.go ?_
    have HB4:=hid hb4
    have O1:=hid (N1.out.keep (hb4.block _ N1.out.lt))
    have O2:=hid (N2.out.keep (hb4.block _ N2.out.lt))
    have O3:=hid (N3.out.keep (hb4.block _ N3.out.lt))
    have KO:=hid (KN.out.trans (Keep.of_below hb4:Keep (fun g=>g≠s+2∧g≠s+3) _ _))
    clear hb4 v0 v1 v2 v3 v4 g0 g1 g2 g3 g4 i0 i1 i2 i3 i4
    by_cases hcb:r+r+t<B
    ·have hc1:¬0<=cmpI (r+r+t) B:=by unfold cmpI;rw[if_pos hcb];decide
     go_wp2
     obtain⟨n1,n2⟩:=HQN.out.1 hcb
     exact⟨⟨j,by omega,rfl,HKP.out.trans KO.out,by rw[n1];exact O2.out,by rw[n2];exact O1.out⟩,by simp[intOf]⟩
    ·have hc1:0<=cmpI (r+r+t) B:=by unfold cmpI;rw[if_neg hcb];split<;>decide
     obtain⟨o1,o2,po⟩:=WP.ex (-B)
     obtain⟨f1,f2,pf⟩:=WP.ex (r+r+t-B)
     obtain⟨h1,h2,ph⟩:=WP.ex (q+q+1)
     have hBB:=HBB.out
     have hAA:=HAA.out
     have hst2:=HST2.out
     have hq0:=HQ0.out
     have hw1:zCH 1=.agg #[.int .i64 0,.int .u64 1]:=by simp[zCH]
     have HC1:=hid (show ∀X:World,Calls Tryz.prog 149 #[.agg #[.int .i64 bh,.int .u64 bl]] X fun e w'=>e=.returned (.agg #[.int .i64 o1,.int .u64 o2])∧Below X.heap.size X w' from fun X=>by
      have:=zLL X B (by omega)
      rw[PB.out.val,po.val]at this;exact this)
     have HC2:=hid (show ∀X:World,Calls Tryz.prog 161 #[.agg #[.int .i64 y1,.int .u64 y2],.agg #[.int .i64 o1,.int .u64 o2]] X fun e w'=>e=.returned (.agg #[.int .i64 f1,.int .u64 f2])∧Below X.heap.size X w' from fun X=>by
      have:=zJN X (r+r+t) (-B) (by omega) (by omega) (by omega)
      rw[show r+r+t+ -B=r+r+t-B by omega]at this
      rw[PY.out.val,po.val,pf.val]at this;exact this)
     have HC3:=hid (show ∀X:World,Calls Tryz.prog 161 #[.agg #[.int .i64 z1,.int .u64 z2],.agg #[.int .i64 0,.int .u64 1]] X fun e w'=>e=.returned (.agg #[.int .i64 h1,.int .u64 h2])∧Below X.heap.size X w' from fun X=>by
      have:=zJN X (q+q) 1 (by omega) (by omega) (by omega)
      rw[PZ.out.val,hw1,ph.val]at this;exact this)
     have PF:=hid pf
     have PH:=hid ph
     clear po pf ph hBB hAA hst2 hq0 hw1 ht2
     go_wp2
     refine zAF (fun j X=>decide (j<8∧j≠5)=true->X.cell? ⟨s+2,0,none⟩=some (.int .i64 z1)∧X.cell? ⟨s+2,1,none⟩=some (.int .u64 z2)) (by kernel_rfl) ?_
     have HS:=hid (show ∀X:World,Below w4.heap.size w4 X->X.cell? ⟨s+3,0,none⟩=some (.int .i64 y1)∧X.cell? ⟨s+3,1,none⟩=some (.int .u64 y2)∧X.cell? ⟨s+1,0,none⟩=some (.int .i64 bh)∧X.cell? ⟨s+1,1,none⟩=some (.int .u64 bl)∧X.cell? ⟨s+2,0,none⟩=some (.int .i64 z1)∧X.cell? ⟨s+2,1,none⟩=some (.int .u64 z2)from fun X hX=>by
      obtain⟨a0,a1,_⟩:=(O1.out.keep (hX.block _ O1.out.lt)).cells PY.out
      obtain⟨b0,b1,_⟩:=(O3.out.keep (hX.block _ O3.out.lt)).cells PB.out
      obtain⟨c0,c1,_⟩:=(O2.out.keep (hX.block _ O2.out.lt)).cells PZ.out
      exact⟨a0,a1,b0,b1,c0,c1⟩)
     have hbd:Below w4.heap.size w4 w4.drew:=(Below.refl _ _).drew
     generalize w4.drew=wd at hbd⊢
     have hS:=HS.out _ hbd
     refine AnyT.takeG (i:=5) (v:=.agg #[.int .i64 0,.int .u64 1]) (S:=fun X=>True) (Wf:=fun j=>true) (fun j w' h hj=>trivial) (fun w' h h5=>absurd h5 (by decide)) rfl rfl (by kernel_rfl) (by kernel_rfl) (by kernel_rfl) (by first|exact(fun _ _ _ h=>h)|exact(fun _ _ _ h=>absurd h.1 (by simp))) (by kernel_rfl) (by rfl) (by rintro w' _;go_simp) trivial ?_;go_frame
     refine AnyT.weak (T:=fun j X=>decide (j<8∧j≠5)=true->X.cell? ⟨s+2,0,none⟩=some (.int .i64 z1)∧X.cell? ⟨s+2,1,none⟩=some (.int .u64 z2)) (T':=fun j X=>decide (j<8)=true->X.cell? ⟨s+2,0,none⟩=some (.int .i64 z1)∧X.cell? ⟨s+2,1,none⟩=some (.int .u64 z2)) (fun j X h (hj:decide (j<8∧j≠5)=true)=>h (decide_eq_true (of_decide_eq_true hj).1)) _ _ _ _ ?_
     refine AnyT.tD (i:=4) (v:=.agg #[.int .i64 z1,.int .u64 z2]) rfl rfl (by rintro w' ⟨q5,q6⟩;go_simp) hS.2.2.2.2 ?_;go_frame
     refine AnyT.weak (T':=fun j X=>(decide (j<7)=true->X.cell? ⟨s+3,0,none⟩=some (.int .i64 y1)∧X.cell? ⟨s+3,1,none⟩=some (.int .u64 y2)∧X.cell? ⟨s+1,0,none⟩=some (.int .i64 bh)∧X.cell? ⟨s+1,1,none⟩=some (.int .u64 bl)∧X.cell? ⟨s+2,0,none⟩=some (.int .i64 z1)∧X.cell? ⟨s+2,1,none⟩=some (.int .u64 z2))∧(decide (j<8)=true->X.cell? ⟨s+2,0,none⟩=some (.int .i64 z1)∧X.cell? ⟨s+2,1,none⟩=some (.int .u64 z2))) (fun j X h=>h.2) _ _ _ _ ?_
     refine AnyT.takeG (i:=0) (v:=.agg #[.int .i64 y1,.int .u64 y2]) (S:=fun X=>X.cell? ⟨s+3,0,none⟩=some (.int .i64 y1)∧X.cell? ⟨s+3,1,none⟩=some (.int .u64 y2)∧X.cell? ⟨s+1,0,none⟩=some (.int .i64 bh)∧X.cell? ⟨s+1,1,none⟩=some (.int .u64 bl)∧X.cell? ⟨s+2,0,none⟩=some (.int .i64 z1)∧X.cell? ⟨s+2,1,none⟩=some (.int .u64 z2)) (Wf:=fun j=>decide (j<7)) (fun j w' h hj=>h.1 hj) (fun w' h=>⟨fun _=>h,fun _=>h.2.2.2.2⟩) rfl rfl (by kernel_rfl) (by kernel_rfl) (by kernel_rfl) (by first|exact(fun _ _ _ h=>h)|exact(fun _ _ _ h=>absurd h.1 (by simp))) (by kernel_rfl) (by rfl) (by rintro w' ⟨q1,q2,q3,q4,q5,q6⟩;go_simp) hS ?_;go_frame
     refine AnyT.takeG (i:=1) (v:=.agg #[.int .i64 bh,.int .u64 bl]) (S:=fun X=>X.cell? ⟨s+3,0,none⟩=some (.int .i64 y1)∧X.cell? ⟨s+3,1,none⟩=some (.int .u64 y2)∧X.cell? ⟨s+1,0,none⟩=some (.int .i64 bh)∧X.cell? ⟨s+1,1,none⟩=some (.int .u64 bl)∧X.cell? ⟨s+2,0,none⟩=some (.int .i64 z1)∧X.cell? ⟨s+2,1,none⟩=some (.int .u64 z2)) (Wf:=fun j=>decide (j<7)) (fun j w' h hj=>h.1 hj) (fun w' h=>⟨fun _=>h,fun _=>h.2.2.2.2⟩) rfl rfl (by kernel_rfl) (by kernel_rfl) (by kernel_rfl) (by first|exact(fun _ _ _ h=>h)|exact(fun _ _ _ h=>absurd h.1 (by simp))) (by kernel_rfl) (by rfl) (by rintro w' ⟨q1,q2,q3,q4,q5,q6⟩;go_simp) hS ?_;go_frame
     refine AnyT.nx (i:=2) rfl ?_
     go_wp2_with (go_at_call 149;refine(HC1.out _).mono ?_;rintro e w5 ⟨rfl,hb5⟩;refine Stop.of ?_)
     refine Stop.go ?_
     have HB5:=hid (zAA hbd hb5)
     clear hb5 hS
     go_wp2
     refine⟨⟨fun _=>HS.out _ HB5.out,fun _=>(HS.out _ HB5.out).2.2.2.2⟩,?_⟩
     refine AnyT.nx (i:=3) rfl ?_
     go_wp2_with (go_at_call 161;refine(HC2.out _).mono ?_;rintro e w6 ⟨rfl,hb6⟩;refine Stop.of ?_)
     refine Stop.go ?_
     have HB6:=hid (zAA HB5.out hb6)
     clear hb6
     go_wp2
     refine⟨⟨fun _=>HS.out _ HB6.out,fun _=>(HS.out _ HB6.out).2.2.2.2⟩,?_⟩
     refine AnyT.nx (i:=6) rfl ?_
     go_wp2_with (go_at_call 161;refine(HC3.out _).mono ?_;rintro e w7 ⟨rfl,hb7⟩;refine Stop.of ?_)
     refine Stop.go ?_
     have HB7:=hid (zAA HB6.out hb7)
     clear hb7
     have R1:=hid (O1.out.keep (HB7.out.block _ O1.out.lt))
     have R2:=hid (O2.out.keep (HB7.out.block _ O2.out.lt))
     go_wp2
     refine⟨⟨fun _=>HS.out _ HB7.out,fun _=>(HS.out _ HB7.out).2.2.2.2⟩,?_⟩
     obtain⟨v0,v1,v2,v3,v4⟩:=R1.out.cells PY.out
     have V1:=hid (zBW.set R1.out PF.out)
     have V2:=hid (R2.out.other (b:=s+3) (by omega) (.int .i64 f1) (.int .u64 f2))
     refine AnyT.nx (i:=7) rfl ?_
     go_wp2
     clear v0 v1 v2 v3 v4
     obtain⟨g0,g1,g2,g3,g4⟩:=V2.out.cells PZ.out
     refine⟨⟨fun h=>absurd h (by decide),fun _=>⟨g0,g1⟩⟩,?_⟩
     have X2:=hid (zBW.set V2.out PH.out)
     have X1:=hid (V1.out.other (b:=s+2) (by omega) (.int .i64 h1) (.int .u64 h2))
     have KX:=hid (KO.out.trans ((Keep.of_below HB7.out:Keep (fun g=>g≠s+2∧g≠s+3) _ _).trans (((zBT w7 (s+3) (.int .i64 f1) (.int .u64 f2)).mono fun g h=>h.2).trans ((zBT _ (s+2) (.int .i64 h1) (.int .u64 h2)).mono fun g h=>h.1))))
     refine AnyT.nx (i:=8) rfl ?_
     go_wp2
     refine⟨⟨fun h=>absurd h (by decide),fun h=>absurd h (by decide)⟩,?_⟩
     refine AnyT.done (by kernel_rfl) ?_ _
     go_wp2
     obtain⟨n1,n2⟩:=HQN.out.2 (by omega)
     exact⟨⟨j,by omega,rfl,HKP.out.trans KX.out,by rw[n1];exact X2.out,by rw[n2];exact X1.out⟩,by simp[intOf]⟩
  |zero=>
   rw[Int.pow_zero,Int.ediv_one]at hq hr
   have HQ:=hid hq
   have HR:=hid hr
   have HKP:=hid hkp
   obtain⟨q1,q2,pq⟩:=WP.ex (A/B)
   obtain⟨r1,r2,pr⟩:=WP.ex (A%B)
   have PQ:=hid pq
   have PR:=hid pr
   have hm1:((0:Nat):Int)-1= -1:=by decide
   rw[hm1]
   have HVQ:=hid pq.val
   have HVR:=hid pr.val
   clear hq hr hkp pq pr hm1
   go_wp2
   refine zAF (fun j X=>wAll j=true->X.cell? ⟨s+2,0,none⟩=some (.int .i64 q1)∧X.cell? ⟨s+2,1,none⟩=some (.int .u64 q2)∧X.cell? ⟨s+3,0,none⟩=some (.int .i64 r1)∧X.cell? ⟨s+3,1,none⟩=some (.int .u64 r2)) (by kernel_rfl) ?_
   have hbd:Below wr.heap.size wr wr.drew:=(Below.refl _ _).drew
   have G2:=hid (HQ.out.keep (hbd.block _ HQ.out.lt))
   have G3:=hid (HR.out.keep (hbd.block _ HR.out.lt))
   have KD:=hid (HKP.out.trans (Keep.of_below hbd:Keep (fun g=>g≠s+2∧g≠s+3) _ _))
   generalize wr.drew=wd at G2 G3 KD⊢
   obtain⟨a0,a1,a2,a3,a4⟩:=G2.out.cells PQ.out
   obtain⟨b0,b1,b2,b3,b4⟩:=G3.out.cells PR.out
   have hS:wd.cell? ⟨s+2,0,none⟩=some (.int .i64 q1)∧wd.cell? ⟨s+2,1,none⟩=some (.int .u64 q2)∧wd.cell? ⟨s+3,0,none⟩=some (.int .i64 r1)∧wd.cell? ⟨s+3,1,none⟩=some (.int .u64 r2):=⟨a0,a1,b0,b1⟩
   refine AnyT.tD (i:=0) (v:=.agg #[.int .i64 q1,.int .u64 q2]) rfl rfl (by rintro w' ⟨x1,x2,x3,x4⟩;go_simp) hS ?_;go_frame
   refine AnyT.tD (i:=1) (v:=.agg #[.int .i64 r1,.int .u64 r2]) rfl rfl (by rintro w' ⟨x1,x2,x3,x4⟩;go_simp) hS ?_;go_frame
   have M2:=hid (zBW.set G2.out PQ.out)
   have M3:=hid (G3.out.other (b:=s+2) (by omega) (.int .i64 q1) (.int .u64 q2))
   refine AnyT.nx (i:=2) rfl ?_
   go_wp2
   clear a0 a1 a2 a3 a4 b0 b1 b2 b3 b4 hS
   obtain⟨a0,a1,a2,a3,a4⟩:=M2.out.cells PQ.out
   obtain⟨b0,b1,b2,b3,b4⟩:=M3.out.cells PR.out
   refine⟨fun _=>⟨a0,a1,b0,b1⟩,?_⟩
   have N3:=hid (zBW.set M3.out PR.out)
   have N2:=hid (M2.out.other (b:=s+3) (by omega) (.int .i64 r1) (.int .u64 r2))
   have KN:=hid (KD.out.trans (((zBT wd (s+2) (.int .i64 q1) (.int .u64 q2)).mono fun g h=>h.1).trans ((zBT _ (s+3) (.int .i64 r1) (.int .u64 r2)).mono fun g h=>h.2)))
   refine AnyT.nx (i:=3) rfl ?_
   go_wp2
   clear a0 a1 a2 a3 a4 b0 b1 b2 b3 b4
   obtain⟨a0,a1,a2,a3,a4⟩:=N2.out.cells PQ.out
   obtain⟨b0,b1,b2,b3,b4⟩:=N3.out.cells PR.out
   refine⟨fun _=>⟨a0,a1,b0,b1⟩,?_⟩
   refine AnyT.done (by kernel_rfl) ?_ _
   have HFB:=hid (KN.out.below HBZ.out (by have:=HSV.out;omega) (fun k hk=>by have:=HSV.out;omega))
   go_wp2
   change bodyPost _ _ _ _ _ ((((wd.setCell ⟨s+2,0,none⟩ (.int .i64 q1)).setCell ⟨s+2,1,none⟩ (.int .u64 q2)).setCell ⟨s+3,0,none⟩ (.int .i64 r1)).setCell ⟨s+3,1,none⟩ (.int .u64 r2))
   generalize (((wd.setCell ⟨s+2,0,none⟩ (.int .i64 q1)).setCell ⟨s+2,1,none⟩ (.int .u64 q2)).setCell ⟨s+3,0,none⟩ (.int .i64 r1)).setCell ⟨s+3,1,none⟩ (.int .u64 r2)=WF at*
   refine bodyPost_ret (v:=.tuple #[.agg #[.int .i64 q1,.int .u64 q2],.agg #[.int .i64 r1,.int .u64 r2]]) ?_ rfl ⟨by rw[HVQ.out,HVR.out],HFB.out⟩
   simp[results,Tryz.results150,go_sem,a0,a1,a2,a3,a4,b0,b1,b2,b3,b4]
end
end Go.Proofs.YtlffndehhhpgjaaGreat
