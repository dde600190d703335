/- Walks and plain laws for DualSureRow, part 7. -/
import Derived.Deep.CutRange
import Derived.WalkSmall
import Derived.Test.YtlffndehhhpgjaaGreatPkDualSureRow6
namespace Go.Proofs.YtlffndehhhpgjaaGreat
set_option linter.unusedVariables false
set_option linter.unusedSimpArgs false
set_option maxRecDepth 100000
set_option maxHeartbeats 4000000
section
structure Circ (M:List (List Int)) (n:Nat) (c:List Int):Prop where
 len:c.length=n
 ker:zDD M n (vec c)
 prim:Prim (vec c)
 pos:0<zBY c
 least:∀v,zDD M n v->(∀j,j<n->vec c j=0->v j=0)->(∃j,j<n∧v j≠0)->∀j,j<n->vec c j≠0->v j≠0
theorem zGK:∀(l:List Int),zBY l≠0->∃j,j<l.length∧vec l j=zBY l∧∀i,i<j->vec l i=0
 | [],h=>by simp[zBY]at h
 |x::l,h=>by
  by_cases e:x=0
  ·have h1:zBY (x::l)=zBY l:=by show(if x=0 then zBY l else x)=_;rw[if_pos e]
   rw[h1]at h⊢
   obtain⟨j,hj,h2,h3⟩:=zGK l h
   refine⟨j+1,by simp;omega,by rw[<- h2];simp[vec],fun i hi=>?_⟩
   cases i with
   |zero=>simp[vec,e]
   |succ i=>have:=h3 i (by omega);simpa[vec]using this
  ·have h1:zBY (x::l)=x:=by show(if x=0 then zBY l else x)=_;rw[if_neg e]
   rw[h1]
   exact⟨0,by simp,by simp[vec],fun i hi=>by omega⟩
theorem zMG:∀(l:List Int) (j:Nat),vec l j≠0->(∀i,i<j->vec l i=0)->zBY l=vec l j
 | [],j,h,_=>by simp[vec]at h
 |x::l,0,h,_=>by
  have hx:x≠0:=by simpa[vec]using h
  show(if x=0 then zBY l else x)=_
  rw[if_neg hx];simp[vec]
 |x::l,j+1,h,h0=>by
  have hx:x=0:=by have:=h0 0 (by omega);simpa[vec]using this
  show(if x=0 then zBY l else x)=_
  rw[if_pos hx,zMG l j (by simpa[vec]using h) (fun i hi=>by have:=h0 (i+1) (by omega);simpa[vec]using this)]
  simp[vec]
theorem vec_ext{l m:List Int}(hl:l.length=m.length)(h:∀j,vec l j=vec m j):l=m:=
 List.ext_getElem hl fun j h1 h2=>by have:=h j;rwa [zCS h1,zCS h2]at this
theorem zDD.lin{M:List (List Int)}{n:Nat}{u v:Vec}(hu:zDD M n u)(hv:zDD M n v)(x y:Int):zDD M n (fun c=>x*u c+y*v c):=by
 intro q hq
 have h1:=hu q hq
 have h2:=hv q hq
 unfold dotS at*
 rw[zAG (g:=fun c=>x*(rowv M q c*u c)+y*(rowv M q c*v c)) (fun c _=>by grind),zEN,zCC,zCC,h1,h2];simp
theorem Circ.one{M:List (List Int)}{n:Nat}{c d:List Int}(hc:Circ M n c)(hd:Circ M n d)(hs:∀j,j<n->vec c j=0->vec d j=0):c=d:=by
 obtain⟨j0,hj0,e0,z0⟩:=zGK d (by have:=hd.pos;omega)
 rw[hd.len]at hj0
 have hd0:vec d j0≠0:=by have:=hd.pos;omega
 have hcd:=hc.least _ hd.ker hs ⟨j0,hj0,hd0⟩
 -- same support
 have hc0:vec c j0≠0:=fun e=>hd0 (hs j0 hj0 e)
 have zc:∀i,i<j0->vec c i=0:=fun i hi=>Classical.byContradiction fun h=>hcd i (by omega) h (z0 i hi)
 have ec:=zMG c j0 hc0 zc
 have hk:∀j,vec d j0*vec c j=vec c j0*vec d j:=by
  intro j
  rcases Nat.lt_or_ge j n with hj|hj
  ·refine Classical.byContradiction fun hne=>?_
   have hv:=hc.ker.lin hd.ker (vec d j0) (-(vec c j0))
   have:=hc.least _ hv (fun i hi h=>by rw[h,hs i hi h];simp) ⟨j,hj,fun h=>hne (by rw[Int.neg_mul]at h;omega)⟩ j0 hj0 hc0
   refine this ?_
   rw[Int.neg_mul,Int.mul_comm];omega
  ·rw[zGO (l:=c) (c:=j) (by rw[hc.len];exact hj),zGO (l:=d) (c:=j) (by rw[hd.len];exact hj)];simp
 refine vec_ext (by rw[hc.len,hd.len]) fun j=>prim_eq (x:=vec d j0) (y:=vec c j0) ?_ ?_ hk hc.prim hd.prim j
 ·have:=hd.pos;omega
 ·have:=hc.pos;omega
theorem zJA{M:List (List Int)}{n:Nat}(h:MaskOk M n){S c:List Int}(hS:zCE n S)(hne:S≠[])(hc:zFN M n S=some c):Circ M n c:=by
 obtain⟨f1,f2,_,f4,f5⟩:=zML h hS hne hc
 refine⟨f1,f2,f4,f5,fun v hv h0 hn j hj hcj=>?_⟩
 refine circ_least h hS hc hv (fun i hi hm=>h0 i hi ?_) hn j ((zIE h hS hc j).1 hcj)
 exact Classical.byContradiction fun e=>hm ((zIE h hS hc i).1 e)
theorem comb_nodup0{n:Nat}{S:List Int}(hS:zCE n S):S.length<=n:=by
 rcases Nat.lt_or_ge n S.length with h|h
 ·have h1:=zIC n 0 S hS.1 (fun y hy=>by have:=hS.2 y hy;omega)
  rw[zGE n S.length 0 h]at h1
  simp at h1
 ·exact h
theorem circP_iff{M:List (List Int)}{n:Nat}(h:MaskOk M n){c:List Int}:c∈circP M n↔Circ M n c:=by
 rw[circP_mem]
 constructor
 ·rintro⟨k,S,hk,hS,hc⟩
  have hl:=zCW _ _ _ S hS
  exact zJA h (comb_ok hS) (fun e=>by rw[e]at hl;simp at hl) hc
 ·intro hc
  obtain⟨j0,hj0,e0,_⟩:=zGK c (by have:=hc.pos;omega)
  rw[hc.len]at hj0
  obtain⟨S,d,hS,_,hne,hsub,hd⟩:=zLJ h _ (vec c) rfl hc.ker ⟨j0,hj0,by have:=hc.pos;omega⟩
  have hD:=zJA h hS hne hd
  have e:=hc.one hD (fun j hj hz=>Classical.byContradiction fun hn=>by
   have:=hsub _ ((zIE h hS hd j).1 hn)
   exact(zBL.1 this).2 hz)
  subst e
  obtain⟨k,hk⟩:∃k,S.length=k+1:=⟨S.length-1,by have:=List.length_pos_iff.2 hne;omega⟩
  have h1:¬zEU M n+1<S.length:=fun hlt=>by rw[circ1_many h hlt]at hd;cases hd
  have h2:S.length<=n:=by
   have:=(comb_nodup0 hS)
   exact this
  have h3:=zIC n 0 S hS.1 (fun y hy=>by have:=hS.2 y hy;omega)
  rw[hk]at h3
  exact⟨k,S,by omega,h3,hd⟩
theorem zGM:∀(m k:Nat) (a:Int),(comb m k a).Nodup
 |_,0,_=>by unfold comb;simp
 |0,_+1,_=>by unfold comb;simp
 |m+1,k+1,a=>by
  unfold comb
  rw[List.nodup_append]
  refine⟨?_,zGM m (k+1) (a+1),?_⟩
  ·unfold List.Nodup
   rw[List.pairwise_map]
   exact(zGM m k (a+1)).imp fun h e=>h (by simpa using e)
  ·rintro x hx y hy rfl
   obtain⟨z,_,rfl⟩:=List.mem_map.1 hx
   have:=(zID _ _ _ _ hy).2 a (by simp)
   omega
structure Perm2 (n:Nat) (s t:Nat->Nat):Prop where
 s_lt:∀i,i<n->s i<n
 t_lt:∀i,i<n->t i<n
 st:∀i,i<n->s (t i)=i
 ts:∀i,i<n->t (s i)=i
theorem Perm2.symm{n:Nat}{s t:Nat->Nat}(h:Perm2 n s t):Perm2 n t s:=⟨h.t_lt,h.s_lt,h.ts,h.st⟩
end
section
def SolM(M:List (List Int))(n:Nat)(y:List Int)(l:Nat->Int)(D:Int):Prop:=0<D∧∀q,q<M.length->sm (fun i=>rowv M q i*l i) n=vec y q*D
theorem zKV{P:Nat->Prop}{a b:Nat->Int}(ha:∀j,P j->0<=a j)(hb:∀j,P j->0<b j):∀n:Nat,(∃j,j<n∧P j)->∃p,p<n∧P p∧∀j,j<n->P j->a p*b j<=a j*b p
 |0,h=>by obtain⟨j,hj,_⟩:=h;omega
 |n+1,h=>by
  by_cases hn:∃j,j<n∧P j
  ·obtain⟨p,hp,hP,hmin⟩:=zKV ha hb n hn
   by_cases hPn:P n∧a n*b p<a p*b n
   ·refine⟨n,by omega,hPn.1,fun j hj hPj=>?_⟩
    rcases Nat.lt_or_ge j n with c|c
    ·have h1:=hmin j c hPj
     -- a n/b n<a p/b p<=a j/b j
     have hbp:=hb p hP
     have hbj:=hb j hPj
     have hbn:=hb n hPn.1
     have h2:a n*b j*b p<=a j*b n*b p:=by
      have e1:a n*b p*b j<=a p*b n*b j:=Int.mul_le_mul_of_nonneg_right (by omega) (by omega)
      have e2:a p*b j*b n<=a j*b p*b n:=Int.mul_le_mul_of_nonneg_right h1 (by omega)
      have e3:a n*b j*b p=a n*b p*b j:=by grind
      have e4:a p*b n*b j=a p*b j*b n:=by grind
      have e5:a j*b n*b p=a j*b p*b n:=by grind
      omega
     exact Int.le_of_mul_le_mul_right h2 hbp
    ·have:j=n:=by omega
     subst this;exact Int.le_refl _
   ·refine⟨p,by omega,hP,fun j hj hPj=>?_⟩
    rcases Nat.lt_or_ge j n with c|c
    ·exact hmin j c hPj
    ·have:j=n:=by omega
     subst this
     rcases Int.lt_or_le (a j*b p) (a p*b j)with h1|h1
     ·exact absurd ⟨hPj,h1⟩ hPn
     ·exact h1
  ·obtain⟨j,hj,hPj⟩:=h
   have:j=n:=by
    rcases Nat.lt_or_ge j n with c|c
    ·exact absurd ⟨j,c,hPj⟩ hn
    ·omega
   subst this
   exact⟨j,by omega,hPj,fun i hi hPi=>by
    rcases Nat.lt_or_ge i j with c|c
    ·exact absurd ⟨i,c,hPi⟩ hn
    ·have:i=j:=by omega
     subst this;exact Int.le_refl _⟩
theorem sm_nonpos{f:Nat->Int}:∀n:Nat,(∀j,j<n->f j<=0)->sm f n<=0
 |0,_=>Int.le_refl _
 |n+1,h=>by
  have:=sm_nonpos n (fun j hj=>h j (by omega))
  have:=h n (by omega)
  show sm f n+f n<=0
  omega
theorem zDP{f g:Nat->Int}:∀n:Nat,(∀j,j<n->f j<=g j)->sm f n<=sm g n
 |0,_=>Int.le_refl _
 |n+1,h=>by
  have h1:=zDP n (fun j hj=>h j (by omega))
  have h2:=h n (by omega)
  show sm f n+f n<=sm g n+g n
  omega
theorem dep_circ{M:List (List Int)}{n:Nat}(hM:MaskOk M n){S:List Int}(hS:zCE n S)(hne:zEU (zAW M S) S.length≠S.length):∃c,c∈circP M n∧c.length=n∧zDD M n (vec c)∧(∀j:Nat,vec c j≠0->(j:Int)∈S)∧∃j,j<n∧vec c j≠0:=by
 have hrk:=(hM.cols S).rank_ker
 have hkl:0<(zHU M S).length:=by
  show 0<(zLA (RP (zAW M S) S.length) (JP (zAW M S) S.length) S.length).length
  omega
 have hm:(zHU M S)[0]∈zHU M S:=List.getElem_mem _
 obtain⟨u,hu⟩:=exq ((zHU M S)[0])
 rw[<- hu]at hm
 obtain⟨k1,k2,k3,f,hf,k4⟩:=(hM.cols S).kern hm
 have hv:=(zEZ (M:=M) hS).2 k1
 obtain⟨v,hve⟩:=exq (vec (zAP n S u S.length))
 have hnz:∃j,j<n∧v j≠0:=by
  have hf2:=hS.2 S[f] (List.getElem_mem hf)
  refine⟨(S[f]).toNat,by omega,?_⟩
  rw[hve]
  exact(zFS hS k2).2 ⟨f,hf,by omega,by omega⟩
 rw[<- hve]at hv
 obtain⟨T,c,hT,hTl,hTne,hSub,hcc⟩:=zLJ hM (zAT n v).length v rfl hv hnz
 have hC:=zJA hM hT hTne hcc
 obtain⟨f1,f2,_,f4,f5⟩:=zML hM hT hTne hcc
 refine⟨c,(circP_iff hM).2 hC,f1,f2,fun j hj=>?_,?_⟩
 ·have h1:=hSub _ ((zIE hM hT hcc j).1 hj)
  have h2:=(zBL.1 h1).2
  rw[hve]at h2
  obtain⟨i,hi,e,_⟩:=(zFS hS k2).1 h2
  rw[<- e];exact List.getElem_mem hi
 ·obtain⟨j0,hj0,e0,_⟩:=zGK c (by omega)
  exact⟨j0,by omega,by omega⟩
def CostB(M:List (List Int))(n:Nat)(l w:Nat->Int):Prop:=
 ∀c,c∈circP M n->∀e:Int,(e=1∨e= -1)->(∀j,j<n->vec c j≠0->l j≠0)->(∀j,j<n->l j*(e*vec c j)<=0)->sm (fun j=>w j*(e*vec c j)) n<=0
theorem lp_reduce{M:List (List Int)}{n:Nat}(hM:MaskOk M n){y:List Int}(w:Nat->Int):∀(s:Nat) (l:Nat->Int) (D:Int),(zAT n l).length=s->SolM M n y l D->CostB M n l w->
 ∃(k:Nat->Int) (E:Int),SolM M n y k E∧zEU (zAW M (zAT n k)) (zAT n k).length=(zAT n k).length∧(∀j,j<n->k j≠0->0<k j*l j)∧sm (fun j=>w j*k j) n*D<=sm (fun j=>w j*l j) n*E:=by
 intro s
 induction s using Nat.strongRecOn with
 |ind s ih=>
  intro l D hs hl hw
  by_cases hr:zEU (zAW M (zAT n l)) (zAT n l).length=(zAT n l).length
  ·refine⟨l,D,hl,hr,fun j hj h=>?_,Int.le_refl _⟩
   rcases Int.lt_or_gt_of_ne h with c|c
   ·exact Int.mul_pos_of_neg_of_neg c c
   ·exact Int.mul_pos c c
  ·obtain⟨c,hc,hcl,hck,hcs,hcn⟩:=dep_circ hM (zDE n l) hr
   have hsub:∀j,j<n->vec c j≠0->l j≠0:=fun j hj h=>(zBL.1 (hcs j h)).2
   -- the direction:the cost does not grow,and some number becomes less
   have hdir:∃e:Int,(e=1∨e= -1)∧0<=sm (fun j=>w j*(e*vec c j)) n∧∃j,j<n∧0<l j*(e*vec c j):=by
    have hneg:∀e:Int,sm (fun j=>w j*(-e*vec c j)) n= -sm (fun j=>w j*(e*vec c j)) n:=fun e=>by
     have:=zCC (-1) (fun j=>w j*(e*vec c j)) n
     rw[<- zAG (f:=fun j=> -1*(w j*(e*vec c j))) (g:=fun j=>w j*(-e*vec c j)) (fun j _=>by grind),this]
     omega
    have hex:∀e:Int,(e=1∨e= -1)->¬(∃j,j<n∧0<l j*(e*vec c j))->∀j,j<n->l j*(e*vec c j)<=0:=fun e _ h j hj=>by
     rcases Int.lt_or_le 0 (l j*(e*vec c j))with c1|c1
     ·exact absurd ⟨j,hj,c1⟩ h
     ·exact c1
    rcases Int.lt_trichotomy 0 (sm (fun j=>w j*(1*vec c j)) n)with c1|c1|c1
    ·by_cases h:∃j,j<n∧0<l j*(1*vec c j)
     ·exact⟨1,.inl rfl,by omega,h⟩
     ·have:=hw c hc 1 (.inl rfl) hsub (hex 1 (.inl rfl) h)
      omega
    ·obtain⟨j,hj,hcj⟩:=hcn
     have hlj:=hsub j hj hcj
     rcases Int.lt_or_gt_of_ne (Int.mul_ne_zero hlj hcj)with c2|c2
     ·refine⟨-1,.inr rfl,by rw[hneg 1];omega,j,hj,?_⟩
      have:l j*(-1*vec c j)= -(l j*vec c j):=by grind
      omega
     ·refine⟨1,.inl rfl,by omega,j,hj,?_⟩
      have:l j*(1*vec c j)=l j*vec c j:=by grind
      omega
    ·by_cases h:∃j,j<n∧0<l j*(-1*vec c j)
     ·exact⟨-1,.inr rfl,by rw[hneg 1];omega,h⟩
     ·have:=hw c hc (-1) (.inr rfl) hsub (hex (-1) (.inr rfl) h)
      rw[hneg 1]at this
      omega
   obtain⟨e,he,hσ,hpos⟩:=hdir
   have hen:e≠0:=by rcases he with h|h<;>omega
   obtain⟨h,hh⟩:∃h:Nat->Int,h=fun j=>e*vec c j:=⟨_,rfl⟩
   have hhk:∀q,q<M.length->sm (fun i=>rowv M q i*h i) n=0:=fun q hq=>by
    have:=hck q hq
    unfold dotS at this
    rw[zAG (g:=fun i=>e*(rowv M q i*vec c i)) (fun i _=>by rw[hh];grind),zCC,this]
    simp
   have hhs:∀j,j<n->h j≠0->l j≠0:=fun j hj hz=>hsub j hj fun hz2=>hz (by rw[hh];simp[hz2])
   have hσ':0<=sm (fun j=>w j*h j) n:=by rw[hh];exact hσ
   have hpos':∃j,j<n∧0<l j*h j:=by rw[hh];exact hpos
   clear hσ hpos
   -- the least ratio
   obtain⟨p,hp,hPp,hmin⟩:=zKV (P:=fun j=>0<l j*h j) (a:=fun j=>((l j).natAbs:Int)) (b:=fun j=>((h j).natAbs:Int)) (fun j _=>by omega) (fun j hj=>by
    have:h j≠0:=fun hz=>by rw[hz]at hj;simp at hj
    omega) n hpos'
   have hhp:h p≠0:=fun hz=>by rw[hz]at hPp;simp at hPp
   have hlp:l p≠0:=fun hz=>by rw[hz]at hPp;simp at hPp
   obtain⟨A,hA⟩:∃A:Int,A=((h p).natAbs:Int):=⟨_,rfl⟩
   obtain⟨B,hB⟩:∃B:Int,B=((l p).natAbs:Int):=⟨_,rfl⟩
   have hA0:0<A:=by omega
   have hB0:0<B:=by omega
   obtain⟨k,hk⟩:∃k:Nat->Int,k=fun j=>A*l j-B*h j:=⟨_,rfl⟩
   have hkp:k p=0:=by
    rw[hk,hA,hB]
    show((h p).natAbs:Int)*l p-((l p).natAbs:Int)*h p=0
    rcases Int.lt_or_gt_of_ne hhp with c1|c1
    ·have c2:l p<0:=by
      rcases Int.lt_or_gt_of_ne hlp with c2|c2
      ·exact c2
      ·have:=Int.mul_neg_of_pos_of_neg c2 c1;omega
     have e1:((h p).natAbs:Int)= -h p:=by omega
     have e2:((l p).natAbs:Int)= -l p:=by omega
     rw[e1,e2];grind
    ·have c2:0<l p:=by
      rcases Int.lt_or_gt_of_ne hlp with c2|c2
      ·have:=Int.mul_neg_of_neg_of_pos c2 c1;omega
      ·exact c2
     have e1:((h p).natAbs:Int)=h p:=by omega
     have e2:((l p).natAbs:Int)=l p:=by omega
     rw[e1,e2];grind
   have hkl0:∀j,j<n->k j≠0->l j≠0:=fun j hj hz hz2=>by
    apply hz
    have h0:h j=0:=Classical.byContradiction fun h1=>hhs j hj h1 hz2
    rw[hk];show A*l j-B*h j=0
    rw[hz2,h0];simp
   have hks:∀j,j<n->0<=k j*l j:=fun j hj=>by
    rw[hk]
    show 0<=(A*l j-B*h j)*l j
    have e1:(A*l j-B*h j)*l j=A*(l j*l j)-B*(l j*h j):=by grind
    rw[e1]
    have e2:0<=A*(l j*l j):=Int.mul_nonneg (by omega) (by
     rcases Int.lt_or_le (l j) 0 with c1|c1
     ·exact Int.le_of_lt (Int.mul_pos_of_neg_of_neg c1 c1)
     ·exact Int.mul_nonneg c1 c1)
    rcases Int.lt_or_le 0 (l j*h j)with c1|c1
    ·have h1:((l p).natAbs:Int)*((h j).natAbs:Int)<=((l j).natAbs:Int)*((h p).natAbs:Int):=hmin j hj c1
     rw[<- hA,<- hB]at h1
     -- B* |h j| <= |l j| *A,times|l j|
     have h2:B*((h j).natAbs:Int)*((l j).natAbs:Int)<=((l j).natAbs:Int)*A*((l j).natAbs:Int):=Int.mul_le_mul_of_nonneg_right h1 (by omega)
     have h3:((l j).natAbs:Int)*((l j).natAbs:Int)=l j*l j:=by rw[<- Int.natCast_mul,<- Int.natAbs_mul,Int.natAbs_of_nonneg];exact(by
      rcases Int.lt_or_le (l j) 0 with c1|c1
      ·exact Int.le_of_lt (Int.mul_pos_of_neg_of_neg c1 c1)
      ·exact Int.mul_nonneg c1 c1)
     have h4:((h j).natAbs:Int)*((l j).natAbs:Int)=l j*h j:=by rw[Int.mul_comm,<- Int.natCast_mul,<- Int.natAbs_mul,Int.natAbs_of_nonneg (by omega)]
     have h5:B*((h j).natAbs:Int)*((l j).natAbs:Int)=B*(l j*h j):=by rw[Int.mul_assoc,h4]
     have h6:((l j).natAbs:Int)*A*((l j).natAbs:Int)=A*(l j*l j):=by rw[<- h3];grind
     omega
    ·have:B*(l j*h j)<=0:=Int.mul_nonpos_of_nonneg_of_nonpos (by omega) c1
     omega
   have hsol:SolM M n y k (D*A):=by
    refine⟨Int.mul_pos hl.1 hA0,fun q hq=>?_⟩
    have e1:=hl.2 q hq
    have e2:=hhk q hq
    rw[zAG (g:=fun i=>A*(rowv M q i*l i)+(-B)*(rowv M q i*h i)) (fun i _=>by rw[hk];grind),zEN,zCC,zCC,e1,e2]
    grind
   have hlt:(zAT n k).length<s:=by
    rw[<- hs]
    have hn1:(zAT n k).Nodup:=(zDE n k).1.imp (fun h=>by omega)
    have hpm:(p:Int)∈zAT n l:=zBL.2 ⟨hp,hlp⟩
    have hpn:(p:Int)∉zAT n k:=fun hm=>(zBL.1 hm).2 hkp
    have:=zHR (l:=(p:Int)::zAT n k) (m:=zAT n l) (List.nodup_cons.2 ⟨hpn,hn1⟩) (fun x hx=>by
     rcases List.mem_cons.1 hx with rfl|hx
     ·exact hpm
     ·have hb:=(zDE n k).2 x hx
      obtain⟨j,rfl⟩:∃j:Nat,x=(j:Int):=⟨x.toNat,by omega⟩
      obtain⟨h1,h2⟩:=zBL.1 hx
      exact zBL.2 ⟨h1,hkl0 j h1 h2⟩)
    simp at this
    omega
   have hw':CostB M n k w:=fun d hd f hf hdl hdn=>by
    refine hw d hd f hf (fun j hj hz=>hkl0 j hj (hdl j hj hz)) (fun j hj=>?_)
    by_cases hz:vec d j=0
    ·rw[hz];simp
    ·have hkj:=hdl j hj hz
     have h1:=hdn j hj
     have h2:=hks j hj
     have hlj:=hkl0 j hj hkj
     -- k and l have one sign
     rcases Int.lt_or_gt_of_ne hkj with c1|c1
     ·have c2:l j<0:=by
       rcases Int.lt_or_gt_of_ne hlj with c2|c2
       ·exact c2
       ·have:=Int.mul_neg_of_neg_of_pos c1 c2;omega
      have c3:0<=f*vec d j:=by
       rcases Int.lt_or_le (f*vec d j) 0 with c3|c3
       ·have:=Int.mul_pos_of_neg_of_neg c1 c3;omega
       ·exact c3
      exact Int.mul_nonpos_of_nonpos_of_nonneg (by omega) c3
     ·have c2:0<l j:=by
       rcases Int.lt_or_gt_of_ne hlj with c2|c2
       ·have:=Int.mul_neg_of_pos_of_neg c1 c2;omega
       ·exact c2
      have c3:f*vec d j<=0:=by
       rcases Int.lt_or_le 0 (f*vec d j)with c3|c3
       ·have:=Int.mul_pos c1 c3;omega
       ·exact c3
      exact Int.mul_nonpos_of_nonneg_of_nonpos (by omega) c3
   obtain⟨z,E,hz1,hz2,hz3,hz4⟩:=ih _ hlt k (D*A) rfl hsol hw'
   refine⟨z,E,hz1,hz2,fun j hj hzj=>?_,?_⟩
   ·have h1:=hz3 j hj hzj
    have hkj:k j≠0:=fun e0=>by rw[e0]at h1;simp at h1
    have h2:=hks j hj
    have hlj:=hkl0 j hj hkj
    rcases Int.lt_or_gt_of_ne hkj with c1|c1
    ·have c2:l j<0:=by
      rcases Int.lt_or_gt_of_ne hlj with c2|c2
      ·exact c2
      ·have:=Int.mul_neg_of_neg_of_pos c1 c2;omega
     have c3:z j<0:=by
      rcases Int.lt_or_le (z j) 0 with c3|c3
      ·exact c3
      ·have:=Int.mul_nonpos_of_nonneg_of_nonpos c3 (show k j<=0 by omega);omega
     exact Int.mul_pos_of_neg_of_neg c3 c2
    ·have c2:0<l j:=by
      rcases Int.lt_or_gt_of_ne hlj with c2|c2
      ·have:=Int.mul_neg_of_pos_of_neg c1 c2;omega
      ·exact c2
     have c3:0<z j:=by
      rcases Int.lt_or_le 0 (z j)with c3|c3
      ·exact c3
      ·have:=Int.mul_nonpos_of_nonpos_of_nonneg c3 (show 0<=k j by omega);omega
     exact Int.mul_pos c3 c2
   ·-- the cost
    have hcost:sm (fun j=>w j*k j) n=A*sm (fun j=>w j*l j) n-B*sm (fun j=>w j*h j) n:=by
     rw[zAG (g:=fun j=>A*(w j*l j)+(-B)*(w j*h j)) (fun i _=>by rw[hk];grind),zEN,zCC,zCC]
     have: -B*sm (fun j=>w j*h j) n= -(B*sm (fun j=>w j*h j) n):=by grind
     omega
    have hBσ:0<=B*sm (fun j=>w j*h j) n:=Int.mul_nonneg (by omega) hσ'
    have hE:=hz1.1
    have h1:sm (fun j=>w j*k j) n*E<=A*sm (fun j=>w j*l j) n*E:=Int.mul_le_mul_of_nonneg_right (by omega) (by omega)
    have h2:sm (fun j=>w j*z j) n*D*A<=sm (fun j=>w j*l j) n*E*A:=by
     have e1:sm (fun j=>w j*z j) n*D*A=sm (fun j=>w j*z j) n*(D*A):=by grind
     have e2:sm (fun j=>w j*l j) n*E*A=A*sm (fun j=>w j*l j) n*E:=by grind
     omega
    exact Int.le_of_mul_le_mul_right h2 hA0
end
section
theorem ratio_step{n:Nat}{l h:Nat->Int}(hpos:∃j,j<n∧0<l j*h j):
 ∃(A B:Int) (p:Nat),0<A∧0<B∧p<n∧l p≠0∧0<l p*h p∧A*l p-B*h p=0∧∀j,j<n->0<=(A*l j-B*h j)*l j:=by
 obtain⟨p,hp,hPp,hmin⟩:=zKV (P:=fun j=>0<l j*h j) (a:=fun j=>((l j).natAbs:Int)) (b:=fun j=>((h j).natAbs:Int)) (fun j _=>by omega) (fun j hj=>by
  have:h j≠0:=fun hz=>by rw[hz]at hj;simp at hj
  omega) n hpos
 have hhp:h p≠0:=fun hz=>by rw[hz]at hPp;simp at hPp
 have hlp:l p≠0:=fun hz=>by rw[hz]at hPp;simp at hPp
 obtain⟨A,hA⟩:∃A:Int,A=((h p).natAbs:Int):=⟨_,rfl⟩
 obtain⟨B,hB⟩:∃B:Int,B=((l p).natAbs:Int):=⟨_,rfl⟩
 have hA0:0<A:=by omega
 have hB0:0<B:=by omega
 have hkp:A*l p-B*h p=0:=by
  rw[hA,hB]
  rcases Int.lt_or_gt_of_ne hhp with c1|c1
  ·have c2:l p<0:=by
    rcases Int.lt_or_gt_of_ne hlp with c2|c2
    ·exact c2
    ·have:=Int.mul_neg_of_pos_of_neg c2 c1;omega
   have e1:((h p).natAbs:Int)= -h p:=by omega
   have e2:((l p).natAbs:Int)= -l p:=by omega
   rw[e1,e2];grind
  ·have c2:0<l p:=by
    rcases Int.lt_or_gt_of_ne hlp with c2|c2
    ·have:=Int.mul_neg_of_neg_of_pos c2 c1;omega
    ·exact c2
   have e1:((h p).natAbs:Int)=h p:=by omega
   have e2:((l p).natAbs:Int)=l p:=by omega
   rw[e1,e2];grind
 refine⟨A,B,p,hA0,hB0,hp,hlp,hPp,hkp,fun j hj=>?_⟩
 have e1:(A*l j-B*h j)*l j=A*(l j*l j)-B*(l j*h j):=by grind
 rw[e1]
 have sq:0<=l j*l j:=by
  rcases Int.lt_or_le (l j) 0 with c1|c1
  ·exact Int.le_of_lt (Int.mul_pos_of_neg_of_neg c1 c1)
  ·exact Int.mul_nonneg c1 c1
 have e2:0<=A*(l j*l j):=Int.mul_nonneg (by omega) sq
 rcases Int.lt_or_le 0 (l j*h j)with c1|c1
 ·have h1:((l p).natAbs:Int)*((h j).natAbs:Int)<=((l j).natAbs:Int)*((h p).natAbs:Int):=hmin j hj c1
  rw[<- hA,<- hB]at h1
  have h2:B*((h j).natAbs:Int)*((l j).natAbs:Int)<=((l j).natAbs:Int)*A*((l j).natAbs:Int):=Int.mul_le_mul_of_nonneg_right h1 (by omega)
  have h3:((l j).natAbs:Int)*((l j).natAbs:Int)=l j*l j:=by rw[<- Int.natCast_mul,<- Int.natAbs_mul,Int.natAbs_of_nonneg sq]
  have h4:((h j).natAbs:Int)*((l j).natAbs:Int)=l j*h j:=by rw[Int.mul_comm,<- Int.natCast_mul,<- Int.natAbs_mul,Int.natAbs_of_nonneg (by omega)]
  have h5:B*((h j).natAbs:Int)*((l j).natAbs:Int)=B*(l j*h j):=by rw[Int.mul_assoc,h4]
  have h6:((l j).natAbs:Int)*A*((l j).natAbs:Int)=A*(l j*l j):=by rw[<- h3];grind
  omega
 ·have:B*(l j*h j)<=0:=Int.mul_nonpos_of_nonneg_of_nonpos (by omega) c1
  omega
structure Space (n:Nat) (V:(Nat->Int)->Prop):Prop where
 lin:∀(u v:Nat->Int) (a b:Int),V u->V v->V (fun j=>a*u j+b*v j)
 ext:∀(u v:Nat->Int),V u->(∀j,j<n->u j=v j)->V v
def NzV(n:Nat)(v:Nat->Int):Prop:=∃j,j<n∧v j≠0
def SubV(n:Nat)(u v:Nat->Int):Prop:=∀j,j<n->u j≠0->v j≠0
def Conf(n:Nat)(u v:Nat->Int):Prop:=∀j,j<n->u j≠0->0<u j*v j
def ElemV(n:Nat)(V:(Nat->Int)->Prop)(u:Nat->Int):Prop:=V u∧NzV n u∧∀h,V h->NzV n h->SubV n h u->SubV n u h
theorem zNG{a b c:Int}(h1:0<a*b)(h2:0<b*c):0<a*c:=by
 have hb:b≠0:=fun e=>by rw[e]at h1;simp at h1
 rcases Int.lt_or_gt_of_ne hb with k|k
 ·have ha:a<0:=by
   rcases Int.lt_or_le a 0 with x|x
   ·exact x
   ·have:=Int.mul_nonpos_of_nonneg_of_nonpos x (Int.le_of_lt k);omega
  have hc:c<0:=by
   rcases Int.lt_or_le c 0 with x|x
   ·exact x
   ·have:=Int.mul_nonpos_of_nonpos_of_nonneg (Int.le_of_lt k) x;omega
  exact Int.mul_pos_of_neg_of_neg ha hc
 ·have ha:0<a:=by
   rcases Int.lt_or_le 0 a with x|x
   ·exact x
   ·have:=Int.mul_nonpos_of_nonpos_of_nonneg x (Int.le_of_lt k);omega
  have hc:0<c:=by
   rcases Int.lt_or_le 0 c with x|x
   ·exact x
   ·have:=Int.mul_nonpos_of_nonneg_of_nonpos (Int.le_of_lt k) x;omega
  exact Int.mul_pos ha hc
theorem Conf.trans{n:Nat}{u k v:Nat->Int}(h1:Conf n u k)(h2:Conf n k v):Conf n u v:=fun j hj hu=>by
 have a:=h1 j hj hu
 have hk:k j≠0:=fun e=>by rw[e]at a;simp at a
 exact zNG a (h2 j hj hk)
theorem Conf.sub{n:Nat}{u v:Nat->Int}(h:Conf n u v):SubV n u v:=fun j hj hu e=>by
 have:=h j hj hu
 rw[e]at this;simp at this
theorem sq_pos'{a:Int}(h:a≠0):0<a*a:=by
 rcases Int.lt_or_gt_of_ne h with k|k
 ·exact Int.mul_pos_of_neg_of_neg k k
 ·exact Int.mul_pos k k
theorem Conf.self(n:Nat)(v:Nat->Int):Conf n v v:=fun j _ h=>sq_pos' h
theorem supp_less{n:Nat}{k v:Nat->Int}{p:Nat}(h:SubV n k v)(hp:p<n)(hv:v p≠0)(hk:k p=0):(zAT n k).length<(zAT n v).length:=by
 have hn1:(zAT n k).Nodup:=(zDE n k).1.imp (fun h=>by omega)
 have hpm:(p:Int)∈zAT n v:=zBL.2 ⟨hp,hv⟩
 have hpn:(p:Int)∉zAT n k:=fun hm=>(zBL.1 hm).2 hk
 have:=zHR (l:=(p:Int)::zAT n k) (m:=zAT n v) (List.nodup_cons.2 ⟨hpn,hn1⟩) (fun x hx=>by
  rcases List.mem_cons.1 hx with rfl|hx
  ·exact hpm
  ·have hb:=(zDE n k).2 x hx
   obtain⟨j,rfl⟩:∃j:Nat,x=(j:Int):=⟨x.toNat,by omega⟩
   obtain⟨h1,h2⟩:=zBL.1 hx
   exact zBL.2 ⟨h1,h j h1 h2⟩)
 simp at this
 omega
theorem Space.step{n:Nat}{V:(Nat->Int)->Prop}(hV:Space n V){v h:Nat->Int}(hv:V v)(hh:V h)(hs:SubV n h v)(hpos:∃j,j<n∧0<v j*h j):
 ∃(A B:Int) (k:Nat->Int),0<A∧0<B∧V k∧(∀j,k j=A*v j-B*h j)∧Conf n k v∧(zAT n k).length<(zAT n v).length:=by
 obtain⟨A,B,p,hA,hB,hp,hvp,_,hz,hc⟩:=ratio_step hpos
 have hsub:SubV n (fun j=>A*v j-B*h j) v:=fun j hj hk e=>by
  have h0:h j=0:=Classical.byContradiction fun h1=>hs j hj h1 e
  apply hk;simp[e,h0]
 refine⟨A,B,fun j=>A*v j-B*h j,hA,hB,?_,fun _=>rfl,fun j hj hk=>?_,supp_less hsub hp hvp hz⟩
 ·refine hV.ext _ _ (hV.lin v h A (-B) hv hh) fun j _=>?_
  show A*v j+ -B*h j=A*v j-B*h j
  rw[Int.neg_mul];omega
 ·have h1:=hc j hj
  have h2:=hsub j hj hk
  rcases Int.lt_or_gt_of_ne (Int.mul_ne_zero hk h2)with c|c
  ·have c':(A*v j-B*h j)*v j<0:=c
   omega
  ·exact c
theorem Space.conf{n:Nat}{V:(Nat->Int)->Prop}(hV:Space n V):∀(s:Nat) (v:Nat->Int),(zAT n v).length=s->V v->NzV n v->∃u,ElemV n V u∧Conf n u v:=by
 intro s
 induction s using Nat.strongRecOn with
 |ind s ih=>
  intro v hs hv hz
  by_cases he:ElemV n V v
  ·exact⟨v,he,Conf.self n v⟩
  ·have hex:∃h,V h∧NzV n h∧SubV n h v∧∃j,j<n∧v j≠0∧h j=0:=by
    apply Classical.byContradiction
    intro hno
    apply he
    refine⟨hv,hz,fun h h1 h2 h3 j hj hvj hhj=>hno ⟨h,h1,h2,h3,j,hj,hvj,hhj⟩⟩
   obtain⟨h,h1,⟨i,hi,hhi⟩,h3,j0,hj0,hv0,hh0⟩:=hex
   have hpm:∃g,V g∧SubV n g v∧(∃j,j<n∧0<v j*g j)∧g j0=0:=by
    rcases Int.lt_or_gt_of_ne (Int.mul_ne_zero (h3 i hi hhi) hhi)with c|c
    ·refine⟨fun j=> -h j,hV.ext _ _ (hV.lin h h (-1) 0 h1 h1) (fun j _=>by show-1*h j+0*h j= -h j;omega),fun j hj hg=>h3 j hj (fun e=>hg (by show-h j=0;omega)),⟨i,hi,by show 0<v i* -h i;rw[Int.mul_neg];omega⟩,by show-h j0=0;omega⟩
    ·exact⟨h,h1,h3,⟨i,hi,c⟩,hh0⟩
   obtain⟨g,g1,g2,g3,g4⟩:=hpm
   obtain⟨A,B,k,hA,hB,hk,hke,hkc,hkl⟩:=hV.step hv g1 g2 g3
   obtain⟨u,hu1,hu2⟩:=ih _ (by omega) k rfl hk ⟨j0,hj0,by rw[hke,g4];simp;exact⟨by omega,hv0⟩⟩
   exact⟨u,hu1,hu2.trans hkc⟩
def gSum(P N:Nat->Int)(n:Nat)(v:Nat->Int):Int:=sm (fun j=>if 0<=v j then v j*P j else v j*N j) n
theorem gSum_congr{P N:Nat->Int}{n:Nat}{u v:Nat->Int}(h:∀j,j<n->u j=v j):gSum P N n u=gSum P N n v:=by
 unfold gSum
 exact zAG fun j hj=>by rw[h j hj]
theorem gSum_zero{P N:Nat->Int}{n:Nat}{v:Nat->Int}(h:¬NzV n v):gSum P N n v=0:=by
 have:∀j,j<n->v j=0:=fun j hj=>Classical.byContradiction fun e=>h ⟨j,hj,e⟩
 rw[gSum_congr (v:=fun _=>0) this]
 unfold gSum
 rw[zAG (g:=fun _=>(0:Int)) (fun j _=>by simp),zCR]
theorem gSum_add{P N:Nat->Int}{n:Nat}{v h k:Nat->Int}{A B:Int}(hA:0<A)(hB:0<B)(hk:∀j,k j=A*v j-B*h j)(c1:Conf n k v)(c2:Conf n h v):A*gSum P N n v=gSum P N n k+B*gSum P N n h:=by
 unfold gSum
 rw[<- zCC,<- zCC,<- zEN]
 refine zAG fun j hj=>?_
 have hs:∀{x:Int},(x≠0->0<x*v j)->(0<v j->0<=x)∧(v j<0->x<=0)∧(v j=0->x=0):=fun {x} hx=>by
  refine⟨fun p=>?_,fun p=>?_,fun p=>?_⟩
  ·rcases Int.lt_or_le x 0 with q|q
   ·have h1:=hx (by omega)
    have:=Int.mul_neg_of_neg_of_pos q p;omega
   ·exact q
  ·rcases Int.lt_or_le 0 x with q|q
   ·have h1:=hx (by omega)
    have:=Int.mul_neg_of_pos_of_neg q p;omega
   ·exact q
  ·apply Classical.byContradiction
   intro q
   have:=hx q
   rw[p]at this;simp at this
 obtain⟨a1,a2,a3⟩:=hs (c1 j hj)
 obtain⟨b1,b2,b3⟩:=hs (c2 j hj)
 have e:=hk j
 generalize k j=K at*
 generalize v j=v' at*
 generalize h j=h' at*
 rcases Int.lt_trichotomy v' 0 with q|q|q
 ·have x1:=a2 q
  have x2:=b2 q
  have f1:(if 0<=v' then v'*P j else v'*N j)=v'*N j:=by rw[if_neg (by omega)]
  have f2:(if 0<=K then K*P j else K*N j)=K*N j:=by
   by_cases z:K=0
   ·rw[z];simp
   ·rw[if_neg (by omega)]
  have f3:(if 0<=h' then h'*P j else h'*N j)=h'*N j:=by
   by_cases z:h'=0
   ·rw[z];simp
   ·rw[if_neg (by omega)]
  rw[f1,f2,f3,e];grind
 ·have x1:=a3 q
  have x2:=b3 q
  rw[q,x1,x2];simp
 ·have x1:=a1 q
  have x2:=b1 q
  rw[if_pos (by omega),if_pos x1,if_pos x2,e];grind
theorem Space.below{n:Nat}{V:(Nat->Int)->Prop}(hV:Space n V)(P N:Nat->Int):∀(s:Nat) (v:Nat->Int),(zAT n v).length=s->V v->gSum P N n v<0->∃u,ElemV n V u∧Conf n u v∧gSum P N n u<0:=by
 intro s
 induction s using Nat.strongRecOn with
 |ind s ih=>
  intro v hs hv hg
  have hz:NzV n v:=Classical.byContradiction fun h=>by rw[gSum_zero h]at hg;omega
  obtain⟨u,hu1,hu2⟩:=hV.conf _ v rfl hv hz
  rcases Int.lt_or_le (gSum P N n u) 0 with c|c
  ·exact⟨u,hu1,hu2,c⟩
  ·obtain⟨j,hj,hju⟩:=hu1.2.1
   obtain⟨A,B,k,hA,hB,hk,hke,hkc,hkl⟩:=hV.step hv hu1.1 hu2.sub ⟨j,hj,by rw[Int.mul_comm];exact hu2 j hj hju⟩
   have e:=gSum_add (P:=P) (N:=N) hA hB hke hkc hu2
   have h1:0<=B*gSum P N n u:=Int.mul_nonneg (by omega) c
   have h2:A*gSum P N n v<0:=Int.mul_neg_of_pos_of_neg hA hg
   obtain⟨w,w1,w2,w3⟩:=ih _ (by omega) k rfl hk (by omega)
   exact⟨w,w1,w2.trans hkc,w3⟩
end
section
theorem cop_dvd{b a d:Int}(h:Int.gcd a b=1)(h1:b∣a*d):b∣d:=by
 have h2:b.natAbs∣a.natAbs*d.natAbs:=by rw[<- Int.natAbs_mul];exact Int.natAbs_dvd_natAbs.2 h1
 have h3:Nat.Coprime b.natAbs a.natAbs:=by rw[Nat.coprime_comm];exact h
 exact Int.natAbs_dvd_natAbs.1 (h3.dvd_of_dvd_mul_left h2)
def lowV(n d:Int):Option Rt:=if zAJ (zBC n d)=true then some (zBC n d)else none
theorem zEO{a b:Int}(h:Int.gcd a b=1):zBC a b=(a,b):=by unfold zBC;rw[h];simp
theorem lowV_congr{n d m e:Int}(hd:0<d)(he:0<e)(h:n*e=m*d):lowV n d=lowV m e:=by
 unfold lowV;rw[zHK hd he h]
theorem zFY{n d:Int}(hd:0<d):∃g a b:Int,zBC n d=(a,b)∧0<g∧0<b∧n=a*g∧d=b*g∧Int.gcd a b=1:=by
 obtain⟨c1,_,_,c4,c5⟩:=zDB (a:=n) hd
 obtain⟨⟨a,b⟩,hab⟩:∃p,p=zBC n d:=⟨_,rfl⟩
 rw[<- hab]at c1 c4 c5
 simp only[]at c1 c4 c5
 -- b divides n*b,so b|a*d,so b|d
 have h1:b∣a*d:=⟨n,by rw[c5];exact Int.mul_comm _ _⟩
 have h2:b∣d:=cop_dvd c4 h1
 obtain⟨g,hg⟩:=h2
 have hg0:0<g:=by
  rcases Int.lt_or_le 0 g with h|h
  ·exact h
  ·have:b*g<=0:=Int.mul_nonpos_of_nonneg_of_nonpos (by omega) h
   omega
 refine⟨g,a,b,hab.symm,hg0,c1,?_,hg,c4⟩
 have:b*n=b*(a*g):=by rw[Int.mul_comm b n,<- c5,hg];grind
 exact Int.eq_of_mul_eq_mul_left (by omega) this
theorem low_div{n d a b g:Int}(hd:0<d)(hg:0<g)(hb:0<b)(hn:n=a*g)(he:d=b*g)(hc:Int.gcd a b=1)(k:Int):n%d*k%d=0↔b∣k:=by
 have h1:n%d*k%d=n*k%d:=by rw[Int.mul_emod,Int.emod_emod_of_dvd _ (Int.dvd_refl d),<- Int.mul_emod]
 rw[h1]
 constructor
 ·intro h
  obtain⟨c,hc2⟩:=Int.dvd_of_emod_eq_zero h
  rw[hn,he]at hc2
  have:g*(a*k)=g*(b*c):=by grind
  have h3:=Int.eq_of_mul_eq_mul_left (by omega) this
  exact cop_dvd hc ⟨c,h3⟩
 ·rintro⟨c,rfl⟩
  rw[hn,he]
  refine Int.emod_eq_zero_of_dvd ⟨a*c,by grind⟩
theorem low_val{n d a b g:Int}(hn0:0<=n)(hd:0<d)(hg:0<g)(hn:n=a*g)(he:d=b*g):n/d*b+n%d*b/d=a:=by
 have h1:n%d*b=d*(a-n/d*b):=by
  have h2:=Int.emod_add_mul_ediv n d -- n%d+d*(n/d)=n
  have h3:n%d=n-d*(n/d):=by omega
  rw[h3,Int.sub_mul,Int.mul_sub]
  have:n*b=d*a:=by rw[hn,he];grind
  rw[this];grind
 rw[h1,Int.mul_ediv_cancel_left _ (by omega)]
 omega
theorem low_nonneg{n d a b g:Int}(hn0:0<=n)(hg:0<g)(hn:n=a*g):0<=a:=by
 rcases Int.lt_or_le a 0 with h|h
 ·have:=Int.mul_neg_of_neg_of_pos h hg;omega
 ·exact h
theorem low_neg{n d:Int}(hd:0<d):zBC (-n) d=(-(zBC n d).1,(zBC n d).2):=by
 obtain⟨g,a,b,e,hg,hb,hn,he,hc⟩:=zFY (n:=n) hd
 rw[e]
 have h2:zBC (-n) d=zBC (-a) b:=zHK hd hb (by rw[hn,he];grind)
 rw[h2,zEO (by rw[Int.neg_gcd];exact hc)]
theorem zLR{a b:Int}:zAJ (-a,b)=zAJ (a,b):=by
 rw[Bool.eq_iff_iff,zBB,zBB]
 simp only[Int.neg_gcd]
 constructor<;>(rintro⟨h1,h2,h3,h4,h5⟩;exact⟨h1,h2,by omega,by omega,h5⟩)
theorem low_big{n d:Int}(hn0:0<=n)(hd:0<d)(h:10000000000<n/d):zAJ (zBC n d)=false:=by
 obtain⟨g,a,b,e,hg,hb,hn,he,hc⟩:=zFY (n:=n) hd
 rw[e]
 cases hv:zAJ (a,b)
 ·rfl
 ·have h1:=(zBB.1 hv).2.2.2.1
  simp only[]at h1
  have h2:n/d<=a:=by
   have h3:n/d*d<=n:=by rw[Int.mul_comm];exact Int.mul_ediv_self_le (by omega)
   have h4:n/d*(b*g)<=a*g:=by rw[<- he,<- hn];exact h3
   have h5:n/d*b*g<=a*g:=by rw[Int.mul_assoc];exact h4
   have h6:=Int.le_of_mul_le_mul_right h5 hg
   have h7:n/d*1<=n/d*b:=Int.mul_le_mul_of_nonneg_left (by omega) (Int.ediv_nonneg hn0 (by omega))
   omega
  omega
structure CfI (N D n d p q P Q:Int):Prop where
 n0:0<=n
 d0:0<=d
 p0:0<=p
 q0:0<=q
 P0:0<=P
 Q0:0<=Q
 pm:p<=10000000000
 qm:q<=400
 Pm:P<=10000000000
 Qm:Q<=400
 eN:N=p*n+P*d
 eD:D=q*n+Q*d
 det:p*Q-q*P=1∨p*Q-q*P= -1
theorem CfI.step{N D n d p q P Q:Int}(h:CfI N D n d p q P Q)(hd:0<d)(h1:n/d*p+P<=10000000000)(h2:n/d*q+Q<=400):CfI N D d (n%d) (n/d*p+P) (n/d*q+Q) p q:=by
 have hk:=Int.ediv_nonneg h.n0 (show 0<=d by omega)
 have hm:=Int.emod_nonneg n (show d≠0 by omega)
 have he:=Int.emod_add_mul_ediv n d
 refine⟨by omega,hm,?_,?_,h.p0,h.q0,h1,h2,h.pm,h.qm,?_,?_,?_⟩
 ·have:=Int.mul_nonneg hk h.p0;have:=h.P0;omega
 ·have:=Int.mul_nonneg hk h.q0;have:=h.Q0;omega
 ·rw[h.eN]
  generalize n/d=k at*
  generalize n%d=r at*
  rw[<- he];grind
 ·rw[h.eD]
  generalize n/d=k at*
  generalize n%d=r at*
  rw[<- he];grind
 ·have:=h.det
  generalize n/d=k at*
  have e:(k*p+P)*q-(k*q+Q)*p= -(p*Q-q*P):=by grind
  omega
end
section
abbrev FitT:=List Int×List Rt
def fitF(M:Mask)(y S:List Int):Option FitT:=if (zCM M S y).2=0∧(zCM M S y).1.all (fun r=>decide (r.1≠0))=true then some (S,(zCM M S y).1)else none
def zBM(M:Mask)(y:List Int)(W t:Nat):List FitT:=(List.range t).flatMap fun j=>(comb W j 0).filterMap (fitF M y)
theorem zCJ(M:Mask)(y:List Int)(W t:Nat):zBM M y W (t+1)=zBM M y W t++(comb W t 0).filterMap (fitF M y):=by
 unfold zBM;rw[List.range_succ,List.flatMap_append];simp
def zBE(M:Mask)(y:List Int)(k:Nat):List FitT:=zBM M y (zAA M) (min (min k (zAA M)) M.length+1)
theorem zJZ{M:Mask}{y S:List Int}{f:FitT}(h:fitF M y S=some f):f=(S,(zCM M S y).1)∧(zCM M S y).2=0∧∀r∈f.2,r.1≠0:=by
 unfold fitF at h
 split at h
 ·rename_i h1
  cases h
  exact⟨rfl,h1.1,fun r hr=>by simpa using List.all_eq_true.1 h1.2 r hr⟩
 ·cases h
def wholeR(r:Rt):Bool:=decide (r.2=1)&&inB r.1 (-1000000) 1000000
def spreadTo1(W:Nat)(f:FitT)(k:Nat):List Int:=(List.range k).foldl (fun out i=>out.set (f.1[i]?.getD 0).toNat (f.2[i]?.getD (0,0)).1) (List.replicate W 0)
def spreadI(W:Nat)(f:FitT):List Int:=spreadTo1 W f f.1.length
def wholeOne(W:Nat)(f:FitT):Option (List Int):=if f.2.all wholeR=true then some (spreadI W f)else none
def wholeF(M:Mask)(y:List Int)(k:Nat):List (List Int):=(zBE M y k).filterMap (wholeOne (zAA M))
end
section
def nrmI(l:Nat->Int)(n:Nat):Int:=sm (fun j=>((l j).natAbs:Int)) n
theorem zNE(l:Nat->Int):∀n,0<=nrmI l n
 |0=>Int.le_refl _
 |n+1=>by
  have:=zNE l n
  show 0<=nrmI l n+((l n).natAbs:Int)
  omega
def zCH(x:List Rt):Nat->Int×Int
 |0=>(0,1)
 |k+1=>((zCH x k).1*(zAC x k).2+(zCH x k).2*((zAC x k).1.natAbs:Int),(zCH x k).2*(zAC x k).2)
def nrmQ(x:List Rt):Int×Int:=zCH x x.length
theorem zHP{x:List Rt}(h:∀k,0<(zAC x k).2):∀k,0<(zCH x k).2∧0<=(zCH x k).1
 |0=>⟨by show(0:Int)<1;omega,Int.le_refl _⟩
 |k+1=>by
  obtain⟨h1,h2⟩:=zHP h k
  have h3:=h k
  exact⟨Int.mul_pos h1 h3,Int.add_nonneg (Int.mul_nonneg h2 (by omega)) (Int.mul_nonneg (by omega) (by omega))⟩
theorem zFV{x:List Rt}{l:Nat->Int}{D:Int}(hD:0<D)(hp:∀k,0<(zAC x k).2):∀n,(∀k,k<n->(zAC x k).1*D=l k*(zAC x k).2)->(zCH x n).1*D=(zCH x n).2*nrmI l n
 |0,_=>by simp[zCH,nrmI,sm]
 |n+1,h=>by
  have ih:=zFV hD hp n (fun k hk=>h k (by omega))
  have e:=h n (by omega)
  have e2:((zAC x n).1.natAbs:Int)*D=((l n).natAbs:Int)*(zAC x n).2:=by
   have h1:=congrArg Int.natAbs e
   rw[Int.natAbs_mul,Int.natAbs_mul]at h1
   have h2:=hp n
   have h3:(((zAC x n).1.natAbs*D.natAbs:Nat):Int)=(((l n).natAbs*(zAC x n).2.natAbs:Nat):Int):=by rw[h1]
   rw[Int.natCast_mul,Int.natCast_mul]at h3
   have h4:((D.natAbs:Nat):Int)=D:=by omega
   have h5:(((zAC x n).2.natAbs:Nat):Int)=(zAC x n).2:=by omega
   rw[h4,h5]at h3
   exact h3
  show((zCH x n).1*(zAC x n).2+(zCH x n).2*((zAC x n).1.natAbs:Int))*D=(zCH x n).2*(zAC x n).2*(nrmI l n+((l n).natAbs:Int))
  generalize (zCH x n).1=a at*
  generalize (zCH x n).2=b at*
  generalize (zAC x n).2=c at*
  generalize ((zAC x n).1.natAbs:Int)=u at*
  generalize ((l n).natAbs:Int)=v at*
  generalize nrmI l n=N at*
  have:(a*c+b*u)*D=(a*D)*c+b*(u*D):=by grind
  rw[this,ih,e2];grind
def sgnI(z:Int):Int:=if z<0 then-1 else if z=0 then 0 else 1
theorem zHJ(z:Int):sgnI z*z=(z.natAbs:Int):=by unfold sgnI;split<;>(try split)<;>omega
theorem sgnI_same{z k:Int}(h:k≠0->0<k*z):sgnI z*k=(k.natAbs:Int):=by
 by_cases hk:k=0
 ·subst hk;simp
 ·have h1:=h hk
  unfold sgnI
  rcases Int.lt_or_gt_of_ne hk with c|c
  ·have:z<0:=by
    rcases Int.lt_or_le z 0 with c2|c2
    ·exact c2
    ·have:=Int.mul_nonpos_of_nonpos_of_nonneg (show k<=0 by omega) c2;omega
   rw[if_pos this];omega
  ·have:0<z:=by
    rcases Int.lt_or_le 0 z with c2|c2
    ·exact c2
    ·have:=Int.mul_nonpos_of_nonneg_of_nonpos (show 0<=k by omega) c2;omega
   rw[if_neg (by omega),if_neg (by omega)];omega
theorem sgnI_opp{z h:Int}(h1:z*h<=0):sgnI z*h<=0:=by
 unfold sgnI
 split
 ·rename_i c
  rcases Int.lt_or_le h 0 with c2|c2
  ·have:=Int.mul_pos_of_neg_of_neg c c2;omega
  ·omega
 ·split
  ·simp
  ·rename_i c c1
   rcases Int.lt_or_le 0 h with c2|c2
   ·have:=Int.mul_pos (show 0<z by omega) c2;omega
   ·omega
theorem lp_norm{M:List (List Int)}{n:Nat}(hM:MaskOk M n){y:List Int}{l:Nat->Int}{D:Int}(hl:SolM M n y l D):
 ∃(k:Nat->Int) (E:Int),SolM M n y k E∧zEU (zAW M (zAT n k)) (zAT n k).length=(zAT n k).length∧(∀j,j<n->k j≠0->0<k j*l j)∧nrmI k n*D<=nrmI l n*E:=by
 obtain⟨k,E,h1,h2,h3,h4⟩:=lp_reduce hM (fun j=>sgnI (l j)) _ l D rfl hl (fun c hc e he hs ho=>sm_nonpos n fun j hj=>sgnI_opp (ho j hj))
 refine⟨k,E,h1,h2,h3,?_⟩
 have e1:sm (fun j=>sgnI (l j)*k j) n=nrmI k n:=zAG fun j hj=>sgnI_same (h3 j hj)
 have e2:sm (fun j=>sgnI (l j)*l j) n=nrmI l n:=zAG fun j hj=>zHJ _
 rw[e1,e2]at h4
 exact h4
end
section
theorem nrmI_ge(u:Nat->Int){j:Nat}:∀{n:Nat},j<n->((u j).natAbs:Int)<=nrmI u n
 |n+1,h=>by
  show _<=nrmI u n+((u n).natAbs:Int)
  by_cases e:j=n
  ·subst e;have:=zNE u j;omega
  ·have:=nrmI_ge u (n:=n) (show j<n by omega);omega
def loS(l:Nat->Int)(j:Nat):Int:=if l j=0 then-1 else sgnI (l j)
def hiS(l:Nat->Int)(j:Nat):Int:=if l j=0 then 1 else sgnI (l j)
theorem zLV(z:Int):z≠0->sgnI z=1∧0<z∨sgnI z= -1∧z<0:=by
 intro h;unfold sgnI
 by_cases c:z<0
 ·rw[if_pos c];exact .inr ⟨rfl,c⟩
 ·rw[if_neg c,if_neg h];exact .inl ⟨rfl,by omega⟩
end
section
def zAS(M:List (List Int))(i j:Nat):Int:=sm (fun q=>rowv M q i*rowv M q j) M.length
theorem gram_ker{M:List (List Int)}{n:Nat}{h:Nat->Int}(hh:zDD M n h)(j:Nat):sm (fun i=>zAS M i j*h i) n=0:=by
 have e:=sm_swap (fun q i=>rowv M q i) h (fun q=>rowv M q j) n M.length
 have h0:sm (fun q=>rowv M q j*sm (fun i=>rowv M q i*h i) n) M.length=0:=by
  rw[zAG (g:=fun _=>(0:Int)) (fun q hq=>by have:=hh q hq;unfold dotS at this;rw[this];simp),zCR]
 rw[h0]at e
 exact e.symm
theorem abs_sm(f:Nat->Int):∀n,((sm f n).natAbs:Int)<=sm (fun j=>((f j).natAbs:Int)) n
 |0=>by simp[sm]
 |n+1=>by
  have:=abs_sm f n
  show((sm f n+f n).natAbs:Int)<=sm (fun j=>((f j).natAbs:Int)) n+((f n).natAbs:Int)
  omega
theorem ker_flat{M:List (List Int)}{n:Nat}{d k:Int}(hd:0<d)(hk:1<=k)(hg:∀j,j<n->zAS M j j=d)(ho:∀i j,i<n->j<n->i≠j->(2*k-1)*((zAS M i j).natAbs:Int)<d)
 {h:Nat->Int}(hh:zDD M n h){j:Nat}(hj:j<n)(hN:0<nrmI h n):2*k*((h j).natAbs:Int)<nrmI h n:=by
 have e0:=gram_ker hh j
 -- the sum but for place j
 have e1:sm (fun i=>zAS M i j*h i) n=sm (fun i=>if i=j then 0 else zAS M i j*h i) n+d*h j:=by
  rw[<- hg j hj]
  refine zKN hj fun c _=>?_
  by_cases e:c=j
  ·subst e;simp
  ·simp[e]
 have e2:nrmI h n=sm (fun i=>if i=j then 0 else((h i).natAbs:Int)) n+((h j).natAbs:Int):=by
  refine zKN hj fun c _=>?_
  by_cases e:c=j
  ·subst e;simp
  ·simp[e]
 obtain⟨S,hS⟩:=exq (sm (fun i=>if i=j then 0 else zAS M i j*h i) n)
 obtain⟨T,hT⟩:=exq (sm (fun i=>if i=j then 0 else((h i).natAbs:Int)) n)
 have hST:(2*k-1)*(S.natAbs:Int)<=(d-1)*T:=by
  have a1:=abs_sm (fun i=>if i=j then 0 else zAS M i j*h i) n
  rw[<- hS]at a1
  have a2:(2*k-1)*sm (fun i=>(((if i=j then 0 else zAS M i j*h i):Int).natAbs:Int)) n<=(d-1)*T:=by
   rw[hT,<- zCC,<- zCC]
   refine zDP n fun i hi=>?_
   by_cases e:i=j
   ·simp[e]
   ·simp only[e,if_false]
    have h1:=ho i j hi hj e
    rw[Int.natAbs_mul,Int.natCast_mul,<- Int.mul_assoc]
    exact Int.mul_le_mul_of_nonneg_right (by omega) (by omega)
  have a3:(2*k-1)*(S.natAbs:Int)<=(2*k-1)*sm (fun i=>(((if i=j then 0 else zAS M i j*h i):Int).natAbs:Int)) n:=Int.mul_le_mul_of_nonneg_left a1 (by omega)
  omega
 have hSd:(S.natAbs:Int)=d*((h j).natAbs:Int):=by
  have:S= -(d*h j):=by omega
  rw[this,Int.natAbs_neg,Int.natAbs_mul,Int.natCast_mul]
  have:((d.natAbs:Nat):Int)=d:=by omega
  rw[this]
 rw[<- hT]at e2
 obtain⟨H,hH⟩:=exq (((h j).natAbs:Int))
 have hH0:0<=H:=by omega
 rw[<- hH]at e2 hSd⊢
 rw[hSd]at hST
 rw[e2]at hN⊢
 have hT0:0<=T:=by
  rw[hT]
  have:=zDP (f:=fun _=>0) (g:=fun i=>if i=j then 0 else((h i).natAbs:Int)) n (fun i _=>by show(0:Int)<=if i=j then 0 else((h i).natAbs:Int);split<;>omega)
  rw[zCR]at this
  exact this
 -- (2k-1) d H<=(d-1) T
 rcases Int.lt_or_eq_of_le hT0 with c|c
 ·have b1:d*(2*k*H)<d*(T+H):=by
   have c1:d*(2*k*H)=(2*k-1)*(d*H)+d*H:=by grind
   have c2:(d-1)*T=d*T-T:=by grind
   have c3:d*(T+H)=d*T+d*H:=Int.mul_add _ _ _
   omega
  exact Int.lt_of_mul_lt_mul_left b1 (by omega)
 ·rw[<- c]at hST hN⊢
  have c1:0<H:=by omega
  have c2:0<(2*k-1)*(d*H):=Int.mul_pos (by omega) (Int.mul_pos hd c1)
  omega
def OnlyN(M:List (List Int))(n:Nat)(x:Nat->Int):Prop:=∀h,zDD M n h->NzV n h->0<gSum (hiS x) (loS x) n h
theorem side_ge(x h:Int)(D:Int)(hD:0<D):D*(x.natAbs:Int)+(if 0<=h then h*(if x=0 then 1 else sgnI x)else h*(if x=0 then-1 else sgnI x))<=((D*x+h).natAbs:Int):=by
 by_cases e:x=0
 ·subst e
  simp only[if_true,Int.mul_zero,Int.natAbs_zero,Int.zero_add,Int.mul_one,Int.natCast_zero,Int.mul_zero]
  split<;>omega
 ·simp only[e,if_false]
  have e3:(if 0<=h then h*sgnI x else h*sgnI x)=h*sgnI x:=by split<;>rfl
  rw[e3]
  rcases zLV x e with⟨h1,h2⟩|⟨h1,h2⟩
  ·rw[h1]
   have h4:D*(x.natAbs:Int)=D*x:=by congr 1;omega
   omega
  ·rw[h1]
   have h4:D*(x.natAbs:Int)=D* -x:=by congr 1;omega
   rw[Int.mul_neg]at h4
   omega
theorem only_lt{M:List (List Int)}{n:Nat}{x:Nat->Int}(ho:OnlyN M n x){y:List Int}(hx:SolM M n y x 1){l:Nat->Int}{D:Int}(hl:SolM M n y l D)(hle:nrmI l n<=nrmI x n*D):∀j,j<n->l j=D*x j:=by
 have hD:=hl.1
 have hk:zDD M n (fun j=>l j-D*x j):=fun q hq=>by
  have e1:=hl.2 q hq
  have e2:=hx.2 q hq
  unfold dotS
  rw[zAG (g:=fun j=>rowv M q j*l j+ -D*(rowv M q j*x j)) (fun j _=>by grind),zEN,zCC,e1,e2]
  grind
 apply Classical.byContradiction
 intro hno
 have hz:NzV n (fun j=>l j-D*x j):=by
  apply Classical.byContradiction
  intro h0
  apply hno
  intro j hj
  apply Classical.byContradiction
  intro hne
  exact h0 ⟨j,hj,by show l j-D*x j≠0;omega⟩
 have h1:=ho _ hk hz
 have h2:nrmI x n*D+gSum (hiS x) (loS x) n (fun j=>l j-D*x j)<=nrmI l n:=by
  have e:nrmI x n*D=sm (fun j=>D*((x j).natAbs:Int)) n:=by rw[zCC];unfold nrmI;exact Int.mul_comm _ _
  rw[e]
  unfold gSum
  rw[<- zEN]
  unfold nrmI
  refine zDP n fun j _=>?_
  have h3:=side_ge (x j) (l j-D*x j) D hD
  have e4:D*x j+(l j-D*x j)=l j:=by omega
  rw[e4]at h3
  exact h3
 omega
theorem flat_only{M:List (List Int)}{n:Nat}{d k:Int}(hd:0<d)(hk:1<=k)(hg:∀j,j<n->zAS M j j=d)(ho:∀i j,i<n->j<n->i≠j->(2*k-1)*((zAS M i j).natAbs:Int)<d)
 {x:Nat->Int}(hx:sm (fun j=>if x j=0 then 0 else 1) n<=k):OnlyN M n x:=by
 intro h hh hz
 have hlow:sm (fun j=>if x j=0 then((h j).natAbs:Int)else-((h j).natAbs:Int)) n<=gSum (hiS x) (loS x) n h:=by
  unfold gSum
  refine zDP n fun j _=>?_
  unfold hiS loS
  by_cases e:x j=0
  ·simp only[e,if_true];split<;>omega
  ·simp only[e,if_false]
   rcases zLV (x j) e with⟨h1,_⟩|⟨h1,_⟩
   ·rw[h1];split<;>omega
   ·rw[h1];split<;>omega
 refine Int.lt_of_lt_of_le ?_ hlow
 have hN:0<nrmI h n:=by
  obtain⟨j,hj,hne⟩:=hz
  have:=nrmI_ge h hj
  omega
 have hf:=fun j hj=>ker_flat hd hk hg ho hh (j:=j) hj hN
 obtain⟨N,hNe⟩:=exq (nrmI h n)
 rw[<- hNe]at hN hf
 -- 2k*sum over the picture's pixels<k N,or there are none
 obtain⟨A,hA⟩:=exq (sm (fun j=>if x j=0 then 0 else((h j).natAbs:Int)) n)
 have e1:sm (fun j=>if x j=0 then((h j).natAbs:Int)else-((h j).natAbs:Int)) n=N+ -2*A:=by
  rw[hNe,hA,<- zCC]
  unfold nrmI
  rw[<- zEN]
  exact zAG fun j _=>by split<;>omega
 rw[e1]
 have key:∀t,t<=n->2*k*sm (fun j=>if x j=0 then 0 else((h j).natAbs:Int)) t+sm (fun j=>if x j=0 then(0:Int)else 1) t<=N*sm (fun j=>if x j=0 then(0:Int)else 1) t:=by
  intro t ht
  rw[<- zCC,<- zCC,<- zEN]
  refine zDP t fun j hj=>?_
  by_cases e:x j=0
  ·simp[e]
  ·simp only[e,if_false]
   have:=hf j (by omega)
   omega
 have h1:=key n (Nat.le_refl _)
 rw[<- hA]at h1
 have c0:0<=sm (fun j=>if x j=0 then(0:Int)else 1) n:=by
  have:=zDP (f:=fun _=>0) (g:=fun j=>if x j=0 then(0:Int)else 1) n (fun i _=>by show(0:Int)<=if x i=0 then 0 else 1;split<;>omega)
  rw[zCR]at this
  exact this
 generalize sm (fun j=>if x j=0 then(0:Int)else 1) n=c at*
 have h2:N*c<=N*k:=Int.mul_le_mul_of_nonneg_left hx (by omega)
 rcases Int.lt_or_eq_of_le c0 with q|q
 ·have h3:k*(2*A)<k*N:=by
   have:k*(2*A)=2*k*A:=by grind
   have:k*N=N*k:=Int.mul_comm _ _
   omega
  have:=Int.lt_of_mul_lt_mul_left h3 (by omega)
  omega
 ·rw[<- q]at h1
  have h3:2*k*A<=0:=by simpa using h1
  have h4:0<=A:=by
   rw[hA]
   have:=zDP (f:=fun _=>0) (g:=fun j=>if x j=0 then 0 else((h j).natAbs:Int)) n (fun i _=>by show(0:Int)<=if x i=0 then 0 else((h i).natAbs:Int);split<;>omega)
   rw[zCR]at this
   exact this
  have h5:A=0:=by
   apply Classical.byContradiction
   intro hne
   have:0<2*k*A:=Int.mul_pos (by omega) (by omega)
   omega
  omega
end
section
open Go.RowKit
theorem lvls_mem{n:Nat}{s:List Int}:∀{k:Nat},s∈lvls n k->∃j,j<=k∧s∈comb n j 0
 |0,h=>⟨0,Nat.le_refl _,h⟩
 |k+1,h=>by
  rcases List.mem_append.1 h with h|h
  ·obtain⟨j,hj,h⟩:=lvls_mem h
   exact⟨j,by omega,h⟩
  ·exact⟨k+1,Nat.le_refl _,h⟩
theorem allS_ok{n:Nat}{s:List Int}(h:s∈allS n):s.length<=n∧zCE n s:=by
 obtain⟨j,hj,hs⟩:=lvls_mem h
 exact⟨by rw[zCW n j 0 s hs];exact hj,comb_ok hs⟩
end
section
open Go.RowKit
theorem light_c(w:World)(a:Option Addr)(n cap:Nat)(M:Mask)(hn:M.length=n)(hm:n<=maxLen)(H:zAL w a M):
 Calls Tryz.prog 16 #[.slice a n cap] w fun e w'=>SomeB e∧w=w':=by
 have HN:=hid hn
 have HH:=hid H
 clear hn H
 unfold maxLen at hm
 go_enter Tryz.func16,Tryz.ntmps16
 go_wp2
 go_loop [3,8] (fun s i=>∃k:Nat,k<=n∧i=.int .i64 k∧∃z:Int,s=.int .i64 z) (fun _ i=>n-(intOf i).toNat)
 case atStart=>exact⟨0,Nat.zero_le _,rfl,_,rfl⟩
 case round=>
  obtain⟨k,hk,rfl,z,rfl⟩:=hrel
  by_cases hlt:k<n
  ·have hkl:k<M.length:=by rw[HN.out];exact hlt
   obtain⟨b,off,ra,rn,rc,rfl,hbs,hq0,hrn,hrm,hri⟩:=HH.out k hkl
   clear hrn hri hkl hrm
   by_cases h7:(7:Int)<(rn:Int)
   ·by_cases h10:(rn:Int)<=10
    ·go_wp2
     go_ret
     exact⟨⟨_,rfl⟩,rfl⟩
    ·go_wp2
     go_round
     case rel=>exact⟨k+1,by omega,by go_num,_,rfl⟩
     case measure=>simp[intOf];omega
   ·go_wp2
    go_round
    case rel=>exact⟨k+1,by omega,by go_num,_,rfl⟩
    case measure=>simp[intOf];omega
  ·go_wp2
   go_ret
   exact⟨⟨_,rfl⟩,rfl⟩
end
section
open Go.RowKit
def inPix(W:Nat)(l:List Int):Bool:=l.all (fun p=>inB p 0 ((W:Int)-1))
theorem r2named_c(w:World)(a a2:Option Addr)(n cap n2 cap2:Nat)(M:Mask)(l:List Int)(hn:M.length=n)(hn2:l.length=n2)(hm:n<=maxLen)(hm2:n2<=maxLen)(H:zAL w a M)(H2:zAE w a2 l)(hok:okM M=true):
 Calls Tryz.prog 110 #[.slice a n cap,.slice a2 n2 cap2] w fun e w'=>e=.returned (.int .i64 (if inPix (zAA M) l=true then 0 else 5))∧w=w':=by
 obtain⟨hM,h1,h6,hc1,hc10⟩:=zCN hok
 obtain⟨b,off,ra,rc,rfl,hb,hc⟩:=zCT H (by omega)
 have HV:=hid (zHL w (some ⟨b,off,none⟩) n cap M hn hm H)
 rw[hok]at HV
 have HW:=hid (fun(x y z:Int) (X:World)=>zFA x y z X)
 have HST:=hid (fun(k:Nat) (hk:k<l.length) (h:inB l[k] 0 ((zAA M:Int)-1)=false)=>zIG (p:=fun p=>inB p 0 ((zAA M:Int)-1)) hk h)
 have HDN:=hid (fun(h:∀j (hj:j<l.length),inB l[j] 0 ((zAA M:Int)-1)=true)=>zKC (p:=fun p=>inB p 0 ((zAA M:Int)-1)) h)
 obtain⟨B,hB⟩:=exq (inPix (zAA M) l)
 have hB2:l.all (fun p=>inB p 0 ((zAA M:Int)-1))=B:=hB.symm
 rw[hB2]at HST HDN
 rw[<- hB]
 obtain⟨W,hW⟩:=exq (zAA M)
 rw[<- hW]at HST HDN hc hc1 hc10
 have HN2:=hid hn2
 have HI:=hid H2
 have i0:(0:Int)<(n:Int):=by omega
 obtain⟨E,hE⟩:∃E:Int,E=if B=true then 0 else 5:=⟨_,rfl⟩
 rw[<- hE]
 have HE:=hid hE
 clear hn hn2 H H2 hok hM h1 h6 hb hB hB2 hW hE
 unfold maxLen at hm2
 go_enter Tryz.func110,Tryz.ntmps110
 go_wp2_with (go_at_call 68;refine HV.out.mono ?_;rintro e w1 ⟨rfl,rfl⟩;refine Stop.of ?_)
 refine Stop.go ?_
 clear HV
 go_wp2
 go_loopw [12] (fun i wr=>∃k:Nat,k<=n2∧i=.int .i64 k∧w=wr∧Hid (∀j (hj:j<l.length),j<k->inB l[j] 0 ((W:Int)-1)=true)) (fun i _=>n2-(intOf i).toNat)
 case atStart=>exact⟨0,Nat.zero_le _,rfl,rfl,hid (fun j _ h=>by omega)⟩
 case round=>
  obtain⟨k,hk,rfl,rfl,HNO⟩:=hrel
  by_cases hlt:k<n2
  ·have hkl:k<l.length:=by rw[HN2.out];exact hlt
   obtain⟨b6,o6,rfl,hb6,hc6⟩:=HI.out k hkl
   have hg:l[k]?.getD 0=l[k]:=by rw[List.getElem?_eq_getElem hkl];rfl
   rw[hg]at hc6
   have HSK:=hid (HST.out k hkl)
   have HNX:=hid (fun(h:inB l[k] 0 ((W:Int)-1)=true)=>show ∀j (hj:j<l.length),j<k+1->inB l[j] 0 ((W:Int)-1)=true from fun j hj hjk=>by
    by_cases e:j=k
    ·subst e;exact h
    ·exact HNO.out j hj (by omega))
   obtain⟨p,hp⟩:=exq (l[k]'hkl)
   rw[<- hp]at hc6 HSK HNX
   obtain⟨V,hV⟩:=exq (inB p 0 ((W:Int)-1))
   rw[<- hV]at HSK HNX
   have HC:=hid (HW.out p 0 ((W:Int)-1) w)
   rw[<- hV]at HC
   have hwr:IntKind.i64.wrap ((W:Int)-1)=(W:Int)-1:=IntWalk.i64_in _ (by omega)
   have i1:(k:Int)<(n2:Int):=by omega
   clear hg hp hV hkl HNO
   go_wp2_with (go_at_call 131;refine HC.out.mono ?_;rintro e w1 ⟨rfl,rfl⟩;refine Stop.of ?_)
   refine Stop.go ?_
   clear hwr HC
   cases V
   ·obtain rfl:B=false:=HSK.out rfl
    obtain rfl:E=5:=HE.out
    go_wp2
    go_ret
    exact⟨rfl,rfl⟩
   ·have HX:=hid (HNX.out rfl)
    go_wp2
    exact⟨⟨k+1,by omega,by go_num,trivial,HX⟩,by simp[intOf];omega⟩
  ·obtain rfl:k=n2:=by omega
   obtain rfl:B=true:=HDN.out fun j hj=>HNO.out j hj (by have:=HN2.out;omega)
   obtain rfl:E=0:=HE.out
   go_wp2
   go_ret
   exact⟨rfl,rfl⟩
end
section
open Go.RowKit
theorem AnyT.weak{P:Program}{md:Region.Mode}{ops:Array Oper}{Q:Exit->Act->World->Prop}{T T':Nat->World->Prop}(hT:∀j w,T' j w->T j w):∀(fuel:Nat) (listed:Array Bool) (a:Act) (w:World),AnyT P md ops Q T' fuel listed a w->AnyT P md ops Q T fuel listed a w
 |0,_,_,_,h=>h
 |fuel+1,listed,a,w,h=>⟨h.1,fun i hi=>wpOp_mono (fun a' w' h'=>⟨hT _ _ h'.1,AnyT.weak hT fuel _ _ _ h'.2⟩) (h.2 i hi)⟩
theorem AnyT.takeG{P:Program}{md:Region.Mode}{ops:Array Oper}{Q:Exit->Act->World->Prop}{S:World->Prop}{T:Nat->World->Prop}{i d:Nat}{oi:Oper}{v:Value}{fuel:Nat}{listed:Array Bool}{a:Act}{w:World}{Wf:Nat->Bool}(hT:∀j w,T j w->Wf j=true->S w)(hTi:∀w,S w->T i w)(hi:ops[i]? =some oi)(hd:oi.dst=some d)
 (hs:Region.noSelect ops=true)(hf:Region.free md ops listed i=true)(hr:(Region.ready md ops listed).contains i=true)
 (hQ:∀c a w,Q (.panic c) (a.put (some d) v) w->Q (.panic c) a w)
 (hW:(List.range ops.size).all (fun j=>waits md ops i j||Wf j)=true)(hw:Region.wanted oi (yielded ops a.tmps)=true)(hy:∀w,S w->(execOp a.eval oi).run P w=.ok (.value v) w)(hS:S w)
 (h:AnyT P md ops Q T fuel (listed.setIfInBounds i true) (a.put (some d) v) w):AnyT P md ops Q T (fuel+1) listed a w:=
 AnyT.take hi hs hf hr (by rw[hd];exact hQ) (fun j hj w hT'=>hT j w hT' (by
  by_cases e:j<ops.size
  ·have:=List.all_eq_true.1 hW j (List.mem_range.2 e)
   rw[hj]at this;simpa using this
  ·unfold waits at hj;rw[Array.getElem?_eq_none (by omega)]at hj;cases hj)) hTi (.inl ⟨hw,hy⟩) hS (by rw[hd];exact h)
end
section
open Go.RowKit
def zBI(w:World)(g:Nat)(V:Int):Prop:=w.heap[g]? =some (.cells #[.int .i64 (V/18446744073709551616),.int .u64 (V%18446744073709551616)] 100 (0,0))
theorem zBI.lt{w:World}{g:Nat}{V:Int}(h:zBI w g V):g<w.heap.size:=(Array.getElem?_eq_some_iff.1 h).1
theorem zBI.keep{w w':World}{g:Nat}{V:Int}(h:zBI w g V)(hk:w'.heap[g]? =w.heap[g]?):zBI w' g V:=hk.trans h
theorem zBI.cells{w:World}{g:Nat}{V a b:Int}(h:zBI w g V)(p:WP V a b):w.cell? ⟨g,0,none⟩=some (.int .i64 a)∧w.cell? ⟨g,1,none⟩=some (.int .u64 b)∧w.frozen? ⟨g,0,none⟩=false∧w.frozen? ⟨g,1,none⟩=false∧g<w.heap.size:=by
 have hl:=h.lt
 unfold zBI at h
 rw[p.1,p.2]
 exact⟨by simp[World.cell?,h],by simp[World.cell?,h],by simp[World.frozen?,h],by simp[World.frozen?,h],hl⟩
theorem zBI.set{w:World}{g:Nat}{V U a b:Int}(h:zBI w g V)(p:WP U a b):zBI ((w.setCell ⟨g,0,none⟩ (.int .i64 a)).setCell ⟨g,1,none⟩ (.int .u64 b)) g U:=by
 have h1:=zBA h 0 (v:=.int .i64 a)
 have h2:=zBA h1 1 (v:=.int .u64 b)
 unfold zBI
 rw[h2,p.1,p.2];rfl
theorem zAY(w:World)(b:Nat)(x y:Value):Keep (fun g=>g≠b) w ((w.setCell ⟨b,0,none⟩ x).setCell ⟨b,1,none⟩ y):=(Keep.set w b 0 x).trans (Keep.set _ b 1 y)
theorem zBI.other{w:World}{g b:Nat}{V:Int}(h:zBI w g V)(hn:g≠b)(x y:Value):zBI ((w.setCell ⟨b,0,none⟩ x).setCell ⟨b,1,none⟩ y) g V:=h.keep ((zAY w b x y).block g h.lt hn)
theorem zBI.made(w:World){V a b:Int}(p:WP V a b):zBI (w.alloc (.cells #[.int .i64 a,.int .u64 b] 100)) w.heap.size V:=by
 unfold zBI
 rw[World.alloc_heap_new,p.1,p.2]
theorem zIM(j:Nat):(0:Int)<2 ^ j:=Int.pow_pos (by decide)
def OverS(A B:Int)(j:Nat)(q r t:Int):Prop:=0<=q∧0<=r∧r<B∧0<=t∧t<=1∧(r+r+t<B->A/2 ^ j/B=q+q∧A/2 ^ j%B=r+r+t)∧(¬r+r+t<B->A/2 ^ j/B=q+q+1∧A/2 ^ j%B=r+r+t-B)
theorem over_step{A B:Int}(hB:0<B)(hA:0<=A)(j:Nat){q r t:Int}(hq:q=A/2 ^ (j+1)/B)(hr:r=A/2 ^ (j+1)%B)(ht:t=A/2 ^ j%2):
 OverS A B j q r t:=by
 have e:A/2 ^ (j+1)=A/2 ^ j/2:=by rw[Int.pow_succ,Int.ediv_ediv_of_nonneg (by have:=zIM j;omega)]
 obtain⟨T,hT⟩:=exq (A/2 ^ j)
 have hT0:0<=T:=by rw[hT];exact Int.ediv_nonneg hA (by have:=zIM j;omega)
 unfold OverS
 rw[e,<- hT]at hq hr
 rw[<- hT]at ht⊢
 have h1:=Int.emod_add_mul_ediv (T/2) B
 have h2:=Int.emod_nonneg (T/2) (show B≠0 by omega)
 have h3:=Int.emod_lt_of_pos (T/2) hB
 have h4:0<=T/2/B:=Int.ediv_nonneg (by omega) (by omega)
 rw[<- hq,<- hr]at h1
 rw[<- hr]at h2 h3
 rw[<- hq]at h4
 have hTt:T=2*(r+B*q)+t:=by omega
 refine⟨h4,h2,h3,by omega,by omega,fun h=>?_,fun h=>?_⟩
 ·have hx:T=(r+r+t)+(q+q)*B:=by rw[hTt];grind
  rw[hx,Int.add_mul_ediv_right _ _ (by omega),Int.ediv_eq_zero_of_lt (by omega) h,Int.add_mul_emod_self_right,Int.emod_eq_of_lt (by omega) h]
  omega
 ·have hx:T=(r+r+t-B)+(q+q+1)*B:=by rw[hTt];grind
  rw[hx,Int.add_mul_ediv_right _ _ (by omega),Int.ediv_eq_zero_of_lt (by omega) (by omega),Int.add_mul_emod_self_right,Int.emod_eq_of_lt (by omega) (by omega)]
  omega
theorem bit_low{A:Int}(hA:0<=A){j:Nat}(hj:j<64):A%18446744073709551616/2 ^ j%2=A/2 ^ j%2:=by
 have hp:=zIM j
 have e1:(18446744073709551616:Int)=2 ^ j*(2*2 ^ (63-j)):=by
  have:(2:Int) ^ j*(2*2 ^ (63-j))=2 ^ (j+(1+(63-j))):=by rw[Int.pow_add,Int.pow_add];rfl
  rw[this,show j+(1+(63-j))=64 by omega];rfl
 have h1:=Int.emod_add_mul_ediv A 18446744073709551616
 generalize A%18446744073709551616=a at*
 generalize A/18446744073709551616=h at*
 rw[<- h1,e1]
 have e2:a+2 ^ j*(2*2 ^ (63-j))*h=a+2 ^ j*(2*(2 ^ (63-j)*h)):=by grind
 rw[e2,Int.add_mul_ediv_left _ _ (by omega)]
 omega
theorem bit_high{A:Int}(j:Nat)(hj:64<=j):A/18446744073709551616/2 ^ (j-64)=A/2 ^ j:=by
 rw[Int.ediv_ediv_of_nonneg (by decide)]
 congr 1
 have:(18446744073709551616:Int)*2 ^ (j-64)=2 ^ (64+(j-64)):=by rw[Int.pow_add];rfl
 rw[this,show 64+(j-64)=j by omega]
theorem zIJ(w:World)(V:Int)(hV: -170141183460469231731687303715884105728<V∧V<170141183460469231731687303715884105728):
 Calls Tryz.prog 148 #[zBZ V] w fun e w'=>e=.returned (.int .i64 (cmpI V 0))∧Below w.heap.size w w':=by
 have HC:=hid (fun X=>zDJ X V 0)
 have hw0:zBZ 0=.agg #[.int .i64 0,.int .u64 0]:=by simp[zBZ]
 rw[hw0]at HC
 obtain⟨a,b,p⟩:=WP.ex V
 rw[p.val]at HC⊢
 obtain⟨C,hC⟩:=exq (cmpI V 0)
 rw[<- hC]at HC⊢
 clear p hC hV hw0
 go_enter Tryz.func148,Tryz.ntmps148
 go_wp2_with (go_at_call 207;refine(HC.out _).mono ?_;rintro e w1 ⟨rfl,hb1⟩)
 go_ret
 exact⟨rfl,zAB ((Below.refl _ _).alloc (Nat.le_refl _) _) hb1⟩
theorem zMQ(w:World)(A B:Int)(hA:0<=A∧A<170141183460469231731687303715884105728)(hB:0<B∧B<85070591730234615865843651857942052864):
 Calls Tryz.prog 150 #[zBZ A,zBZ B] w fun e w'=>e=.returned (.tuple #[zBZ (A/B),zBZ (A%B)])∧Below w.heap.size w w':=by
 obtain⟨ah,al,pA⟩:=WP.ex A
 obtain⟨bh,bl,pB⟩:=WP.ex B
 obtain⟨s,hs⟩:=exq (w.heap.size)
 obtain⟨wz,hwz⟩:=exq ((((w.alloc (.cells #[.int .i64 ah,.int .u64 al] 100)).alloc (.cells #[.int .i64 bh,.int .u64 bl] 100)).alloc (.cells #[.int .i64 0,.int .u64 0] 100)).alloc (.cells #[.int .i64 0,.int .u64 0] 100))
 have p0:WP 0 0 0:=⟨by decide,by decide⟩
 have hbz:Below w.heap.size w wz:=by rw[hwz];exact((((Below.refl _ _).alloc (Nat.le_refl _) _).alloc (by simp) _).alloc (by simp;omega) _).alloc (by simp;omega) _
 have hsz:wz.heap.size=s+4:=by rw[hwz,hs];simp
 have qa:zBI wz s A:=by
  rw[hwz,hs]
  exact(((zBI.made w pA).keep (Below.heap_alloc _ _ _ (by simp))).keep (Below.heap_alloc _ _ _ (by simp;omega))).keep (Below.heap_alloc _ _ _ (by simp;omega))
 have qb:zBI wz (s+1) B:=by
  have h:=zBI.made (w.alloc (.cells #[.int .i64 ah,.int .u64 al] 100)) pB
  rw[World.size_alloc]at h
  rw[hwz,hs]
  exact(h.keep (Below.heap_alloc _ _ _ (by simp))).keep (Below.heap_alloc _ _ _ (by simp))
 have qq:zBI wz (s+2) 0:=by
  have h:=zBI.made ((w.alloc (.cells #[.int .i64 ah,.int .u64 al] 100)).alloc (.cells #[.int .i64 bh,.int .u64 bl] 100)) p0
  rw[World.size_alloc,World.size_alloc]at h
  rw[hwz,hs]
  exact h.keep (Below.heap_alloc _ _ _ (by simp))
 have qr:zBI wz (s+3) 0:=by
  have h:=zBI.made (((w.alloc (.cells #[.int .i64 ah,.int .u64 al] 100)).alloc (.cells #[.int .i64 bh,.int .u64 bl] 100)).alloc (.cells #[.int .i64 0,.int .u64 0] 100)) p0
  rw[World.size_alloc,World.size_alloc,World.size_alloc]at h
  rw[hwz,hs]
  exact h
 have HST:=hid (show ∀j:Nat,OverS A B j (A/2 ^ (j+1)/B) (A/2 ^ (j+1)%B) (A/2 ^ j%2)from fun j=>over_step hB.1 hA.1 j (q:=A/2 ^ (j+1)/B) (r:=A/2 ^ (j+1)%B) (t:=A/2 ^ j%2) rfl rfl rfl)
 have HTOP:=hid (show A/2 ^ 128/B=0∧A/2 ^ 128%B=0 from by
  have e:A/2 ^ 128=0:=Int.ediv_eq_zero_of_lt hA.1 (by have:=hA.2;omega)
  rw[e];simp)
 have hQB:=hid (fun(j:Nat)=>show A/2 ^ j/B<=A from by
  have h1:A/2 ^ j<=A:=Int.ediv_le_self _ hA.1
  have h2:A/2 ^ j/B<=A/2 ^ j:=Int.ediv_le_self _ (Int.ediv_nonneg hA.1 (by have:=zIM j;omega))
  omega)
 rw[pA.val,pB.val]
 have HBZ:=hid hbz
 have HSZ:=hid hsz
 have QA:=hid qa
 have QB:=hid qb
 have PA:=hid pA
 have PB:=hid pB
 clear hbz hsz qa qb
 go_enter Tryz.func150,Tryz.ntmps150
 go_wp2_with fail
 rw[<- hs,<- hwz]
 have HSV:=hid hs
 have HP0:=hid p0
 have HAA:=hid hA
 have HBB:=hid hB
 clear hwz hs p0 hA hB pA pB
 go_loopw [6] (fun i wr=>∃k:Nat,k<=128∧i=.int .i64 ((k:Int)-1)∧Keep (fun g=>g≠s+2∧g≠s+3) wz wr∧zBI wr (s+2) (A/2 ^ k/B)∧zBI wr (s+3) (A/2 ^ k%B)) (fun i _=>(intOf i+1).toNat)
 case atStart=>exact⟨128,by omega,rfl,Keep.refl _ _,by rw[HTOP.out.1];exact qq,by rw[HTOP.out.2];exact qr⟩
 case round=>
  obtain⟨k,hk,rfl,hkp,hq,hr⟩:=hrel
  have hsz:=HSZ.out
  cases k with
  |succ j=>
   have hj0:(((j+1:Nat):Int)-1)=(j:Int):=by omega
   rw[hj0]
   obtain⟨q,hqe⟩:=exq (A/2 ^ (j+1)/B)
   obtain⟨r,hre⟩:=exq (A/2 ^ (j+1)%B)
   obtain⟨t,hte⟩:=exq (A/2 ^ j%2)
   have hst:=HST.out j
   unfold OverS at hst
   rw[<- hqe,<- hre,<- hte]at hst
   rw[<- hqe]at hq
   rw[<- hre]at hr
   have hA':=hkp.block s (by omega) (by show s≠s+2∧s≠s+3;omega)
   have qa:=QA.out.keep hA'
   obtain⟨c0,c1,_,_,_⟩:=qa.cells PA.out
   have ht2:0<=t∧t<=1:=by omega
   have hqn:=hst.2.2.2.2.2
   have hst2:0<=r∧r<B:=⟨hst.2.1,hst.2.2.1⟩
   have QBW:=hid (QB.out.keep (hkp.block (s+1) (by omega) (by show s+1≠s+2∧s+1≠s+3;omega)))
   have hqe':=hqe
   have hqq2':q+q<=A:=by
    rcases Int.lt_or_le (r+r+t) B with c|c
    ·have:=(hst.2.2.2.2.2.1 c).1;have:=hQB.out j;omega
    ·have:=(hst.2.2.2.2.2.2 (by omega)).1;have:=hQB.out j;omega
   have HSTP:=hid hst
   have HQ:=hid hq
   have HR:=hid hr
   have HKP:=hid hkp
   have hj127:j<=127:=by omega
   clear hst hq hr hkp qa hA' hj0 hqe hre hk
   obtain⟨r1,r2,pr⟩:=WP.ex r
   obtain⟨k1,k2,pk⟩:=WP.ex q
   obtain⟨x1,x2,px⟩:=WP.ex (r+r)
   obtain⟨y1,y2,py⟩:=WP.ex (r+r+t)
   obtain⟨z1,z2,pz⟩:=WP.ex (q+q)
   have hr0:=HR.out
   obtain⟨d0,d1,d2,d3,d4⟩:=hr0.cells pr
   have hq0:=HQ.out
   obtain⟨e0,e1,e2,e3,e4⟩:=hq0.cells pk
   have hAA:=HAA.out
   have hBB:=HBB.out
   have hst:=HSTP.out
   have hpt:zBZ t=.agg #[.int .i64 0,.int .u64 t]:=by
    unfold zBZ
    rw[show t/18446744073709551616=0 by omega,show t%18446744073709551616=t by omega]
   have hP1:=hid (show ∀X:World,Calls Tryz.prog 161 #[.agg #[.int .i64 r1,.int .u64 r2],.agg #[.int .i64 r1,.int .u64 r2]] X fun e w'=>e=.returned (.agg #[.int .i64 x1,.int .u64 x2])∧Below X.heap.size X w' from fun X=>by
    have:=zIK X r r (by omega) (by omega) (by omega)
    rw[pr.val,px.val]at this;exact this)
   have hP2:=hid (show ∀X:World,Calls Tryz.prog 161 #[.agg #[.int .i64 x1,.int .u64 x2],.agg #[.int .i64 0,.int .u64 t]] X fun e w'=>e=.returned (.agg #[.int .i64 y1,.int .u64 y2])∧Below X.heap.size X w' from fun X=>by
    have:=zIK X (r+r) t (by omega) (by omega) (by omega)
    rw[px.val,hpt,py.val]at this;exact this)
   have hqq:q<=A∧0<=q:=⟨by rw[hqe'];exact hQB.out _,hst.1⟩
   have hqq2:q+q<=A:=hqq2'
   have HQ0:=hid (And.intro hst.1 hqq2')
   have hP3:=hid (show ∀X:World,Calls Tryz.prog 161 #[.agg #[.int .i64 k1,.int .u64 k2],.agg #[.int .i64 k1,.int .u64 k2]] X fun e w'=>e=.returned (.agg #[.int .i64 z1,.int .u64 z2])∧Below X.heap.size X w' from fun X=>by
    have:=zIK X q q (by omega) (by omega) (by omega)
    rw[pk.val,pz.val]at this;exact this)
   have hbit:(j<64->bits BinOp.and IntKind.u64 (al/2 ^ j) 1=t)∧(64<=j->bits BinOp.and IntKind.u64 (ah/2 ^ (j-64)) 1=t)∧IntKind.u64.wrap ah=ah:=by
    have e1:=PA.out.1
    have e2:=PA.out.2
    refine⟨fun h=>?_,fun h=>?_,?_⟩
    ·have h1:0<=al/2 ^ j:=Int.ediv_nonneg (by omega) (by have:=zIM j;omega)
     have h2:al/2 ^ j<=al:=Int.ediv_le_self _ (by omega)
     rw[and_one_u64 _ h1 (by omega),e2,hte]
     exact bit_low hAA.1 h
    ·have h1:0<=ah/2 ^ (j-64):=Int.ediv_nonneg (by omega) (by have:=zIM (j-64);omega)
     have h2:ah/2 ^ (j-64)<=ah:=Int.ediv_le_self _ (by omega)
     rw[and_one_u64 _ h1 (by omega),e1,hte,bit_high j h]
    ·rw[IntKind.wrap_u64];omega
   obtain⟨hb1,hb2,hb3⟩:=hbit
   have HCM:=hid (show ∀X:World,Calls Tryz.prog 207 #[.agg #[.int .i64 y1,.int .u64 y2],.agg #[.int .i64 bh,.int .u64 bl]] X fun e w'=>e=.returned (.int .i64 (cmpI (r+r+t) B))∧Below X.heap.size X w' from fun X=>by
    have:=zDJ X (r+r+t) B
    rw[py.val,PB.out.val]at this;exact this)
   have PR:=hid pr
   have PK:=hid pk
   have PZ:=hid pz
   clear hst hAA hBB hpt hqq hqq2 hqe' hqq2' hte pr pk px pz hr0 hq0
   have PY:=hid py
   clear py
   have HQN:=hid hqn
   have HST2:=hid hst2
   have HK:=hid (fun(X:World) (hX:Below wr.heap.size wr X)=>And.intro (HR.out.keep (hX.block _ HR.out.lt)) (And.intro (HQ.out.keep (hX.block _ HQ.out.lt)) (QBW.out.keep (hX.block _ QBW.out.lt))))
   have HSL:=hid (And.intro HR.out.lt (And.intro HQ.out.lt QBW.out.lt))
   clear hqn hst2
   have h64:(j<64∧bits BinOp.and IntKind.u64 (al/2 ^ j) 1=t)∨(¬j<64∧bits BinOp.and IntKind.u64 (ah/2 ^ (j-64)) 1=t):=by
    by_cases h:j<64
    ·exact .inl ⟨h,hb1 h⟩
    ·exact .inr ⟨h,hb2 (by omega)⟩
   clear hb1 hb2
   rcases h64 with⟨h64,hb1⟩|⟨h64,hb1⟩
   all_goals
    go_upto_region 7 with fail
    clear hb1 hb3
    go_wp2_with (go_at_call 161;refine(hP1.out _).mono ?_;rintro e w1 ⟨rfl,hb1⟩;refine Stop.of ?_)
    refine Stop.go ?_
    have HB1:=hid hb1
    clear hb1
    go_wp2_with (go_at_call 161;refine(hP2.out _).mono ?_;rintro e w2 ⟨rfl,hb2⟩;refine Stop.of ?_)
    refine Stop.go ?_
    have HB2:=hid (zAB HB1.out hb2)
    clear hb2 d0 d1 d2 d3 d4 e0 e1 e2 e3 e4
    obtain⟨m1,m2,m3⟩:=HK.out _ HB2.out
    obtain⟨a0,a1,a2,a3,a4⟩:=m1.cells PR.out
    have M1:=hid (zBI.set m1 PY.out)
    have M2:=hid (m2.other (b:=s+3) (by omega) (.int .i64 y1) (.int .u64 y2))
    have M3:=hid (m3.other (b:=s+3) (by omega) (.int .i64 y1) (.int .u64 y2))
    have KP:=hid (show Keep (fun g=>g≠s+2∧g≠s+3) wr ((w2.setCell ⟨s+3,0,none⟩ (.int .i64 y1)).setCell ⟨s+3,1,none⟩ (.int .u64 y2))from(Keep.of_below HB2.out:Keep (fun g=>g≠s+2∧g≠s+3) _ _).trans ((zAY w2 (s+3) _ _).mono fun g h=>h.2))
    obtain⟨v0,v1,v2,v3,v4⟩:=M1.out.cells PY.out
    obtain⟨g0,g1,g2,g3,g4⟩:=M2.out.cells PK.out
    clear m1 m2 m3
    go_wp2_with (go_at_call 161;refine(hP3.out _).mono ?_;rintro e w3 ⟨rfl,hb3⟩;refine Stop.of ?_)
    refine Stop.go ?_
    have HB3:=hid hb3
    have L1:=hid (M1.out.keep (hb3.block _ M1.out.lt))
    have L2:=hid (M2.out.keep (hb3.block _ M2.out.lt))
    have L3:=hid (M3.out.keep (hb3.block _ M3.out.lt))
    clear hb3 v0 v1 v2 v3 v4 g0 g1 g2 g3 g4 a0 a1 a2 a3 a4
    obtain⟨g0,g1,g2,g3,g4⟩:=L2.out.cells PK.out
    have N2:=hid (zBI.set L2.out PZ.out)
    have N1:=hid (L1.out.other (b:=s+2) (by omega) (.int .i64 z1) (.int .u64 z2))
    have N3:=hid (L3.out.other (b:=s+2) (by omega) (.int .i64 z1) (.int .u64 z2))
    have KN:=hid (KP.out.trans ((Keep.of_below HB3.out:Keep (fun g=>g≠s+2∧g≠s+3) _ _).trans ((zAY w3 (s+2) (.int .i64 z1) (.int .u64 z2)).mono fun g h=>h.1)))
    obtain⟨v0,v1,v2,v3,v4⟩:=N1.out.cells PY.out
    obtain⟨i0,i1,i2,i3,i4⟩:=N3.out.cells PB.out
    go_wp2_with (go_at_call 207;refine(HCM.out _).mono ?_;rintro e w4 ⟨rfl,hb4⟩;refine Stop.of ?_)
    refine Stop.go ?_
    have HB4:=hid hb4
    have O1:=hid (N1.out.keep (hb4.block _ N1.out.lt))
    have O2:=hid (N2.out.keep (hb4.block _ N2.out.lt))
    have O3:=hid (N3.out.keep (hb4.block _ N3.out.lt))
    have KO:=hid (KN.out.trans (Keep.of_below hb4:Keep (fun g=>g≠s+2∧g≠s+3) _ _))
    clear hb4 v0 v1 v2 v3 v4 g0 g1 g2 g3 g4 i0 i1 i2 i3 i4
    by_cases hcb:r+r+t<B
    ·have hc1:¬0<=cmpI (r+r+t) B:=by unfold cmpI;rw[if_pos hcb];decide
     go_wp2
     obtain⟨n1,n2⟩:=HQN.out.1 hcb
     exact⟨⟨j,by omega,rfl,HKP.out.trans KO.out,by rw[n1];exact O2.out,by rw[n2];exact O1.out⟩,by simp[intOf]⟩
    ·have hc1:0<=cmpI (r+r+t) B:=by unfold cmpI;rw[if_neg hcb];split<;>decide
     obtain⟨o1,o2,po⟩:=WP.ex (-B)
     obtain⟨f1,f2,pf⟩:=WP.ex (r+r+t-B)
     obtain⟨h1,h2,ph⟩:=WP.ex (q+q+1)
     have hBB:=HBB.out
     have hAA:=HAA.out
     have hst2:=HST2.out
     have hq0:=HQ0.out
     have hw1:zBZ 1=.agg #[.int .i64 0,.int .u64 1]:=by simp[zBZ]
     have HC1:=hid (show ∀X:World,Calls Tryz.prog 149 #[.agg #[.int .i64 bh,.int .u64 bl]] X fun e w'=>e=.returned (.agg #[.int .i64 o1,.int .u64 o2])∧Below X.heap.size X w' from fun X=>by
      have:=zKD X B (by omega)
      rw[PB.out.val,po.val]at this;exact this)
     have HC2:=hid (show ∀X:World,Calls Tryz.prog 161 #[.agg #[.int .i64 y1,.int .u64 y2],.agg #[.int .i64 o1,.int .u64 o2]] X fun e w'=>e=.returned (.agg #[.int .i64 f1,.int .u64 f2])∧Below X.heap.size X w' from fun X=>by
      have:=zIK X (r+r+t) (-B) (by omega) (by omega) (by omega)
      rw[show r+r+t+ -B=r+r+t-B by omega]at this
      rw[PY.out.val,po.val,pf.val]at this;exact this)
     have HC3:=hid (show ∀X:World,Calls Tryz.prog 161 #[.agg #[.int .i64 z1,.int .u64 z2],.agg #[.int .i64 0,.int .u64 1]] X fun e w'=>e=.returned (.agg #[.int .i64 h1,.int .u64 h2])∧Below X.heap.size X w' from fun X=>by
      have:=zIK X (q+q) 1 (by omega) (by omega) (by omega)
      rw[PZ.out.val,hw1,ph.val]at this;exact this)
     have PF:=hid pf
     have PH:=hid ph
     clear po pf ph hBB hAA hst2 hq0 hw1 ht2
     go_wp2
     refine zAI (fun j X=>decide (j<8∧j≠5)=true->X.cell? ⟨s+2,0,none⟩=some (.int .i64 z1)∧X.cell? ⟨s+2,1,none⟩=some (.int .u64 z2)) (by kernel_rfl) ?_
     have HS:=hid (show ∀X:World,Below w4.heap.size w4 X->X.cell? ⟨s+3,0,none⟩=some (.int .i64 y1)∧X.cell? ⟨s+3,1,none⟩=some (.int .u64 y2)∧X.cell? ⟨s+1,0,none⟩=some (.int .i64 bh)∧X.cell? ⟨s+1,1,none⟩=some (.int .u64 bl)∧X.cell? ⟨s+2,0,none⟩=some (.int .i64 z1)∧X.cell? ⟨s+2,1,none⟩=some (.int .u64 z2)from fun X hX=>by
      obtain⟨a0,a1,_⟩:=(O1.out.keep (hX.block _ O1.out.lt)).cells PY.out
      obtain⟨b0,b1,_⟩:=(O3.out.keep (hX.block _ O3.out.lt)).cells PB.out
      obtain⟨c0,c1,_⟩:=(O2.out.keep (hX.block _ O2.out.lt)).cells PZ.out
      exact⟨a0,a1,b0,b1,c0,c1⟩)
     have hbd:Below w4.heap.size w4 w4.drew:=(Below.refl _ _).drew
     generalize w4.drew=wd at hbd⊢
     have hS:=HS.out _ hbd
     refine AnyT.takeG (i:=5) (v:=.agg #[.int .i64 0,.int .u64 1]) (S:=fun X=>True) (Wf:=fun j=>true) (fun j w' h hj=>trivial) (fun w' h h5=>absurd h5 (by decide)) rfl rfl (by kernel_rfl) (by kernel_rfl) (by kernel_rfl) (by first|exact(fun _ _ _ h=>h)|exact(fun _ _ _ h=>absurd h.1 (by simp))) (by kernel_rfl) (by rfl) (by rintro w' _;go_simp) trivial ?_;go_frame
     refine AnyT.weak (T:=fun j X=>decide (j<8∧j≠5)=true->X.cell? ⟨s+2,0,none⟩=some (.int .i64 z1)∧X.cell? ⟨s+2,1,none⟩=some (.int .u64 z2)) (T':=fun j X=>decide (j<8)=true->X.cell? ⟨s+2,0,none⟩=some (.int .i64 z1)∧X.cell? ⟨s+2,1,none⟩=some (.int .u64 z2)) (fun j X h (hj:decide (j<8∧j≠5)=true)=>h (decide_eq_true (of_decide_eq_true hj).1)) _ _ _ _ ?_
     refine AnyT.tD (i:=4) (v:=.agg #[.int .i64 z1,.int .u64 z2]) rfl rfl (by rintro w' ⟨q5,q6⟩;go_simp) hS.2.2.2.2 ?_;go_frame
     refine AnyT.weak (T':=fun j X=>(decide (j<7)=true->X.cell? ⟨s+3,0,none⟩=some (.int .i64 y1)∧X.cell? ⟨s+3,1,none⟩=some (.int .u64 y2)∧X.cell? ⟨s+1,0,none⟩=some (.int .i64 bh)∧X.cell? ⟨s+1,1,none⟩=some (.int .u64 bl)∧X.cell? ⟨s+2,0,none⟩=some (.int .i64 z1)∧X.cell? ⟨s+2,1,none⟩=some (.int .u64 z2))∧(decide (j<8)=true->X.cell? ⟨s+2,0,none⟩=some (.int .i64 z1)∧X.cell? ⟨s+2,1,none⟩=some (.int .u64 z2))) (fun j X h=>h.2) _ _ _ _ ?_
     refine AnyT.takeG (i:=0) (v:=.agg #[.int .i64 y1,.int .u64 y2]) (S:=fun X=>X.cell? ⟨s+3,0,none⟩=some (.int .i64 y1)∧X.cell? ⟨s+3,1,none⟩=some (.int .u64 y2)∧X.cell? ⟨s+1,0,none⟩=some (.int .i64 bh)∧X.cell? ⟨s+1,1,none⟩=some (.int .u64 bl)∧X.cell? ⟨s+2,0,none⟩=some (.int .i64 z1)∧X.cell? ⟨s+2,1,none⟩=some (.int .u64 z2)) (Wf:=fun j=>decide (j<7)) (fun j w' h hj=>h.1 hj) (fun w' h=>⟨fun _=>h,fun _=>h.2.2.2.2⟩) rfl rfl (by kernel_rfl) (by kernel_rfl) (by kernel_rfl) (by first|exact(fun _ _ _ h=>h)|exact(fun _ _ _ h=>absurd h.1 (by simp))) (by kernel_rfl) (by rfl) (by rintro w' ⟨q1,q2,q3,q4,q5,q6⟩;go_simp) hS ?_;go_frame
     refine AnyT.takeG (i:=1) (v:=.agg #[.int .i64 bh,.int .u64 bl]) (S:=fun X=>X.cell? ⟨s+3,0,none⟩=some (.int .i64 y1)∧X.cell? ⟨s+3,1,none⟩=some (.int .u64 y2)∧X.cell? ⟨s+1,0,none⟩=some (.int .i64 bh)∧X.cell? ⟨s+1,1,none⟩=some (.int .u64 bl)∧X.cell? ⟨s+2,0,none⟩=some (.int .i64 z1)∧X.cell? ⟨s+2,1,none⟩=some (.int .u64 z2)) (Wf:=fun j=>decide (j<7)) (fun j w' h hj=>h.1 hj) (fun w' h=>⟨fun _=>h,fun _=>h.2.2.2.2⟩) rfl rfl (by kernel_rfl) (by kernel_rfl) (by kernel_rfl) (by first|exact(fun _ _ _ h=>h)|exact(fun _ _ _ h=>absurd h.1 (by simp))) (by kernel_rfl) (by rfl) (by rintro w' ⟨q1,q2,q3,q4,q5,q6⟩;go_simp) hS ?_;go_frame
     refine AnyT.nx (i:=2) rfl ?_
     go_wp2_with (go_at_call 149;refine(HC1.out _).mono ?_;rintro e w5 ⟨rfl,hb5⟩;refine Stop.of ?_)
     refine Stop.go ?_
     have HB5:=hid (zAB hbd hb5)
     clear hb5 hS
     go_wp2
     refine⟨⟨fun _=>HS.out _ HB5.out,fun _=>(HS.out _ HB5.out).2.2.2.2⟩,?_⟩
     refine AnyT.nx (i:=3) rfl ?_
     go_wp2_with (go_at_call 161;refine(HC2.out _).mono ?_;rintro e w6 ⟨rfl,hb6⟩;refine Stop.of ?_)
     refine Stop.go ?_
     have HB6:=hid (zAB HB5.out hb6)
     clear hb6
     go_wp2
     refine⟨⟨fun _=>HS.out _ HB6.out,fun _=>(HS.out _ HB6.out).2.2.2.2⟩,?_⟩
     refine AnyT.nx (i:=6) rfl ?_
     go_wp2_with (go_at_call 161;refine(HC3.out _).mono ?_;rintro e w7 ⟨rfl,hb7⟩;refine Stop.of ?_)
     refine Stop.go ?_
     have HB7:=hid (zAB HB6.out hb7)
     clear hb7
     have R1:=hid (O1.out.keep (HB7.out.block _ O1.out.lt))
     have R2:=hid (O2.out.keep (HB7.out.block _ O2.out.lt))
     go_wp2
     refine⟨⟨fun _=>HS.out _ HB7.out,fun _=>(HS.out _ HB7.out).2.2.2.2⟩,?_⟩
     obtain⟨v0,v1,v2,v3,v4⟩:=R1.out.cells PY.out
     have V1:=hid (zBI.set R1.out PF.out)
     have V2:=hid (R2.out.other (b:=s+3) (by omega) (.int .i64 f1) (.int .u64 f2))
     refine AnyT.nx (i:=7) rfl ?_
     go_wp2
     clear v0 v1 v2 v3 v4
     obtain⟨g0,g1,g2,g3,g4⟩:=V2.out.cells PZ.out
     refine⟨⟨fun h=>absurd h (by decide),fun _=>⟨g0,g1⟩⟩,?_⟩
     have X2:=hid (zBI.set V2.out PH.out)
     have X1:=hid (V1.out.other (b:=s+2) (by omega) (.int .i64 h1) (.int .u64 h2))
     have KX:=hid (KO.out.trans ((Keep.of_below HB7.out:Keep (fun g=>g≠s+2∧g≠s+3) _ _).trans (((zAY w7 (s+3) (.int .i64 f1) (.int .u64 f2)).mono fun g h=>h.2).trans ((zAY _ (s+2) (.int .i64 h1) (.int .u64 h2)).mono fun g h=>h.1))))
     refine AnyT.nx (i:=8) rfl ?_
     go_wp2
     refine⟨⟨fun h=>absurd h (by decide),fun h=>absurd h (by decide)⟩,?_⟩
     refine AnyT.done (by kernel_rfl) ?_ _
     go_wp2
     obtain⟨n1,n2⟩:=HQN.out.2 (by omega)
     exact⟨⟨j,by omega,rfl,HKP.out.trans KX.out,by rw[n1];exact X2.out,by rw[n2];exact X1.out⟩,by simp[intOf]⟩
  |zero=>
   rw[Int.pow_zero,Int.ediv_one]at hq hr
   have HQ:=hid hq
   have HR:=hid hr
   have HKP:=hid hkp
   obtain⟨q1,q2,pq⟩:=WP.ex (A/B)
   obtain⟨r1,r2,pr⟩:=WP.ex (A%B)
   have PQ:=hid pq
   have PR:=hid pr
   have hm1:((0:Nat):Int)-1= -1:=by decide
   rw[hm1]
   have HVQ:=hid pq.val
   have HVR:=hid pr.val
   clear hq hr hkp pq pr hm1
   go_wp2
   refine zAI (fun j X=>wAll j=true->X.cell? ⟨s+2,0,none⟩=some (.int .i64 q1)∧X.cell? ⟨s+2,1,none⟩=some (.int .u64 q2)∧X.cell? ⟨s+3,0,none⟩=some (.int .i64 r1)∧X.cell? ⟨s+3,1,none⟩=some (.int .u64 r2)) (by kernel_rfl) ?_
   have hbd:Below wr.heap.size wr wr.drew:=(Below.refl _ _).drew
   have G2:=hid (HQ.out.keep (hbd.block _ HQ.out.lt))
   have G3:=hid (HR.out.keep (hbd.block _ HR.out.lt))
   have KD:=hid (HKP.out.trans (Keep.of_below hbd:Keep (fun g=>g≠s+2∧g≠s+3) _ _))
   generalize wr.drew=wd at G2 G3 KD⊢
   obtain⟨a0,a1,a2,a3,a4⟩:=G2.out.cells PQ.out
   obtain⟨b0,b1,b2,b3,b4⟩:=G3.out.cells PR.out
   have hS:wd.cell? ⟨s+2,0,none⟩=some (.int .i64 q1)∧wd.cell? ⟨s+2,1,none⟩=some (.int .u64 q2)∧wd.cell? ⟨s+3,0,none⟩=some (.int .i64 r1)∧wd.cell? ⟨s+3,1,none⟩=some (.int .u64 r2):=⟨a0,a1,b0,b1⟩
   refine AnyT.tD (i:=0) (v:=.agg #[.int .i64 q1,.int .u64 q2]) rfl rfl (by rintro w' ⟨x1,x2,x3,x4⟩;go_simp) hS ?_;go_frame
   refine AnyT.tD (i:=1) (v:=.agg #[.int .i64 r1,.int .u64 r2]) rfl rfl (by rintro w' ⟨x1,x2,x3,x4⟩;go_simp) hS ?_;go_frame
   have M2:=hid (zBI.set G2.out PQ.out)
   have M3:=hid (G3.out.other (b:=s+2) (by omega) (.int .i64 q1) (.int .u64 q2))
   refine AnyT.nx (i:=2) rfl ?_
   go_wp2
   clear a0 a1 a2 a3 a4 b0 b1 b2 b3 b4 hS
   obtain⟨a0,a1,a2,a3,a4⟩:=M2.out.cells PQ.out
   obtain⟨b0,b1,b2,b3,b4⟩:=M3.out.cells PR.out
   refine⟨fun _=>⟨a0,a1,b0,b1⟩,?_⟩
   have N3:=hid (zBI.set M3.out PR.out)
   have N2:=hid (M2.out.other (b:=s+3) (by omega) (.int .i64 r1) (.int .u64 r2))
   have KN:=hid (KD.out.trans (((zAY wd (s+2) (.int .i64 q1) (.int .u64 q2)).mono fun g h=>h.1).trans ((zAY _ (s+3) (.int .i64 r1) (.int .u64 r2)).mono fun g h=>h.2)))
   refine AnyT.nx (i:=3) rfl ?_
   go_wp2
   clear a0 a1 a2 a3 a4 b0 b1 b2 b3 b4
   obtain⟨a0,a1,a2,a3,a4⟩:=N2.out.cells PQ.out
   obtain⟨b0,b1,b2,b3,b4⟩:=N3.out.cells PR.out
   refine⟨fun _=>⟨a0,a1,b0,b1⟩,?_⟩
   refine AnyT.done (by kernel_rfl) ?_ _
   have HFB:=hid (KN.out.below HBZ.out (by have:=HSV.out;omega) (fun k hk=>by have:=HSV.out;omega))
   go_wp2
   change bodyPost _ _ _ _ _ ((((wd.setCell ⟨s+2,0,none⟩ (.int .i64 q1)).setCell ⟨s+2,1,none⟩ (.int .u64 q2)).setCell ⟨s+3,0,none⟩ (.int .i64 r1)).setCell ⟨s+3,1,none⟩ (.int .u64 r2))
   generalize (((wd.setCell ⟨s+2,0,none⟩ (.int .i64 q1)).setCell ⟨s+2,1,none⟩ (.int .u64 q2)).setCell ⟨s+3,0,none⟩ (.int .i64 r1)).setCell ⟨s+3,1,none⟩ (.int .u64 r2)=WF at*
   refine bodyPost_ret (v:=.tuple #[.agg #[.int .i64 q1,.int .u64 q2],.agg #[.int .i64 r1,.int .u64 r2]]) ?_ rfl ⟨by rw[HVQ.out,HVR.out],HFB.out⟩
   simp[results,Tryz.results150,go_sem,a0,a1,a2,a3,a4,b0,b1,b2,b3,b4]
end
section
open Go.RowKit
def RatI(w:World)(g:Nat)(r:Rt):Prop:=w.heap[g]? =some (.cells #[.int .i64 r.1,.int .i64 r.2] 29 (0,0))
theorem RatI.lt{w:World}{g:Nat}{r:Rt}(h:RatI w g r):g<w.heap.size:=(Array.getElem?_eq_some_iff.1 h).1
theorem RatI.keep{w w':World}{g:Nat}{r:Rt}(h:RatI w g r)(hk:w'.heap[g]? =w.heap[g]?):RatI w' g r:=hk.trans h
theorem RatI.cells{w:World}{g:Nat}{r:Rt}(h:RatI w g r):w.cell? ⟨g,0,none⟩=some (.int .i64 r.1)∧w.cell? ⟨g,1,none⟩=some (.int .i64 r.2)∧w.frozen? ⟨g,0,none⟩=false∧w.frozen? ⟨g,1,none⟩=false∧g<w.heap.size:=by
 have hl:=h.lt
 unfold RatI at h
 exact⟨by simp[World.cell?,h],by simp[World.cell?,h],by simp[World.frozen?,h],by simp[World.frozen?,h],hl⟩
theorem RatI.set{w:World}{g:Nat}{r p:Rt}(h:RatI w g r):RatI ((w.setCell ⟨g,0,none⟩ (.int .i64 p.1)).setCell ⟨g,1,none⟩ (.int .i64 p.2)) g p:=by
 have h1:=zBA h 0 (v:=.int .i64 p.1)
 have h2:=zBA h1 1 (v:=.int .i64 p.2)
 unfold RatI
 rw[h2];rfl
theorem RatI.made(w:World)(r:Rt):RatI (w.alloc (.cells #[.int .i64 r.1,.int .i64 r.2] 29)) w.heap.size r:=World.alloc_heap_new _ _
theorem WP.zero:WP 0 0 0:=⟨rfl,rfl⟩
theorem zBI.made0(w:World):zBI (w.alloc (.cells #[.int .i64 0,.int .u64 0] 100)) w.heap.size 0:=zBI.made w WP.zero
def RatioR(n d:Int)(e:Ending):Prop:=∃r:Rt,e=.returned (.tuple #[ratV r,.bool (zAJ (zBC n d))])∧(zAJ (zBC n d)=true->r=zBC n d)
def RatioLaw:Prop:=∀(w:World) (n d:Int),(-170141183460469231731687303715884105728<n∧n<170141183460469231731687303715884105728)->(0<d∧d<166153499473114484112975882535043072)->
    Calls Tryz.prog 83 #[sumV n d] w fun e w'=>RatioR n d e∧Below w.heap.size w w'
end
end Go.Proofs.YtlffndehhhpgjaaGreat
