/- Walks and plain laws for DualShadesRow, part 7. -/
import Derived.Lib.SliceRun
import Derived.Test.YtlffndehhhpgjaaGreatPkDualShadesRow6
namespace Go.Proofs.YtlffndehhhpgjaaGreat
set_option linter.unusedVariables false
set_option linter.unusedSimpArgs false
set_option maxRecDepth 100000
set_option maxHeartbeats 4000000
section
structure Circ (M:List (List Int)) (n:Nat) (c:List Int):Prop where
 len:c.length=n
 ker:zDJ M n (vec c)
 prim:Prim (vec c)
 pos:0<zBV c
 least:∀v,zDJ M n v->(∀j,j<n->vec c j=0->v j=0)->(∃j,j<n∧v j≠0)->∀j,j<n->vec c j≠0->v j≠0
theorem zFX:∀(l:List Int),zBV l≠0->∃j,j<l.length∧vec l j=zBV l∧∀i,i<j->vec l i=0
 | [],h=>by simp[zBV]at h
 |x::l,h=>by
  by_cases e:x=0
  ·have h1:zBV (x::l)=zBV l:=by show(if x=0 then zBV l else x)=_;rw[if_pos e]
   rw[h1]at h⊢
   obtain⟨j,hj,h2,h3⟩:=zFX l h
   refine⟨j+1,by simp;omega,by rw[<- h2];simp[vec],fun i hi=>?_⟩
   cases i with
   |zero=>simp[vec,e]
   |succ i=>have:=h3 i (by omega);simpa[vec]using this
  ·have h1:zBV (x::l)=x:=by show(if x=0 then zBV l else x)=_;rw[if_neg e]
   rw[h1]
   exact⟨0,by simp,by simp[vec],fun i hi=>by omega⟩
theorem zLM:∀(l:List Int) (j:Nat),vec l j≠0->(∀i,i<j->vec l i=0)->zBV l=vec l j
 | [],j,h,_=>by simp[vec]at h
 |x::l,0,h,_=>by
  have hx:x≠0:=by simpa[vec]using h
  show(if x=0 then zBV l else x)=_
  rw[if_neg hx];simp[vec]
 |x::l,j+1,h,h0=>by
  have hx:x=0:=by have:=h0 0 (by omega);simpa[vec]using this
  show(if x=0 then zBV l else x)=_
  rw[if_pos hx,zLM l j (by simpa[vec]using h) (fun i hi=>by have:=h0 (i+1) (by omega);simpa[vec]using this)]
  simp[vec]
theorem vec_ext{l m:List Int}(hl:l.length=m.length)(h:∀j,vec l j=vec m j):l=m:=
 List.ext_getElem hl fun j h1 h2=>by have:=h j;rwa [zCN h1,zCN h2]at this
theorem zDJ.lin{M:List (List Int)}{n:Nat}{u v:Vec}(hu:zDJ M n u)(hv:zDJ M n v)(x y:Int):zDJ M n (fun c=>x*u c+y*v c):=by
 intro q hq
 have h1:=hu q hq
 have h2:=hv q hq
 unfold dotS at*
 rw[zAH (g:=fun c=>x*(rowv M q c*u c)+y*(rowv M q c*v c)) (fun c _=>by grind),zGD,zCM,zCM,h1,h2];simp
theorem Circ.one{M:List (List Int)}{n:Nat}{c d:List Int}(hc:Circ M n c)(hd:Circ M n d)(hs:∀j,j<n->vec c j=0->vec d j=0):c=d:=by
 obtain⟨j0,hj0,e0,z0⟩:=zFX d (by have:=hd.pos;omega)
 rw[hd.len]at hj0
 have hd0:vec d j0≠0:=by have:=hd.pos;omega
 have hcd:=hc.least _ hd.ker hs ⟨j0,hj0,hd0⟩
 -- same support
 have hc0:vec c j0≠0:=fun e=>hd0 (hs j0 hj0 e)
 have zc:∀i,i<j0->vec c i=0:=fun i hi=>Classical.byContradiction fun h=>hcd i (by omega) h (z0 i hi)
 have ec:=zLM c j0 hc0 zc
 have hk:∀j,vec d j0*vec c j=vec c j0*vec d j:=by
  intro j
  rcases Nat.lt_or_ge j n with hj|hj
  ·refine Classical.byContradiction fun hne=>?_
   have hv:=hc.ker.lin hd.ker (vec d j0) (-(vec c j0))
   have:=hc.least _ hv (fun i hi h=>by rw[h,hs i hi h];simp) ⟨j,hj,fun h=>hne (by rw[Int.neg_mul]at h;omega)⟩ j0 hj0 hc0
   refine this ?_
   rw[Int.neg_mul,Int.mul_comm];omega
  ·rw[zGC (l:=c) (c:=j) (by rw[hc.len];exact hj),zGC (l:=d) (c:=j) (by rw[hd.len];exact hj)];simp
 refine vec_ext (by rw[hc.len,hd.len]) fun j=>prim_eq (x:=vec d j0) (y:=vec c j0) ?_ ?_ hk hc.prim hd.prim j
 ·have:=hd.pos;omega
 ·have:=hc.pos;omega
theorem zIF{M:List (List Int)}{n:Nat}(h:MaskOk M n){S c:List Int}(hS:zCE n S)(hne:S≠[])(hc:zEY M n S=some c):Circ M n c:=by
 obtain⟨f1,f2,_,f4,f5⟩:=zLQ h hS hne hc
 refine⟨f1,f2,f4,f5,fun v hv h0 hn j hj hcj=>?_⟩
 refine circ_least h hS hc hv (fun i hi hm=>h0 i hi ?_) hn j ((zHK h hS hc j).1 hcj)
 exact Classical.byContradiction fun e=>hm ((zHK h hS hc i).1 e)
theorem comb_nodup0{n:Nat}{S:List Int}(hS:zCE n S):S.length<=n:=by
 rcases Nat.lt_or_ge n S.length with h|h
 ·have h1:=zHI n 0 S hS.1 (fun y hy=>by have:=hS.2 y hy;omega)
  rw[zFP n S.length 0 h]at h1
  simp at h1
 ·exact h
theorem circP_iff{M:List (List Int)}{n:Nat}(h:MaskOk M n){c:List Int}:c∈circP M n↔Circ M n c:=by
 rw[circP_mem]
 constructor
 ·rintro⟨k,S,hk,hS,hc⟩
  have hl:=zCP _ _ _ S hS
  exact zIF h (comb_ok hS) (fun e=>by rw[e]at hl;simp at hl) hc
 ·intro hc
  obtain⟨j0,hj0,e0,_⟩:=zFX c (by have:=hc.pos;omega)
  rw[hc.len]at hj0
  obtain⟨S,d,hS,_,hne,hsub,hd⟩:=zKR h _ (vec c) rfl hc.ker ⟨j0,hj0,by have:=hc.pos;omega⟩
  have hD:=zIF h hS hne hd
  have e:=hc.one hD (fun j hj hz=>Classical.byContradiction fun hn=>by
   have:=hsub _ ((zHK h hS hd j).1 hn)
   exact(zBL.1 this).2 hz)
  subst e
  obtain⟨k,hk⟩:∃k,S.length=k+1:=⟨S.length-1,by have:=List.length_pos_iff.2 hne;omega⟩
  have h1:¬zEH M n+1<S.length:=fun hlt=>by rw[circ1_many h hlt]at hd;cases hd
  have h2:S.length<=n:=by
   have:=(comb_nodup0 hS)
   exact this
  have h3:=zHI n 0 S hS.1 (fun y hy=>by have:=hS.2 y hy;omega)
  rw[hk]at h3
  exact⟨k,S,by omega,h3,hd⟩
theorem zFZ:∀(m k:Nat) (a:Int),(comb m k a).Nodup
 |_,0,_=>by unfold comb;simp
 |0,_+1,_=>by unfold comb;simp
 |m+1,k+1,a=>by
  unfold comb
  rw[List.nodup_append]
  refine⟨?_,zFZ m (k+1) (a+1),?_⟩
  ·unfold List.Nodup
   rw[List.pairwise_map]
   exact(zFZ m k (a+1)).imp fun h e=>h (by simpa using e)
  ·rintro x hx y hy rfl
   obtain⟨z,_,rfl⟩:=List.mem_map.1 hx
   have:=(zHJ _ _ _ _ hy).2 a (by simp)
   omega
structure Perm2 (n:Nat) (s t:Nat->Nat):Prop where
 s_lt:∀i,i<n->s i<n
 t_lt:∀i,i<n->t i<n
 st:∀i,i<n->s (t i)=i
 ts:∀i,i<n->t (s i)=i
theorem Perm2.symm{n:Nat}{s t:Nat->Nat}(h:Perm2 n s t):Perm2 n t s:=⟨h.t_lt,h.s_lt,h.ts,h.st⟩
end
section
def SolM(M:List (List Int))(n:Nat)(y:List Int)(l:Nat->Int)(D:Int):Prop:=0<D∧∀q,q<M.length->sm (fun i=>rowv M q i*l i) n=vec y q*D
theorem zKA{P:Nat->Prop}{a b:Nat->Int}(ha:∀j,P j->0<=a j)(hb:∀j,P j->0<b j):∀n:Nat,(∃j,j<n∧P j)->∃p,p<n∧P p∧∀j,j<n->P j->a p*b j<=a j*b p
 |0,h=>by obtain⟨j,hj,_⟩:=h;omega
 |n+1,h=>by
  by_cases hn:∃j,j<n∧P j
  ·obtain⟨p,hp,hP,hmin⟩:=zKA ha hb n hn
   by_cases hPn:P n∧a n*b p<a p*b n
   ·refine⟨n,by omega,hPn.1,fun j hj hPj=>?_⟩
    rcases Nat.lt_or_ge j n with c|c
    ·have h1:=hmin j c hPj
     -- a n/b n<a p/b p<=a j/b j
     have hbp:=hb p hP
     have hbj:=hb j hPj
     have hbn:=hb n hPn.1
     have h2:a n*b j*b p<=a j*b n*b p:=by
      have e1:a n*b p*b j<=a p*b n*b j:=Int.mul_le_mul_of_nonneg_right (by omega) (by omega)
      have e2:a p*b j*b n<=a j*b p*b n:=Int.mul_le_mul_of_nonneg_right h1 (by omega)
      have e3:a n*b j*b p=a n*b p*b j:=by grind
      have e4:a p*b n*b j=a p*b j*b n:=by grind
      have e5:a j*b n*b p=a j*b p*b n:=by grind
      omega
     exact Int.le_of_mul_le_mul_right h2 hbp
    ·have:j=n:=by omega
     subst this;exact Int.le_refl _
   ·refine⟨p,by omega,hP,fun j hj hPj=>?_⟩
    rcases Nat.lt_or_ge j n with c|c
    ·exact hmin j c hPj
    ·have:j=n:=by omega
     subst this
     rcases Int.lt_or_le (a j*b p) (a p*b j)with h1|h1
     ·exact absurd ⟨hPj,h1⟩ hPn
     ·exact h1
  ·obtain⟨j,hj,hPj⟩:=h
   have:j=n:=by
    rcases Nat.lt_or_ge j n with c|c
    ·exact absurd ⟨j,c,hPj⟩ hn
    ·omega
   subst this
   exact⟨j,by omega,hPj,fun i hi hPi=>by
    rcases Nat.lt_or_ge i j with c|c
    ·exact absurd ⟨i,c,hPi⟩ hn
    ·have:i=j:=by omega
     subst this;exact Int.le_refl _⟩
theorem sm_nonpos{f:Nat->Int}:∀n:Nat,(∀j,j<n->f j<=0)->sm f n<=0
 |0,_=>Int.le_refl _
 |n+1,h=>by
  have:=sm_nonpos n (fun j hj=>h j (by omega))
  have:=h n (by omega)
  show sm f n+f n<=0
  omega
theorem zMB{f g:Nat->Int}:∀n:Nat,(∀j,j<n->f j<=g j)->sm f n<=sm g n
 |0,_=>Int.le_refl _
 |n+1,h=>by
  have h1:=zMB n (fun j hj=>h j (by omega))
  have h2:=h n (by omega)
  show sm f n+f n<=sm g n+g n
  omega
theorem dep_circ{M:List (List Int)}{n:Nat}(hM:MaskOk M n){S:List Int}(hS:zCE n S)(hne:zEH (zAU M S) S.length≠S.length):∃c,c∈circP M n∧c.length=n∧zDJ M n (vec c)∧(∀j:Nat,vec c j≠0->(j:Int)∈S)∧∃j,j<n∧vec c j≠0:=by
 have hrk:=(hM.cols S).rank_ker
 have hkl:0<(zHB M S).length:=by
  show 0<(zKF (RP (zAU M S) S.length) (JP (zAU M S) S.length) S.length).length
  omega
 have hm:(zHB M S)[0]∈zHB M S:=List.getElem_mem _
 obtain⟨u,hu⟩:=exq ((zHB M S)[0])
 rw[<- hu]at hm
 obtain⟨k1,k2,k3,f,hf,k4⟩:=(hM.cols S).kern hm
 have hv:=(zEL (M:=M) hS).2 k1
 obtain⟨v,hve⟩:=exq (vec (zAQ n S u S.length))
 have hnz:∃j,j<n∧v j≠0:=by
  have hf2:=hS.2 S[f] (List.getElem_mem hf)
  refine⟨(S[f]).toNat,by omega,?_⟩
  rw[hve]
  exact(zFC hS k2).2 ⟨f,hf,by omega,by omega⟩
 rw[<- hve]at hv
 obtain⟨T,c,hT,hTl,hTne,hSub,hcc⟩:=zKR hM (zAT n v).length v rfl hv hnz
 have hC:=zIF hM hT hTne hcc
 obtain⟨f1,f2,_,f4,f5⟩:=zLQ hM hT hTne hcc
 refine⟨c,(circP_iff hM).2 hC,f1,f2,fun j hj=>?_,?_⟩
 ·have h1:=hSub _ ((zHK hM hT hcc j).1 hj)
  have h2:=(zBL.1 h1).2
  rw[hve]at h2
  obtain⟨i,hi,e,_⟩:=(zFC hS k2).1 h2
  rw[<- e];exact List.getElem_mem hi
 ·obtain⟨j0,hj0,e0,_⟩:=zFX c (by omega)
  exact⟨j0,by omega,by omega⟩
def CostB(M:List (List Int))(n:Nat)(l w:Nat->Int):Prop:=
 ∀c,c∈circP M n->∀e:Int,(e=1∨e= -1)->(∀j,j<n->vec c j≠0->l j≠0)->(∀j,j<n->l j*(e*vec c j)<=0)->sm (fun j=>w j*(e*vec c j)) n<=0
theorem lp_reduce{M:List (List Int)}{n:Nat}(hM:MaskOk M n){y:List Int}(w:Nat->Int):∀(s:Nat) (l:Nat->Int) (D:Int),(zAT n l).length=s->SolM M n y l D->CostB M n l w->
 ∃(k:Nat->Int) (E:Int),SolM M n y k E∧zEH (zAU M (zAT n k)) (zAT n k).length=(zAT n k).length∧(∀j,j<n->k j≠0->0<k j*l j)∧sm (fun j=>w j*k j) n*D<=sm (fun j=>w j*l j) n*E:=by
 intro s
 induction s using Nat.strongRecOn with
 |ind s ih=>
  intro l D hs hl hw
  by_cases hr:zEH (zAU M (zAT n l)) (zAT n l).length=(zAT n l).length
  ·refine⟨l,D,hl,hr,fun j hj h=>?_,Int.le_refl _⟩
   rcases Int.lt_or_gt_of_ne h with c|c
   ·exact Int.mul_pos_of_neg_of_neg c c
   ·exact Int.mul_pos c c
  ·obtain⟨c,hc,hcl,hck,hcs,hcn⟩:=dep_circ hM (zCV n l) hr
   have hsub:∀j,j<n->vec c j≠0->l j≠0:=fun j hj h=>(zBL.1 (hcs j h)).2
   -- the direction:the cost does not grow,and some number becomes less
   have hdir:∃e:Int,(e=1∨e= -1)∧0<=sm (fun j=>w j*(e*vec c j)) n∧∃j,j<n∧0<l j*(e*vec c j):=by
    have hneg:∀e:Int,sm (fun j=>w j*(-e*vec c j)) n= -sm (fun j=>w j*(e*vec c j)) n:=fun e=>by
     have:=zCM (-1) (fun j=>w j*(e*vec c j)) n
     rw[<- zAH (f:=fun j=> -1*(w j*(e*vec c j))) (g:=fun j=>w j*(-e*vec c j)) (fun j _=>by grind),this]
     omega
    have hex:∀e:Int,(e=1∨e= -1)->¬(∃j,j<n∧0<l j*(e*vec c j))->∀j,j<n->l j*(e*vec c j)<=0:=fun e _ h j hj=>by
     rcases Int.lt_or_le 0 (l j*(e*vec c j))with c1|c1
     ·exact absurd ⟨j,hj,c1⟩ h
     ·exact c1
    rcases Int.lt_trichotomy 0 (sm (fun j=>w j*(1*vec c j)) n)with c1|c1|c1
    ·by_cases h:∃j,j<n∧0<l j*(1*vec c j)
     ·exact⟨1,.inl rfl,by omega,h⟩
     ·have:=hw c hc 1 (.inl rfl) hsub (hex 1 (.inl rfl) h)
      omega
    ·obtain⟨j,hj,hcj⟩:=hcn
     have hlj:=hsub j hj hcj
     rcases Int.lt_or_gt_of_ne (Int.mul_ne_zero hlj hcj)with c2|c2
     ·refine⟨-1,.inr rfl,by rw[hneg 1];omega,j,hj,?_⟩
      have:l j*(-1*vec c j)= -(l j*vec c j):=by grind
      omega
     ·refine⟨1,.inl rfl,by omega,j,hj,?_⟩
      have:l j*(1*vec c j)=l j*vec c j:=by grind
      omega
    ·by_cases h:∃j,j<n∧0<l j*(-1*vec c j)
     ·exact⟨-1,.inr rfl,by rw[hneg 1];omega,h⟩
     ·have:=hw c hc (-1) (.inr rfl) hsub (hex (-1) (.inr rfl) h)
      rw[hneg 1]at this
      omega
   obtain⟨e,he,hσ,hpos⟩:=hdir
   have hen:e≠0:=by rcases he with h|h<;>omega
   obtain⟨h,hh⟩:∃h:Nat->Int,h=fun j=>e*vec c j:=⟨_,rfl⟩
   have hhk:∀q,q<M.length->sm (fun i=>rowv M q i*h i) n=0:=fun q hq=>by
    have:=hck q hq
    unfold dotS at this
    rw[zAH (g:=fun i=>e*(rowv M q i*vec c i)) (fun i _=>by rw[hh];grind),zCM,this]
    simp
   have hhs:∀j,j<n->h j≠0->l j≠0:=fun j hj hz=>hsub j hj fun hz2=>hz (by rw[hh];simp[hz2])
   have hσ':0<=sm (fun j=>w j*h j) n:=by rw[hh];exact hσ
   have hpos':∃j,j<n∧0<l j*h j:=by rw[hh];exact hpos
   clear hσ hpos
   -- the least ratio
   obtain⟨p,hp,hPp,hmin⟩:=zKA (P:=fun j=>0<l j*h j) (a:=fun j=>((l j).natAbs:Int)) (b:=fun j=>((h j).natAbs:Int)) (fun j _=>by omega) (fun j hj=>by
    have:h j≠0:=fun hz=>by rw[hz]at hj;simp at hj
    omega) n hpos'
   have hhp:h p≠0:=fun hz=>by rw[hz]at hPp;simp at hPp
   have hlp:l p≠0:=fun hz=>by rw[hz]at hPp;simp at hPp
   obtain⟨A,hA⟩:∃A:Int,A=((h p).natAbs:Int):=⟨_,rfl⟩
   obtain⟨B,hB⟩:∃B:Int,B=((l p).natAbs:Int):=⟨_,rfl⟩
   have hA0:0<A:=by omega
   have hB0:0<B:=by omega
   obtain⟨k,hk⟩:∃k:Nat->Int,k=fun j=>A*l j-B*h j:=⟨_,rfl⟩
   have hkp:k p=0:=by
    rw[hk,hA,hB]
    show((h p).natAbs:Int)*l p-((l p).natAbs:Int)*h p=0
    rcases Int.lt_or_gt_of_ne hhp with c1|c1
    ·have c2:l p<0:=by
      rcases Int.lt_or_gt_of_ne hlp with c2|c2
      ·exact c2
      ·have:=Int.mul_neg_of_pos_of_neg c2 c1;omega
     have e1:((h p).natAbs:Int)= -h p:=by omega
     have e2:((l p).natAbs:Int)= -l p:=by omega
     rw[e1,e2];grind
    ·have c2:0<l p:=by
      rcases Int.lt_or_gt_of_ne hlp with c2|c2
      ·have:=Int.mul_neg_of_neg_of_pos c2 c1;omega
      ·exact c2
     have e1:((h p).natAbs:Int)=h p:=by omega
     have e2:((l p).natAbs:Int)=l p:=by omega
     rw[e1,e2];grind
   have hkl0:∀j,j<n->k j≠0->l j≠0:=fun j hj hz hz2=>by
    apply hz
    have h0:h j=0:=Classical.byContradiction fun h1=>hhs j hj h1 hz2
    rw[hk];show A*l j-B*h j=0
    rw[hz2,h0];simp
   have hks:∀j,j<n->0<=k j*l j:=fun j hj=>by
    rw[hk]
    show 0<=(A*l j-B*h j)*l j
    have e1:(A*l j-B*h j)*l j=A*(l j*l j)-B*(l j*h j):=by grind
    rw[e1]
    have e2:0<=A*(l j*l j):=Int.mul_nonneg (by omega) (by
     rcases Int.lt_or_le (l j) 0 with c1|c1
     ·exact Int.le_of_lt (Int.mul_pos_of_neg_of_neg c1 c1)
     ·exact Int.mul_nonneg c1 c1)
    rcases Int.lt_or_le 0 (l j*h j)with c1|c1
    ·have h1:((l p).natAbs:Int)*((h j).natAbs:Int)<=((l j).natAbs:Int)*((h p).natAbs:Int):=hmin j hj c1
     rw[<- hA,<- hB]at h1
     -- B* |h j| <= |l j| *A,times|l j|
     have h2:B*((h j).natAbs:Int)*((l j).natAbs:Int)<=((l j).natAbs:Int)*A*((l j).natAbs:Int):=Int.mul_le_mul_of_nonneg_right h1 (by omega)
     have h3:((l j).natAbs:Int)*((l j).natAbs:Int)=l j*l j:=by rw[<- Int.natCast_mul,<- Int.natAbs_mul,Int.natAbs_of_nonneg];exact(by
      rcases Int.lt_or_le (l j) 0 with c1|c1
      ·exact Int.le_of_lt (Int.mul_pos_of_neg_of_neg c1 c1)
      ·exact Int.mul_nonneg c1 c1)
     have h4:((h j).natAbs:Int)*((l j).natAbs:Int)=l j*h j:=by rw[Int.mul_comm,<- Int.natCast_mul,<- Int.natAbs_mul,Int.natAbs_of_nonneg (by omega)]
     have h5:B*((h j).natAbs:Int)*((l j).natAbs:Int)=B*(l j*h j):=by rw[Int.mul_assoc,h4]
     have h6:((l j).natAbs:Int)*A*((l j).natAbs:Int)=A*(l j*l j):=by rw[<- h3];grind
     omega
    ·have:B*(l j*h j)<=0:=Int.mul_nonpos_of_nonneg_of_nonpos (by omega) c1
     omega
   have hsol:SolM M n y k (D*A):=by
    refine⟨Int.mul_pos hl.1 hA0,fun q hq=>?_⟩
    have e1:=hl.2 q hq
    have e2:=hhk q hq
    rw[zAH (g:=fun i=>A*(rowv M q i*l i)+(-B)*(rowv M q i*h i)) (fun i _=>by rw[hk];grind),zGD,zCM,zCM,e1,e2]
    grind
   have hlt:(zAT n k).length<s:=by
    rw[<- hs]
    have hn1:(zAT n k).Nodup:=(zCV n k).1.imp (fun h=>by omega)
    have hpm:(p:Int)∈zAT n l:=zBL.2 ⟨hp,hlp⟩
    have hpn:(p:Int)∉zAT n k:=fun hm=>(zBL.1 hm).2 hkp
    have:=zGZ (l:=(p:Int)::zAT n k) (m:=zAT n l) (List.nodup_cons.2 ⟨hpn,hn1⟩) (fun x hx=>by
     rcases List.mem_cons.1 hx with rfl|hx
     ·exact hpm
     ·have hb:=(zCV n k).2 x hx
      obtain⟨j,rfl⟩:∃j:Nat,x=(j:Int):=⟨x.toNat,by omega⟩
      obtain⟨h1,h2⟩:=zBL.1 hx
      exact zBL.2 ⟨h1,hkl0 j h1 h2⟩)
    simp at this
    omega
   have hw':CostB M n k w:=fun d hd f hf hdl hdn=>by
    refine hw d hd f hf (fun j hj hz=>hkl0 j hj (hdl j hj hz)) (fun j hj=>?_)
    by_cases hz:vec d j=0
    ·rw[hz];simp
    ·have hkj:=hdl j hj hz
     have h1:=hdn j hj
     have h2:=hks j hj
     have hlj:=hkl0 j hj hkj
     -- k and l have one sign
     rcases Int.lt_or_gt_of_ne hkj with c1|c1
     ·have c2:l j<0:=by
       rcases Int.lt_or_gt_of_ne hlj with c2|c2
       ·exact c2
       ·have:=Int.mul_neg_of_neg_of_pos c1 c2;omega
      have c3:0<=f*vec d j:=by
       rcases Int.lt_or_le (f*vec d j) 0 with c3|c3
       ·have:=Int.mul_pos_of_neg_of_neg c1 c3;omega
       ·exact c3
      exact Int.mul_nonpos_of_nonpos_of_nonneg (by omega) c3
     ·have c2:0<l j:=by
       rcases Int.lt_or_gt_of_ne hlj with c2|c2
       ·have:=Int.mul_neg_of_pos_of_neg c1 c2;omega
       ·exact c2
      have c3:f*vec d j<=0:=by
       rcases Int.lt_or_le 0 (f*vec d j)with c3|c3
       ·have:=Int.mul_pos c1 c3;omega
       ·exact c3
      exact Int.mul_nonpos_of_nonneg_of_nonpos (by omega) c3
   obtain⟨z,E,hz1,hz2,hz3,hz4⟩:=ih _ hlt k (D*A) rfl hsol hw'
   refine⟨z,E,hz1,hz2,fun j hj hzj=>?_,?_⟩
   ·have h1:=hz3 j hj hzj
    have hkj:k j≠0:=fun e0=>by rw[e0]at h1;simp at h1
    have h2:=hks j hj
    have hlj:=hkl0 j hj hkj
    rcases Int.lt_or_gt_of_ne hkj with c1|c1
    ·have c2:l j<0:=by
      rcases Int.lt_or_gt_of_ne hlj with c2|c2
      ·exact c2
      ·have:=Int.mul_neg_of_neg_of_pos c1 c2;omega
     have c3:z j<0:=by
      rcases Int.lt_or_le (z j) 0 with c3|c3
      ·exact c3
      ·have:=Int.mul_nonpos_of_nonneg_of_nonpos c3 (show k j<=0 by omega);omega
     exact Int.mul_pos_of_neg_of_neg c3 c2
    ·have c2:0<l j:=by
      rcases Int.lt_or_gt_of_ne hlj with c2|c2
      ·have:=Int.mul_neg_of_pos_of_neg c1 c2;omega
      ·exact c2
     have c3:0<z j:=by
      rcases Int.lt_or_le 0 (z j)with c3|c3
      ·exact c3
      ·have:=Int.mul_nonpos_of_nonpos_of_nonneg c3 (show 0<=k j by omega);omega
     exact Int.mul_pos c3 c2
   ·-- the cost
    have hcost:sm (fun j=>w j*k j) n=A*sm (fun j=>w j*l j) n-B*sm (fun j=>w j*h j) n:=by
     rw[zAH (g:=fun j=>A*(w j*l j)+(-B)*(w j*h j)) (fun i _=>by rw[hk];grind),zGD,zCM,zCM]
     have: -B*sm (fun j=>w j*h j) n= -(B*sm (fun j=>w j*h j) n):=by grind
     omega
    have hBσ:0<=B*sm (fun j=>w j*h j) n:=Int.mul_nonneg (by omega) hσ'
    have hE:=hz1.1
    have h1:sm (fun j=>w j*k j) n*E<=A*sm (fun j=>w j*l j) n*E:=Int.mul_le_mul_of_nonneg_right (by omega) (by omega)
    have h2:sm (fun j=>w j*z j) n*D*A<=sm (fun j=>w j*l j) n*E*A:=by
     have e1:sm (fun j=>w j*z j) n*D*A=sm (fun j=>w j*z j) n*(D*A):=by grind
     have e2:sm (fun j=>w j*l j) n*E*A=A*sm (fun j=>w j*l j) n*E:=by grind
     omega
    exact Int.le_of_mul_le_mul_right h2 hA0
end
section
theorem ratio_step{n:Nat}{l h:Nat->Int}(hpos:∃j,j<n∧0<l j*h j):
 ∃(A B:Int) (p:Nat),0<A∧0<B∧p<n∧l p≠0∧0<l p*h p∧A*l p-B*h p=0∧∀j,j<n->0<=(A*l j-B*h j)*l j:=by
 obtain⟨p,hp,hPp,hmin⟩:=zKA (P:=fun j=>0<l j*h j) (a:=fun j=>((l j).natAbs:Int)) (b:=fun j=>((h j).natAbs:Int)) (fun j _=>by omega) (fun j hj=>by
  have:h j≠0:=fun hz=>by rw[hz]at hj;simp at hj
  omega) n hpos
 have hhp:h p≠0:=fun hz=>by rw[hz]at hPp;simp at hPp
 have hlp:l p≠0:=fun hz=>by rw[hz]at hPp;simp at hPp
 obtain⟨A,hA⟩:∃A:Int,A=((h p).natAbs:Int):=⟨_,rfl⟩
 obtain⟨B,hB⟩:∃B:Int,B=((l p).natAbs:Int):=⟨_,rfl⟩
 have hA0:0<A:=by omega
 have hB0:0<B:=by omega
 have hkp:A*l p-B*h p=0:=by
  rw[hA,hB]
  rcases Int.lt_or_gt_of_ne hhp with c1|c1
  ·have c2:l p<0:=by
    rcases Int.lt_or_gt_of_ne hlp with c2|c2
    ·exact c2
    ·have:=Int.mul_neg_of_pos_of_neg c2 c1;omega
   have e1:((h p).natAbs:Int)= -h p:=by omega
   have e2:((l p).natAbs:Int)= -l p:=by omega
   rw[e1,e2];grind
  ·have c2:0<l p:=by
    rcases Int.lt_or_gt_of_ne hlp with c2|c2
    ·have:=Int.mul_neg_of_neg_of_pos c2 c1;omega
    ·exact c2
   have e1:((h p).natAbs:Int)=h p:=by omega
   have e2:((l p).natAbs:Int)=l p:=by omega
   rw[e1,e2];grind
 refine⟨A,B,p,hA0,hB0,hp,hlp,hPp,hkp,fun j hj=>?_⟩
 have e1:(A*l j-B*h j)*l j=A*(l j*l j)-B*(l j*h j):=by grind
 rw[e1]
 have sq:0<=l j*l j:=by
  rcases Int.lt_or_le (l j) 0 with c1|c1
  ·exact Int.le_of_lt (Int.mul_pos_of_neg_of_neg c1 c1)
  ·exact Int.mul_nonneg c1 c1
 have e2:0<=A*(l j*l j):=Int.mul_nonneg (by omega) sq
 rcases Int.lt_or_le 0 (l j*h j)with c1|c1
 ·have h1:((l p).natAbs:Int)*((h j).natAbs:Int)<=((l j).natAbs:Int)*((h p).natAbs:Int):=hmin j hj c1
  rw[<- hA,<- hB]at h1
  have h2:B*((h j).natAbs:Int)*((l j).natAbs:Int)<=((l j).natAbs:Int)*A*((l j).natAbs:Int):=Int.mul_le_mul_of_nonneg_right h1 (by omega)
  have h3:((l j).natAbs:Int)*((l j).natAbs:Int)=l j*l j:=by rw[<- Int.natCast_mul,<- Int.natAbs_mul,Int.natAbs_of_nonneg sq]
  have h4:((h j).natAbs:Int)*((l j).natAbs:Int)=l j*h j:=by rw[Int.mul_comm,<- Int.natCast_mul,<- Int.natAbs_mul,Int.natAbs_of_nonneg (by omega)]
  have h5:B*((h j).natAbs:Int)*((l j).natAbs:Int)=B*(l j*h j):=by rw[Int.mul_assoc,h4]
  have h6:((l j).natAbs:Int)*A*((l j).natAbs:Int)=A*(l j*l j):=by rw[<- h3];grind
  omega
 ·have:B*(l j*h j)<=0:=Int.mul_nonpos_of_nonneg_of_nonpos (by omega) c1
  omega
structure Space (n:Nat) (V:(Nat->Int)->Prop):Prop where
 lin:∀(u v:Nat->Int) (a b:Int),V u->V v->V (fun j=>a*u j+b*v j)
 ext:∀(u v:Nat->Int),V u->(∀j,j<n->u j=v j)->V v
def NzV(n:Nat)(v:Nat->Int):Prop:=∃j,j<n∧v j≠0
def SubV(n:Nat)(u v:Nat->Int):Prop:=∀j,j<n->u j≠0->v j≠0
def Conf(n:Nat)(u v:Nat->Int):Prop:=∀j,j<n->u j≠0->0<u j*v j
def ElemV(n:Nat)(V:(Nat->Int)->Prop)(u:Nat->Int):Prop:=V u∧NzV n u∧∀h,V h->NzV n h->SubV n h u->SubV n u h
theorem zMJ{a b c:Int}(h1:0<a*b)(h2:0<b*c):0<a*c:=by
 have hb:b≠0:=fun e=>by rw[e]at h1;simp at h1
 rcases Int.lt_or_gt_of_ne hb with k|k
 ·have ha:a<0:=by
   rcases Int.lt_or_le a 0 with x|x
   ·exact x
   ·have:=Int.mul_nonpos_of_nonneg_of_nonpos x (Int.le_of_lt k);omega
  have hc:c<0:=by
   rcases Int.lt_or_le c 0 with x|x
   ·exact x
   ·have:=Int.mul_nonpos_of_nonpos_of_nonneg (Int.le_of_lt k) x;omega
  exact Int.mul_pos_of_neg_of_neg ha hc
 ·have ha:0<a:=by
   rcases Int.lt_or_le 0 a with x|x
   ·exact x
   ·have:=Int.mul_nonpos_of_nonpos_of_nonneg x (Int.le_of_lt k);omega
  have hc:0<c:=by
   rcases Int.lt_or_le 0 c with x|x
   ·exact x
   ·have:=Int.mul_nonpos_of_nonneg_of_nonpos (Int.le_of_lt k) x;omega
  exact Int.mul_pos ha hc
theorem Conf.trans{n:Nat}{u k v:Nat->Int}(h1:Conf n u k)(h2:Conf n k v):Conf n u v:=fun j hj hu=>by
 have a:=h1 j hj hu
 have hk:k j≠0:=fun e=>by rw[e]at a;simp at a
 exact zMJ a (h2 j hj hk)
theorem Conf.sub{n:Nat}{u v:Nat->Int}(h:Conf n u v):SubV n u v:=fun j hj hu e=>by
 have:=h j hj hu
 rw[e]at this;simp at this
theorem sq_pos'{a:Int}(h:a≠0):0<a*a:=by
 rcases Int.lt_or_gt_of_ne h with k|k
 ·exact Int.mul_pos_of_neg_of_neg k k
 ·exact Int.mul_pos k k
theorem Conf.self(n:Nat)(v:Nat->Int):Conf n v v:=fun j _ h=>sq_pos' h
theorem supp_less{n:Nat}{k v:Nat->Int}{p:Nat}(h:SubV n k v)(hp:p<n)(hv:v p≠0)(hk:k p=0):(zAT n k).length<(zAT n v).length:=by
 have hn1:(zAT n k).Nodup:=(zCV n k).1.imp (fun h=>by omega)
 have hpm:(p:Int)∈zAT n v:=zBL.2 ⟨hp,hv⟩
 have hpn:(p:Int)∉zAT n k:=fun hm=>(zBL.1 hm).2 hk
 have:=zGZ (l:=(p:Int)::zAT n k) (m:=zAT n v) (List.nodup_cons.2 ⟨hpn,hn1⟩) (fun x hx=>by
  rcases List.mem_cons.1 hx with rfl|hx
  ·exact hpm
  ·have hb:=(zCV n k).2 x hx
   obtain⟨j,rfl⟩:∃j:Nat,x=(j:Int):=⟨x.toNat,by omega⟩
   obtain⟨h1,h2⟩:=zBL.1 hx
   exact zBL.2 ⟨h1,h j h1 h2⟩)
 simp at this
 omega
theorem Space.step{n:Nat}{V:(Nat->Int)->Prop}(hV:Space n V){v h:Nat->Int}(hv:V v)(hh:V h)(hs:SubV n h v)(hpos:∃j,j<n∧0<v j*h j):
 ∃(A B:Int) (k:Nat->Int),0<A∧0<B∧V k∧(∀j,k j=A*v j-B*h j)∧Conf n k v∧(zAT n k).length<(zAT n v).length:=by
 obtain⟨A,B,p,hA,hB,hp,hvp,_,hz,hc⟩:=ratio_step hpos
 have hsub:SubV n (fun j=>A*v j-B*h j) v:=fun j hj hk e=>by
  have h0:h j=0:=Classical.byContradiction fun h1=>hs j hj h1 e
  apply hk;simp[e,h0]
 refine⟨A,B,fun j=>A*v j-B*h j,hA,hB,?_,fun _=>rfl,fun j hj hk=>?_,supp_less hsub hp hvp hz⟩
 ·refine hV.ext _ _ (hV.lin v h A (-B) hv hh) fun j _=>?_
  show A*v j+ -B*h j=A*v j-B*h j
  rw[Int.neg_mul];omega
 ·have h1:=hc j hj
  have h2:=hsub j hj hk
  rcases Int.lt_or_gt_of_ne (Int.mul_ne_zero hk h2)with c|c
  ·have c':(A*v j-B*h j)*v j<0:=c
   omega
  ·exact c
theorem Space.conf{n:Nat}{V:(Nat->Int)->Prop}(hV:Space n V):∀(s:Nat) (v:Nat->Int),(zAT n v).length=s->V v->NzV n v->∃u,ElemV n V u∧Conf n u v:=by
 intro s
 induction s using Nat.strongRecOn with
 |ind s ih=>
  intro v hs hv hz
  by_cases he:ElemV n V v
  ·exact⟨v,he,Conf.self n v⟩
  ·have hex:∃h,V h∧NzV n h∧SubV n h v∧∃j,j<n∧v j≠0∧h j=0:=by
    apply Classical.byContradiction
    intro hno
    apply he
    refine⟨hv,hz,fun h h1 h2 h3 j hj hvj hhj=>hno ⟨h,h1,h2,h3,j,hj,hvj,hhj⟩⟩
   obtain⟨h,h1,⟨i,hi,hhi⟩,h3,j0,hj0,hv0,hh0⟩:=hex
   have hpm:∃g,V g∧SubV n g v∧(∃j,j<n∧0<v j*g j)∧g j0=0:=by
    rcases Int.lt_or_gt_of_ne (Int.mul_ne_zero (h3 i hi hhi) hhi)with c|c
    ·refine⟨fun j=> -h j,hV.ext _ _ (hV.lin h h (-1) 0 h1 h1) (fun j _=>by show-1*h j+0*h j= -h j;omega),fun j hj hg=>h3 j hj (fun e=>hg (by show-h j=0;omega)),⟨i,hi,by show 0<v i* -h i;rw[Int.mul_neg];omega⟩,by show-h j0=0;omega⟩
    ·exact⟨h,h1,h3,⟨i,hi,c⟩,hh0⟩
   obtain⟨g,g1,g2,g3,g4⟩:=hpm
   obtain⟨A,B,k,hA,hB,hk,hke,hkc,hkl⟩:=hV.step hv g1 g2 g3
   obtain⟨u,hu1,hu2⟩:=ih _ (by omega) k rfl hk ⟨j0,hj0,by rw[hke,g4];simp;exact⟨by omega,hv0⟩⟩
   exact⟨u,hu1,hu2.trans hkc⟩
def gSum(P N:Nat->Int)(n:Nat)(v:Nat->Int):Int:=sm (fun j=>if 0<=v j then v j*P j else v j*N j) n
theorem gSum_congr{P N:Nat->Int}{n:Nat}{u v:Nat->Int}(h:∀j,j<n->u j=v j):gSum P N n u=gSum P N n v:=by
 unfold gSum
 exact zAH fun j hj=>by rw[h j hj]
theorem gSum_zero{P N:Nat->Int}{n:Nat}{v:Nat->Int}(h:¬NzV n v):gSum P N n v=0:=by
 have:∀j,j<n->v j=0:=fun j hj=>Classical.byContradiction fun e=>h ⟨j,hj,e⟩
 rw[gSum_congr (v:=fun _=>0) this]
 unfold gSum
 rw[zAH (g:=fun _=>(0:Int)) (fun j _=>by simp),zDA]
theorem gSum_add{P N:Nat->Int}{n:Nat}{v h k:Nat->Int}{A B:Int}(hA:0<A)(hB:0<B)(hk:∀j,k j=A*v j-B*h j)(c1:Conf n k v)(c2:Conf n h v):A*gSum P N n v=gSum P N n k+B*gSum P N n h:=by
 unfold gSum
 rw[<- zCM,<- zCM,<- zGD]
 refine zAH fun j hj=>?_
 have hs:∀{x:Int},(x≠0->0<x*v j)->(0<v j->0<=x)∧(v j<0->x<=0)∧(v j=0->x=0):=fun {x} hx=>by
  refine⟨fun p=>?_,fun p=>?_,fun p=>?_⟩
  ·rcases Int.lt_or_le x 0 with q|q
   ·have h1:=hx (by omega)
    have:=Int.mul_neg_of_neg_of_pos q p;omega
   ·exact q
  ·rcases Int.lt_or_le 0 x with q|q
   ·have h1:=hx (by omega)
    have:=Int.mul_neg_of_pos_of_neg q p;omega
   ·exact q
  ·apply Classical.byContradiction
   intro q
   have:=hx q
   rw[p]at this;simp at this
 obtain⟨a1,a2,a3⟩:=hs (c1 j hj)
 obtain⟨b1,b2,b3⟩:=hs (c2 j hj)
 have e:=hk j
 generalize k j=K at*
 generalize v j=v' at*
 generalize h j=h' at*
 rcases Int.lt_trichotomy v' 0 with q|q|q
 ·have x1:=a2 q
  have x2:=b2 q
  have f1:(if 0<=v' then v'*P j else v'*N j)=v'*N j:=by rw[if_neg (by omega)]
  have f2:(if 0<=K then K*P j else K*N j)=K*N j:=by
   by_cases z:K=0
   ·rw[z];simp
   ·rw[if_neg (by omega)]
  have f3:(if 0<=h' then h'*P j else h'*N j)=h'*N j:=by
   by_cases z:h'=0
   ·rw[z];simp
   ·rw[if_neg (by omega)]
  rw[f1,f2,f3,e];grind
 ·have x1:=a3 q
  have x2:=b3 q
  rw[q,x1,x2];simp
 ·have x1:=a1 q
  have x2:=b1 q
  rw[if_pos (by omega),if_pos x1,if_pos x2,e];grind
theorem Space.below{n:Nat}{V:(Nat->Int)->Prop}(hV:Space n V)(P N:Nat->Int):∀(s:Nat) (v:Nat->Int),(zAT n v).length=s->V v->gSum P N n v<0->∃u,ElemV n V u∧Conf n u v∧gSum P N n u<0:=by
 intro s
 induction s using Nat.strongRecOn with
 |ind s ih=>
  intro v hs hv hg
  have hz:NzV n v:=Classical.byContradiction fun h=>by rw[gSum_zero h]at hg;omega
  obtain⟨u,hu1,hu2⟩:=hV.conf _ v rfl hv hz
  rcases Int.lt_or_le (gSum P N n u) 0 with c|c
  ·exact⟨u,hu1,hu2,c⟩
  ·obtain⟨j,hj,hju⟩:=hu1.2.1
   obtain⟨A,B,k,hA,hB,hk,hke,hkc,hkl⟩:=hV.step hv hu1.1 hu2.sub ⟨j,hj,by rw[Int.mul_comm];exact hu2 j hj hju⟩
   have e:=gSum_add (P:=P) (N:=N) hA hB hke hkc hu2
   have h1:0<=B*gSum P N n u:=Int.mul_nonneg (by omega) c
   have h2:A*gSum P N n v<0:=Int.mul_neg_of_pos_of_neg hA hg
   obtain⟨w,w1,w2,w3⟩:=ih _ (by omega) k rfl hk (by omega)
   exact⟨w,w1,w2.trans hkc,w3⟩
end
section
theorem cop_dvd{b a d:Int}(h:Int.gcd a b=1)(h1:b∣a*d):b∣d:=by
 have h2:b.natAbs∣a.natAbs*d.natAbs:=by rw[<- Int.natAbs_mul];exact Int.natAbs_dvd_natAbs.2 h1
 have h3:Nat.Coprime b.natAbs a.natAbs:=by rw[Nat.coprime_comm];exact h
 exact Int.natAbs_dvd_natAbs.1 (h3.dvd_of_dvd_mul_left h2)
theorem zFF{a b:Int}(h:Int.gcd a b=1):zAZ a b=(a,b):=by unfold zAZ;rw[h];simp
theorem zKB{n d:Int}(hd:0<d):∃g a b:Int,zAZ n d=(a,b)∧0<g∧0<b∧n=a*g∧d=b*g∧Int.gcd a b=1:=by
 obtain⟨c1,_,_,c4,c5⟩:=zCT (a:=n) hd
 obtain⟨⟨a,b⟩,hab⟩:∃p,p=zAZ n d:=⟨_,rfl⟩
 rw[<- hab]at c1 c4 c5
 simp only[]at c1 c4 c5
 -- b divides n*b,so b|a*d,so b|d
 have h1:b∣a*d:=⟨n,by rw[c5];exact Int.mul_comm _ _⟩
 have h2:b∣d:=cop_dvd c4 h1
 obtain⟨g,hg⟩:=h2
 have hg0:0<g:=by
  rcases Int.lt_or_le 0 g with h|h
  ·exact h
  ·have:b*g<=0:=Int.mul_nonpos_of_nonneg_of_nonpos (by omega) h
   omega
 refine⟨g,a,b,hab.symm,hg0,c1,?_,hg,c4⟩
 have:b*n=b*(a*g):=by rw[Int.mul_comm b n,<- c5,hg];grind
 exact Int.eq_of_mul_eq_mul_left (by omega) this
theorem low_div{n d a b g:Int}(hd:0<d)(hg:0<g)(hb:0<b)(hn:n=a*g)(he:d=b*g)(hc:Int.gcd a b=1)(k:Int):n%d*k%d=0↔b∣k:=by
 have h1:n%d*k%d=n*k%d:=by rw[Int.mul_emod,Int.emod_emod_of_dvd _ (Int.dvd_refl d),<- Int.mul_emod]
 rw[h1]
 constructor
 ·intro h
  obtain⟨c,hc2⟩:=Int.dvd_of_emod_eq_zero h
  rw[hn,he]at hc2
  have:g*(a*k)=g*(b*c):=by grind
  have h3:=Int.eq_of_mul_eq_mul_left (by omega) this
  exact cop_dvd hc ⟨c,h3⟩
 ·rintro⟨c,rfl⟩
  rw[hn,he]
  refine Int.emod_eq_zero_of_dvd ⟨a*c,by grind⟩
theorem low_val{n d a b g:Int}(hn0:0<=n)(hd:0<d)(hg:0<g)(hn:n=a*g)(he:d=b*g):n/d*b+n%d*b/d=a:=by
 have h1:n%d*b=d*(a-n/d*b):=by
  have h2:=Int.emod_add_mul_ediv n d -- n%d+d*(n/d)=n
  have h3:n%d=n-d*(n/d):=by omega
  rw[h3,Int.sub_mul,Int.mul_sub]
  have:n*b=d*a:=by rw[hn,he];grind
  rw[this];grind
 rw[h1,Int.mul_ediv_cancel_left _ (by omega)]
 omega
theorem low_nonneg{n d a b g:Int}(hn0:0<=n)(hg:0<g)(hn:n=a*g):0<=a:=by
 rcases Int.lt_or_le a 0 with h|h
 ·have:=Int.mul_neg_of_neg_of_pos h hg;omega
 ·exact h
theorem low_neg{n d:Int}(hd:0<d):zAZ (-n) d=(-(zAZ n d).1,(zAZ n d).2):=by
 obtain⟨g,a,b,e,hg,hb,hn,he,hc⟩:=zKB (n:=n) hd
 rw[e]
 have h2:zAZ (-n) d=zAZ (-a) b:=zJS hd hb (by rw[hn,he];grind)
 rw[h2,zFF (by rw[Int.neg_gcd];exact hc)]
theorem zKZ{a b:Int}:zAL (-a,b)=zAL (a,b):=by
 rw[Bool.eq_iff_iff,zAY,zAY]
 simp only[Int.neg_gcd]
 constructor<;>(rintro⟨h1,h2,h3,h4,h5⟩;exact⟨h1,h2,by omega,by omega,h5⟩)
theorem low_big{n d:Int}(hn0:0<=n)(hd:0<d)(h:10000000000<n/d):zAL (zAZ n d)=false:=by
 obtain⟨g,a,b,e,hg,hb,hn,he,hc⟩:=zKB (n:=n) hd
 rw[e]
 cases hv:zAL (a,b)
 ·rfl
 ·have h1:=(zAY.1 hv).2.2.2.1
  simp only[]at h1
  have h2:n/d<=a:=by
   have h3:n/d*d<=n:=by rw[Int.mul_comm];exact Int.mul_ediv_self_le (by omega)
   have h4:n/d*(b*g)<=a*g:=by rw[<- he,<- hn];exact h3
   have h5:n/d*b*g<=a*g:=by rw[Int.mul_assoc];exact h4
   have h6:=Int.le_of_mul_le_mul_right h5 hg
   have h7:n/d*1<=n/d*b:=Int.mul_le_mul_of_nonneg_left (by omega) (Int.ediv_nonneg hn0 (by omega))
   omega
  omega
structure CfI (N D n d p q P Q:Int):Prop where
 n0:0<=n
 d0:0<=d
 p0:0<=p
 q0:0<=q
 P0:0<=P
 Q0:0<=Q
 pm:p<=10000000000
 qm:q<=400
 Pm:P<=10000000000
 Qm:Q<=400
 eN:N=p*n+P*d
 eD:D=q*n+Q*d
 det:p*Q-q*P=1∨p*Q-q*P= -1
theorem CfI.step{N D n d p q P Q:Int}(h:CfI N D n d p q P Q)(hd:0<d)(h1:n/d*p+P<=10000000000)(h2:n/d*q+Q<=400):CfI N D d (n%d) (n/d*p+P) (n/d*q+Q) p q:=by
 have hk:=Int.ediv_nonneg h.n0 (show 0<=d by omega)
 have hm:=Int.emod_nonneg n (show d≠0 by omega)
 have he:=Int.emod_add_mul_ediv n d
 refine⟨by omega,hm,?_,?_,h.p0,h.q0,h1,h2,h.pm,h.qm,?_,?_,?_⟩
 ·have:=Int.mul_nonneg hk h.p0;have:=h.P0;omega
 ·have:=Int.mul_nonneg hk h.q0;have:=h.Q0;omega
 ·rw[h.eN]
  generalize n/d=k at*
  generalize n%d=r at*
  rw[<- he];grind
 ·rw[h.eD]
  generalize n/d=k at*
  generalize n%d=r at*
  rw[<- he];grind
 ·have:=h.det
  generalize n/d=k at*
  have e:(k*p+P)*q-(k*q+Q)*p= -(p*Q-q*P):=by grind
  omega
end
section
abbrev FitT:=List Int×List Rt
def fitF(M:Mask)(y S:List Int):Option FitT:=if (zCI M S y).2=0∧(zCI M S y).1.all (fun r=>decide (r.1≠0))=true then some (S,(zCI M S y).1)else none
def zBI(M:Mask)(y:List Int)(W t:Nat):List FitT:=(List.range t).flatMap fun j=>(comb W j 0).filterMap (fitF M y)
theorem zCF(M:Mask)(y:List Int)(W t:Nat):zBI M y W (t+1)=zBI M y W t++(comb W t 0).filterMap (fitF M y):=by
 unfold zBI;rw[List.range_succ,List.flatMap_append];simp
def zBT(M:Mask)(y:List Int)(k:Nat):List FitT:=zBI M y (zAB M) (min (min k (zAB M)) M.length+1)
theorem zJF{M:Mask}{y S:List Int}{f:FitT}(h:fitF M y S=some f):f=(S,(zCI M S y).1)∧(zCI M S y).2=0∧∀r∈f.2,r.1≠0:=by
 unfold fitF at h
 split at h
 ·rename_i h1
  cases h
  exact⟨rfl,h1.1,fun r hr=>by simpa using List.all_eq_true.1 h1.2 r hr⟩
 ·cases h
def wholeR(r:Rt):Bool:=decide (r.2=1)&&inB r.1 (-1000000) 1000000
def spreadTo1(W:Nat)(f:FitT)(k:Nat):List Int:=(List.range k).foldl (fun out i=>out.set (f.1[i]?.getD 0).toNat (f.2[i]?.getD (0,0)).1) (List.replicate W 0)
def spreadI(W:Nat)(f:FitT):List Int:=spreadTo1 W f f.1.length
def wholeOne(W:Nat)(f:FitT):Option (List Int):=if f.2.all wholeR=true then some (spreadI W f)else none
def wholeF(M:Mask)(y:List Int)(k:Nat):List (List Int):=(zBT M y k).filterMap (wholeOne (zAB M))
end
section
def nrmI(l:Nat->Int)(n:Nat):Int:=sm (fun j=>((l j).natAbs:Int)) n
theorem nrmI_pos(l:Nat->Int):∀n,0<=nrmI l n
 |0=>Int.le_refl _
 |n+1=>by
  have:=nrmI_pos l n
  show 0<=nrmI l n+((l n).natAbs:Int)
  omega
def zCD(x:List Rt):Nat->Int×Int
 |0=>(0,1)
 |k+1=>((zCD x k).1*(zAD x k).2+(zCD x k).2*((zAD x k).1.natAbs:Int),(zCD x k).2*(zAD x k).2)
def nrmQ(x:List Rt):Int×Int:=zCD x x.length
theorem zJZ{x:List Rt}(h:∀k,0<(zAD x k).2):∀k,0<(zCD x k).2∧0<=(zCD x k).1
 |0=>⟨by show(0:Int)<1;omega,Int.le_refl _⟩
 |k+1=>by
  obtain⟨h1,h2⟩:=zJZ h k
  have h3:=h k
  exact⟨Int.mul_pos h1 h3,Int.add_nonneg (Int.mul_nonneg h2 (by omega)) (Int.mul_nonneg (by omega) (by omega))⟩
theorem zGY{x:List Rt}{l:Nat->Int}{D:Int}(hD:0<D)(hp:∀k,0<(zAD x k).2):∀n,(∀k,k<n->(zAD x k).1*D=l k*(zAD x k).2)->(zCD x n).1*D=(zCD x n).2*nrmI l n
 |0,_=>by simp[zCD,nrmI,sm]
 |n+1,h=>by
  have ih:=zGY hD hp n (fun k hk=>h k (by omega))
  have e:=h n (by omega)
  have e2:((zAD x n).1.natAbs:Int)*D=((l n).natAbs:Int)*(zAD x n).2:=by
   have h1:=congrArg Int.natAbs e
   rw[Int.natAbs_mul,Int.natAbs_mul]at h1
   have h2:=hp n
   have h3:(((zAD x n).1.natAbs*D.natAbs:Nat):Int)=(((l n).natAbs*(zAD x n).2.natAbs:Nat):Int):=by rw[h1]
   rw[Int.natCast_mul,Int.natCast_mul]at h3
   have h4:((D.natAbs:Nat):Int)=D:=by omega
   have h5:(((zAD x n).2.natAbs:Nat):Int)=(zAD x n).2:=by omega
   rw[h4,h5]at h3
   exact h3
  show((zCD x n).1*(zAD x n).2+(zCD x n).2*((zAD x n).1.natAbs:Int))*D=(zCD x n).2*(zAD x n).2*(nrmI l n+((l n).natAbs:Int))
  generalize (zCD x n).1=a at*
  generalize (zCD x n).2=b at*
  generalize (zAD x n).2=c at*
  generalize ((zAD x n).1.natAbs:Int)=u at*
  generalize ((l n).natAbs:Int)=v at*
  generalize nrmI l n=N at*
  have:(a*c+b*u)*D=(a*D)*c+b*(u*D):=by grind
  rw[this,ih,e2];grind
def sgnI(z:Int):Int:=if z<0 then-1 else if z=0 then 0 else 1
theorem zIX(z:Int):sgnI z*z=(z.natAbs:Int):=by unfold sgnI;split<;>(try split)<;>omega
end
section
def hiS(l:Nat->Int)(j:Nat):Int:=if l j=0 then 1 else sgnI (l j)
end
section
theorem solve_vals{R:List (List Int)}{n:Nat}(he:(zAR R n).2=0):(zAR R n).1=(List.range n).map fun k=>ofF (vec ((pRed R n).1[k]?.getD []) n) (vec ((pRed R n).1[k]?.getD []) (jf (pRed R n).2 k)):=by
 unfold zAR at he⊢
 simp only[]at he⊢
 split at he
 ·simp at he
 ·rename_i h1
  split at he
  ·simp at he
  ·rename_i h2
   rw[if_neg h1,if_neg h2]
theorem zFD{M:List (List Int)}{n:Nat}(h:MaskOk M n){y:List Int}(hy:y.length=M.length)(hmil:∀v∈y,-1000000<=v∧v<=1000000)(he:(zAR (zAF M y) n).2=0):
 ∃(l:Nat->Int) (D:Int),0<D∧D<=288∧(∀k,k<n->(zAD (zAR (zAF M y) n).1 k).1*D=l k*(zAD (zAR (zAF M y) n).1 k).2)∧(∀k,k<n->(l k).natAbs<=720000000)∧
  SolM M n y l D∧(∀k,0<(zAD (zAR (zAF M y) n).1 k).2)∧zEH M n=n∧(∀k,zAL (zAD (zAR (zAF M y) n).1 k)=true):=by
 obtain⟨hr,l',D',hD',k1,k2⟩:=solve_to h hy hmil he
 have hY:=h.addY hy (Y:=1000000) (by decide) (by simpa using hmil)
 have hi:=zBX (zAF M y) hY.wid n (fun j hj q=>zBS (by decide) (fun r hr=>hY.one r hr j hj) q)
 have hpiv:=zJK h hy hY
 have hJl:(pRed (zAF M y) n).2.length=n:=by rw[hpiv];exact hr
 have hasc:(pRed (zAF M y) n).2=List.range' 0 n:=zJG hi.asc (fun x hx=>by have:=hi.lt x hx;omega) hJl
 have hjf:∀k,k<n->jf (pRed (zAF M y) n).2 k=k:=fun k hk=>by
  rw[hasc];unfold jf;rw[List.getElem?_range' hk];simp
 have hval:=solve_vals he
 have hat:∀k,k<n->zAD (zAR (zAF M y) n).1 k=ofF (rowv (pRed (zAF M y) n).1 k n) (rowv (pRed (zAF M y) n).1 k k):=fun k hk=>by
  rw[hval]
  unfold zAD
  rw[List.getElem?_map,List.getElem?_range hk]
  simp only[Option.map_some,Option.getD_some]
  rw[hjf k hk];rfl
 have hout:∀k,n<=k->zAD (zAR (zAF M y) n).1 k=(0,1):=fun k hk=>by
  rw[hval];unfold zAD
  rw[List.getElem?_eq_none (by simp;exact hk)];rfl
 have hJ1:∀x∈(pRed (zAF M y) n).2,∀r,-1<=rowv (zAF M y) r x∧rowv (zAF M y) r x<=1:=fun x hx r=>zBS (by decide) (fun r hr=>hY.one r hr x (hi.lt x hx)) r
 have hpv:=fun k (hk:k<n)=>hi.piv_288 hY.le6 hJ1 (k:=k) (by omega)
 obtain⟨A,hs,hA⟩:=hi.st
 have hA1:∀k,k<(pRed (zAF M y) n).2.length->∀r,-1<=A r (jf (pRed (zAF M y) n).2 k)∧A r (jf (pRed (zAF M y) n).2 k)<=1:=by
  intro k hk r
  obtain⟨q0,e⟩:=hA r
  rw[e]
  exact hJ1 _ (by unfold jf;rw[List.getElem?_eq_getElem hk];exact List.getElem_mem hk) q0
 have hAY:∀r,-(1000000:Int)<=A r n∧A r n<=1000000:=fun r=>by
  obtain⟨q0,e⟩:=hA r
  rw[e]
  exact zBS (c:=n) (by omega) (fun r hr=>zEG (P:=fun x=> -(1000000:Int)<=x∧x<=1000000) (by omega) (hY.all r hr) n) q0
 have hd288:=det_288 (zCJ (jf (pRed (zAF M y) n).2) A (pRed (zAF M y) n).2.length) (fun x hx r=>by
  obtain⟨k,hk,rfl⟩:=zEN.1 hx
  exact hA1 k hk r) (zCH (pRed (zAF M y) n).2.length) (by rw[zDZ,zCO]) (by rw[zCO];exact Nat.le_trans hs.le hY.le6)
 have hd0:=hs.d0
 obtain⟨d,hd⟩:=exq (det (zCJ (jf (pRed (zAF M y) n).2) A (pRed (zAF M y) n).2.length) (zCH (pRed (zAF M y) n).2.length))
 rw[<- hd]at hd288 hd0
 -- the minors
 have hmin:∀k,k<n->∃E:Int,E.natAbs<=720000000∧rowv (pRed (zAF M y) n).1 k k*E=d*rowv (pRed (zAF M y) n).1 k n:=by
  intro k hk
  have hk':k<(pRed (zAF M y) n).2.length:=by omega
  obtain⟨⟨s,hs2,e0⟩,e⟩:=hs.minorU hk'
  rw[<- hd]at e0
  have e1:=e n
  rw[e0,hjf k hk]at e1
  have hl:=(zES (J:=jf (pRed (zAF M y) n).2) (A:=A) hk').2
  have hb:=det_le2 (c:=fun r=>A r n) hAY (zBC (jf (pRed (zAF M y) n).2) A k (pRed (zAF M y) n).2.length) (fun d hd r=>by obtain⟨k,hk,rfl⟩:=zCX hd;exact hA1 k hk r) (zCH (pRed (zAF M y) n).2.length) (by rw[zDZ];exact hl.symm)
  rw[hl]at hb
  have hK6:(pRed (zAF M y) n).2.length<=6:=Nat.le_trans hs.le hY.le6
  have hfact:∀a:Nat,a+1<=6->((a+1:Nat):Int)*(1000000*(fact a:Int))<=720000000:=fun a ha=>by
   have:a=0∨a=1∨a=2∨a=3∨a=4∨a=5:=by omega
   rcases this with rfl|rfl|rfl|rfl|rfl|rfl<;>decide
  have hf:=hfact (zBC (jf (pRed (zAF M y) n).2) A k (pRed (zAF M y) n).2.length).length (by omega)
  rw[hl]at hf
  refine⟨s*minorU (pRed (zAF M y) n).2.length (jf (pRed (zAF M y) n).2) A k n,?_,?_⟩
  ·have:(s*minorU (pRed (zAF M y) n).2.length (jf (pRed (zAF M y) n).2) A k n).natAbs=(minorU (pRed (zAF M y) n).2.length (jf (pRed (zAF M y) n).2) A k n).natAbs:=by
    rw[Int.natAbs_mul]
    rcases hs2 with rfl|rfl<;>simp
   rw[this]
   unfold minorU
   omega
  ·have h1:s*s=1:=by rcases hs2 with rfl|rfl<;>rfl
   generalize minorU (pRed (zAF M y) n).2.length (jf (pRed (zAF M y) n).2) A k n=E at*
   generalize rowv (pRed (zAF M y) n).1 k k=b at*
   generalize rowv (pRed (zAF M y) n).1 k n=a at*
   have:b*(s*E)=s*(b*E):=by grind
   rw[this,e1]
   have:s*(s*d*a)=(s*s)*(d*a):=by grind
   rw[this,h1];omega
 -- the values over|d|
 have key:∀k,k<n->∃E:Int,E.natAbs<=720000000∧(zAD (zAR (zAF M y) n).1 k).1*(d.natAbs:Int)=E*(zAD (zAR (zAF M y) n).1 k).2:=by
  intro k hk
  obtain⟨E,h1,h2⟩:=hmin k hk
  have hb:=(hpv k hk).1
  rw[hjf k hk]at hb
  rw[hat k hk,zJY hb]
  obtain⟨c1,_,_,_,c5⟩:=zCT (a:=rowv (pRed (zAF M y) n).1 k n) hb
  generalize rowv (pRed (zAF M y) n).1 k k=b at*
  generalize rowv (pRed (zAF M y) n).1 k n=a at*
  generalize zAZ a b=p at*
  obtain⟨p1,p2⟩:=p
  dsimp only at*
  have e1:b*(p1*d)=b*(E*p2):=by
   have:b*(p1*d)=(p1*b)*d:=by grind
   rw[this,c5]
   have:b*(E*p2)=(b*E)*p2:=by grind
   rw[this,h2];grind
  have e2:=Int.eq_of_mul_eq_mul_left (show b≠0 by omega) e1
  rcases Int.lt_or_le d 0 with c|c
  ·refine⟨-E,by omega,?_⟩
   have:(d.natAbs:Int)= -d:=by omega
   rw[this,Int.mul_neg,e2,Int.neg_mul]
  ·refine⟨E,h1,?_⟩
   have:(d.natAbs:Int)=d:=by omega
   rw[this,e2]
 have hpos:∀k,0<(zAD (zAR (zAF M y) n).1 k).2:=fun k=>by
  rcases Nat.lt_or_ge k n with hk|hk
  ·have hb:=(hpv k hk).1
   rw[hjf k hk]at hb
   rw[hat k hk,zJY hb]
   exact(zCT hb).1
  ·rw[hout k hk];decide
 have hex:∃l:Nat->Int,∀k,k<n->(l k).natAbs<=720000000∧(zAD (zAR (zAF M y) n).1 k).1*(d.natAbs:Int)=l k*(zAD (zAR (zAF M y) n).1 k).2:=by
  refine⟨fun k=>if hk:k<n then Classical.choose (key k hk)else 0,fun k hk=>?_⟩
  simp only[dif_pos hk]
  exact Classical.choose_spec (key k hk)
 obtain⟨l,hl⟩:=hex
 refine⟨l,(d.natAbs:Int),by omega,by omega,fun k hk=>(hl k hk).2,fun k hk=>(hl k hk).1,⟨by omega,fun q hq=>?_⟩,hpos,hr,fun k=>?_⟩
 ·-- the system
  have e1:=k1 q hq
  have e2:∀c,c<n->D'*(rowv M q c*l c)=(d.natAbs:Int)*(rowv M q c*l' c):=fun c hc=>by
   have h1:=(hl c hc).2
   have h2:=k2 c hc
   have hp:=hpos c
   generalize zAD (zAR (zAF M y) n).1 c=p at*
   obtain⟨p1,p2⟩:=p
   dsimp only at*
   have h3:p2*(l c*D')=p2*(l' c*(d.natAbs:Int)):=by
    have:p2*(l c*D')=(l c*p2)*D':=by grind
    rw[this,<- h1]
    have:p1*(d.natAbs:Int)*D'=(p1*D')*(d.natAbs:Int):=by grind
    rw[this,h2];grind
   have h4:=Int.eq_of_mul_eq_mul_left (show p2≠0 by omega) h3
   have:D'*(rowv M q c*l c)=rowv M q c*(l c*D'):=by grind
   rw[this,h4];grind
  have e3:D'*sm (fun i=>rowv M q i*l i) n=D'*(vec y q*(d.natAbs:Int)):=by
   rw[<- zCM,zAH e2,zCM,e1];grind
  exact Int.eq_of_mul_eq_mul_left (show D'≠0 by omega) e3
 ·rcases Nat.lt_or_ge k n with hk|hk
  ·have hb:=hpv k hk
   rw[hjf k hk]at hb
   rw[hat k hk,zJY hb.1]
   have b3:=sys_le hY k n
   obtain⟨c1,c2,c3,c4,_⟩:=zCT (a:=rowv (pRed (zAF M y) n).1 k n) hb.1
   rw[zAY]
   exact⟨by omega,by omega,by omega,by omega,c4⟩
  ·rw[hout k hk];decide
theorem nrmI_le{l:Nat->Int}{B:Nat}:∀n:Nat,(∀k,k<n->(l k).natAbs<=B)->nrmI l n<=((n*B:Nat):Int)
 |0,_=>by simp[nrmI,sm]
 |n+1,h=>by
  have h1:=nrmI_le n (fun k hk=>h k (by omega))
  have h2:=h n (by omega)
  show nrmI l n+((l n).natAbs:Int)<=_
  rw[Nat.succ_mul];omega
theorem solve_norm{M:List (List Int)}{n:Nat}(h:MaskOk M n){y:List Int}(hy:y.length=M.length)(hmil:∀v∈y,-1000000<=v∧v<=1000000)(he:(zAR (zAF M y) n).2=0):
 0<(zCD (zAR (zAF M y) n).1 n).2∧zAL (zAZ (zCD (zAR (zAF M y) n).1 n).1 (zCD (zAR (zAF M y) n).1 n).2)=true:=by
 obtain⟨l,D,hD,hD288,h1,h2,_,hp,hr,_⟩:=zFD h hy hmil he
 obtain⟨p1,p2⟩:=zJZ hp n
 refine⟨p1,?_⟩
 have e:=zGY hD hp n h1
 have hn6:n<=6:=by have:=rank_le h;have:=h.le6;omega
 have hl:=nrmI_le n h2
 have hN:=nrmI_pos l n
 have e2:zAZ (zCD (zAR (zAF M y) n).1 n).1 (zCD (zAR (zAF M y) n).1 n).2=zAZ (nrmI l n) D:=zJS p1 hD (by rw[e,Int.mul_comm])
 rw[e2]
 obtain⟨c1,c2,c3,c4,_⟩:=zCT (a:=nrmI l n) hD
 have:n*720000000<=6*720000000:=Nat.mul_le_mul_right _ hn6
 rw[zAY]
 exact⟨by omega,by omega,by omega,by omega,c4⟩
end
section
open Go.RowKit
def IterS(P:Program)(g:Nat)(lb:Array Value){α:Type}(V:Nat->(Nat->Prop)->α->Value->World->Prop)(xs:List α)(fp:Nat->Prop)(w0:World):Prop:=
 ∀(l:Nat) (J Jx:(Nat->Prop)->List α->World->Prop) (W:World),Below w0.heap.size w0 W->
  (∀S S' s A B,Jx S s A->(∀k,S k->S' k)->(∀k,S' k->S k∨A.heap.size<=k)->Keep (fun k=>¬S' k) A B->Jx S' s B)->
  (∀S S' s A B,J S s A->(∀k,S k->S' k)->(∀k,S' k->S k∨A.heap.size<=k)->Keep (fun k=>¬S' k) A B->J S' s B)->
  (∀S pre x v W1,pre++[x] <+: xs->(∀k,S k->W.heap.size<=k∧k<W1.heap.size)->W.heap.size<=W1.heap.size->J S pre W1->V W.heap.size S x v W1->
    YieldAt Fence.wide 0 P l #[v] W1 fun e W'=>
     (W1.heap.size<=W'.heap.size∧(∀k,fp k∨S k->W'.heap[k]? =W1.heap[k]?))∧((e=.returned (.bool true)∧J S (pre++[x]) W')∨(e=.returned (.bool false)∧Jx S (pre++[x]) W')))->
  J (fun _=>False) [] W->
  CallsIn Fence.wide 0 P g (#[.func (.yield l) #[] #[]]++lb) W fun e W'=>(∃v,e=.returned v)∧((∃S,(∀k,S k->W.heap.size<=k∧k<W'.heap.size)∧J S xs W')∨(∃S pre,pre <+: xs∧Jx S pre W'))
def roundEndS{α:Type}(S:Nat->Prop)(I:List α->World->Prop)(Ix:Code->List α->World->Prop)(xs:List α)(W:World):Exit->Act->World->Prop
 | .normal,_,W'=>W.heap.size<=W'.heap.size∧(∀k,S k->W'.heap[k]? =W.heap[k]?)∧I xs W'
 | .ret,_,W'=>W.heap.size<=W'.heap.size∧(∀k,S k->W'.heap[k]? =W.heap[k]?)∧Ix .ret xs W'
 | .exit id,_,W'=>W.heap.size<=W'.heap.size∧(∀k,S k->W'.heap[k]? =W.heap[k]?)∧Ix (.exit id) xs W'
 | .goto t,_,W'=>W.heap.size<=W'.heap.size∧(∀k,S k->W'.heap[k]? =W.heap[k]?)∧Ix (.goto t) xs W'
 | .panic _,_,_=>False
 | .outgrown,_,_=>False
theorem range_s{P:Program}{g:Operand}{p:Tmp}{assign body:Code}{Q:Exit->Act->World->Prop}{a:Act}{w:World}
 {gf:Nat}{lb:Array Value}(hg:a.eval g=.func (.func gf) #[] lb)(eg:∀args w,(callFunc gf args).run P w=.ok (.enter gf args) w)
 {α:Type}{V:Nat->(Nat->Prop)->α->Value->World->Prop}{xs:List α}{fp:Nat->Prop}{w0:World}(hseq:IterS P gf lb V xs fp w0)(hb0:Below w0.heap.size w0 w)(hfp:∀k,fp k->k<w.heap.size)
 (I:(Nat->Prop)->List α->World->Prop)(Ix:(Nat->Prop)->Code->List α->World->Prop)
 (hI:∀S S' s A B,I S s A->(∀k,S k->S' k)->(∀k,S' k->S k∨A.heap.size<=k)->(∀k,S' k->w.heap.size+2<=k)->w.heap.size+2<=A.heap.size->Keep (fun k=>k≠w.heap.size∧k≠w.heap.size+1∧¬S' k) A B->I S' s B)
 (hIx:∀S S' c s A B,Ix S c s A->(∀k,S k->S' k)->(∀k,S' k->S k∨A.heap.size<=k)->(∀k,S' k->w.heap.size+2<=k)->w.heap.size+2<=A.heap.size->Keep (fun k=>k≠w.heap.size∧k≠w.heap.size+1∧¬S' k) A B->Ix S' c s B)
 (hV:∀S x v A B,V (w.heap.size+2) S x v A->Keep (fun k=>k≠w.heap.size∧k≠w.heap.size+1) A B->V (w.heap.size+2) S x v B)
 (h0:∀W,Keep (fun k=>k<w.heap.size) w W->w.heap.size+2<=W.heap.size->I (fun _=>False) [] W)(Ax:Value->Act->World->Prop)
 (hAx:∀v a' A B,Ax v a' A->Keep (fun k=>k≠w.heap.size∧k≠w.heap.size+1) A B->Ax v a' B)
 (hassign:∀(l:Nat) (S:Nat->Prop) (x:α) (v:Value) (W:World) (K:Act->World->Prop),w.heap.size+2<=W.heap.size->V (w.heap.size+2) S x v W->(∀a' W',Below W.heap.size W W'->Ax v a' W'->K a' W')->
   assign.wpIn (Fence.wide.inRound l) 0 P (Exit.then K (fun _ _ _=>False)) {tmps:=a.tmps.setIfInBounds p v,defers:=[]} W)
 (hbody:∀(l:Nat) (S:Nat->Prop) (pre:List α) (x:α) (v:Value) (a':Act) (W:World),pre++[x] <+: xs->(∀k,S k->w.heap.size+2<=k∧k<W.heap.size)->I S pre W->V (w.heap.size+2) S x v W->Ax v a' W->w.heap.size+2<=W.heap.size->
   (∃o,W.heap[w.heap.size]? =some o∧o.isCells=false)->(∃o,W.heap[w.heap.size+1]? =some o∧o.isCells=false)->
   body.wpIn (Fence.wide.inRound l) 0 P (roundEndS (fun k=>fp k∨k=w.heap.size∨k=w.heap.size+1∨S k) (I S) (Ix S) (pre++[x]) W) a' W)
 (hdone:∀(S:Nat->Prop) (W:World),w.heap.size+2<=W.heap.size->(∀k,S k->w.heap.size+2<=k∧k<W.heap.size)->I S xs W->W.heap[w.heap.size]? =some (.deferred (some []))->Q .normal {a with defers:={target:=.collected w.heap.size,args:=#[]}::a.defers} W)
 (hstop:∀(S:Nat->Prop) (c:Code) (pre:List α) (W:World),pre <+: xs->(∀k,S k->w.heap.size+2<=k)->Ix S c pre W->W.heap[w.heap.size]? =some (.deferred (some []))->c.wpIn Fence.wide 0 P Q {a with defers:={target:=.collected w.heap.size,args:=#[]}::a.defers} W):
 (Code.rangeFunc g #[p] assign body).wpIn Fence.wide 0 P Q a w:=by
 refine wpIn_rangeFunc ?_
 intro fn hfn
 obtain⟨rec,hrec⟩:∃rec:LoopState->Option Code->Loop,rec=fun st pe=>{state:=st,pending:=pe,fn,tmps:=a.tmps,params:=#[p],assign,body,defers:=w.heap.size}:=⟨_,rfl⟩
 obtain⟨W1,hW1⟩:∃W1,(w.alloc (.deferred (some []))).alloc (.loop (rec .ready none))=W1:=⟨_,rfl⟩
 have hsz1:W1.heap.size=w.heap.size+2:=by rw[<- hW1];simp
 have hL1:W1.heap[w.heap.size+1]? =some (.loop (rec .ready none)):=by
  rw[<- hW1];have:=World.alloc_heap_new (w.alloc (.deferred (some []))) (.loop (rec .ready none));rwa [World.size_alloc]at this
 have hK1:W1.heap[w.heap.size]? =some (.deferred (some [])):=by
  rw[<- hW1];exact(Below.heap_alloc _ _ _ (by simp)).trans (World.alloc_heap_new w _)
 have hbw:Below w.heap.size w W1:=by rw[<- hW1];exact((Below.refl _ w).alloc (Nat.le_refl _) _).alloc (by simp) _
 refine⟨w.heap.size+1,[{target:=.collected w.heap.size,args:=#[]}],W1,{target:=.fn (.func gf) lb,args:=#[.func (.yield (w.heap.size+1)) #[] #[]]},W1,gf,
  #[.func (.yield (w.heap.size+1)) #[] #[]]++lb,W1,?_,?_,?_,?_,fun h=>by simp[Fence.wide]at h,?_⟩
 ·rw[<- hW1,hrec];exact run_enterLoop_outer _ _ _ _ _
 ·simp only[resolve,hg]
  simp[go_sem]
 ·intro f' hf';exact trivial
 ·simp[invoke,go_sem,eg]
 ·refine(hseq (w.heap.size+1)
   (fun S pre W=>(I S pre W∧w.heap.size+2<=W.heap.size∧∀k,S k->w.heap.size+2<=k)∧W.heap[w.heap.size+1]? =some (.loop (rec .ready none))∧W.heap[w.heap.size]? =some (.deferred (some [])))
   (fun S pre W=>∃c,(Ix S c pre W∧w.heap.size+2<=W.heap.size∧∀k,S k->w.heap.size+2<=k)∧W.heap[w.heap.size+1]? =some (.loop (rec .done (some c)))∧W.heap[w.heap.size]? =some (.deferred (some [])))
   W1 (zAA hb0 hbw) ?_ ?_ ?_ ?_).mono ?_
  ·rintro S S' s A B ⟨c,⟨hi,hsA,hSl⟩,hl,hk⟩ hSS hSn hAB
   have hS':∀k,S' k->w.heap.size+2<=k:=fun k h=>by
    rcases hSn k h with h1|h1
    ·exact hSl k h1
    ·omega
   exact⟨c,⟨hIx S S' c s A B hi hSS hSn hS' hsA (hAB.mono fun k hk=>hk.2.2),Nat.le_trans hsA hAB.size,hS'⟩,
    (hAB.block _ (Array.getElem?_eq_some_iff.1 hl).1 (fun h=>by have:=hS' _ h;omega)).trans hl,(hAB.block _ (Array.getElem?_eq_some_iff.1 hk).1 (fun h=>by have:=hS' _ h;omega)).trans hk⟩
  ·rintro S S' s A B ⟨⟨hi,hsA,hSl⟩,hl,hk⟩ hSS hSn hAB
   have hS':∀k,S' k->w.heap.size+2<=k:=fun k h=>by
    rcases hSn k h with h1|h1
    ·exact hSl k h1
    ·omega
   exact⟨⟨hI S S' s A B hi hSS hSn hS' hsA (hAB.mono fun k hk=>hk.2.2),Nat.le_trans hsA hAB.size,hS'⟩,
    (hAB.block _ (Array.getElem?_eq_some_iff.1 hl).1 (fun h=>by have:=hS' _ h;omega)).trans hl,(hAB.block _ (Array.getElem?_eq_some_iff.1 hk).1 (fun h=>by have:=hS' _ h;omega)).trans hk⟩
  ·rintro S pre x v W hpre hSb hsz ⟨⟨hi,hsW,hSl⟩,hl,hk⟩ hv
   rw[hsz1]at hv hSb
   have hlt:w.heap.size+1<W.heap.size:=(Array.getElem?_eq_some_iff.1 hl).1
   have hy:=run_yield (P:=P) (args:=#[v]) hl (by rw[hrec];simp)
   rw[hrec]at hy
   have hy':(Instr.yield (w.heap.size+1) #[v]).run P W=.ok (.round (w.heap.size+1) fn (a.tmps.setIfInBounds p v) assign body) W:=by
    simpa using hy
   refine⟨fn,_,assign,body,hy',roundIn_of_wpIn hfn ?_⟩
   refine hassign _ S x v W _ hsW hv ?_
   intro a' W' hbW' hax
   have hlW':W'.heap[w.heap.size+1]? =some (.loop (rec .ready none)):=(hbW'.block _ hlt).trans hl
   have hkW':W'.heap[w.heap.size]? =some (.deferred (some [])):=(hbW'.block _ (by omega)).trans hk
   have hltW':w.heap.size+1<W'.heap.size:=by have:=hbW'.size;omega
   refine⟨_,run_beginRound hlW' (by rw[hrec]),?_⟩
   have hl2:(W'.putObj (w.heap.size+1) (.loop {rec .ready none with state:=.busy})).heap[w.heap.size+1]? =some (.loop {rec .ready none with state:=.busy}):=World.putObj_heap_same hltW'
   have hkp:=Keep.put W' (w.heap.size+1) (.loop {rec .ready none with state:=.busy})
   have hkp2:Keep (fun k=>k≠w.heap.size∧k≠w.heap.size+1) W' _:=hkp.mono fun k hk=>hk.2
   have hIW':=hI S S pre _ _ (hI S S pre _ _ hi (fun _ h=>h) (fun _ h=>.inl h) hSl hsW (Keep.of_below hbW')) (fun _ h=>h) (fun _ h=>.inl h) hSl (Nat.le_trans hsW hbW'.size) (hkp2.mono fun k hk=>⟨hk.1,hk.2.1⟩)
   refine wpIn_mono (hbody _ S pre x v a' _ hpre (fun k h=>⟨hSl k h,by have:=(hSb k h).2;exact Nat.lt_of_lt_of_le this (Nat.le_trans hbW'.size hkp.size)⟩) hIW' (hV S x v _ _ (hV S x v _ _ hv (Keep.of_below hbW')) hkp2) (hAx _ _ _ _ hax hkp2) (Nat.le_trans (Nat.le_trans hsW hbW'.size) hkp.size) ⟨_,(World.putObj_heap_other (by omega)).trans hkW',rfl⟩ ⟨_,hl2,rfl⟩) ?_
   have fin:∀(jump:Option Code) (W3:World),(∀k,(fp k∨k=w.heap.size∨k=w.heap.size+1∨S k)->W3.heap[k]? =(W'.putObj (w.heap.size+1) (.loop {rec .ready none with state:=.busy})).heap[k]?)->
    (Instr.endRound (w.heap.size+1) jump).run P W3=.ok (.bool jump.isNone) (W3.putObj (w.heap.size+1) (.loop (rec (if jump.isNone then .ready else .done) jump)))∧
    W3.heap[w.heap.size+1]? =some (.loop {rec .ready none with state:=.busy})∧
    (W3.putObj (w.heap.size+1) (.loop (rec (if jump.isNone then .ready else .done) jump))).heap[w.heap.size+1]? =some (.loop (rec (if jump.isNone then .ready else .done) jump))∧
    (W3.putObj (w.heap.size+1) (.loop (rec (if jump.isNone then .ready else .done) jump))).heap[w.heap.size]? =some (.deferred (some [])):=fun jump W3 hk3=>by
    have hl3:=(hk3 (w.heap.size+1) (by simp)).trans hl2
    have:=run_endRound (P:=P) jump hl3
    rw[hrec]at this⊢
    refine⟨this,by rw[hrec]at hl3;exact hl3,World.putObj_heap_same (Array.getElem?_eq_some_iff.1 hl3).1,(World.putObj_heap_other (by omega)).trans ((hk3 w.heap.size (by simp)).trans ((World.putObj_heap_other (by omega)).trans hkW'))⟩
   rintro e a3 W3 hp
   have keepP:∀(o:Obj),Keep (fun k=>k≠w.heap.size∧k≠w.heap.size+1) W3 (W3.putObj (w.heap.size+1) o):=fun o=>(Keep.put W3 (w.heap.size+1) o).mono fun k hk=>hk.2
   have both:∀(o:Obj),W'.heap.size<=W3.heap.size->(∀k,(fp k∨k=w.heap.size∨k=w.heap.size+1∨S k)->W3.heap[k]? =(W'.putObj (w.heap.size+1) (.loop {rec .ready none with state:=.busy})).heap[k]?)->
    W.heap.size<=(W3.putObj (w.heap.size+1) o).heap.size∧∀k,fp k∨S k->(W3.putObj (w.heap.size+1) o).heap[k]? =W.heap[k]? :=fun o hs3 hk3=>by
    refine⟨Nat.le_trans (Nat.le_trans hbW'.size hs3) (keepP o).size,fun k hk=>?_⟩
    have hne:k≠w.heap.size+1:=by
     rcases hk with hk|hk
     ·have:=hfp k hk;omega
     ·have:=hSl k hk;omega
    have hltk:k<W.heap.size:=by
     rcases hk with hk|hk
     ·have:=hfp k hk;omega
     ·exact(hSb k hk).2
    exact(World.putObj_heap_other hne).trans ((hk3 k (by rcases hk with hk|hk<;>simp[hk])).trans ((World.putObj_heap_other hne).trans (hbW'.block k hltk)))
   cases e with
   |normal=>
    obtain⟨hs3,hk3,hi3⟩:=hp
    obtain⟨hr,hl3,hl4,hk4⟩:=fin none W3 hk3
    have hs3':W.heap.size<=W3.heap.size:=Nat.le_trans (Nat.le_trans hbW'.size hkp.size) hs3
    exact⟨_,_,hr,both _ (Nat.le_trans hkp.size hs3) hk3,.inl ⟨rfl,⟨hI S S _ _ _ hi3 (fun _ h=>h) (fun _ h=>.inl h) hSl (Nat.le_trans hsW hs3') ((keepP _).mono fun k hk=>⟨hk.1,hk.2.1⟩),Nat.le_trans (Nat.le_trans hsW hs3') (keepP _).size,hSl⟩,hl4,hk4⟩⟩
   |ret=>
    obtain⟨hs3,hk3,hi3⟩:=hp
    obtain⟨hr,hl3,hl4,hk4⟩:=fin (some .ret) W3 hk3
    have hs3':W.heap.size<=W3.heap.size:=Nat.le_trans (Nat.le_trans hbW'.size hkp.size) hs3
    exact⟨_,_,hr,both _ (Nat.le_trans hkp.size hs3) hk3,.inr ⟨rfl,.ret,⟨hIx S S _ _ _ _ hi3 (fun _ h=>h) (fun _ h=>.inl h) hSl (Nat.le_trans hsW hs3') ((keepP _).mono fun k hk=>⟨hk.1,hk.2.1⟩),Nat.le_trans (Nat.le_trans hsW hs3') (keepP _).size,hSl⟩,hl4,hk4⟩⟩
   |exit id=>
    obtain⟨hs3,hk3,hi3⟩:=hp
    obtain⟨hr,hl3,hl4,hk4⟩:=fin (some (.exit id)) W3 hk3
    have hs3':W.heap.size<=W3.heap.size:=Nat.le_trans (Nat.le_trans hbW'.size hkp.size) hs3
    exact⟨_,_,hr,both _ (Nat.le_trans hkp.size hs3) hk3,.inr ⟨rfl,.exit id,⟨hIx S S _ _ _ _ hi3 (fun _ h=>h) (fun _ h=>.inl h) hSl (Nat.le_trans hsW hs3') ((keepP _).mono fun k hk=>⟨hk.1,hk.2.1⟩),Nat.le_trans (Nat.le_trans hsW hs3') (keepP _).size,hSl⟩,hl4,hk4⟩⟩
   |goto t=>
    obtain⟨hs3,hk3,hi3⟩:=hp
    obtain⟨hr,hl3,hl4,hk4⟩:=fin (some (.goto t)) W3 hk3
    have hs3':W.heap.size<=W3.heap.size:=Nat.le_trans (Nat.le_trans hbW'.size hkp.size) hs3
    exact⟨_,_,hr,both _ (Nat.le_trans hkp.size hs3) hk3,.inr ⟨rfl,.goto t,⟨hIx S S _ _ _ _ hi3 (fun _ h=>h) (fun _ h=>.inl h) hSl (Nat.le_trans hsW hs3') ((keepP _).mono fun k hk=>⟨hk.1,hk.2.1⟩),Nat.le_trans (Nat.le_trans hsW hs3') (keepP _).size,hSl⟩,hl4,hk4⟩⟩
   |panic ch=>exact hp.elim
   |outgrown=>exact hp.elim
  ·exact⟨⟨h0 W1 (Keep.of_below hbw |>.mono fun k _=>trivial) (by omega),by omega,fun k h=>h.elim⟩,hL1,hK1⟩
  ·rintro e W2 ⟨⟨v,rfl⟩,(⟨S,hSw,⟨hi,hs2,hSl⟩,hl,hk⟩|⟨S,pre,hSp,c,⟨hi,hs2,hSl⟩,hl,hk⟩)⟩
   ·refine⟨none,_,by have:=run_endLoop (P:=P) hl (by rw[hrec];simp);rw[hrec]at this;exact this,hdone S _ (Nat.le_trans hs2 (Keep.put W2 _ _).size) (fun k h=>⟨hSl k h,Nat.lt_of_lt_of_le (hSw k h).2 (Keep.put W2 _ _).size⟩) (hI S S _ _ _ hi (fun _ h=>h) (fun _ h=>.inl h) hSl hs2 ((Keep.put W2 _ _).mono fun k hk=>hk.2.1)) ((World.putObj_heap_other (by omega)).trans hk)⟩
   ·refine⟨some c,_,by have:=run_endLoop (P:=P) hl (by rw[hrec];simp);rw[hrec]at this;exact this,hstop S c pre _ hSp hSl (hIx S S _ _ _ _ hi (fun _ h=>h) (fun _ h=>.inl h) hSl hs2 ((Keep.put W2 _ _).mono fun k hk=>hk.2.1)) ((World.putObj_heap_other (by omega)).trans hk)⟩
end
section
open Go.RowKit
def PredQ(P:Program)(g:Nat)(lb:Array Value)(w:World)(p:Rt->Bool):Prop:=
 ∀(r:Rt) (W:World),Below w.heap.size w W->Calls P g (#[ratV r]++lb) W fun e W'=>e=.returned (.bool (p r))∧Below W.heap.size W W'
theorem indexQ(w:World)(a:Option Addr)(n cap:Nat)(l:List Rt)(hn:l.length=n)(hm:n<=maxLen)(H:zBU w a l)(g:Nat)(lb:Array Value)(p:Rt->Bool)(hp:PredQ Tryz.prog g lb w p)(eg:∀args w,(callFunc g args).run Tryz.prog w=.ok (.enter g args) w):
 Calls Tryz.prog 146 #[.slice a n cap,.func (.func g) #[] lb] w fun e w'=>e=.returned (.int .i64 (idxP p l 0))∧Below w.heap.size w w':=by
 have HN:=hid hn
 have HH:=hid H
 have HP:=hid hp
 clear hn H hp
 unfold maxLen at hm
 go_enter Tryz.func146,Tryz.ntmps146
 go_wp2
 go_loopw [8] (fun i wr=>∃k:Nat,k<=n∧i=.int .i64 k∧Below w.heap.size w wr∧∀i y,i<k->l[i]? =some y->p y=false) (fun i _=>n-(intOf i).toNat)
 case atStart=>exact⟨0,Nat.zero_le _,rfl,Below.refl _ _,fun i y h=>by omega⟩
 case round=>
  obtain⟨k,hk,rfl,hb,hno⟩:=hrel
  have HNO:=hid hno
  clear hno
  by_cases hlt:k<n
  ·have hkl:k<l.length:=by rw[HN.out];exact hlt
   obtain⟨b,off,rfl,hbs,h0,h1⟩:=(HH.out.below hb) k hkl
   have HK:=hid (List.getElem?_eq_getElem hkl)
   obtain⟨⟨r1,r2⟩,hr⟩:∃r,r=l[k]'hkl:=⟨_,rfl⟩
   rw[<- hr]at h0 h1 HK
   simp only[]at h0 h1
   have HC:=hid (HP.out (r1,r2) wr hb)
   obtain⟨B,hB⟩:=exq (p (r1,r2))
   rw[<- hB]at HC
   have HBB:=hid hB.symm
   clear hr hB hkl
   go_wp2_with (refine HC.out.mono ?_;rintro e w1 ⟨rfl,hb1⟩;refine Stop.of ?_)
   refine Stop.go ?_
   cases B
   ·go_wp2
    refine⟨⟨k+1,by omega,by go_num,zAA hb hb1,?_⟩,by simp[intOf];omega⟩
    intro i y hi hy
    by_cases e:i=k
    ·subst e;rw[HK.out]at hy;cases hy;exact HBB.out
    ·exact HNO.out i y (by omega) hy
   ·go_wp2
    go_ret
    refine⟨zCA ?_,zAA hb hb1⟩
    rw[zIA p l 0 k _ HK.out HBB.out HNO.out];simp
  ·go_wp2
   go_ret
   refine⟨zCA ?_,hb⟩
   rw[zFW]
   intro x hx
   obtain⟨i,hi,e⟩:=List.getElem_of_mem hx
   exact HNO.out i x (by have:=HN.out;omega) (by rw[List.getElem?_eq_getElem hi,e])
theorem zKO(w:World)(a:Option Addr)(n cap:Nat)(l:List Rt)(hn:l.length=n)(hm:n<=maxLen)(H:zBU w a l)(g:Nat)(lb:Array Value)(p:Rt->Bool)(hp:PredQ Tryz.prog g lb w p)(eg:∀args w,(callFunc g args).run Tryz.prog w=.ok (.enter g args) w):
 Calls Tryz.prog 80 #[.slice a n cap,.func (.func g) #[] lb] w fun e w'=>e=.returned (.bool (l.any p))∧Below w.heap.size w w':=by
 have HC:=hid (indexQ w a n cap l hn hm H g lb p hp eg)
 have HG':=hid (zKJ p l 0)
 clear hn H hp
 go_enter Tryz.func80,Tryz.ntmps80
 go_wp2_with (refine HC.out.mono ?_;rintro e w1 ⟨rfl,hb1⟩)
 go_ret
 refine⟨zAN ?_,hb1⟩
 rw[Bool.eq_iff_iff,decide_eq_true_iff,HG'.out]
theorem fit1(w:World):PredQ Tryz.prog 263 #[] w (fun r=>decide (r.1=0)):=by
 rintro⟨r1,r2⟩ W hb
 have hbz:Below W.heap.size W (W.alloc (.cells #[.int .i64 r1,.int .i64 r2] 29)):=(Below.refl _ _).alloc (Nat.le_refl _) _
 simp only[ratV]
 go_enter Tryz.func263,Tryz.ntmps263
 go_wp2
 go_ret
 exact⟨zAN (by rw[Bool.eq_iff_iff];simp),hbz⟩
theorem qpixels_c(w:World)(a a2:Option Addr)(n cap n2 cap2:Nat)(M:Mask)(hn:M.length=n)(h1:1<=n)(H:zAJ w a M):
 Calls Tryz.prog 255 #[.agg #[.slice a n cap,.slice a2 n2 cap2]] w fun e w'=>e=.returned (.int .i64 (zAB M))∧Below w.heap.size w w':=by
 obtain⟨b,off,ra,rc,rfl,hb,hc⟩:=zDT H (by omega)
 have hbz:Below w.heap.size w (w.alloc (.cells #[.slice (some ⟨b,off,none⟩) n cap,.slice a2 n2 cap2] 216)):=(Below.refl _ _).alloc (Nat.le_refl _) _
 have hcz:=(hbz.cell (p:=⟨b,off,none⟩) hb).trans hc
 have i0:(0:Int)<(n:Int):=by omega
 obtain⟨W,hW⟩:=exq (zAB M)
 rw[<- hW]at hcz⊢
 have HB:=hid hbz
 clear hbz hc hb hn H hW
 go_enter Tryz.func255,Tryz.ntmps255
 go_wp2
 go_ret
 exact⟨rfl,HB.out⟩
def FitV(lo:Nat)(S:Nat->Prop)(f:FitT)(v:Value)(W:World):Prop:=
 ∃pa pn pc va vn vc,v=.agg #[.slice pa pn pc,.slice va vn vc]∧f.1.length=pn∧f.2.length=vn∧pn<=maxLen∧vn<=maxLen∧zAE W pa f.1∧zBU W va f.2∧
  (∀b o,pa=some ⟨b,o,none⟩->lo<=b∧b<W.heap.size∧¬S b∧∃c z,W.heap[b]? =some (.cells c 3 z))∧(∀b o,va=some ⟨b,o,none⟩->lo<=b∧b<W.heap.size∧¬S b∧∃c z,W.heap[b]? =some (.cells c 29 z))
def FitPost(o:Option FitT)(lo:Nat)(e:Ending)(w':World):Prop:=
 (o=none∧e=.returned (.tuple #[.agg #[.slice none 0 0,.slice none 0 0],.bool false]))∨(∃f v,o=some f∧e=.returned (.tuple #[v,.bool true])∧FitV lo (fun _=>False) f v w')
theorem zJX{w:World}{base:Nat}{T:TypeId}{k n:Nat}{a:Option Addr}{c:Nat}{xs:List Value}(h:w.ownsRow base T k (.slice a n c) n xs):∀b o,a=some ⟨b,o,none⟩->base<=b∧b<w.heap.size:=by
 rintro b o rfl
 rcases h.2 with⟨h1,_⟩|⟨g,cap,cur,h1,hbg,hgg,_⟩
 ·cases h1
 ·cases h1;exact⟨hbg,(Array.getElem?_eq_some_iff.1 hgg).1⟩
theorem own_typed{w:World}{base:Nat}{T:TypeId}{k n:Nat}{a:Option Addr}{c:Nat}{xs:List Value}(h:w.ownsRow base T k (.slice a n c) n xs):∀b o,a=some ⟨b,o,none⟩->∃c z,w.heap[b]? =some (.cells c T z):=by
 rintro b o rfl
 rcases h.2 with⟨h1,_⟩|⟨g,cap,cur,h1,hbg,hgg,_⟩
 ·cases h1
 ·cases h1;exact⟨_,_,hgg⟩
theorem fit_c(w:World)(a a2 a3:Option Addr)(n cap n2 cap2 n3 cap3:Nat)(M:Mask)(y S:List Int)(hn:M.length=n)(hn2:y.length=n2)(hn3:S.length=n3)(hm:n<=maxLen)(hm2:n2<=maxLen)(hm3:n3<=1000)(H:zAJ w a M)(H2:zAE w a2 y)(H3:zAE w a3 S):
 Calls Tryz.prog 256 #[.agg #[.slice a n cap,.slice a2 n2 cap2],.slice a3 n3 cap3] w fun e w'=>FitPost (fitF M y S) w.heap.size e w'∧Below w.heap.size w w':=by
 obtain⟨wz,hwz⟩:=exq ((w.alloc (.cells #[.slice a n cap,.slice a2 n2 cap2] 216)).alloc (.cells #[.slice none 0 0,.slice none 0 0] 73))
 obtain⟨s0,hs⟩:=exq (w.heap.size)
 have hbz:Below w.heap.size w wz:=by rw[hwz];exact((Below.refl _ _).alloc (Nat.le_refl _) _).alloc (by simp) _
 have l0:wz.cell? ⟨s0,0,none⟩=some (.slice a n cap):=by rw[hwz,hs,World.cell?_alloc_past _ _ _ (by simp),World.cell?_alloc_at _ _ _ _ rfl];rfl
 have l1:wz.cell? ⟨s0,1,none⟩=some (.slice a2 n2 cap2):=by rw[hwz,hs,World.cell?_alloc_past _ _ _ (by simp),World.cell?_alloc_at _ _ _ _ rfl];rfl
 have q0:wz.heap[s0+1]? =some (.cells #[.slice none 0 0,.slice none 0 0] 73 (0,0)):=by
  have:=World.alloc_heap_new (w.alloc (.cells #[.slice a n cap,.slice a2 n2 cap2] 216)) (.cells #[.slice none 0 0,.slice none 0 0] 73)
  rw[hwz,hs];simpa using this
 have hs1:s0+1<wz.heap.size:=(Array.getElem?_eq_some_iff.1 q0).1
 have HSO:=hid (solve_c wz a a3 a2 n cap n3 cap3 n2 cap2 M S y hn hn3 hn2 hm (Nat.le_trans hm3 (by decide)) hm2 (H.below hbz) (H3.below hbz) (H2.below hbz))
 have HCL:=hid (fun(X:World) (hX:Below w.heap.size w X)=>clone_c X a3 n3 cap3 S hn3 (by omega) (H3.below hX))
 have HFC:=hid (fun(X:World) (va:Option Addr) (vc:Nat) (vl:List Rt) (hvm:vl.length<=maxLen) (hv:zBU X va vl)=>zKO X va vl.length vc vl rfl hvm hv _ #[] _ (fit1 X) (enters_of Tryz.func263 (by kernel_rfl) rfl))
 have HFF:=hid (show fitF M y S=if (zCI M S y).2=0∧(zCI M S y).1.all (fun r=>decide (r.1≠0))=true then some (S,(zCI M S y).1)else none from rfl)
 obtain⟨F,hF⟩:=exq (fitF M y S)
 obtain⟨⟨V,E⟩,hVE⟩:∃V,V=zCI M S y:=⟨_,rfl⟩
 rw[<- hVE]at HSO HFF
 rw[<- hF]at HFF⊢
 simp only[]at HSO HFF
 have HB:=hid hbz
 have HQ:=hid (fun(X:World) (hX:Below wz.heap.size wz X)=>(hX.block _ hs1).trans q0)
 have HS:=hid hs
 have HN3:=hid hn3
 have hs1':=hid hs1
 clear hbz hn hn2 hn3 H H2 H3 hF hVE q0 hs1
 go_enter Tryz.func256,Tryz.ntmps256
 go_wp2_with fail
 rw[<- hs,<- hwz]
 clear hs hwz
 go_wp2_with (go_at_call 262;refine HSO.out.mono ?_;rintro e w1 ⟨v,base,rfl,hbs,hO,hb1⟩;refine Stop.of ?_)
 refine Stop.go ?_
 obtain⟨va,vc,rfl,hvm,hvr⟩:=hO.reads
 have HVB:=hid (zJX hO)
 have HVT:=hid (own_typed hO)
 have HVR:=hid hvr
 have HVM:=hid hvm
 have HB1:=hid hb1
 have HBS:=hid hbs
 clear hO hvr hvm hb1 hbs HSO l0 l1
 have hz:∀X:World,Below wz.heap.size wz X->X.cell? ⟨s0+1,0,none⟩=some (.slice none 0 0)∧X.cell? ⟨s0+1,1,none⟩=some (.slice none 0 0)∧X.frozen? ⟨s0+1,0,none⟩=false∧X.frozen? ⟨s0+1,1,none⟩=false∧s0+1<X.heap.size:=fun X hX=>by
  have h:=HQ.out X hX
  exact⟨by simp[World.cell?,h],by simp[World.cell?,h],by simp[World.frozen?,h],by simp[World.frozen?,h],(Array.getElem?_eq_some_iff.1 h).1⟩
 have HZ:=hid hz
 clear hz
 by_cases hE:E=0
 rotate_left
 ·obtain rfl:F=none:=by rw[HFF.out,if_neg (fun h=>hE h.1)]
  have hEb:(E !=0)=true:=by simpa using hE
  obtain⟨z0,z1,f0,f1,hlt⟩:=HZ.out _ HB1.out
  have HFI:=hid (show Below w.heap.size w ((w1.setCell ⟨s0+1,0,none⟩ (.slice none 0 0)).setCell ⟨s0+1,1,none⟩ (.slice none 0 0))from by
   have hg:w.heap.size<=s0+1:=by rw[HS.out];omega
   exact zAI (zAI (zAA HB.out HB1.out) hg _ _) hg _ _)
  go_wp2
  refine bodyPost_ret (v:=.tuple #[.agg #[.slice none 0 0,.slice none 0 0],.bool false]) ?_ rfl ⟨.inl ⟨rfl,rfl⟩,HFI.out⟩
  simp[results,Tryz.results256,go_sem,z0,z1,f0,f1,hlt]
 ·subst hE
  have HFC1:=hid (HFC.out w1 va vc V HVM.out HVR.out)
  have hany:V.any (fun r=>decide (r.1=0))=!V.all (fun r=>decide (r.1≠0)):=by
   rw[List.not_all_eq_any_not];congr 1;funext r;simp
  rw[hany]at HFC1
  obtain⟨A,hA⟩:=exq (V.all (fun r=>decide (r.1≠0)))
  rw[<- hA]at HFC1 HFF
  clear hA hany HFC
  go_wp2_with (go_at_call 80;refine HFC1.out.mono ?_;rintro e w2 ⟨rfl,hb2⟩;refine Stop.of ?_)
  refine Stop.go ?_
  have HB2:=hid (zAA HB1.out hb2)
  have HVR2:=hid (HVR.out.below hb2)
  have HVT2:=hid (fun(b o:Nat) (h:va=some ⟨b,o,none⟩)=>show ∃c z,w2.heap[b]? =some (.cells c 29 z)from by obtain⟨c,z,hh⟩:=HVT.out b o h;exact⟨c,z,(hb2.block b (HVB.out b o h).2).trans hh⟩)
  have HVB2:=hid (fun b o h=>show base<=b∧b<w2.heap.size from by have:=HVB.out b o h;have:=hb2.size;omega)
  clear hb2 HFC1
  cases A
  ·obtain rfl:F=none:=by rw[HFF.out];rfl
   obtain⟨z0,z1,f0,f1,hlt⟩:=HZ.out _ HB2.out
   have HFI:=hid (show Below w.heap.size w ((w2.setCell ⟨s0+1,0,none⟩ (.slice none 0 0)).setCell ⟨s0+1,1,none⟩ (.slice none 0 0))from by
    have hg:w.heap.size<=s0+1:=by rw[HS.out];omega
    exact zAI (zAI (zAA HB.out HB2.out) hg _ _) hg _ _)
   go_wp2
   refine bodyPost_ret (v:=.tuple #[.agg #[.slice none 0 0,.slice none 0 0],.bool false]) ?_ rfl ⟨.inl ⟨rfl,rfl⟩,HFI.out⟩
   simp[results,Tryz.results256,go_sem,z0,z1,f0,f1,hlt]
  ·obtain rfl:F=some (S,V):=by rw[HFF.out];rfl
   go_wp2_with (go_at_call 231;refine(HCL.out _ (zAA HB.out HB2.out)).mono ?_;rintro e w3 ⟨v3,rfl,ho3,hb3⟩;refine Stop.of ?_)
   refine Stop.go ?_
   obtain⟨pa,pc,rfl,hpi,_⟩:=zDE ho3 HN3.out
   have HB3:=hid (zAA HB2.out hb3)
   obtain⟨z0,z1,f0,f1,hlt⟩:=HZ.out _ HB3.out
   have hgS:w.heap.size<=s0+1:=by rw[HS.out];omega
   have HFI:=hid (show Below w.heap.size w ((w3.setCell ⟨s0+1,0,none⟩ (.slice pa n3 pc)).setCell ⟨s0+1,1,none⟩ (.slice va V.length vc))from zAI (zAI (zAA HB.out HB3.out) hgS _ _) hgS _ _)
   have hpb:=zJX ho3
   have hpt:=own_typed ho3
   have hbz2:s0+1<w2.heap.size:=by have:=HB2.out.size;have:=hs1'.out;omega
   have hsz:w.heap.size<=w2.heap.size:=Nat.le_trans HB.out.size HB2.out.size
   have hbs:wz.heap.size<=base:=HBS.out
   have HFV:=hid (show FitV w.heap.size (fun _=>False) (S,V) (.agg #[.slice pa n3 pc,.slice va V.length vc]) ((w3.setCell ⟨s0+1,0,none⟩ (.slice pa n3 pc)).setCell ⟨s0+1,1,none⟩ (.slice va V.length vc))from by
    have hkeep:∀k,k≠s0+1->((w3.setCell ⟨s0+1,0,none⟩ (.slice pa n3 pc)).setCell ⟨s0+1,1,none⟩ (.slice va V.length vc)).heap[k]? =w3.heap[k]? :=fun k hk=>(Below.heap_setCell _ _ _ _ hk).trans (Below.heap_setCell _ _ _ _ hk)
    refine⟨pa,n3,pc,va,V.length,vc,rfl,HN3.out,rfl,Nat.le_trans hm3 (by decide),HVM.out,?_,?_,?_,?_⟩
    ·intro j hj
     obtain⟨b,o,e,hb,hc⟩:=hpi j hj
     have:=hpb b o e
     refine⟨b,o,e,by simp[World.setCell];omega,?_⟩
     rw[World.cell?_of_block (hkeep b (by omega))];exact hc
    ·intro j hj
     obtain⟨b,o,e,hb,h0,h1⟩:=(HVR2.out.below hb3) j hj
     have:=HVB2.out b o e
     have hs2:=hs1'.out
     refine⟨b,o,e,by simp[World.setCell];omega,?_,?_⟩
     ·rw[World.cell?_of_block (hkeep b (by omega))];exact h0
     ·rw[World.cell?_of_block (hkeep b (by omega))];exact h1
    ·intro b o e
     have:=hpb b o e
     exact⟨by omega,by simp[World.setCell];omega,fun h=>h,by obtain⟨c,z,hh⟩:=hpt b o e;exact⟨c,z,(hkeep b (by omega)).trans hh⟩⟩
    ·intro b o e
     have:=HVB2.out b o e
     have hvt:=HVT2.out b o e
     have hs2:=hs1'.out
     have h3z:=hb3.size
     exact⟨by have:=HB.out.size;omega,by simp[World.setCell];omega,fun h=>h,by obtain⟨c,z,hh⟩:=hvt;exact⟨c,z,(hkeep b (by omega)).trans ((hb3.block b this.2).trans hh)⟩⟩)
   clear ho3 hpi hb3 hpb hpt HVR HVR2 HCL
   go_wp2
   refine bodyPost_ret (v:=.tuple #[.agg #[.slice pa n3 pc,.slice va V.length vc],.bool true]) ?_ rfl ⟨.inr ⟨_,_,rfl,rfl,HFV.out⟩,HFI.out⟩
   simp[results,Tryz.results256,go_sem,z0,z1,f0,f1,hlt]
end
section
open Go.RowKit
section
variable {P:Program} {ops:Array Oper} {Q:Exit->Act->World->Prop} {md:Region.Mode} {S:World->Prop}
theorem wpOp_inWide(n:Nat){i:Nat}{K:Act->World->Prop}{a:Act}{w:World}(hq:¬LetsOut Q)(h:wpOp P ops Q i K a w):wpOpIn Fence.wide n P ops Q i K a w:=by
 unfold wpOp at h
 unfold wpOpIn
 cases ho:ops[i]? with
 |none=>simpa[ho]using h
 |some o=>
  simp only[ho]at h⊢
  split
  ·rename_i hw
   simp only[hw,if_true]at h
   have h:=h.resolve_right (fun x=>hq x.2)
   refine⟨fun f _=>trivial,?_⟩
   rw[show Fence.wide.round=none from rfl,Oper.semAt_none]
   unfold Oper.wp at h
   generalize (execOp a.eval o).run P w=r at*
   cases r with
   |ok x w'=>
    cases x<;>simp only[Oper.upon,Oper.uponIn]at h⊢ <;>first
     |exact h
     |exact⟨fun h=>by simp[Fence.wide]at h,callsIn_wide.2 h⟩
     | (refine⟨fun h=>by simp[Fence.wide]at h,fun c cs _=>?_⟩
        obtain⟨v,w'',hr,hs⟩:=h c cs
        exact⟨v,w'',hr,(StepsIn.of_steps hs).mono fun m _=>fenced_wide P m⟩)
   |halt x w'=>cases x<;>simp only[Oper.upon,Oper.uponIn]at h⊢ <;>exact h
  ·rename_i hw
   simp only[hw]at h
   exact⟨fun f _=>trivial,h⟩
theorem AnyT.inWide{T:Nat->World->Prop}(n:Nat)(hq:¬LetsOut Q):∀(fuel:Nat) (listed:Array Bool) (a:Act) (w:World),
 AnyT P md ops Q T fuel listed a w->wpAnyIn Fence.wide n P md ops Q fuel listed a w
 |0,_,_,_,h=>h
 |fuel+1,_,_,_,h=>⟨h.1,fun i hi=>wpOpIn_mono (fun a' w' h'=>AnyT.inWide n hq fuel _ a' w' h'.2) (wpOp_inWide n hq (h.2 i hi))⟩
theorem wide_region(T:Nat->World->Prop)(n:Nat){id:Nat}{a:Act}{w:World}(hm:P.follows .mixedOrders=true)(hq:¬LetsOut Q)
 (h:AnyT P .any ops Q T ops.size (Array.replicate ops.size false) a w.drew):(Code.region id ops true).wpIn Fence.wide n P Q a w:=
 wpIn_region_any hm (AnyT.inWide n hq _ _ _ _ h)
end
def markL(hs:List Nat):List Deferred:=hs.map fun h=>{target:=.collected h,args:=#[]}
theorem zDD{F:Fence}{n:Nat}{P:Program}{fn:Func}{tmps:Array Value}{R:Ending->World->Prop}:∀(hs:List Nat) (w:World),hs.Nodup->(∀h∈hs,w.heap[h]? =some (.deferred (some [])))->
 (∀w',Keep (fun k=>k∉hs) w w'->LeavesIn F n P fn tmps R [] .returning w')->LeavesInM F n P fn tmps R (markL hs) .returning w
 | [],w,_,_,h=>h w (Keep.refl _ _)
 |k::hs,w,hd,hm,h=>by
  obtain⟨h1,h2⟩:=List.nodup_cons.1 hd
  refine⟨by simp[markL],.inl ⟨k,_,by rfl,run_takeDeferred (hm k (by simp)),?_⟩⟩
  refine zDD hs _ h2 (fun q hq=>(World.putObj_heap_other (by rintro rfl;exact h1 hq)).trans (hm q (by simp[hq]))) fun w' hk=>h w' ?_
  have hp:=Keep.put w k (.deferred none)
  refine⟨hk.os.trans hp.os,hk.tape.trans hp.tape,hk.output.trans hp.output,Nat.le_trans hp.size hk.size,fun i hi hs'=>?_⟩
  have hne:i≠k:=fun e=>hs' (by simp[e])
  exact(hk.block i (Nat.lt_of_lt_of_le hi hp.size) (fun h=>hs' (by simp[h]))).trans (World.putObj_heap_other hne)
def SetV(lo:Nat)(S:Nat->Prop)(x:List Int)(v:Value)(W:World):Prop:=∃a c,v=.slice a x.length c∧zAE W a x∧∀b o,a=some ⟨b,o,none⟩->lo<=b
theorem SetV.keep{lo:Nat}{S:Nat->Prop}{x:List Int}{v:Value}{A B:World}{T:Nat->Prop}(h:SetV lo S x v A)(hk:Keep T A B)(hT:∀k,lo<=k->T k):SetV lo S x v B:=by
 obtain⟨a,c,e,hi,hb⟩:=h
 refine⟨a,c,e,fun j hj=>?_,hb⟩
 obtain⟨b,o,e2,hlt,hc⟩:=hi j hj
 exact⟨b,o,e2,Nat.lt_of_lt_of_le hlt hk.size,hk.cell hc (hT b (hb b o e2))⟩
theorem iter_setsS(w0:World)(n k kb nb:Nat)(hn:n<=1000)(hk:k<=1000)(hkb:kb<w0.heap.size)(hnb:nb<w0.heap.size)(hf0:w0.cell? ⟨kb,0,none⟩=some (.int .i64 k))(hf1:w0.cell? ⟨nb,0,none⟩=some (.int .i64 n)):
 IterS Tryz.prog 222 #[.pointer (some ⟨kb,0,none⟩),.pointer (some ⟨nb,0,none⟩)] SetV (comb n k 0) (fun q=>q=kb∨q=nb) w0:=by
 rcases Nat.eq_zero_or_pos k with rfl|h1
 ·intro l J Jx W hb hJx hJ hY h0
  have hxs:comb n 0 0=[[]]:=by unfold comb;rfl
  rw[hxs]at hY⊢
  have hg0:W.cell? ⟨kb,0,none⟩=some (.int .i64 0):=(hb.cell (p:=⟨kb,0,none⟩) hkb).trans hf0
  have hg1:W.cell? ⟨nb,0,none⟩=some (.int .i64 n):=(hb.cell (p:=⟨nb,0,none⟩) hnb).trans hf1
  have hkW:kb<W.heap.size:=Nat.lt_of_lt_of_le hkb hb.size
  have hnW:nb<W.heap.size:=Nat.lt_of_lt_of_le hnb hb.size
  have HJ:=hid hJ
  have HY:=hid hY
  have H0:=hid h0
  have HALL:=hid (all_c W 0 (by decide))
  clear hJ hJx hY h0 hf0 hf1 hb hxs
  refine callsIn_of_wp Tryz.func222 rfl trivial ?_ rfl
  simp only[Tryz.ntmps222,List.size_toArray,List.length_cons,List.length_nil,Nat.reduceAdd,Nat.reduceSub,Array.replicate_succ,Array.replicate_zero,List.push_toArray,List.append_toArray,List.nil_append,List.cons_append]
  gi_wp2_with (refine⟨trivial,rfl,?_⟩;gi_at_call 194;refine(callsIn_wide.2 HALL.out).mono ?_;rintro e w1 ⟨v,rfl,ho1,hb1⟩;refine Stop.of ?_)
  refine Stop.go ?_
  obtain⟨va,vc,rfl⟩:=zAG ho1
  have hVB:=zJX ho1
  have hJ1:J (fun _=>False) [] w1:=HJ.out _ _ _ _ _ H0.out (fun _ h=>h) (fun _ h=>h.elim) (Keep.of_below hb1)
  have hc0:w1.cell? ⟨kb,0,none⟩=some (.int .i64 0):=(hb1.cell (p:=⟨kb,0,none⟩) hkW).trans hg0
  have hc1:w1.cell? ⟨nb,0,none⟩=some (.int .i64 n):=(hb1.cell (p:=⟨nb,0,none⟩) hnW).trans hg1
  have hyk:=HY.out (fun _=>False) [] [] (.slice va 0 vc) w1 (List.prefix_refl _) (fun _ h=>h.elim) hb1.size hJ1 ⟨va,vc,rfl,fun j hj=>by simp at hj,fun b o e=>(hVB b o e).1⟩
  have hn0:(0:Int)<=(n:Int):=by omega
  have HB1:=hid hb1
  clear ho1 hVB hJ1 HALL hb1
  gi_wp2
  refine wpIn_loop_once ?_
  obtain⟨fn,tmps,assign,body,hy,hR⟩:=hyk
  gi_wp2
  refine⟨rfl,hR.mono ?_⟩
  clear hR hy
  rintro e W3 ⟨⟨hs3,hk3⟩,⟨rfl,hJ3⟩|⟨rfl,hJx⟩⟩
  ·have hg30:W3.cell? ⟨kb,0,none⟩=some (.int .i64 0):=(World.cell?_of_block (a:=⟨kb,0,none⟩) (hk3 kb (Or.inl (Or.inl rfl)))).trans hc0
   have HJ3:=hid hJ3
   clear hJ3 hk3 hc0 hc1
   gi_wp2
   refine wpIn_loop_once ?_
   gi_wp2
   gi_quiet (fail)
   gi_wp2
   refine bodyPost_ret (results_none rfl _ _ _) rfl ?_
   exact⟨⟨_,rfl⟩,.inl ⟨fun _=>False,fun _ h=>h.elim,HJ.out _ _ _ _ _ HJ3.out (fun _ h=>h) (fun _ h=>h.elim) ((Keep.refl _ _).drewN _)⟩⟩
  ·gi_wp2
   refine bodyPost_ret (results_none rfl _ _ _) rfl ?_
   exact⟨⟨_,rfl⟩,.inr ⟨fun _=>False,[[]],List.prefix_refl _,hJx⟩⟩
 ·intro l J Jx W hb hJx hJ hY h0
  refine(iter_sets w0 n k kb nb hn hk h1 hkb hnb hf0 hf1 l (fun it pre X=>(pre=[]∧Keep (fun q=>q≠it) W X)∨(J (fun q=>q=it) pre X∧it<X.heap.size)) (fun pre X=>∃S,Jx S pre X) W hb ?_ ?_ ?_).mono ?_
  ·rintro it s A B _ (⟨e,hj⟩|⟨hj,hl⟩) hab
   ·exact .inl ⟨e,hj.trans hab⟩
   ·exact .inr ⟨hJ _ _ _ _ _ hj (fun _ h=>h) (fun _ h=>.inl h) hab,Nat.lt_of_lt_of_le hl hab.size⟩
  ·intro it pre x cap sp W1 hpre hit hit1 hj hrow
   have hj:J (fun q=>q=it) pre W1:=by
    rcases hj with⟨e,hj⟩|⟨hj,_⟩
    ·rw[e]
     exact hJ _ _ _ _ _ h0 (fun _ h=>h.elim) (fun q hq=>.inr (by rw[hq];exact hit)) hj
    ·exact hj
   have hsz:W.heap.size<=W1.heap.size:=by omega
   have:=hY (fun q=>q=it) pre x (.slice (some ⟨it,0,none⟩) x.length cap) W1 hpre (fun q hq=>by subst hq;exact⟨hit,hit1⟩) hsz hj ⟨_,_,rfl,ints_row hrow,fun b o e=>by simp only[Option.some.injEq,Addr.mk.injEq]at e;rw[<- e.1];exact hit⟩
   obtain⟨fn,tmps,assign,body,hy,hR⟩:=this
   refine⟨fn,tmps,assign,body,hy,hR.mono ?_⟩
   rintro e W3 ⟨⟨h2,h3⟩,⟨he,h1⟩|⟨he,h⟩⟩
   ·exact .inl ⟨he,.inr ⟨h1,Nat.lt_of_lt_of_le hit1 h2⟩,h2,h3⟩
   ·exact .inr ⟨he,_,h⟩
  ·intro it hit
   exact .inl ⟨rfl,Keep.refl _ _⟩
  ·rintro e W' ⟨hv,⟨it,hit,⟨e,hj⟩|⟨hj,hl⟩⟩|⟨pre,hpre,S,hj⟩⟩
   ·rw[e]
    refine⟨hv,.inl ⟨fun q=>q=it∧q<W'.heap.size,fun q hq=>by rw[hq.1];exact⟨hit,by have:=hq.2;rwa [hq.1]at this⟩,hJ _ _ _ _ _ h0 (fun _ h=>h.elim) (fun q hq=>.inr (by rw[hq.1];exact hit)) ?_⟩⟩
    exact⟨hj.os,hj.tape,hj.output,hj.size,fun i hi _=>hj.block i hi (fun e=>by omega)⟩
   ·exact⟨hv,.inl ⟨_,fun q hq=>by rw[hq];exact⟨hit,hl⟩,hj⟩⟩
   ·exact⟨hv,.inr ⟨_,_,hpre,hj⟩⟩
end
end Go.Proofs.YtlffndehhhpgjaaGreat
