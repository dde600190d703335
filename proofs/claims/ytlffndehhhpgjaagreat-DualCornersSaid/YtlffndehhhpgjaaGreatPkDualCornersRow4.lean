/- Walks and plain laws for DualCornersRow, part 4. -/
import Derived.Maps.RangeWalk
import Derived.Maps.AppendAt
import Derived.Deep.CutRange
import Derived.Test.YtlffndehhhpgjaaGreatPkDualCornersRow3
namespace Go.Proofs.YtlffndehhhpgjaaGreat
set_option linter.unusedVariables false
set_option linter.unusedSimpArgs false
set_option maxRecDepth 100000
set_option maxHeartbeats 4000000
section
section
theorem sm_add_at{f g:Nat->Int}{p:Nat}{x:Int}:∀{n:Nat},p<n->(∀c,c<n->f c=g c+if c=p then x else 0)->sm f n=sm g n+x
 |n,hp,h=>by rw[zAL h,zHP,zDZ (f:=fun c=>if c=p then x else 0) hp (fun k _ hne=>if_neg hne),if_pos rfl]
theorem dotS_set{r:Vec}{h:List Int}{p n:Nat}{x:Int}(hp:p<n)(hl:h.length=n):dotS r (vec (h.set p x)) n=dotS r (vec h) n+r p*(x-vec h p):=by
 unfold dotS
 refine sm_add_at hp fun c hc=>?_
 rw[zLZ (by omega)]
 by_cases e:c=p
 ·subst e;rw[if_pos rfl,if_pos rfl];grind
 ·rw[if_neg e,if_neg e];grind
theorem zIC{n:Nat}{S l:List Int}(h:zCL n S){k:Nat}(hk:k<S.length):∀t,t<=k->vec (zAX n S l t) (S[k]).toNat=0
 |0,_=>by
  unfold zAX vec
  simp only[List.range_zero,List.foldl_nil,List.getElem?_replicate]
  split<;>rfl
 |t+1,ht=>by
  have htS:t<S.length:=by omega
  have hS:S[t]?.getD 0=S[t]:=by rw[List.getElem?_eq_getElem htS];rfl
  have g1:=h.get htS
  have g2:=h.get hk
  rw[zDX,hS,zLZ (by rw[zDE];omega),if_neg (fun c=>by have:=h.inj hk htS (by omega);omega)]
  exact zIC h hk t (by omega)
theorem zHL{n:Nat}{S l:List Int}(h:zCL n S)(r:Vec):∀k,k<=S.length->dotS r (vec (zAX n S l k)) n=sm (fun i=>zFT S r i*vec l i) k
 |0,_=>by
  unfold dotS
  rw[zAL (g:=fun _=>0) (fun c _=>?_),zFH];rfl
  unfold zAX vec
  simp only[List.range_zero,List.foldl_nil,List.getElem?_replicate]
  split<;>simp
 |k+1,hk=>by
  have hkS:k<S.length:=by omega
  have hS:S[k]?.getD 0=S[k]:=by rw[List.getElem?_eq_getElem hkS];rfl
  have g1:=h.get hkS
  rw[zDX,hS,dotS_set (by omega) (zDE n S l k),zHL h r k (by omega),zIC h hkS k (Nat.le_refl _)]
  have:zFT S r k=r (S[k]).toNat:=by unfold zFT;rw[List.getElem?_eq_getElem hkS]
  show _=sm _ k+zFT S r k*vec l k
  rw[this]
  unfold vec
  simp
theorem zFQ{M:List (List Int)}{n:Nat}{S l:List Int}(h:zCL n S):zEC M n (vec (zAX n S l S.length))↔zEC (zAS M S) S.length (vec l):=by
 unfold zEC
 rw[zBK]
 have:∀q,dotS (rowv M q) (vec (zAX n S l S.length)) n=dotS (rowv (zAS M S) q) (vec l) S.length:=fun q=>by
  rw[zHL h _ _ (Nat.le_refl _),zHN];rfl
 constructor
 ·intro hk q hq;rw[<- this];exact hk q hq
 ·intro hk q hq;rw[this];exact hk q hq
theorem zGN{n:Nat}{S l:List Int}(h:zCL n S)(hl:l.length=S.length){c:Nat}:vec (zAX n S l S.length) c≠0↔∃i,∃hi:i<S.length,S[i]=(c:Int)∧vec l i≠0:=by
 constructor
 ·intro hc
  by_cases hm:(c:Int)∈S
  ·obtain⟨i,hi,e⟩:=List.mem_iff_getElem.1 hm
   refine⟨i,hi,e,fun h0=>hc ?_⟩
   have:=zDW (l:=l) h S.length (Nat.le_refl _) i hi hi
   rw[show(S[i]).toNat=c by omega]at this
   rw[this];exact h0
  ·exact absurd (zFP h hm _ (Nat.le_refl _)) hc
 ·rintro⟨i,hi,e,hz⟩ h0
  have:=zDW (l:=l) h S.length (Nat.le_refl _) i hi hi
  rw[show(S[i]).toNat=c by omega,h0]at this
  exact hz this.symm
theorem zHU{n:Nat}{S:List Int}(h:zCL n S){v:Vec}(h0:∀c,c<n->(c:Int)∉S->v c=0){c:Nat}(hc:c<n):vec (zAX n S (S.map fun j=>v j.toNat) S.length) c=v c:=by
 by_cases hm:(c:Int)∈S
 ·obtain⟨i,hi,e⟩:=List.mem_iff_getElem.1 hm
  have:=zDW (l:=S.map fun j=>v j.toNat) h S.length (Nat.le_refl _) i hi hi
  rw[show(S[i]).toNat=c by omega]at this
  rw[this,List.getElem?_map,List.getElem?_eq_getElem hi]
  show v (S[i]).toNat=v c
  rw[e];rfl
 ·rw[zFP h hm _ (Nat.le_refl _),h0 c hc hm]
theorem zEC.congr{M:List (List Int)}{n:Nat}{u v:Vec}(h:zEC M n u)(e:∀c,c<n->u c=v c):zEC M n v:=fun q hq=>by
 have:=h q hq
 unfold dotS at*
 rw[zAL (g:=fun c=>rowv M q c*u c) (fun c hc=>by rw[e c hc])];exact this
theorem primV_vec(h:List Int):∃x y:Int,0<x∧(y=1∨y= -1)∧∀c,x*vec (zNN h) c=y*vec h c:=by
 obtain⟨g,hg,e⟩:=zCB h
 unfold zNN
 split
 ·exact⟨g,-1,hg,.inr rfl,fun c=>by rw[zLN,<- e c];grind⟩
 ·exact⟨g,1,hg,.inl rfl,fun c=>by rw[e c];omega⟩
theorem zKK{M:List (List Int)}{n:Nat}(h:MaskOk M n){S c:List Int}(hS:zCL n S)(hc:zGI M n S=some c):
 ∃l,zIX M S=[l]∧l.length=S.length∧(∀i,i<S.length->vec l i≠0)∧c=zNN (zAX n S l S.length):=by
 unfold zGI at hc
 split at hc
 ·rename_i l hl
  have hm:l∈kerSR M S:=by rw[<- kerS_same h,hl];simp
  have hlen:=kerSR_len hm
  by_cases h0:l.contains 0=true
  ·rw[if_pos h0]at hc;cases hc
  ·rw[if_neg h0]at hc
   cases hc
   refine⟨l,hl,hlen,fun i hi e=>h0 ?_,rfl⟩
   rw[zCY (by omega)]at e
   rw[List.contains_iff_mem,<- e]
   exact List.getElem_mem _
 ·cases hc
theorem zJJ{M:List (List Int)}{n:Nat}(h:MaskOk M n){S c:List Int}(hS:zCL n S)(hc:zGI M n S=some c)(j:Nat):vec c j≠0↔(j:Int)∈S:=by
 obtain⟨l,hl,hlen,hnz,rfl⟩:=zKK h hS hc
 obtain⟨x,y,hx,hy,e⟩:=primV_vec (zAX n S l S.length)
 have h1:vec (zNN (zAX n S l S.length)) j≠0↔vec (zAX n S l S.length) j≠0:=by
  have:=e j
  constructor
  ·intro h0 h1;rw[h1]at this;exact h0 (zAV (g:=x) (by omega) (by simpa using this))
  ·intro h0 h1;rw[h1]at this;exact h0 (zAV (g:=y) (by omega) (by simpa using this.symm))
 rw[h1,zGN hS hlen]
 constructor
 ·rintro⟨i,hi,e,_⟩;rw[<- e];exact List.getElem_mem hi
 ·intro hm
  obtain⟨i,hi,e⟩:=List.mem_iff_getElem.1 hm
  exact⟨i,hi,e,hnz i hi⟩
theorem kerSP_one{M:List (List Int)}{S l:List Int}(hl:zIX M S=[l]):∃f,zFJ (JP (zAS M S) S.length) S.length=[f]∧l=zBW (rawP (RP (zAS M S) S.length) (JP (zAS M S) S.length) S.length f):=by
 unfold zIX zMX at hl
 obtain⟨f,hf,e⟩:∃f,zFJ (JP (zAS M S) S.length) S.length=[f]∧_=l:=by
  cases hfr:zFJ (JP (zAS M S) S.length) S.length with
  |nil=>rw[show zFJ (pRed (zAS M S) S.length).2 S.length=[]from hfr]at hl;simp at hl
  |cons f t=>
   rw[show zFJ (pRed (zAS M S) S.length).2 S.length=f::t from hfr]at hl
   simp only[List.map_cons,List.cons.injEq]at hl
   have ht:t=[]:=by simpa using hl.2
   subst ht
   exact⟨f,rfl,hl.1⟩
 exact⟨f,hf,e.symm⟩
theorem circ_least{M:List (List Int)}{n:Nat}(h:MaskOk M n){S c:List Int}(hS:zCL n S)(hc:zGI M n S=some c){v:Vec}(hv:zEC M n v)(h0:∀j,j<n->(j:Int)∉S->v j=0)(hne:∃j,j<n∧v j≠0):
 ∀j:Nat,(j:Int)∈S->v j≠0:=by
 obtain⟨l,hl,hlen,hnz,rfl⟩:=zKK h hS hc
 obtain⟨f,hf,hlf⟩:=kerSP_one hl
 have hk:zEC (zAS M S) S.length (vec (S.map fun j=>v j.toNat)):=(zFQ hS).1 (hv.congr fun c hc=>(zHU hS h0 hc).symm)
 obtain⟨g,hg,e⟩:=zCB (rawP (RP (zAS M S) S.length) (JP (zAS M S) S.length) S.length f)
 rw[<- hlf]at e
 have hfS:f<S.length:=by
  have:f∈zFJ (JP (zAS M S) S.length) S.length:=by rw[hf];simp
  simpa using (List.mem_filter.1 this).1
 -- w i*l f=l i*w f
 have key:∀i,i<S.length->vec (S.map fun j=>v j.toNat) i*vec l f=vec l i*vec (S.map fun j=>v j.toNat) f:=by
  intro i hi
  have:=(h.cols S).ker_one hf hk hi
  rw[<- e,<- e]at this
  refine Int.eq_of_mul_eq_mul_left (show g≠0 by omega) ?_
  grind
 have hw:∀i (hi:i<S.length),vec (S.map fun j=>v j.toNat) i=v (S[i]).toNat:=fun i hi=>by
  unfold vec;rw[List.getElem?_map,List.getElem?_eq_getElem hi];rfl
 have hwf:vec (S.map fun j=>v j.toNat) f≠0:=by
  intro hz
  obtain⟨j,hj,hvj⟩:=hne
  have hm:(j:Int)∈S:=by
   rcases Classical.em ((j:Int)∈S)with c|c
   ·exact c
   ·exact absurd (h0 j hj c) hvj
  obtain⟨i,hi,ei⟩:=List.mem_iff_getElem.1 hm
  have:=key i hi
  rw[hz,hw i hi,show(S[i]).toNat=j by omega,Int.mul_zero]at this
  rcases Int.mul_eq_zero.1 this with a|a
  ·exact hvj a
  ·exact hnz f hfS a
 intro j hm hz
 obtain⟨i,hi,ei⟩:=List.mem_iff_getElem.1 hm
 have:=key i hi
 rw[hw i hi,show(S[i]).toNat=j by omega,hz,Int.zero_mul]at this
 rcases Int.mul_eq_zero.1 this.symm with a|a
 ·exact hnz i hi a
 ·exact hwf a
theorem circP_mem{M:List (List Int)}{n:Nat}{c:List Int}:c∈circP M n↔∃k S,k<min (zFI M n+1) n∧S∈comb n (k+1) 0∧zGI M n S=some c:=by
 unfold circP
 simp only[List.mem_flatMap,List.mem_range,List.mem_filterMap]
 constructor
 ·rintro⟨k,hk,S,hS,e⟩;exact⟨k,S,hk,hS,e⟩
 ·rintro⟨k,S,hk,hS,e⟩;exact⟨k,hk,S,hS,e⟩
theorem zOO{M:List (List Int)}{n:Nat}(h:MaskOk M n){S c:List Int}(hS:zCL n S)(hne:S≠[])(hc:zGI M n S=some c):
 c.length=n∧zEC M n (vec c)∧(∀j,(vec c j).natAbs<=518400)∧Prim (vec c)∧0<zCI c:=by
 obtain⟨l,hl,hlen,hnz,rfl⟩:=zKK h hS hc
 have hm:l∈zIX M S:=by rw[hl];simp
 obtain⟨k1,k2,k3,_⟩:=(h.cols S).kern hm
 obtain⟨x,y,hx,hy,e⟩:=primV_vec (zAX n S l S.length)
 have hkS:=(zFQ (M:=M) hS).2 k1
 have hSp:0<S.length:=List.length_pos_iff.2 hne
 refine⟨?_,?_,?_,?_,?_⟩
 ·unfold zNN
  split
  ·unfold negF;rw[List.length_map,zDH,zDE]
  ·rw[zDH,zDE]
 ·intro q hq
  have h1:=hkS q hq
  refine zAV (g:=x) (by omega) ?_
  unfold dotS at*
  rw[<- zCZ,zAL (g:=fun c=>y*(rowv M q c*vec (zAX n S l S.length) c)) (fun c _=>by have:=e c;grind),zCZ,h1];simp
 ·intro j
  have h1:(vec (zNN (zAX n S l S.length)) j).natAbs<=(vec (zAX n S l S.length) j).natAbs:=by
   have:=congrArg Int.natAbs (e j)
   rw[Int.natAbs_mul,Int.natAbs_mul]at this
   have hy1:y.natAbs=1:=by omega
   rw[hy1,Nat.one_mul]at this
   rw[<- this];exact Nat.le_mul_of_pos_left _ (by omega)
  refine Nat.le_trans h1 ?_
  by_cases hm:(j:Int)∈S
  ·obtain⟨i,hi,ei⟩:=List.mem_iff_getElem.1 hm
   have:=zDW (l:=l) hS S.length (Nat.le_refl _) i hi hi
   rw[show(S[i]).toNat=j by omega]at this
   rw[this];exact k3 i
  ·rw[zFP hS hm _ (Nat.le_refl _)];simp
 ·have hp:Prim (vec (zBW (zAX n S l S.length))):=by
   rcases zDR (zAX n S l S.length)with a|a
   ·exact a
   ·exfalso
    obtain⟨g,hg,e2⟩:=zCB (zAX n S l S.length)
    have h1:=e2 (S[0]).toNat
    rw[a,zDW hS S.length (Nat.le_refl _) 0 hSp hSp]at h1
    exact hnz 0 hSp (by unfold vec;rw[<- h1];simp)
  unfold zNN
  split
  ·exact zPC (z:= -1) (.inr rfl) (fun c=>by rw[zLN];omega) hp
  ·exact hp
 ·-- the first number that is not 0
  have hz:∀m:List Int,(∃j,vec m j≠0)->zCI m≠0:=by
   intro m
   induction m with
   |nil=>rintro⟨j,hj⟩;simp[vec]at hj
   |cons a m ih=>
    rintro⟨j,hj⟩
    unfold zCI
    by_cases ha:a=0
    ·rw[if_pos ha]
     match j,hj with
     |0,hj=>simp[vec]at hj;exact absurd ha hj
     |j+1,hj=>exact ih ⟨j,by simpa[vec]using hj⟩
    ·rw[if_neg ha];exact ha
  have hn:∀m:List Int,zCI (negF m)= -zCI m:=by
   intro m
   induction m with
   |nil=>rfl
   |cons a m ih=>
    show(if-a=0 then zCI (negF m)else-a)= -(if a=0 then zCI m else a)
    by_cases ha:a=0
    ·rw[if_pos ha,if_pos (by omega),ih]
    ·rw[if_neg ha,if_neg (by omega)]
  have hs:zCI (zBW (zAX n S l S.length))≠0:=by
   refine hz _ ⟨(S[0]).toNat,fun h0=>?_⟩
   obtain⟨g,hg,e2⟩:=zCB (zAX n S l S.length)
   have h1:=e2 (S[0]).toNat
   rw[h0,zDW hS S.length (Nat.le_refl _) 0 hSp hSp]at h1
   exact hnz 0 hSp (by unfold vec;rw[<- h1];simp)
  unfold zNN
  split
  ·rw[hn];omega
  ·omega
theorem zIT{α:Type}[BEq α][LawfulBEq α]:∀{l m:List α},l.Nodup->(∀x∈l,x∈m)->l.length<=m.length
 | [],_,_,_=>Nat.zero_le _
 |x::l,m,hn,h=>by
  rw[List.nodup_cons]at hn
  have hx:=h x (by simp)
  have:=zIT (l:=l) (m:=m.erase x) hn.2 (fun y hy=>(List.mem_erase_of_ne (fun e=>hn.1 (by rw[<- e];exact hy))).2 (h y (by simp[hy])))
  rw[List.length_erase_of_mem hx]at this
  have:=List.length_pos_of_mem hx
  simp only[List.length_cons];omega
def zBB(n:Nat)(v:Vec):List Int:=((List.range n).filter (fun c=>decide (v c≠0))).map (fun c:Nat=>(c:Int))
theorem zBY{n:Nat}{v:Vec}{j:Nat}:(j:Int)∈zBB n v↔j<n∧v j≠0:=by
 unfold zBB
 simp only[List.mem_map,List.mem_filter,List.mem_range]
 constructor
 ·rintro⟨c,⟨h1,h2⟩,e⟩
  have:c=j:=by omega
  subst this;exact⟨h1,by simpa using h2⟩
 ·rintro⟨h1,h2⟩;exact⟨j,⟨h1,by simpa using h2⟩,rfl⟩
theorem zDT(n:Nat)(v:Vec):zCL n (zBB n v):=by
 constructor
 ·unfold zBB
  rw[List.pairwise_map]
  exact(List.pairwise_lt_range.filter _).imp (fun h=>by omega)
 ·intro y hy
  unfold zBB at hy
  obtain⟨c,hc,rfl⟩:=List.mem_map.1 hy
  have:=List.mem_range.1 (List.mem_filter.1 hc).1
  omega
theorem zNI{M:List (List Int)}{n:Nat}(h:MaskOk M n):∀(s:Nat) (v:Vec),(zBB n v).length=s->zEC M n v->(∃j,j<n∧v j≠0)->∃S c,zCL n S∧S.length<=s∧S≠[]∧(∀y∈S,y∈zBB n v)∧zGI M n S=some c:=by
 intro s
 induction s using Nat.strongRecOn with
 |ind s ih=>
  intro v hs hv hne
  have hS:=zDT n v
  obtain⟨S,hSe⟩:=exq (zBB n v)
  rw[<- hSe]at hS hs
  have h0:∀j,j<n->(j:Int)∉S->v j=0:=fun j hj hm=>by
   rcases Classical.em (v j=0)with c|c
   ·exact c
   ·exact absurd (by rw[hSe];exact zBY.2 ⟨hj,c⟩) hm
  have hne2:S≠[]:=by
   obtain⟨j,hj,hvj⟩:=hne
   intro e
   have:(j:Int)∈S:=by rw[hSe];exact zBY.2 ⟨hj,hvj⟩
   rw[e]at this;simp at this
  have hk:zEC (zAS M S) S.length (vec (S.map fun j=>v j.toNat)):=(zFQ hS).1 (hv.congr fun c hc=>(zHU hS h0 hc).symm)
  have hc:=h.cols S
  have hw:∀i (hi:i<S.length),vec (S.map fun j=>v j.toNat) i≠0:=fun i hi=>by
   have:vec (S.map fun j=>v j.toNat) i=v (S[i]).toNat:=by unfold vec;rw[List.getElem?_map,List.getElem?_eq_getElem hi];rfl
   rw[this]
   have hm:((S[i]).toNat:Int)∈zBB n v:=by
    have g:=hS.get hi
    rw[show((S[i]).toNat:Int)=S[i]by omega,<- hSe];exact List.getElem_mem hi
   exact(zBY.1 hm).2
  -- the free columns
  have hfree:∃f,f<S.length∧f∉JP (zAS M S) S.length:=by
   refine Classical.byContradiction fun hno=>?_
   have hall:∀f,f<S.length->f∈JP (zAS M S) S.length:=fun f hf=>Classical.byContradiction fun hn=>hno ⟨f,hf,hn⟩
   have hSp:0<S.length:=List.length_pos_iff.2 hne2
   obtain⟨i,hi,e⟩:=mem_jf (hall 0 hSp)
   have hr:=hc.ker_iff.1 hk i hi
   rw[hc.dot_row _ hi,zAL (g:=fun _=>0) (fun c hcl=>if_pos (hall c hcl)),zFH,e]at hr
   have hp:0<rowv (RP (zAS M S) S.length) i (jf (JP (zAS M S) S.length) i):=((hc.inv S.length).pp i hi).2
   rw[e]at hp
   rcases Int.mul_eq_zero.1 (show rowv (RP (zAS M S) S.length) i 0*vec (S.map fun j=>v j.toNat) 0=0 by omega)with a|a
   ·omega
   ·exact hw 0 hSp a
  obtain⟨f,hf,hfJ⟩:=hfree
  have hfm:f∈zFJ (JP (zAS M S) S.length) S.length:=List.mem_filter.2 ⟨by simpa using hf,by simpa using hfJ⟩
  rcases Classical.em (∃f2,f2∈zFJ (JP (zAS M S) S.length) S.length∧f2≠f)with⟨f2,hf2,hne3⟩|hone
  ·-- a second free column:a vector with a smaller support
   obtain⟨g1,g2⟩:=List.mem_filter.1 hf2
   have hf2S:f2<S.length:=by simpa using g1
   have hf2J:f2∉JP (zAS M S) S.length:=by simpa using g2
   obtain⟨t,ht,_,r1,r2,_⟩:=hc.raw hf hfJ
   have hrk:=hc.raw_ker hf hfJ
   have hlen:(rawP (RP (zAS M S) S.length) (JP (zAS M S) S.length) S.length f).length=S.length:=by unfold rawP;rw[zEW];simp
   obtain⟨u,hu⟩:=exq (vec (zAX n S (rawP (RP (zAS M S) S.length) (JP (zAS M S) S.length) S.length f) S.length))
   have huk:zEC M n u:=by rw[hu];exact(zFQ hS).2 hrk
   have hsub:∀y∈zBB n u,y∈S∧y≠S[f2]:=by
    intro y hy
    have gy:=(zDT n u).2 y hy
    have hy':((y.toNat:Nat):Int)∈zBB n u:=by rw[show((y.toNat:Nat):Int)=y by omega];exact hy
    obtain⟨_,hz⟩:=zBY.1 hy'
    rw[hu]at hz
    obtain⟨i,hi,ei,hzi⟩:=(zGN hS hlen).1 hz
    have e1:S[i]=y:=by omega
    refine⟨by rw[<- e1];exact List.getElem_mem hi,fun e2=>?_⟩
    have:=hS.inj hi hf2S (by rw[e1,e2])
    subst this
    exact hzi (r2 i hf2J hne3)
   have hlt:(zBB n u).length<s:=by
    have hnd:(zBB n u).Nodup:=(zDT n u).1.imp (fun h=>by omega)
    have h1:(S[f2]::zBB n u).length<=S.length:=by
     refine zIT ?_ ?_
     ·exact List.nodup_cons.2 ⟨fun hm=>(hsub _ hm).2 rfl,hnd⟩
     ·intro y hy
      rcases List.mem_cons.1 hy with rfl|hy
      ·exact List.getElem_mem hf2S
      ·exact(hsub y hy).1
    simp only[List.length_cons]at h1
    omega
   have hune:∃j,j<n∧u j≠0:=by
    have g:=hS.get hf
    refine⟨(S[f]).toNat,by omega,?_⟩
    rw[hu,zGN hS hlen]
    exact⟨f,hf,by omega,by rw[r1];omega⟩
   obtain⟨T,c,t1,t2,t3,t4,t5⟩:=ih _ hlt u rfl huk hune
   exact⟨T,c,t1,by omega,t3,fun y hy=>by rw[<- hSe];exact(hsub y (t4 y hy)).1,t5⟩
  ·-- one free column:a circuit
   have hone':zFJ (JP (zAS M S) S.length) S.length=[f]:=by
    have hall:∀x∈zFJ (JP (zAS M S) S.length) S.length,x=f:=fun x hx=>Classical.byContradiction fun hn=>hone ⟨x,hx,hn⟩
    have hnd:(zFJ (JP (zAS M S) S.length) S.length).Nodup:=List.Pairwise.filter _ List.nodup_range
    match hL:zFJ (JP (zAS M S) S.length) S.length,hall,hnd with
    | [],_,_=>rw[hL]at hfm;simp at hfm
    | [x],hall,_=>rw[hall x (by simp)]
    |x::y::t,hall,hnd=>
     have h1:=hall x (by simp)
     have h2:=hall y (by simp)
     rw[h1,h2]at hnd
     simp at hnd
   have hl:zIX M S=[zBW (rawP (RP (zAS M S) S.length) (JP (zAS M S) S.length) S.length f)]:=by
    show(zFJ (JP (zAS M S) S.length) S.length).map _=_
    rw[hone'];rfl
   refine⟨S,zNN (zAX n S (zBW (rawP (RP (zAS M S) S.length) (JP (zAS M S) S.length) S.length f)) S.length),hS,by omega,hne2,fun y hy=>by rw[<- hSe];exact hy,?_⟩
   unfold zGI
   rw[hl]
   simp only[]
   rw[if_neg]
   intro h0'
   have hm:(0:Int)∈zBW (rawP (RP (zAS M S) S.length) (JP (zAS M S) S.length) S.length f):=by simpa using h0'
   obtain⟨i,hi,ei⟩:=List.mem_iff_getElem.1 hm
   have hiS:i<S.length:=by
    rw[zDH]at hi
    unfold rawP at hi
    rw[zEW]at hi
    simpa using hi
   have h1:=hc.ker_one hone' hk hiS
   obtain⟨g,hg,e⟩:=zCB (rawP (RP (zAS M S) S.length) (JP (zAS M S) S.length) S.length f)
   have h2:=e i
   rw[zCY hi,ei,Int.mul_zero]at h2
   rw[<- h2,Int.zero_mul]at h1
   obtain⟨t,ht,_,r1,_⟩:=hc.raw hf hfJ
   rw[r1]at h1
   rcases Int.mul_eq_zero.1 h1 with a|a
   ·exact hw i hiS a
   ·omega
end
section
def unitF(N i:Nat):List Int:=(List.replicate N 0).set i 1
def extF(M:List (List Int)):List (List Int):=M.mapIdx (fun i r=>r++unitF M.length i)
theorem extF_len(M:List (List Int)):(extF M).length=M.length:=by simp[extF]
theorem extF_get{M:List (List Int)}{i:Nat}(h:i<M.length):(extF M)[i]? =some (M[i]++unitF M.length i):=by
 unfold extF;rw[List.getElem?_mapIdx,List.getElem?_eq_getElem h];rfl
theorem extF_mem{M:List (List Int)}{r:List Int}(h:r∈extF M):∃i,∃hi:i<M.length,r=M[i]++unitF M.length i:=by
 obtain⟨i,hi,rfl⟩:=List.mem_iff_getElem.1 h
 rw[extF_len]at hi
 have:=extF_get hi
 rw[List.getElem?_eq_getElem (by rw[extF_len];exact hi)]at this
 exact⟨i,hi,Option.some.inj this⟩
theorem unitF_len(N i:Nat):(unitF N i).length=N:=by simp[unitF]
theorem unitF_vec{N i:Nat}(hi:i<N)(c:Nat):vec (unitF N i) c=if c=i then 1 else 0:=by
 unfold unitF
 rw[zLZ (by simpa using hi)]
 split
 ·rfl
 ·unfold vec;rw[List.getElem?_replicate];split<;>rfl
theorem zNO{a b:List Int}{c:Nat}(h:c<a.length):vec (a++b) c=vec a c:=by unfold vec;rw[List.getElem?_append_left h]
theorem zNP{a b:List Int}{c:Nat}(h:a.length<=c):vec (a++b) c=vec b (c-a.length):=by unfold vec;rw[List.getElem?_append_right h]
structure ExtOk (M:List (List Int)) (n:Nat):Prop where
 wid:∀r∈extF M,r.length=n+M.length
 one:∀r∈extF M,∀c,-1<=vec r c∧vec r c<=1
theorem MaskOk.ext{M:List (List Int)}{n:Nat}(h:MaskOk M n):ExtOk M n:=by
 constructor
 ·intro r hr
  obtain⟨i,hi,rfl⟩:=extF_mem hr
  rw[List.length_append,unitF_len,h.wid _ (List.getElem_mem hi)]
 ·intro r hr c
  obtain⟨i,hi,rfl⟩:=extF_mem hr
  rcases Nat.lt_or_ge c (M[i]).length with hc|hc
  ·rw[zNO hc];exact h.one _ (List.getElem_mem hi) c
  ·rw[zNP hc,unitF_vec hi];split<;>decide
abbrev RE(M:List (List Int))(n:Nat):List (List Int):=(pRed (extF M) n).1
def zER(n:Nat)(v:Vec):Vec:=fun c=>if c<n then v c else 0
theorem truncV_sp{B B':Vec->Prop}{n:Nat}(hB:∀v,B v->Sp B' (zER n v)){v:Vec}(h:Sp B v):Sp B' (zER n v):=
 Sp.map (zER n) (by funext c;unfold zER;split<;>rfl) (fun u v=>by funext c;unfold zER;split<;>simp) (fun k u=>by funext c;unfold zER;split<;>simp) hB h
theorem zGL{M:List (List Int)}{n:Nat}(h:MaskOk M n){y:List Int}(hy:y.length=M.length){q:Nat}(hq:q<M.length)(c:Nat):
 rowv (zAK M y) q c=if c<n then rowv M q c else if c=n then vec y q else 0:=by
 have hw:=h.wid _ (List.getElem_mem hq)
 have e:(zAK M y)[q]? =some (M[q]++[y[q]]):=by unfold zAK;rw[List.getElem?_zipWith,List.getElem?_eq_getElem hq,List.getElem?_eq_getElem (by omega)]
 unfold rowv
 rw[e,List.getElem?_eq_getElem hq]
 simp only[Option.getD_some]
 by_cases hc:c<n
 ·rw[if_pos hc,zNO (by rw[hw];exact hc)]
 ·rw[if_neg hc,zNP (by rw[hw];omega),hw]
  by_cases e2:c=n
  ·rw[if_pos e2,e2,Nat.sub_self,zCY (l:=[y[q]]) (by simp),zCY (l:=y) (by omega)];rfl
  ·rw[if_neg e2,zFK (by simp;omega)]
end
end
section
open Go.RowKit
def intsJ(J:List Nat):List Int:=J.map (fun j:Nat=>(j:Int))
theorem intsJ_len(J:List Nat):(intsJ J).length=J.length:=by simp[intsJ]
theorem intsJ_vals(J:List Nat):J.map (fun j:Nat=>Value.int .i64 j)=(intsJ J).map (Value.int .i64):=by unfold intsJ;rw[List.map_map];rfl
theorem zCS{W:World}{base:Nat}{v:Value}{n:Nat}{l:List Int}(h:W.ownsRow base 3 1 v n (l.map (Value.int .i64)))(hn:l.length=n):∃a c,v=.slice a n c∧zAI W a l∧n<=maxLen:=by
 subst hn
 rcases h.2 with⟨rfl,h0⟩|⟨g,cap,cur,rfl,hbg,hgg,hnc,hcm,hsz,htk⟩
 ·exact⟨none,0,by rw[h0],fun j hj=>by omega,by rw[h0];decide⟩
 ·refine⟨_,cap,rfl,?_,by omega⟩
  have:=(zEO.own (S:=fun _=>True) (base:=base) ⟨h.1,.inr ⟨g,cap,cur,rfl,hbg,hgg,hnc,hcm,hsz,htk⟩⟩ (show l.length<=maxLen by omega) (fun _ _=>trivial)).ints
  exact this.2.2
end
section
open Go.RowKit
theorem zNX{P:Program}{c:Code}{Q:Exit->Act->World->Prop}{a:Act}{w:World}(R:Act->Act->World->Prop)(h1:c.wp P (fun e a' w'=>e=.normal∧R a a' w') a w)(h2:∀a' w',R a a' w'->Q .normal a' w'):c.wp P Q a w:=
 Code.wp_mono (fun e a' w' ⟨he,hr⟩=>by subst he;exact h2 a' w' hr) h1
theorem zDJ{M:Mask}(h:okM M=true):MaskOk M (zAC M)∧1<=M.length∧M.length<=6∧1<=zAC M∧zAC M<=10:=by
 unfold okM inB at h
 simp only[Bool.and_eq_true,decide_eq_true_eq,List.all_eq_true]at h
 obtain⟨⟨h1,h2⟩,h3⟩:=h
 have hr:∀r∈M,r.length=zAC M∧(1<=r.length∧r.length<=10)∧∀x∈r,-1<=x∧x<=1:=fun r hr=>by
  have h4:=h3 r hr
  unfold zGR inB at h4
  simp only[Bool.and_eq_true,decide_eq_true_eq,List.all_eq_true]at h4
  obtain⟨h5,⟨h6,h7⟩,h8⟩:=h4
  exact⟨h5,⟨by omega,by omega⟩,h8⟩
 have h0:M.length≠0:=by omega
 have hm0:M[0]'(by omega)∈M:=List.getElem_mem _
 obtain⟨k1,k2,_⟩:=hr _ hm0
 refine⟨⟨fun r hr'=>(hr r hr').1,by omega,fun r hr' c=>zED (P:=fun x=> -1<=x∧x<=1) (by decide) (hr r hr').2.2 c⟩,by omega,by omega,by omega,by omega⟩
theorem zEA{w:World}{a:Option Addr}{M:Mask}(H:zAN w a M)(h0:0<M.length):
 ∃b off ra rc,a=some ⟨b,off,none⟩∧b<w.heap.size∧w.cell? ⟨b,off,none⟩=some (.slice ra (zAC M) rc):=by
 obtain⟨b,off,ra,rn,rc,rfl,hb,hc,hn,_,_⟩:=H 0 h0
 refine⟨b,off,ra,rc,rfl,hb,?_⟩
 have e:zAC M=rn:=by unfold zAC;rw[List.getElem?_eq_getElem h0];exact hn
 rw[e];simpa using hc
end
section
open Go.RowKit
def zIV(p:List Int)(j:Nat)(r:List Int)(k:Nat):List Int:=(List.range k).map (fun c=>vec r c*vec p j-vec p c*vec r j)
theorem mixTo_len(p:List Int)(j:Nat)(r:List Int)(k:Nat):(zIV p j r k).length=k:=by simp[zIV]
theorem mixTo_succ(p:List Int)(j:Nat)(r:List Int)(k:Nat):zIV p j r (k+1)=zIV p j r k++[vec r k*vec p j-vec p k*vec r j]:=by
 unfold zIV;rw[List.range_succ,List.map_append];rfl
theorem mixTo_all{p r:List Int}(j:Nat)(h:p.length=r.length):zBF p j r=zDM (zIV p j r r.length):=by
 unfold zBF zIV
 congr 1
 refine List.ext_getElem (by simp[h]) fun i h1 h2=>?_
 simp only[List.length_zipWith,List.length_map,List.length_range]at h1 h2
 simp only[List.getElem_zipWith,List.getElem_map,List.getElem_range]
 rw[zCY (show i<r.length by omega),zCY (show i<p.length by omega)]
theorem zMI(w:World)(a a2:Option Addr)(n cap cap2:Nat)(r p:List Int)(hn:r.length=n)(hn2:p.length=n)(hm:n<=1000)(H:zAI w a r)(H2:zAI w a2 p)(hB:BndL 1073741824 r)(hB2:BndL 1073741824 p)(j:Nat)(hj:j<n):
 Calls Tryz.prog 251 #[.slice a n cap,.slice a2 n cap2,.int .i64 j] w fun e w'=>∃v base,e=.returned v∧w.heap.size<=base∧w'.ownsRow base 3 1 v n ((zBF p j r).map (Value.int .i64))∧Below w.heap.size w w':=by
 rw[mixTo_all j (show p.length=r.length by omega),hn]
 have HN:=hid hn
 have HN2:=hid hn2
 have HH:=hid H
 have HH2:=hid H2
 have HB:=hid hB
 have HB2:=hid hB2
 clear hn hn2 H H2 hB hB2
 go_enter Tryz.func251,Tryz.ntmps251
 go_wp2
 go_loopw [7,11] (fun v i wr=>∃k:Nat,k<=n∧i=.int .i64 k∧wr.ownsRow w.heap.size 3 1 v k ((zIV p j r k).map (Value.int .i64))∧Below w.heap.size w wr) (fun _ i _=>n-(intOf i).toNat)
 case atStart=>exact⟨0,Nat.zero_le _,rfl,World.ownsRow_nil _ _ _ _,Below.refl _ _⟩
 case round=>
  obtain⟨k,hk,rfl,hown,hbt⟩:=hrel
  by_cases hlt:k<n
  ·obtain⟨b,off,rfl,hbs,hc1⟩:=HH.out k (by rw[HN.out];exact hlt)
   obtain⟨b',off',e',_,hc2⟩:=HH.out j (by rw[HN.out];exact hj)
   cases e'
   obtain⟨b2,off2,rfl,hbs2,hc3⟩:=HH2.out k (by rw[HN2.out];exact hlt)
   obtain⟨b2',off2',e',_,hc4⟩:=HH2.out j (by rw[HN2.out];exact hj)
   cases e'
   have d1:=HB.out.get (show k<r.length by rw[HN.out];exact hlt)
   have d2:=HB.out.get (show j<r.length by rw[HN.out];exact hj)
   have d3:=HB2.out.get (show k<p.length by rw[HN2.out];exact hlt)
   have d4:=HB2.out.get (show j<p.length by rw[HN2.out];exact hj)
   have hsn:(zIV p j r (k+1)).map (Value.int .i64)=(zIV p j r k).map (Value.int .i64)++[.int .i64 (r[k]?.getD 0*p[j]?.getD 0-p[k]?.getD 0*r[j]?.getD 0)]:=by rw[mixTo_succ,List.map_append];rfl
   obtain⟨x,hx⟩:=exq (r[k]?.getD 0)
   obtain⟨rj,hrj⟩:=exq (r[j]?.getD 0)
   obtain⟨y,hy⟩:=exq (p[k]?.getD 0)
   obtain⟨pj,hpj⟩:=exq (p[j]?.getD 0)
   rw[<- hx]at hc1 d1 hsn
   rw[<- hrj]at hc2 d2 hsn
   rw[<- hy]at hc3 d3 hsn
   rw[<- hpj]at hc4 d4 hsn
   have e1:=zGS (show-(1073741824:Int)<=x∧x<=1073741824 by omega) (show-(1073741824:Int)<=pj∧pj<=1073741824 by omega)
   have e2:=zGS (show-(1073741824:Int)<=y∧y<=1073741824 by omega) (show-(1073741824:Int)<=rj∧rj<=1073741824 by omega)
   obtain⟨m1,hm1⟩:=exq (x*pj)
   obtain⟨m2,hm2⟩:=exq (y*rj)
   rw[<- hm1,<- hm2]at hsn
   rw[<- hm1]at e1
   rw[<- hm2]at e2
   obtain⟨z,hz⟩:=exq (m1-m2)
   rw[<- hz]at hsn
   have w1:IntKind.i64.wrap (x*pj)=m1:=by rw[<- hm1];exact IntWalk.i64_in _ (by omega)
   have w2:IntKind.i64.wrap (y*rj)=m2:=by rw[<- hm2];exact IntWalk.i64_in _ (by omega)
   have w3:IntKind.i64.wrap (m1-m2)=z:=by rw[<- hz];exact IntWalk.i64_in _ (by omega)
   obtain⟨va,vc,rfl⟩:=zAD hown
   have HSN:=hid hsn
   have HO:=hid hown
   have HBT:=hid hbt
   have HS:=hid (fun(X:World) (hX:Below w.heap.size w X)=>show X.cell? ⟨b,off+k,none⟩=some (.int .i64 x)∧X.cell? ⟨b,off+j,none⟩=some (.int .i64 rj)∧X.cell? ⟨b2,off2+k,none⟩=some (.int .i64 y)∧X.cell? ⟨b2,off2+j,none⟩=some (.int .i64 pj)from
    have hbw:=hX
    ⟨(hbw.cell (p:=⟨b,off+k,none⟩) hbs).trans hc1,(hbw.cell (p:=⟨b,off+j,none⟩) hbs).trans hc2,(hbw.cell (p:=⟨b2,off2+k,none⟩) hbs2).trans hc3,(hbw.cell (p:=⟨b2,off2+j,none⟩) hbs2).trans hc4⟩)
   have M1:=hid (show k+1<=maxLen by unfold maxLen;omega)
   have M2:=hid (show(k+1)*8<=140737488355328 by omega)
   have M3:=hid hbt.size
   have i1:(0:Int)<=(k:Int):=by omega
   have i2:(k:Int)<(n:Int):=by omega
   have i3:(0:Int)<=(j:Int):=by omega
   have i4:(j:Int)<(n:Int):=by omega
   have hbsw:b<w.heap.size∧b2<w.heap.size:=⟨hbs,hbs2⟩
   clear hown hbt hsn hx hrj hy hpj hm1 hm2 hz hc1 hc2 hc3 hc4 d1 d2 d3 d4 e1 e2
   go_wp2
   refine zNX (fun fr fr' X=>∃v14 v15 v16 v17 v18 v19 v20 v21 v22 v23 v24 v25 v26 v27 v28 v29 v30 v31 v32 v33 v34 v35,fr'=(((((((((((((((((((((((fr.put (some 14) v14).put (some 15) v15).put (some 16) v16).put (some 17) v17).put (some 18) v18).put (some 19) v19).put (some 20) v20).put (some 21) v21).put (some 22) v22).put (some 23) v23).put (some 24) v24).put (some 25) v25).put (some 26) v26).put (some 27) v27).put (some 28) v28).put (some 29) v29).put (some 30) v30).put (some 31) v31).put (some 32) v32).put (some 33) v33).put (some 34) v34).put (some 35) v35).put (some 7) v35)∧(∃a3 c3,v35=.slice a3 (k+1) c3)∧X.ownsRow w.heap.size 3 1 v35 (k+1) ((zIV p j r (k+1)).map (Value.int .i64))∧Below w.heap.size w X) ?_ ?_
   ·refine zAF (fun j' X=>wAll j'=true->X.cell? ⟨b,off+k,none⟩=some (.int .i64 x)∧X.cell? ⟨b,off+j,none⟩=some (.int .i64 rj)∧X.cell? ⟨b2,off2+k,none⟩=some (.int .i64 y)∧X.cell? ⟨b2,off2+j,none⟩=some (.int .i64 pj)) (by kernel_rfl) ?_
    have hbd:Below w.heap.size w wr.drew:=HBT.out.drew
    have HO2:=hid (zBI HO.out ((Below.refl _ wr).drew))
    have HB3:=hid hbd
    generalize wr.drew=wd at hbd HO2 HB3⊢
    refine AnyT.tD (i:=0) (v:=.slice va k vc) rfl rfl (by rintro w' ⟨q1,q2,q3,q4⟩;go_simp) (HS.out _ hbd) ?_;go_frame
    refine AnyT.tD (i:=1) (v:=.slice (some ⟨b,off,none⟩) n cap) rfl rfl (by rintro w' ⟨q1,q2,q3,q4⟩;go_simp) (HS.out _ hbd) ?_;go_frame
    refine AnyT.tD (i:=2) (v:=.int .i64 k) rfl rfl (by rintro w' ⟨q1,q2,q3,q4⟩;go_simp) (HS.out _ hbd) ?_;go_frame
    refine AnyT.tD (i:=3) (v:=.pointer (some ⟨b,off+k,none⟩)) rfl rfl (by rintro w' ⟨q1,q2,q3,q4⟩;go_simp) (HS.out _ hbd) ?_;go_frame
    refine AnyT.tD (i:=4) (v:=.int .i64 x) rfl rfl (by rintro w' ⟨q1,q2,q3,q4⟩;go_simp) (HS.out _ hbd) ?_;go_frame
    refine AnyT.tD (i:=5) (v:=.slice (some ⟨b2,off2,none⟩) n cap2) rfl rfl (by rintro w' ⟨q1,q2,q3,q4⟩;go_simp) (HS.out _ hbd) ?_;go_frame
    refine AnyT.tD (i:=6) (v:=.int .i64 j) rfl rfl (by rintro w' ⟨q1,q2,q3,q4⟩;go_simp) (HS.out _ hbd) ?_;go_frame
    refine AnyT.tD (i:=7) (v:=.pointer (some ⟨b2,off2+j,none⟩)) rfl rfl (by rintro w' ⟨q1,q2,q3,q4⟩;go_simp) (HS.out _ hbd) ?_;go_frame
    refine AnyT.tD (i:=8) (v:=.int .i64 pj) rfl rfl (by rintro w' ⟨q1,q2,q3,q4⟩;go_simp) (HS.out _ hbd) ?_;go_frame
    refine AnyT.tD (i:=9) (v:=.int .i64 m1) rfl rfl (by rintro w' ⟨q1,q2,q3,q4⟩;go_simp) (HS.out _ hbd) ?_;go_frame
    refine AnyT.tD (i:=10) (v:=.slice (some ⟨b2,off2,none⟩) n cap2) rfl rfl (by rintro w' ⟨q1,q2,q3,q4⟩;go_simp) (HS.out _ hbd) ?_;go_frame
    refine AnyT.tD (i:=11) (v:=.int .i64 k) rfl rfl (by rintro w' ⟨q1,q2,q3,q4⟩;go_simp) (HS.out _ hbd) ?_;go_frame
    refine AnyT.tD (i:=12) (v:=.pointer (some ⟨b2,off2+k,none⟩)) rfl rfl (by rintro w' ⟨q1,q2,q3,q4⟩;go_simp) (HS.out _ hbd) ?_;go_frame
    refine AnyT.tD (i:=13) (v:=.int .i64 y) rfl rfl (by rintro w' ⟨q1,q2,q3,q4⟩;go_simp) (HS.out _ hbd) ?_;go_frame
    refine AnyT.tD (i:=14) (v:=.slice (some ⟨b,off,none⟩) n cap) rfl rfl (by rintro w' ⟨q1,q2,q3,q4⟩;go_simp) (HS.out _ hbd) ?_;go_frame
    refine AnyT.tD (i:=15) (v:=.int .i64 j) rfl rfl (by rintro w' ⟨q1,q2,q3,q4⟩;go_simp) (HS.out _ hbd) ?_;go_frame
    refine AnyT.tD (i:=16) (v:=.pointer (some ⟨b,off+j,none⟩)) rfl rfl (by rintro w' ⟨q1,q2,q3,q4⟩;go_simp) (HS.out _ hbd) ?_;go_frame
    refine AnyT.tD (i:=17) (v:=.int .i64 rj) rfl rfl (by rintro w' ⟨q1,q2,q3,q4⟩;go_simp) (HS.out _ hbd) ?_;go_frame
    refine AnyT.tD (i:=18) (v:=.int .i64 m2) rfl rfl (by rintro w' ⟨q1,q2,q3,q4⟩;go_simp) (HS.out _ hbd) ?_;go_frame
    refine AnyT.tD (i:=19) (v:=.int .i64 z) rfl rfl (by rintro w' ⟨q1,q2,q3,q4⟩;go_simp) (HS.out _ hbd) ?_;go_frame
    refine AnyT.nx (i:=20) rfl ?_
    go_wp2
    have hbA:=hbd.alloc hbd.size (.cells #[.int .i64 z] 3)
    refine⟨fun _=>HS.out _ hbA,?_⟩
    refine AnyT.nx (i:=21) rfl ?_
    (refine zAQ _ rfl (.tmp 14) (.tmp 34) 24 rfl w.heap.size 3 (.int .i64 0) 1 8 Tryz.underlying24 zEF rfl Nat.one_pos (.slice va k vc) k _ rfl (HO2.out.alloc _) (some ⟨wd.heap.size,0,none⟩) 1 1 [.int .i64 z] rfl rfl zCD (zBT wd _ _) (zEE _) M1.out M2.out (Nat.le_trans HB3.out.size (zCH _ _)) ?_)
    intro a3 c3 w3 own3 g3
    have hb3:=hbA.grown g3 hbA.size (fun q hq=>(HO2.out.lt q hq).1)
    refine⟨fun _=>HS.out _ hb3,?_⟩
    refine AnyT.tD (i:=22) (v:=.slice a3 (k+1) c3) rfl rfl (by rintro w' ⟨q1,q2,q3,q4⟩;go_simp) (HS.out _ hb3) ?_;go_frame
    exact⟨by kernel_rfl,rfl,.slice va k vc,.slice (some ⟨b,off,none⟩) n cap,.int .i64 k,.pointer (some ⟨b,off+k,none⟩),.int .i64 x,.slice (some ⟨b2,off2,none⟩) n cap2,.int .i64 j,.pointer (some ⟨b2,off2+j,none⟩),.int .i64 pj,.int .i64 m1,.slice (some ⟨b2,off2,none⟩) n cap2,.int .i64 k,.pointer (some ⟨b2,off2+k,none⟩),.int .i64 y,.slice (some ⟨b,off,none⟩) n cap,.int .i64 j,.pointer (some ⟨b,off+j,none⟩),.int .i64 rj,.int .i64 m2,.int .i64 z,.slice (some ⟨wd.heap.size,0,none⟩) 1 1,.slice a3 (k+1) c3,(by first|rfl|go_frame),⟨a3,c3,rfl⟩,by rw[HSN.out];exact own3,hb3⟩
   ·rintro a5 w5 ⟨v14,v15,v16,v17,v18,v19,v20,v21,v22,v23,v24,v25,v26,v27,v28,v29,v30,v31,v32,v33,v34,v35,rfl,⟨a3,c3,rfl⟩,ho5,hb5⟩
    go_frame
    go_wp2
    exact⟨⟨k+1,by omega,by go_num,ho5,hb5⟩,by simp[intOf];omega⟩
  ·obtain rfl:k=n:=by omega
   have hmb:BndL 4611686018427387904 (zIV p j r k):=by
    intro x hx
    unfold zIV at hx
    obtain⟨c,hc,rfl⟩:=List.mem_map.1 hx
    have hck:=List.mem_range.1 hc
    have d1:=HB.out.get (show c<r.length by rw[HN.out];exact hck)
    have d2:=HB.out.get (show j<r.length by rw[HN.out];exact hj)
    have d3:=HB2.out.get (show c<p.length by rw[HN2.out];exact hck)
    have d4:=HB2.out.get (show j<p.length by rw[HN2.out];exact hj)
    have e1:=zGS (show-(1073741824:Int)<=r[c]?.getD 0∧r[c]?.getD 0<=1073741824 by omega) (show-(1073741824:Int)<=p[j]?.getD 0∧p[j]?.getD 0<=1073741824 by omega)
    have e2:=zGS (show-(1073741824:Int)<=p[c]?.getD 0∧p[c]?.getD 0<=1073741824 by omega) (show-(1073741824:Int)<=r[j]?.getD 0∧r[j]?.getD 0<=1073741824 by omega)
    show-((4611686018427387904:Nat):Int)<=r[c]?.getD 0*p[j]?.getD 0-p[c]?.getD 0*r[j]?.getD 0∧r[c]?.getD 0*p[j]?.getD 0-p[c]?.getD 0*r[j]?.getD 0<=((4611686018427387904:Nat):Int)
    omega
   obtain⟨va,vc,rfl,hi,_⟩:=zCS hown (mixTo_len p j r k)
   have HP:=hid (zIM wr va k vc (zIV p j r k) (mixTo_len p j r k) hm hi hmb)
   have HBT:=hid hbt
   clear hown hi hmb hbt
   go_wp2_with (go_at_call 226;refine HP.out.mono ?_;rintro e w4 ⟨v4,rfl,ho4,hb4⟩;refine Stop.of ?_)
   refine Stop.go ?_
   have HO4:=hid ho4
   have hb:=zAA HBT.out hb4
   clear ho4 hb4
   go_wp2
   go_ret
   exact⟨v4,wr.heap.size,rfl,HBT.out.size,HO4.out,hb⟩
end
section
open Go.RowKit
def HeadV(W:World)(xs:List Value)(L:List (List Int)):Prop:=
 xs.length=L.length∧∀j (hj:j<L.length),∃ra rn rc,xs[j]? =some (.slice ra rn rc)∧L[j].length=rn∧rn<=maxLen∧zAI W ra L[j]
theorem HeadV.nil(W:World):HeadV W [] []:=⟨rfl,fun j hj=>by simp at hj⟩
theorem HeadV.below{W W':World}{xs:List Value}{L:List (List Int)}(h:HeadV W xs L)(hb:Below W.heap.size W W'):HeadV W' xs L:=
 ⟨h.1,fun j hj=>by obtain⟨ra,rn,rc,h1,h2,h3,h4⟩:=h.2 j hj;exact⟨ra,rn,rc,h1,h2,h3,h4.below hb⟩⟩
theorem HeadV.one{W:World}{ra:Option Addr}{rn rc:Nat}{l:List Int}(hn:l.length=rn)(hm:rn<=maxLen)(h:zAI W ra l):HeadV W [.slice ra rn rc] [l]:=
 ⟨rfl,fun j hj=>by
   obtain rfl:j=0:=by simp at hj;omega
   exact⟨ra,rn,rc,rfl,hn,hm,h⟩⟩
theorem rows_of_own{W:World}{base n c:Nat}{T:TypeId}{a:Option Addr}{xs:List Value}{L:List (List Int)}(h:W.ownsRow base T 1 (.slice a n c) n xs)(hv:HeadV W xs L)(hl:L.length=n):zAN W a L:=by
 intro j hj
 rcases h.2 with⟨_,h0⟩|⟨g,cap,cur,e,hg,hh,rest⟩
 ·omega
 ·cases e
  have hlt:=(Array.getElem?_eq_some_iff.1 hh).1
  have hc:W.cell? ⟨g,j,none⟩=xs[j]? :=World.ownsRow.cellAt (w:=W) (base:=base) (e:=T) (size:=1) (g:=g) (n:=n) (cap:=c) (xs:=xs) h j (by omega)
  obtain⟨ra,rn,rc,h1,h2,h3,h4⟩:=hv.2 j hj
  exact⟨g,0,ra,rn,rc,rfl,hlt,by rw[Nat.zero_add,hc];exact h1,h2,h3,h4⟩
end
section
section
open Go.RowKit
def RowS(W:World)(v:Value)(l:List Int):Prop:=
 (∃g c,v=.slice (some ⟨g,0,none⟩) l.length c∧zBQ W g l)∨(l=[]∧∃a c,v=.slice a 0 c)
theorem RowS.sl{W:World}{v:Value}{l:List Int}(h:RowS W v l)(hm:l.length<=maxLen):SlV W v l:=by
 rcases h with⟨g,c,rfl,hs⟩|⟨rfl,a,c,rfl⟩
 ·exact⟨_,_,_,rfl,rfl,hm,hs.ints⟩
 ·exact⟨_,_,_,rfl,rfl,Nat.zero_le _,fun j hj=>by simp at hj⟩
theorem RowS.below{W W':World}{v:Value}{l:List Int}(h:RowS W v l)(hb:Below W.heap.size W W'):RowS W' v l:=by
 rcases h with⟨g,c,rfl,hs⟩|h
 ·exact .inl ⟨g,c,rfl,hs.keep (hb.block g hs.lt)⟩
 ·exact .inr h
def TabS(W:World)(base:Nat)(v:Value)(L:List (List Int)):Prop:=
 ∃vs,W.ownsRow base 24 1 v L.length vs∧∀j (hj:j<L.length),∃u,vs[j]? =some u∧RowS W u L[j]
theorem TabS.nil(W:World)(base:Nat):TabS W base (.slice none 0 0) []:=⟨[],World.ownsRow_nil _ _ _ _,fun j hj=>by simp at hj⟩
theorem TabS.below{W W':World}{base:Nat}{v:Value}{L:List (List Int)}(h:TabS W base v L)(hb:Below W.heap.size W W'):TabS W' base v L:=by
 obtain⟨vs,h1,h2⟩:=h
 refine⟨vs,zBI h1 hb,fun j hj=>?_⟩
 obtain⟨u,hu,hr⟩:=h2 j hj
 exact⟨u,hu,hr.below hb⟩
theorem TabS.rows{W:World}{base n c:Nat}{a:Option Addr}{L:List (List Int)}(h:TabS W base (.slice a n c) L)(hl:L.length=n)(hm:∀r∈L,r.length<=maxLen):zAN W a L:=by
 obtain⟨vs,h1,h2⟩:=h
 rw[hl]at h1
 refine rows_of_own (xs:=vs) h1 ⟨by have:=h1.1;omega,fun j hj=>?_⟩ hl
 obtain⟨u,hu,hr⟩:=h2 j hj
 obtain⟨ra,rn,rc,rfl,e1,e2,e3⟩:=hr.sl (hm _ (List.getElem_mem hj))
 exact⟨ra,rn,rc,hu,e1,e2,e3⟩
theorem TabS.snoc{W w1 w3:World}{base:Nat}{v v' u:Value}{L:List (List Int)}{r:List Int}{vs:List Value}(h1:W.ownsRow base 24 1 v L.length vs)
 (h2:∀j (hj:j<L.length),∃u,vs[j]? =some u∧RowS W u L[j])(hb:Below W.heap.size W w1)(hr:RowS w1 u r)(hg:w1.grownBy w3 v.ownBlock)
 (ho':w3.ownsRow base 24 1 v' (L.length+1) (vs++[u])):TabS w3 base v' (L++[r]):=by
 have hlen:vs.length=L.length:=by have:=h1.1;omega
 have hown:∀b,v.ownBlock=some b->∃c f,w1.heap[b]? =some (.cells c 24 f):=by
  intro b hb'
  rcases h1.2 with⟨rfl,_⟩|⟨g,cap,cur,rfl,hbg,hgg,_⟩
  ·simp[Value.ownBlock]at hb'
  ·obtain rfl:g=b:=by simpa[Value.ownBlock]using hb'
   exact⟨cur,_,(hb.block g (Array.getElem?_eq_some_iff.1 hgg).1).trans hgg⟩
 have hold:∀b l,zBQ w1 b l->zBQ w3 b l:=by
  intro b l hs
  refine hs.keep (hg.block b hs.lt ?_)
  intro e
  obtain⟨c,f,hc⟩:=hown b e.symm
  obtain⟨sp,hs⟩:=hs
  rw[hs]at hc
  simp at hc
 have hup:∀u l,RowS w1 u l->RowS w3 u l:=by
  rintro u l (⟨g,c,rfl,hs⟩|h)
  ·exact .inl ⟨g,c,rfl,hold _ _ hs⟩
  ·exact .inr h
 refine⟨vs++[u],by simpa using ho',fun j hj=>?_⟩
 simp only[List.length_append,List.length_cons,List.length_nil,Nat.zero_add]at hj
 by_cases hjl:j<L.length
 ·obtain⟨u',hu',hr'⟩:=h2 j hjl
  rw[List.getElem_append_left hjl]
  exact⟨u',by rw[List.getElem?_append_left (by omega)];exact hu',hup _ _ (hr'.below hb)⟩
 ·obtain rfl:j=L.length:=by omega
  rw[List.getElem_append_right (Nat.le_refl _)]
  simp only[Nat.sub_self,List.getElem_cons_zero]
  exact⟨u,by rw[List.getElem?_append_right (by omega),hlen];simp,hup _ _ hr⟩
theorem TabS.at{W:World}{base n:Nat}{v:Value}{L:List (List Int)}(h:TabS W base v L)(hl:L.length=n){i:Nat}(hi:i<n):
 ∃g0 cap u,v=.slice (some ⟨g0,0,none⟩) n cap∧base<=g0∧g0<W.heap.size∧W.cell? ⟨g0,i,none⟩=some u∧RowS W u (L[i]?.getD [])∧W.frozen? ⟨g0,i,none⟩=false∧
  ∀u' r,RowS W u' r->TabS (W.setCell ⟨g0,i,none⟩ u') base v (L.set i r)∧∀k,k≠g0->(W.setCell ⟨g0,i,none⟩ u').heap[k]? =W.heap[k]? :=by
 subst hl
 obtain⟨vs,h1,h2⟩:=h
 obtain⟨u,hu,hr⟩:=h2 i hi
 rcases h1.2 with⟨rfl,h0⟩|⟨g0,cap,cur,rfl,hbg,hgg,hnc,hcm,hsz,htk⟩
 ·omega
 have hcell:=World.ownsRow.cellAt (w:=W) (base:=base) (e:=24) (size:=1) (g:=g0) (n:=L.length) (cap:=cap) (xs:=vs) h1 i (by omega)
 have hvl:vs.length=L.length:=by have:=h1.1;omega
 refine⟨g0,cap,u,rfl,hbg,(Array.getElem?_eq_some_iff.1 hgg).1,by rw[hcell];exact hu,by rw[List.getElem?_eq_getElem hi];exact hr,by simp[World.frozen?,hgg],?_⟩
 intro u' r hr'
 have hkeep:∀k,k≠g0->(W.setCell ⟨g0,i,none⟩ u').heap[k]? =W.heap[k]? :=fun k hk=>Below.heap_setCell _ _ _ _ hk
 have hup:∀u l,RowS W u l->RowS (W.setCell ⟨g0,i,none⟩ u') u l:=by
  rintro u l (⟨g,c,rfl,hs⟩|h)
  ·refine .inl ⟨g,c,rfl,hs.keep (hkeep g ?_)⟩
   rintro rfl
   obtain⟨sp,hs⟩:=hs
   rw[hgg]at hs
   cases hs
  ·exact .inr h
 have hb2:(W.setCell ⟨g0,i,none⟩ u').heap[g0]? =some (.cells (cur.setIfInBounds i u') 24 (0,0)):=zAP hgg i u'
 refine⟨⟨vs.set i u',⟨by simpa using h1.1,.inr ⟨g0,cap,cur.setIfInBounds i u',by simp,hbg,hb2,by simpa using hnc,hcm,by simpa using hsz,?_⟩⟩,fun j hj=>?_⟩,hkeep⟩
 ·rw[<- htk]
  simp only[Array.toList_setIfInBounds,List.length_set,Nat.mul_one]
  rw[List.take_set]
 ·have hj':j<L.length:=by simpa using hj
  by_cases e:i=j
  ·subst e
   exact⟨u',by simp[hvl,hj'],by simpa using hup _ _ hr'⟩
  ·obtain⟨u2,hu2,hr2⟩:=h2 j hj'
   exact⟨u2,by rw[List.getElem?_set_ne e];exact hu2,by rw[List.getElem_set_ne e];exact hup _ _ hr2⟩
end
section
open Go.RowKit
theorem rowS_own{W:World}{b0:Nat}{v:Value}{l:List Int}{n:Nat}(h:W.ownsRow b0 3 1 v n (l.map (Value.int .i64)))(hn:l.length=n):RowS W v l:=by
 rcases Nat.eq_zero_or_pos n with h0|h0
 ·obtain⟨a,c,rfl⟩:=zAD h
  subst h0
  exact .inr ⟨List.length_eq_zero_iff.1 hn,a,c,rfl⟩
 ·obtain⟨g,cap,rfl,_,hs⟩:=zIF h hn h0
  exact .inl ⟨g,cap,by rw[hn],hs⟩
theorem RowS.slice{W:World}{v:Value}{l:List Int}(h:RowS W v l):∃a c,v=.slice a l.length c:=by
 rcases h with⟨g,c,rfl,_⟩|⟨rfl,a,c,rfl⟩
 ·exact⟨_,_,rfl⟩
 ·exact⟨_,_,rfl⟩
theorem colsF_take{M:List (List Int)}{S:List Int}{k:Nat}(hk:k<M.length):(zAS M S).take (k+1)=(zAS M S).take k++[S.map (fun j=>vec M[k] j.toNat)]:=by
 have hc:k<(zAS M S).length:=by rw[zBK];exact hk
 rw[List.take_succ_eq_append_getElem hc]
 congr 2
 simp[zAS]
end
section
open Go.RowKit
def RowN(N:Option Nat)(W:World)(v:Value)(l:List Int):Prop:=
 (∃g c,v=.slice (some ⟨g,0,none⟩) l.length c∧zBQ W g l∧N≠some g)∨(l=[]∧∃a c,v=.slice a 0 c)
theorem RowN.row{N:Option Nat}{W:World}{v:Value}{l:List Int}(h:RowN N W v l):RowS W v l:=by
 rcases h with⟨g,c,e,hs,_⟩|h
 ·exact .inl ⟨g,c,e,hs⟩
 ·exact .inr h
theorem zLJ{N:Option Nat}{W:World}{b0:Nat}{v:Value}{l:List Int}{n:Nat}(h:W.ownsRow b0 3 1 v n (l.map (Value.int .i64)))(hn:l.length=n)(hN:∀k,N=some k->k<b0):RowN N W v l:=by
 rcases Nat.eq_zero_or_pos n with h0|h0
 ·obtain⟨a,c,rfl⟩:=zAD h
  subst h0
  exact .inr ⟨List.length_eq_zero_iff.1 hn,a,c,rfl⟩
 ·obtain⟨g,cap,rfl,hg,hs⟩:=zIF h hn h0
  exact .inl ⟨g,cap,by rw[hn],hs,fun e=>by have:=hN g e;omega⟩
def zNL(N:Option Nat)(W W':World):Prop:=∀k c,W.heap[k]? =some (.cells c 3 (0,0))->N≠some k->W'.heap[k]? =W.heap[k]?
theorem RowN.keep{N:Option Nat}{W W':World}{v:Value}{l:List Int}(h:RowN N W v l)(hk:zNL N W W'):RowN N W' v l:=by
 rcases h with⟨g,c,e,hs,hne⟩|h
 ·refine .inl ⟨g,c,e,?_,hne⟩
  obtain⟨sp,hs'⟩:=id hs
  exact hs.keep (hk g _ hs' hne)
 ·exact .inr h
theorem zNL.below{N:Option Nat}{W W':World}(hb:Below W.heap.size W W'):zNL N W W':=fun k c h _=>hb.block k (Array.getElem?_eq_some_iff.1 h).1
def TabN(N:Option Nat)(W:World)(base:Nat)(v:Value)(L:List (List Int)):Prop:=
 ∃vs,W.ownsRow base 24 1 v L.length vs∧∀j (hj:j<L.length),∃u,vs[j]? =some u∧RowN N W u L[j]
theorem TabN.tab{N:Option Nat}{W:World}{base:Nat}{v:Value}{L:List (List Int)}(h:TabN N W base v L):TabS W base v L:=by
 obtain⟨vs,h1,h2⟩:=h
 refine⟨vs,h1,fun j hj=>?_⟩
 obtain⟨u,hu,hr⟩:=h2 j hj
 exact⟨u,hu,hr.row⟩
theorem TabN.nil(N:Option Nat)(W:World)(base:Nat):TabN N W base (.slice none 0 0) []:=⟨[],World.ownsRow_nil _ _ _ _,fun j hj=>by simp at hj⟩
theorem zCV{W W':World}{base size n:Nat}{T:TypeId}{v:Value}{xs:List Value}(h:W.ownsRow base T size v n xs)(hk:∀k,v.ownBlock=some k->k<W.heap.size->W'.heap[k]? =W.heap[k]?):W'.ownsRow base T size v n xs:=by
 refine⟨h.1,?_⟩
 rcases h.2 with hn|⟨g,cap,cur,rfl,hbg,hgg,rest⟩
 ·exact .inl hn
 ·exact .inr ⟨g,cap,cur,rfl,hbg,(hk g rfl (Array.getElem?_eq_some_iff.1 hgg).1).trans hgg,rest⟩
theorem own_low{W:World}{base b0 size n:Nat}{T:TypeId}{v:Value}{xs:List Value}(h:W.ownsRow base T size v n xs)(hb:b0<=base):W.ownsRow b0 T size v n xs:=by
 refine⟨h.1,?_⟩
 rcases h.2 with hn|⟨g,cap,cur,rfl,hbg,rest⟩
 ·exact .inl hn
 ·exact .inr ⟨g,cap,cur,rfl,Nat.le_trans hb hbg,rest⟩
theorem zBH{W:World}{base size n k:Nat}{T:TypeId}{v:Value}{xs:List Value}(h:W.ownsRow base T size v n xs)(hk:v.ownBlock=some k):base<=k∧∃c,W.heap[k]? =some (.cells c T (0,0)):=by
 rcases h.2 with⟨rfl,_⟩|⟨g,cap,cur,rfl,hbg,hgg,_⟩
 ·simp[Value.ownBlock]at hk
 ·obtain rfl:g=k:=by simpa[Value.ownBlock]using hk
  exact⟨hbg,cur,hgg⟩
theorem TabN.type{N:Option Nat}{W:World}{base k:Nat}{v:Value}{L:List (List Int)}(h:TabN N W base v L)(hk:v.ownBlock=some k):base<=k∧k<W.heap.size∧∃c,W.heap[k]? =some (.cells c 24 (0,0)):=by
 obtain⟨vs,h1,_⟩:=h
 obtain⟨h2,c,h3⟩:=zBH h1 hk
 exact⟨h2,(Array.getElem?_eq_some_iff.1 h3).1,c,h3⟩
theorem TabN.low{N:Option Nat}{W:World}{base b0:Nat}{v:Value}{L:List (List Int)}(h:TabN N W base v L)(hb:b0<=base):TabN N W b0 v L:=by
 obtain⟨vs,h1,h2⟩:=h
 exact⟨vs,own_low h1 hb,h2⟩
theorem TabN.keep{N:Option Nat}{W W':World}{base:Nat}{v:Value}{L:List (List Int)}(h:TabN N W base v L)(hk:zNL N W W')(ho:∀k,v.ownBlock=some k->k<W.heap.size->W'.heap[k]? =W.heap[k]?):TabN N W' base v L:=by
 obtain⟨vs,h1,h2⟩:=h
 refine⟨vs,zCV h1 ho,fun j hj=>?_⟩
 obtain⟨u,hu,hr⟩:=h2 j hj
 exact⟨u,hu,hr.keep hk⟩
theorem TabN.below{N:Option Nat}{W W':World}{base:Nat}{v:Value}{L:List (List Int)}(h:TabN N W base v L)(hb:Below W.heap.size W W'):TabN N W' base v L:=
 h.keep (zNL.below hb) fun k _ hk=>hb.block k hk
theorem TabN.piv{W W':World}{base b2 n:Nat}{v p p':Value}{xs:List Value}{L:List (List Int)}(h:TabN p.ownBlock W base v L)(hg:W.grownBy W' p.ownBlock)(hat:p'.ownBlock=p.ownBlock∨p'.ownBlock=some W.heap.size)
 (hP:W.ownsRow b2 3 1 p n xs):TabN p'.ownBlock W' base v L:=by
 have h1:TabN p.ownBlock W' base v L:=by
  refine h.keep (fun k c hk hne=>hg.block k (Array.getElem?_eq_some_iff.1 hk).1 (fun e=>hne e.symm)) fun k hk hlt=>hg.block k hlt fun e=>?_
  obtain⟨_,_,c,hc⟩:=h.type hk
  obtain⟨_,c2,hc2⟩:=zBH hP e.symm
  rw[hc]at hc2
  cases hc2
 have hlt:∀u l,RowN p.ownBlock W u l->RowN p'.ownBlock W' u l:=by
  intro u l hr
  rcases hr with⟨g,c,e,hs,hne⟩|hr
  ·refine .inl ⟨g,c,e,?_,?_⟩
   ·obtain⟨sp,hs'⟩:=id hs
    exact hs.keep (hg.block g hs.lt (fun e=>hne e.symm))
   ·rcases hat with hat|hat
    ·rw[hat];exact hne
    ·rw[hat];intro e
     have h1:W.heap.size=g:=by simpa using e
     have:=hs.lt
     omega
  ·exact .inr hr
 obtain⟨vs,h2,h3⟩:=h
 obtain⟨vs',h4,_⟩:=h1
 refine⟨vs,zCV h2 fun k hk hlt'=>hg.block k hlt' fun e=>?_,fun j hj=>?_⟩
 ·obtain⟨_,c,hc⟩:=zBH h2 hk
  obtain⟨_,c2,hc2⟩:=zBH hP e.symm
  rw[hc]at hc2
  cases hc2
 ·obtain⟨u,hu,hr⟩:=h3 j hj
  exact⟨u,hu,hlt _ _ hr⟩
theorem TabN.beside{N:Option Nat}{W W':World}{base:Nat}{v:Value}{L:List (List Int)}(h:TabN N W base v L){g0:Option Nat}(hk:∀k,k<W.heap.size->g0≠some k->W'.heap[k]? =W.heap[k]?)
 (hg:∀k,g0=some k->∃c,W.heap[k]? =some (.cells c 24 (0,0)))(hne:∀k,g0=some k->v.ownBlock≠some k):TabN N W' base v L:=by
 refine h.keep (fun k c hc hn=>hk k (Array.getElem?_eq_some_iff.1 hc).1 fun e=>?_) fun k hv hlt=>hk k hlt fun e=>hne k e hv
 obtain⟨c2,h2⟩:=hg k e
 rw[h2]at hc
 cases hc
theorem TabN.snoc{N:Option Nat}{w1 w3:World}{base:Nat}{v v' u:Value}{L:List (List Int)}{r:List Int}{vs:List Value}(h1:w1.ownsRow base 24 1 v L.length vs)
 (h2:∀j (hj:j<L.length),∃u,vs[j]? =some u∧RowN N w1 u L[j])(hr:RowN N w1 u r)(hg:w1.grownBy w3 v.ownBlock)
 (ho':w3.ownsRow base 24 1 v' (L.length+1) (vs++[u])):TabN N w3 base v' (L++[r]):=by
 have hlen:vs.length=L.length:=by have:=h1.1;omega
 have hK:zNL N w1 w3:=fun k c hc hn=>hg.block k (Array.getElem?_eq_some_iff.1 hc).1 fun e=>by
  obtain⟨_,c2,h2⟩:=zBH h1 e.symm
  rw[h2]at hc
  cases hc
 refine⟨vs++[u],by simpa using ho',fun j hj=>?_⟩
 simp only[List.length_append,List.length_cons,List.length_nil,Nat.zero_add]at hj
 by_cases hjl:j<L.length
 ·obtain⟨u',hu',hr'⟩:=h2 j hjl
  rw[List.getElem_append_left hjl]
  exact⟨u',by rw[List.getElem?_append_left (by omega)];exact hu',hr'.keep hK⟩
 ·obtain rfl:j=L.length:=by omega
  rw[List.getElem_append_right (Nat.le_refl _)]
  simp only[Nat.sub_self,List.getElem_cons_zero]
  exact⟨u,by rw[List.getElem?_append_right (by omega),hlen];simp,hr.keep hK⟩
theorem TabN.at{N:Option Nat}{W:World}{base n:Nat}{v:Value}{L:List (List Int)}(h:TabN N W base v L)(hl:L.length=n){i:Nat}(hi:i<n):
 ∃g0 cap u,v=.slice (some ⟨g0,0,none⟩) n cap∧base<=g0∧g0<W.heap.size∧(∃c,W.heap[g0]? =some (.cells c 24 (0,0)))∧W.cell? ⟨g0,i,none⟩=some u∧RowN N W u (L[i]?.getD [])∧W.frozen? ⟨g0,i,none⟩=false∧
  ∀u' r,RowN N W u' r->TabN N (W.setCell ⟨g0,i,none⟩ u') base v (L.set i r)∧∀k,k≠g0->(W.setCell ⟨g0,i,none⟩ u').heap[k]? =W.heap[k]? :=by
 subst hl
 obtain⟨vs,h1,h2⟩:=h
 obtain⟨u,hu,hr⟩:=h2 i hi
 rcases h1.2 with⟨rfl,h0⟩|⟨g0,cap,cur,rfl,hbg,hgg,hnc,hcm,hsz,htk⟩
 ·omega
 have hcell:=World.ownsRow.cellAt (w:=W) (base:=base) (e:=24) (size:=1) (g:=g0) (n:=L.length) (cap:=cap) (xs:=vs) h1 i (by omega)
 have hvl:vs.length=L.length:=by have:=h1.1;omega
 refine⟨g0,cap,u,rfl,hbg,(Array.getElem?_eq_some_iff.1 hgg).1,⟨cur,hgg⟩,by rw[hcell];exact hu,by rw[List.getElem?_eq_getElem hi];exact hr,by simp[World.frozen?,hgg],?_⟩
 intro u' r hr'
 have hkeep:∀k,k≠g0->(W.setCell ⟨g0,i,none⟩ u').heap[k]? =W.heap[k]? :=fun k hk=>Below.heap_setCell _ _ _ _ hk
 have hK:zNL N W (W.setCell ⟨g0,i,none⟩ u'):=fun k c hc hn=>hkeep k fun e=>by
  subst e
  rw[hgg]at hc
  cases hc
 have hb2:(W.setCell ⟨g0,i,none⟩ u').heap[g0]? =some (.cells (cur.setIfInBounds i u') 24 (0,0)):=zAP hgg i u'
 refine⟨⟨vs.set i u',⟨by simpa using h1.1,.inr ⟨g0,cap,cur.setIfInBounds i u',by simp,hbg,hb2,by simpa using hnc,hcm,by simpa using hsz,?_⟩⟩,fun j hj=>?_⟩,hkeep⟩
 ·rw[<- htk]
  simp only[Array.toList_setIfInBounds,List.length_set,Nat.mul_one]
  rw[List.take_set]
 ·have hj':j<L.length:=by simpa using hj
  by_cases e:i=j
  ·subst e
   exact⟨u',by simp[hvl,hj'],by simpa using hr'.keep hK⟩
  ·obtain⟨u2,hu2,hr2⟩:=h2 j hj'
   exact⟨u2,by rw[List.getElem?_set_ne e];exact hu2,by rw[List.getElem_set_ne e];exact hr2.keep hK⟩
end
section
open Go.RowKit
def zLE{α:Type}(p:α->Bool)(l:List α):Int:=match zEV p l with|none=> -1|some a=>(a:Int)
theorem lastI_snoc{α:Type}(p:α->Bool)(l:List α)(y:α):zLE p (l++[y])=if p y=true then(l.length:Int)else zLE p l:=by
 unfold zLE
 rw[zMV]
 by_cases h:p y=true
 ·rw[if_pos h,if_pos h]
 ·rw[if_neg h,if_neg h]
theorem lastI_take{α:Type}(p:α->Bool){l:List α}{k:Nat}(hk:k<l.length):zLE p (l.take (k+1))=if p l[k]=true then(k:Int)else zLE p (l.take k):=by
 rw[List.take_succ_eq_append_getElem hk,lastI_snoc,List.length_take,Nat.min_eq_left (by omega)]
theorem rStep_nil{s:RS}(h:s.left=[])(j:Nat):zMH s j=s:=by unfold zMH;rw[h];rfl
theorem rStep_none{s:RS}{j:Nat}(h:zEV (nz j) s.left=none):zMH s j=s:=by unfold zMH;rw[h]
theorem rStep_some{s:RS}{j a:Nat}(h:zEV (nz j) s.left=some a):zMH s j=⟨(s.left.eraseIdx a).map (zBF (posF (s.left[a]?.getD []) j) j),s.done.map (zBF (posF (s.left[a]?.getD []) j) j)++[posF (s.left[a]?.getD []) j],s.piv++[j]⟩:=by unfold zMH;rw[h]
theorem rRed_stop{L:List (List Int)}{j:Nat}(h:(rRed L j).left=[]):∀d,rRed L (j+d)=rRed L j
 |0=>rfl
 |d+1=>by rw[<- Nat.add_assoc,zIL,rRed_stop h d,rStep_nil h]
def zII(f:List Int->List Int)(l:List (List Int))(a k:Nat):List (List Int):=((l.take k).eraseIdx a).map f
theorem restT_ne{f:List Int->List Int}{l:List (List Int)}{a k:Nat}(hk:k<l.length)(h:k≠a):zII f l a (k+1)=zII f l a k++[f l[k]]:=by
 unfold zII
 rw[List.take_succ_eq_append_getElem hk]
 have hlk:(l.take k).length=k:=by rw[List.length_take];omega
 rcases Nat.lt_or_ge a k with h1|h1
 ·rw[List.eraseIdx_append_of_lt_length (by omega),List.map_append];rfl
 ·rw[List.eraseIdx_append_of_length_le (by omega),hlk,List.eraseIdx_of_length_le (l:=l.take k) (by omega),List.map_append]
  have:a-k=(a-k-1)+1:=by omega
  rw[this];rfl
theorem restT_eq{f:List Int->List Int}{l:List (List Int)}{a:Nat}(hk:a<l.length):zII f l a (a+1)=zII f l a a:=by
 unfold zII
 rw[List.take_succ_eq_append_getElem hk]
 have hlk:(l.take a).length=a:=by rw[List.length_take];omega
 rw[List.eraseIdx_append_of_length_le (by omega),hlk,Nat.sub_self,List.eraseIdx_of_length_le (l:=l.take a) (by omega)]
 simp
theorem restT_len(f:List Int->List Int)(l:List (List Int))(a k:Nat):(zII f l a k).length<=k:=by
 unfold zII
 have h1:=List.length_eraseIdx_le (l.take k) a
 rw[List.length_map]
 have h2:=List.length_take_le k l
 omega
theorem restT_zero(f:List Int->List Int)(l:List (List Int))(a:Nat):zII f l a 0=[]:=by simp[zII]
theorem restT_all{f:List Int->List Int}{l:List (List Int)}{a k:Nat}(h:l.length=k):zII f l a k=(l.eraseIdx a).map f:=by
 unfold zII;rw[List.take_of_length_le (by omega)]
def zLF(f:List Int->List Int)(l:List (List Int))(k:Nat):List (List Int):=(l.take k).map f++l.drop k
theorem doneT_len(f:List Int->List Int)(l:List (List Int))(k:Nat):(zLF f l k).length=l.length:=by
 unfold zLF;simp;omega
theorem doneT_at{f:List Int->List Int}{l:List (List Int)}{k:Nat}(hk:k<l.length):(zLF f l k)[k]?.getD []=l[k]:=by
 unfold zLF
 rw[List.getElem?_append_right (by simp;omega)]
 simp[hk,Nat.min_eq_left (Nat.le_of_lt hk)]
theorem doneT_succ{f:List Int->List Int}{l:List (List Int)}{k:Nat}(hk:k<l.length):zLF f l (k+1)=(zLF f l k).set k (f l[k]):=by
 unfold zLF
 rw[List.set_append_right _ _ (by simp;omega),List.take_succ_eq_append_getElem hk,List.map_append]
 have:k-((l.take k).map f).length=0:=by simp;omega
 have e:l.drop k=l[k]::l.drop (k+1):=List.drop_eq_getElem_cons hk
 rw[this,e,List.set_cons_zero,List.append_assoc]
 rfl
theorem doneT_zero(f:List Int->List Int)(l:List (List Int)):zLF f l 0=l:=by simp[zLF]
theorem doneT_all{f:List Int->List Int}{l:List (List Int)}{k:Nat}(h:l.length=k):zLF f l k=l.map f:=by
 unfold zLF;rw[List.take_of_length_le (by omega),List.drop_eq_nil_of_le (by omega),List.append_nil]
def zLG(l:List Nat):List Int:=l.map (fun j:Nat=>(j:Int))
def RedI(w wr:World)(L:List (List Int))(j:Nat)(l d p:Value):Prop:=
 TabN p.ownBlock wr w.heap.size l (rRed L j).left∧TabN p.ownBlock wr w.heap.size d (rRed L j).done∧wr.ownsRow w.heap.size 3 1 p (rRed L j).piv.length ((zLG (rRed L j).piv).map (Value.int .i64))∧Below w.heap.size w wr
structure RedS (w:World) (R0:Nat) (wr:World) (l d r q p:Value) (left done rest:List (List Int)) (P:List Int) (J:List Nat):Prop where
 hl:TabN p.ownBlock wr w.heap.size l left
 hd:TabN p.ownBlock wr w.heap.size d done
 hr:TabN p.ownBlock wr R0 r rest
 hq:RowN p.ownBlock wr q P
 hp:wr.ownsRow w.heap.size 3 1 p J.length ((zLG J).map (Value.int .i64))
 hb:Below w.heap.size w wr
 hR:R0<=wr.heap.size
 hw:w.heap.size<=R0
 lR:∀k,l.ownBlock=some k->k<R0
 dR:∀k,d.ownBlock=some k->k<R0
 pR:∀k,p.ownBlock=some k->k<R0
theorem RedS.below{w:World}{R0:Nat}{A B:World}{l d r q p:Value}{left done rest:List (List Int)}{P:List Int}{J:List Nat}(h:RedS w R0 A l d r q p left done rest P J)(hb:Below A.heap.size A B):RedS w R0 B l d r q p left done rest P J:=
 ⟨h.hl.below hb,h.hd.below hb,h.hr.below hb,h.hq.keep (zNL.below hb),zBI h.hp hb,zAA h.hb hb,Nat.le_trans h.hR hb.size,h.hw,h.lR,h.dR,h.pR⟩
theorem TabN.lt{N:Option Nat}{W:World}{base:Nat}{v:Value}{L:List (List Int)}(h:TabN N W base v L){k:Nat}(hk:v.ownBlock=some k):k<W.heap.size:=(h.type hk).2.1
theorem RedS.start{w wr:World}{L:List (List Int)}{j:Nat}{l d p q:Value}{P:List Int}(h:RedI w wr L j l d p)(hq:RowN p.ownBlock wr q P):RedS w wr.heap.size wr l d (.slice none 0 0) q p (rRed L j).left (rRed L j).done [] P (rRed L j).piv:=
 ⟨h.1,h.2.1,TabN.nil _ _ _,hq,h.2.2.1,h.2.2.2,Nat.le_refl _,h.2.2.2.size,fun k hk=>h.1.lt hk,fun k hk=>h.2.1.lt hk,fun k hk=>by
   obtain⟨_,c,hc⟩:=zBH h.2.2.1 hk
   exact(Array.getElem?_eq_some_iff.1 hc).1⟩
theorem RedS.push{w:World}{R0:Nat}{A B:World}{l d r q p u r':Value}{left done rest:List (List Int)}{P x:List Int}{J:List Nat}{vs:List Value}(h:RedS w R0 A l d r q p left done rest P J)
 (h1:A.ownsRow R0 24 1 r rest.length vs)(h2:∀j (hj:j<rest.length),∃u,vs[j]? =some u∧RowN p.ownBlock A u rest[j])(hu:RowN p.ownBlock A u x)(hg:A.grownBy B r.ownBlock)
 (ho:B.ownsRow R0 24 1 r' (rest.length+1) (vs++[u])):RedS w R0 B l d r' q p left done (rest++[x]) P J:=by
 have hge:∀k,r.ownBlock=some k->R0<=k:=fun k hk=>(zBH h1 hk).1
 have hgt:∀k,r.ownBlock=some k->∃c,A.heap[k]? =some (.cells c 24 (0,0)):=fun k hk=>(zBH h1 hk).2
 have hk:∀k,k<A.heap.size->r.ownBlock≠some k->B.heap[k]? =A.heap[k]? :=fun k hlt hne=>hg.block k hlt fun e=>hne e.symm
 have hK:zNL p.ownBlock A B:=fun k c hc _=>hk k (Array.getElem?_eq_some_iff.1 hc).1 fun e=>by
  obtain⟨c2,h2⟩:=hgt k e
  rw[h2]at hc;cases hc
 refine⟨h.hl.beside hk hgt fun k e e2=>?_,h.hd.beside hk hgt fun k e e2=>?_,TabN.snoc h1 h2 hu hg ho,h.hq.keep hK,zCV h.hp fun k e hlt=>hk k hlt fun e2=>?_,?_,Nat.le_trans h.hR hg.size,h.hw,h.lR,h.dR,h.pR⟩
 ·have:=h.lR k e2;have:=hge k e;omega
 ·have:=h.dR k e2;have:=hge k e;omega
 ·have:=h.pR k e;have:=hge k e2;omega
 ·exact h.hb.grown hg (Nat.le_trans h.hw h.hR) fun k e=>Nat.le_trans h.hw (hge k e)
theorem RedS.store{w:World}{R0:Nat}{A:World}{l d r q p u:Value}{left done rest:List (List Int)}{P x:List Int}{J:List Nat}{i n:Nat}(h:RedS w R0 A l d r q p left done rest P J)(hn:done.length=n)(hi:i<n)(hu:RowN p.ownBlock A u x):
 ∃g0 cap v,d=.slice (some ⟨g0,0,none⟩) n cap∧A.cell? ⟨g0,i,none⟩=some v∧A.frozen? ⟨g0,i,none⟩=false∧RedS w R0 (A.setCell ⟨g0,i,none⟩ u) (.slice none 0 0) d r q p [] (done.set i x) rest P J:=by
 obtain⟨g0,cap,v,rfl,hb0,hlt,hty,hc,hrow,hf,hset⟩:=h.hd.at hn hi
 refine⟨g0,cap,v,rfl,hc,hf,?_⟩
 obtain⟨hT,hk⟩:=hset u x hu
 have hk':∀k,k<A.heap.size->some g0≠some k->(A.setCell ⟨g0,i,none⟩ u).heap[k]? =A.heap[k]? :=fun k _ hne=>hk k fun e=>hne (by rw[e])
 have hgt:∀k,some g0=some k->∃c,A.heap[k]? =some (.cells c 24 (0,0)):=fun k e=>by cases e;exact hty
 have hlt0:g0<R0:=h.dR g0 rfl
 refine⟨TabN.nil _ _ _,hT,h.hr.beside hk' hgt fun k e e2=>?_,h.hq.keep fun k c hc _=>hk' k (Array.getElem?_eq_some_iff.1 hc).1 fun e=>?_,zCV h.hp fun k e hlt2=>hk' k hlt2 fun e2=>?_,?_,by simpa using h.hR,h.hw,fun k hk=>by simp[Value.ownBlock]at hk,h.dR,h.pR⟩
 ·cases e
  have:=(h.hr.type e2).1
  omega
 ·obtain⟨c2,h2⟩:=hgt k e
  rw[h2]at hc;cases hc
 ·cases e2
  obtain⟨c,hc⟩:=hty
  obtain⟨_,c2,h2⟩:=zBH h.hp e
  rw[h2]at hc;cases hc
 ·exact(Keep.set A g0 i u).below h.hb (Nat.le_trans h.hw h.hR) fun k hk e=>by omega
theorem RedS.onto{w:World}{R0:Nat}{A B:World}{l d r q p d':Value}{left done rest:List (List Int)}{P:List Int}{J:List Nat}{vs:List Value}(h:RedS w R0 A l d r q p left done rest P J)
 (h1:A.ownsRow w.heap.size 24 1 d done.length vs)(h2:∀j (hj:j<done.length),∃u,vs[j]? =some u∧RowN p.ownBlock A u done[j])(hg:A.grownBy B d.ownBlock)
 (ho:B.ownsRow w.heap.size 24 1 d' (done.length+1) (vs++[q])):TabN p.ownBlock B w.heap.size r rest∧TabN p.ownBlock B w.heap.size d' (done++[P])∧B.ownsRow w.heap.size 3 1 p J.length ((zLG J).map (Value.int .i64))∧Below w.heap.size w B:=by
 have hge:∀k,d.ownBlock=some k->w.heap.size<=k:=fun k hk=>(zBH h1 hk).1
 have hgt:∀k,d.ownBlock=some k->∃c,A.heap[k]? =some (.cells c 24 (0,0)):=fun k hk=>(zBH h1 hk).2
 have hk:∀k,k<A.heap.size->d.ownBlock≠some k->B.heap[k]? =A.heap[k]? :=fun k hlt hne=>hg.block k hlt fun e=>hne e.symm
 refine⟨(h.hr.beside hk hgt fun k e e2=>?_).low h.hw,TabN.snoc h1 h2 h.hq hg ho,zCV h.hp fun k e hlt=>hk k hlt fun e2=>?_,h.hb.grown hg (Nat.le_trans h.hw h.hR) hge⟩
 ·have:=h.dR k e;have:=(h.hr.type e2).1;omega
 ·obtain⟨c,hc⟩:=hgt k e2
  obtain⟨_,c2,h2⟩:=zBH h.hp e
  rw[h2]at hc;cases hc
theorem red_end{w A B:World}{r d p p':Value}{left done:List (List Int)}{J:List Nat}{j:Nat}(h1:TabN p.ownBlock A w.heap.size r left)(h2:TabN p.ownBlock A w.heap.size d done)(h3:A.ownsRow w.heap.size 3 1 p J.length ((zLG J).map (Value.int .i64)))
 (h4:Below w.heap.size w A)(hg:A.grownBy B p.ownBlock)(hat:p'.ownBlock=p.ownBlock∨p'.ownBlock=some A.heap.size)(ho:B.ownsRow w.heap.size 3 1 p' (J.length+1) ((zLG J).map (Value.int .i64)++[.int .i64 j])):
 TabN p'.ownBlock B w.heap.size r left∧TabN p'.ownBlock B w.heap.size d done∧B.ownsRow w.heap.size 3 1 p' (J++[j]).length ((zLG (J++[j])).map (Value.int .i64))∧Below w.heap.size w B:=by
 refine⟨h1.piv hg hat h3,h2.piv hg hat h3,?_,h4.grown hg h4.size fun k hk=>(zBH h3 hk).1⟩
 simpa[zLG]using ho
theorem zIA{P:Program}(w:World){ops:Array Oper}{rest:List Oper}{o:Oper}{a:Act}{Q:Exit->Act->World->Prop}(hgd:o.guard=none)(s x:Operand)(t:TypeId)
 (ho:o.op=.call {callee:=.builtin .append,args:=#[s,x],argTypes:=#[t,t]})
 (base:Nat)(e:TypeId)(z:Value)(size bytes:Nat)(ht:P.underlying t=some (.slice e))(hinfo:(P.info? e).map (fun i=>(i.zero,i.size,i.bytes))=some (some z,size,bytes))
 (hzs:z.cells.size=size)(hsz:0<size)
 (v:Value)(n:Nat)(xs:List Value)(hs:a.eval s=v)(hown:w.ownsRow base e size v n xs)
 (ad:Addr)(m c:Nat)(news:List Value)(hx:a.eval x=.slice (some ad) m c)(hl:news.length=m*size)
 (hnews:∀j u,news[j]? =some u->w.cell? (ad.add j)=some u)(h1:∀u∈news,u.oneCell'=true)
 (h63:n+m<=maxLen)(hbytes:(n+m)*bytes<=140737488355328)(hbase:base<=w.heap.size)
 (h:∀a' c' w',w'.ownsRow base e size (.slice a' (n+m) c') (n+m) (xs++news)->w.grownBy w' v.ownBlock->((Value.slice a' (n+m) c').ownBlock=v.ownBlock∨(Value.slice a' (n+m) c').ownBlock=some w.heap.size)->wpList P ops Q rest (a.put o.dst (.slice a' (n+m) c')) w'):wpList P ops Q (o::rest) a w:=by
 obtain⟨i,hi,hz,h2,h3⟩:=info_parts hinfo
 refine wpList_append_own_at w hgd s x t ho base e i z size bytes ht hi hz h2 h3 hzs hsz v n xs hs hown ad m c news hx hl hnews h1 h63 hbytes hbase ?_
 intro v' w' ho' hg _ hat
 obtain⟨a',c',rfl⟩:=zAD ho'
 exact h a' c' w' ho' hg hat
end
end
section
open Go.RowKit
theorem RowN.sp{N:Option Nat}{X:World}{g n c:Nat}{P:List Int}(h:RowN N X (.slice (some ⟨g,0,none⟩) n c) P)(h0:0<P.length):zBQ X g P:=by
 rcases h with⟨g',c',e,hs,_⟩|⟨rfl,_⟩
 ·cases e;exact hs
 ·simp at h0
theorem RowN.form{N:Option Nat}{X:World}{v:Value}{P:List Int}(h:RowN N X v P)(h0:0<P.length):∃g c,v=.slice (some ⟨g,0,none⟩) P.length c∧zBQ X g P:=by
 rcases h with⟨g',c',e,hs,_⟩|⟨rfl,_⟩
 ·exact⟨_,_,e,hs⟩
 ·simp at h0
theorem posF_bnd{B:Nat}{l:List Int}(h:BndL B l)(j:Nat):BndL B (posF l j):=by
 unfold posF
 split
 ·intro x hx
  obtain⟨y,hy,rfl⟩:=List.mem_map.1 hx
  have:=h y hy
  omega
 ·exact h
theorem RedS.drop{w:World}{R0:Nat}{A:World}{l d r q p:Value}{left done rest:List (List Int)}{P:List Int}{J:List Nat}(h:RedS w R0 A l d r q p left done rest P J):RedS w R0 A (.slice none 0 0) d r q p [] done rest P J:=
 ⟨TabN.nil _ _ _,h.hd,h.hr,h.hq,h.hp,h.hb,h.hR,h.hw,fun k hk=>by simp[Value.ownBlock]at hk,h.dR,h.pR⟩
theorem r3reduced_c(w:World)(a:Option Addr)(n cap:Nat)(L:List (List Int))(W:Nat)(hn:L.length=n)(hn6:n<=1000)(H:zAN w a L)(hw:∀r∈L,r.length=W)(hW:W<=1000)(hB0:∀r∈L,BndL 4611686018427387904 r)
 (hB:∀t,t<=W->∀r∈(rRed L t).done++(rRed L t).left,r.length=W∧BndL 1073741824 r)(hlen:∀t,(rRed L t).done.length+(rRed L t).left.length=n)(hpl:∀t,(rRed L t).piv.length=(rRed L t).done.length):
 Calls Tryz.prog 225 #[.slice a n cap] w fun e w'=>∃vD vP,e=.returned (.tuple #[vD,vP])∧TabS w' w.heap.size vD (rRed L W).done∧w'.ownsRow w.heap.size 3 1 vP (rRed L W).piv.length ((zLG (rRed L W).piv).map (Value.int .i64))∧Below w.heap.size w w':=by
 have HN:=hid hn
 have HH:=hid H
 have HW:=hid hw
 have HB0:=hid hB0
 have HBB:=hid hB
 have HLEN:=hid hlen
 have HPL:=hid hpl
 clear hn H hw hB0 hB hlen hpl
 go_enter Tryz.func225,Tryz.ntmps225
 go_wp2
 go_loopw [4,21] (fun v i wr=>∃k:Nat,k<=n∧i=.int .i64 k∧TabN none wr w.heap.size v ((L.take k).map zDM)∧Below w.heap.size w wr) (fun _ i _=>n-(intOf i).toNat)
 case atStart=>exact⟨0,Nat.zero_le _,rfl,TabN.nil _ _ _,Below.refl _ _⟩
 case round=>
  obtain⟨k,hk,rfl,ho,hbk⟩:=hrel
  obtain⟨wo,hwo⟩:=exq (wr)
  subst hwo
  by_cases hlt:k<n
  ·have hkL:k<L.length:=by rw[HN.out];exact hlt
   obtain⟨b,off,ra,rn,rc,rfl,hbs,hq0,hrn,hrm,hri⟩:=(HH.out.below hbk) k hkL
   have htk:(L.take (k+1)).map zDM=(L.take k).map zDM++[zDM L[k]]:=by rw[List.take_succ_eq_append_getElem hkL,List.map_append];rfl
   obtain rfl:rn=W:=by rw[<- hrn];exact HW.out _ (List.getElem_mem hkL)
   obtain⟨C,hC⟩:=exq ((L.take k).map zDM)
   have hlenC:C.length=k:=by rw[hC,List.length_map,List.length_take,HN.out];omega
   rw[<- hC]at htk ho
   have HPR:=hid (zIM wo ra rn rc L[k] hrn hW hri (HB0.out _ (List.getElem_mem hkL)))
   obtain⟨r,hr⟩:=exq (L[k])
   rw[<- hr]at htk HPR hrn
   have hpl:(zDM r).length=rn:=by unfold zDM;rw[List.length_map];exact hrn
   obtain⟨P,hP⟩:=exq (zDM r)
   rw[<- hP]at HPR htk hpl
   have HTK:=hid htk
   have HLC:=hid hlenC
   have HPLN:=hid hpl
   have HBK:=hid hbk
   have HO:=hid ho
   obtain⟨va,vc,rfl⟩:∃va vc,u4=.slice va k vc:=by
    obtain⟨_,ho1,_⟩:=ho
    obtain⟨a',c',e⟩:=zAD ho1
    exact⟨a',c',by rw[e,hlenC]⟩
   clear hC hr hP htk hlenC hpl ho hri hrn hkL hbk
   go_wp2_with (go_at_call 226;refine HPR.out.mono ?_;rintro e w4 ⟨v4,rfl,ho4,hb4⟩;refine Stop.of ?_)
   refine Stop.go ?_
   obtain⟨la,lc,rfl⟩:=zAD ho4
   have hb4a:Below wo.heap.size wo (w4.alloc (.cells #[.slice la rn lc] 24)):=hb4.alloc hb4.size _
   have hT:=HO.out.below hb4a
   obtain⟨vs,ho1,he1⟩:=hT
   have hRow:RowN none (w4.alloc (.cells #[.slice la rn lc] 24)) (.slice la rn lc) P:=(zLJ ho4 HPLN.out (fun _ h=>by cases h)).keep (zNL.below ((Below.refl _ _).alloc (Nat.le_refl _) _))
   have ho1':=ho1
   rw[HLC.out]at ho1'
   have M1:=hid (show k+1<=maxLen by unfold maxLen;omega)
   have M2:=hid (show(k+1)*24<=140737488355328 by omega)
   have M3:=hid (Nat.le_trans HBK.out.size hb4a.size)
   have HO1:=hid ho1
   have HO1':=hid ho1'
   have HE1:=hid he1
   have HRW:=hid hRow
   have HB4:=hid hb4a
   clear ho1 ho1' he1 hRow hb4a ho4 hb4
   go_wp2_with (at_builtin;refine zAQ _ rfl (.tmp 25) (.tmp 28) 22 rfl w.heap.size 24 (.slice none 0 0) 1 24 Tryz.underlying22 zKD rfl Nat.one_pos (.slice va k vc) k vs rfl HO1'.out (some ⟨w4.heap.size,0,none⟩) 1 1 [.slice la rn lc] rfl rfl zCD (zBT w4 _ _) (zCT _ _ _) M1.out M2.out M3.out ?_;refine Stop.of ?_)
   refine Stop.go ?_
   intro a5 c5 w5 own5 g5
   have hsn:TabN none w5 w.heap.size (.slice a5 (k+1) c5) (C++[P]):=TabN.snoc HO1.out HE1.out HRW.out g5 (by rw[HLC.out];exact own5)
   have hB5:Below w.heap.size w w5:=(HBK.out.trans (HB4.out.mono HBK.out.size)).grown g5 M3.out (fun q hq=>(HO1'.out.lt q hq).1)
   rw[<- HTK.out]at hsn
   go_wp2
   exact⟨⟨k+1,by omega,by go_num,hsn,hB5⟩,by simp[intOf];omega⟩
  ·obtain rfl:k=n:=by omega
   rw[List.take_of_length_le (by rw[HN.out];exact Nat.le_refl _)]at ho
   have hI:RedI w wo L 0 u4 (.slice none 0 0) (.slice none 0 0):=⟨ho,TabN.nil _ _ _,World.ownsRow_nil _ _ _ _,hbk⟩
   clear ho hbk
   go_wp2
   go_loopw [4,5,8,9] (fun l d p i wr=>∃j:Nat,j<=W∧i=.int .i64 j∧RedI w wr L j l d p) (fun _ _ _ i _=>W-(intOf i).toNat)
   case atStart=>exact⟨0,Nat.zero_le _,rfl,hI⟩
   case round=>
    clear hI
    obtain⟨w0,hw0⟩:=exq (wo)
    subst hw0
    obtain⟨wo,hwo⟩:=exq (wr)
    subst hwo
    obtain⟨j,hj,rfl,hI⟩:=hrel
    have HI:=hid hI
    have hls:=HLEN.out j
    have hpl:=HPL.out j
    have hbb:=HBB.out j hj
    have hsucc:=zIL L j
    have hend:j=W∨(rRed L j).left=[]->rRed L W=rRed L j:=by
     rintro (rfl|h)
     ·rfl
     ·have:=rRed_stop h (W-j)
      rwa [show j+(W-j)=W by omega]at this
    obtain⟨hl,hd,hp,hbw⟩:=hI
    obtain⟨s,hs⟩:=exq (rRed L j)
    rw[<- hs]at hls hpl hbb hsucc hend hl hd hp
    obtain⟨ln,hln⟩:=exq (s.left.length)
    obtain⟨dn,hdn⟩:=exq (s.done.length)
    obtain⟨la,lc,rfl⟩:∃la lc,u4=.slice la ln lc:=by
     obtain⟨_,ho1,_⟩:=hl
     obtain⟨a',c',e⟩:=zAD ho1
     exact⟨a',c',by rw[e,hln]⟩
    obtain⟨da,dc,rfl⟩:∃la lc,u5=.slice la dn lc:=by
     obtain⟨_,ho1,_⟩:=hd
     obtain⟨a',c',e⟩:=zAD ho1
     exact⟨a',c',by rw[e,hdn]⟩
    obtain⟨pa,pc,rfl⟩:∃la lc,u8=.slice la dn lc:=by
     obtain⟨a',c',e⟩:=zAD hp
     exact⟨a',c',by rw[e,hpl,hdn]⟩
    have HS:=hid hs
    have HEND:=hid hend
    have HSUCC:=hid hsucc
    have HBBS:=hid hbb
    have HPLS:=hid hpl
    have HL:=hid hl
    have HD:=hid hd
    have HP:=hid hp
    have HBW:=hid hbw
    have HLN:=hid hln
    have HDN:=hid hdn
    have hln6:ln<=1000:=by omega
    have hdn6:dn<=1000:=by omega
    clear hs hend hsucc hbb hpl hl hd hp hbw hls
    by_cases h0:ln=0
    ·subst h0
     have he:rRed L W=s:=HEND.out (.inr (List.length_eq_zero_iff.1 hln.symm))
     have HE:=hid he
     clear he hln hdn
     go_wp2
     go_ret2
     exact⟨_,_,rfl,by rw[HE.out];exact HD.out.tab,by rw[HE.out];exact HP.out,HBW.out⟩
    ·have hz:(0:Int)<(ln:Int):=by omega
     obtain⟨g0,lcap,u0,e0,hg0,hg0s,_,hc0,hr0,_,_⟩:=HL.out.at hln.symm (i:=0) (by omega)
     cases e0
     have hw0:=(HBBS.out (s.left[0]?.getD []) (by
      rw[List.getElem?_eq_getElem (by omega)];exact List.mem_append_right _ (List.getElem_mem _))).1
     obtain⟨ra0,rc0,hu0⟩:=hr0.row.slice
     rw[hw0]at hu0
     subst hu0
     clear hw0 hr0 hln hdn
     by_cases hjW:j=W
     ·subst hjW
      have he:=HEND.out (.inl rfl)
      have HE:=hid he
      clear he
      go_wp2
      go_ret2
      exact⟨_,_,rfl,by rw[HE.out];exact HD.out.tab,by rw[HE.out];exact HP.out,HBW.out⟩
     ·have hjlt:j<W:=by omega
      have hji:(j:Int)<(W:Int):=by omega
      have hat:∀k,k<ln->∃g c x,wo.cell? ⟨g0,k,none⟩=some (.slice (some ⟨g,0,none⟩) W c)∧zBQ wo g (s.left[k]?.getD [])∧wo.cell? ⟨g,j,none⟩=some (.int .i64 x)∧x=vec (s.left[k]?.getD []) j∧(s.left[k]?.getD []).length=W∧
       RowN (Value.slice pa dn pc).ownBlock wo (.slice (some ⟨g,0,none⟩) W c) (s.left[k]?.getD [])∧zLE (nz j) (s.left.take (k+1))=if x=0 then zLE (nz j) (s.left.take k)else(k:Int):=by
       intro k hk
       obtain⟨g1,c1,u,e1,_,_,_,hc,hr,_,_⟩:=HL.out.at HLN.out.symm hk
       cases e1
       have hkl:k<s.left.length:=by rw[<- HLN.out];exact hk
       have hlw:=(HBBS.out (s.left[k]?.getD []) (by rw[List.getElem?_eq_getElem hkl];exact List.mem_append_right _ (List.getElem_mem _))).1
       have hsp:∃g c,u=.slice (some ⟨g,0,none⟩) W c∧zBQ wo g (s.left[k]?.getD []):=by
        rcases hr with⟨g,c,e,hs,_⟩|⟨e,_⟩
        ·rw[hlw]at e;exact⟨g,c,e,hs⟩
        ·rw[e]at hlw;simp at hlw;omega
       obtain⟨g,c,rfl,hsp⟩:=hsp
       refine⟨g,c,_,hc,hsp,hsp.cell (by omega),rfl,hlw,hr,?_⟩
       rw[lastI_take _ hkl]
       have:s.left[k]?.getD []=s.left[k]:=by rw[List.getElem?_eq_getElem hkl];rfl
       rw[this]
       unfold nz
       by_cases hx:vec s.left[k] j=0
       ·rw[if_neg (by simpa using hx)]
        exact(if_pos hx).symm
       ·rw[if_pos (by simpa using hx)]
        exact(if_neg hx).symm
      have HAT:=hid hat
      clear hat
      go_wp2
      go_loopw [10,46] (fun z i wr=>∃k:Nat,k<=ln∧i=.int .i64 k∧z=.int .i64 (zLE (nz j) (s.left.take k))∧wr=wo) (fun _ i _=>ln-(intOf i).toNat)
      case atStart=>exact⟨0,Nat.zero_le _,rfl,rfl,rfl⟩
      case round=>
       obtain⟨k,hk,rfl,rfl,rfl⟩:=hrel
       by_cases hkl:k<ln
       ·obtain⟨g,c,x,hc1,_,hc2,_,_,_,hla⟩:=HAT.out k hkl
        have HLA:=hid hla
        clear hla
        have hki:(k:Int)<(ln:Int):=by omega
        by_cases hx:x=0
        ·subst hx
         go_wp2
         exact⟨⟨k+1,by omega,by go_num,by rw[HLA.out];rfl,by first|trivial|rfl⟩,by simp[intOf];omega⟩
        ·go_wp2
         exact⟨⟨k+1,by omega,by go_num,by rw[HLA.out,if_neg hx],by first|trivial|rfl⟩,by simp[intOf];omega⟩
       ·obtain rfl:ln=k:=by omega
        have htake:s.left.take ln=s.left:=List.take_of_length_le (by rw[<- HLN.out];exact Nat.le_refl _)
        rw[htake]
        clear htake hkl
        cases hla:zEV (nz j) s.left with
        |none=>
         have hz1:zLE (nz j) s.left= -1:=by unfold zLE;rw[hla]
         have hst:=rStep_none hla
         rw[hz1]
         have HST:=hid hst
         clear hla hz1 hst
         go_wp2
         refine⟨⟨j+1,by omega,by go_num,?_⟩,by simp[intOf];omega⟩
         unfold RedI
         rw[HSUCC.out,HST.out]
         exact⟨HL.out,HD.out,HP.out,HBW.out⟩
        |some q=>
         have hz1:zLE (nz j) s.left=(q:Int):=by unfold zLE;rw[hla]
         have hst:=rStep_some hla
         obtain⟨hq1,hq2⟩:=zGD hla
         rw[<- HLN.out]at hq1
         rw[hz1]
         obtain⟨g,c,x,hc1,hsp,hc2,hxv,hlw,hrn,_⟩:=HAT.out q hq1
         have hbr:=(HBBS.out (s.left[q]?.getD []) (by rw[List.getElem?_eq_getElem (by rw[<- HLN.out];exact hq1)];exact List.mem_append_right _ (List.getElem_mem _))).2
         obtain⟨r,hr⟩:=exq (s.left[q]?.getD [])
         rw[<- hr]at hst hsp hxv hlw hrn hbr
         have hbp:=posF_bnd hbr j
         have hlp:(posF r j).length=W:=by rw[zIQ];exact hlw
         have HSC:=hid (r3scaled_c wr (some ⟨g,0,none⟩) W c r hlw hW hsp.ints (fun y hy=>by have:=hbr y hy;omega))
         have hpf1:x<0->posF r j=negF r:=fun h=>by unfold posF;rw[if_pos (by rw[<- hxv];exact h)]
         have hpf2:¬x<0->posF r j=r:=fun h=>by unfold posF;rw[if_neg (by rw[<- hxv];exact h)]
         obtain⟨P,hP⟩:=exq (posF r j)
         rw[<- hP]at hst hbp hlp hpf1 hpf2
         have hpn:∀k,(Value.slice pa dn pc).ownBlock=some k->k<wr.heap.size:=fun k hk=>by
          obtain⟨_,c,hc⟩:=zBH HP.out hk
          exact(Array.getElem?_eq_some_iff.1 hc).1
         have hnl:(negF r).length=W:=by unfold negF;rw[List.length_map];exact hlw
         have HST:=hid hst
         have HRN:=hid hrn
         have HBP:=hid hbp
         have HLP:=hid hlp
         have HPF1:=hid hpf1
         have HPF2:=hid hpf2
         have HPN:=hid hpn
         have HNL:=hid hnl
         have hqi:(q:Int)<(ln:Int):=by omega
         clear hla hz1 hst hq2 hsp hxv hlw hrn hbr hr hbp hlp hpf1 hpf2 hP hpn hnl
         go_upto_if 68 with fail
         go_cut [13]from 31 to 112 (fun v wx=>RowN (Value.slice pa dn pc).ownBlock wx v P∧Below wr.heap.size wr wx)
         case first=>
          by_cases hx0:x<0
          ·have HE:=hid (HPF1.out hx0)
           go_wp2_with (go_at_call 185;refine HSC.out.mono ?_;rintro e w3 ⟨v3,rfl,ho3,hb3⟩)
           go_meet
           case rel=>
            refine⟨?_,hb3⟩
            rw[HE.out]
            exact zLJ ho3 HNL.out HPN.out
          ·have HE:=hid (HPF2.out hx0)
           go_wp2
           go_meet
           case rel=>
            refine⟨?_,Below.refl _ _⟩
            rw[HE.out]
            exact HRN.out
         case rest=>
          obtain⟨hq,hbc⟩:=hcut
          obtain⟨gp,cp,e,hsp⟩:=hq.form (by rw[HLP.out];omega)
          rw[HLP.out]at e
          subst e
          have hS:=RedS.start (w:=w) (wr:=wc) (L:=L) (j:=j) (l:=.slice (some ⟨g0,0,none⟩) ln lc) (d:=.slice da dn dc) (p:=.slice pa dn pc) ⟨by rw[<- HS.out];exact HL.out.below hbc,by rw[<- HS.out];exact HD.out.below hbc,by rw[<- HS.out];exact zBI HP.out hbc,zAA HBW.out hbc⟩ hq
          rw[<- HS.out]at hS
          have HS0:=hid hS
          have HBC:=hid hbc
          clear hS hsp hq hbc
          obtain⟨wo,hwo⟩:=exq (wr)
          subst hwo
          obtain⟨f,hf⟩:=exq (zBF P j)
          have HF:=hid (fun(r:List Int)=>show f r=zBF P j r by rw[hf])
          have hst2:=HST.out
          rw[<- hf]at hst2
          have HST2:=hid hst2
          have hjn:j<W:=hjlt
          clear hf hst2 HST HSC HPF1 HPF2 hc1 hc2
          go_wp2
          go_loopw [14,73] (fun v i wz=>∃k:Nat,k<=ln∧i=.int .i64 k∧RedS w wc.heap.size wz (.slice (some ⟨g0,0,none⟩) ln lc) (.slice da dn dc) v (.slice (some ⟨gp,0,none⟩) W cp) (.slice pa dn pc) s.left s.done (zII f s.left q k) P s.piv∧Below wc.heap.size wc wz) (fun _ i _=>ln-(intOf i).toNat)
          case atStart=>exact⟨0,Nat.zero_le _,rfl,by rw[restT_zero];exact HS0.out,Below.refl _ _⟩
          case round=>
           obtain⟨k,hk,rfl,hS,hbz⟩:=hrel
           by_cases hkl:k<ln
           ·obtain⟨gk,ck,xk,hk1,hk2,_,_,hkw,_,_⟩:=HAT.out k hkl
            have hks:k<s.left.length:=by rw[<- HLN.out];exact hkl
            have hcell:wr.cell? ⟨g0,k,none⟩=some (.slice (some ⟨gk,0,none⟩) W ck):=((zAA HBC.out hbz).cell (p:=⟨g0,k,none⟩) hg0s).trans hk1
            have hgk:s.left[k]?.getD []=s.left[k]:=by rw[List.getElem?_eq_getElem hks];rfl
            by_cases hkq:k=q
            ·subst hkq
             have hre:=restT_eq (f:=f) hks
             have HRE:=hid hre
             have HSS:=hid hS
             have HBZ:=hid hbz
             clear hre hS hbz hgk hks hk1 hk2 hkw
             go_wp2
             exact⟨⟨k+1,by omega,by go_num,by rw[HRE.out];exact HSS.out,HBZ.out⟩,by simp[intOf];omega⟩
            ·have hne:¬(k:Int)=(q:Int):=by omega
             have hkb:=(HBBS.out s.left[k] (List.mem_append_right _ (List.getElem_mem _))).2
             have hrow:zAI wr (some ⟨gk,0,none⟩) s.left[k]:=by rw[<- hgk];exact hk2.ints.below (zAA HBC.out hbz)
             have hpp:zAI wr (some ⟨gp,0,none⟩) P:=(hS.hq.sp (by rw[HLP.out];omega)).ints
             rw[hgk]at hkw
             have HWO:=hid (zMI wr (some ⟨gk,0,none⟩) (some ⟨gp,0,none⟩) W ck cp s.left[k] P hkw HLP.out hW hrow hpp hkb HBP.out j hjlt)
             have hre:=restT_ne (f:=f) hks hkq
             have hXl:(zBF P j s.left[k]).length=W:=by rw[zGK (by rw[hkw,HLP.out])];exact hkw
             rw[HF.out s.left[k]]at hre
             obtain⟨X,hX⟩:=exq (zBF P j s.left[k])
             rw[<- hX]at HWO hre hXl
             have hrl:=restT_len f s.left q k
             obtain⟨R,hR⟩:=exq (zII f s.left q k)
             rw[<- hR]at hre hrl hS
             obtain⟨rn,hrn⟩:=exq (R.length)
             obtain⟨va,vc,rfl⟩:∃va vc,u14=.slice va rn vc:=by
              obtain⟨_,ho1,_⟩:=hS.hr
              obtain⟨a',c',e⟩:=zAD ho1
              exact⟨a',c',by rw[e,hrn]⟩
             have hrn6:rn<=1000:=by omega
             have HRNL:=hid hrn
             have HRE:=hid hre
             have HXL:=hid hXl
             have HSS:=hid hS
             have HBZ:=hid hbz
             clear hre hS hbz hgk hks hk1 hk2 hkw hX hR hrn hXl hrow hpp hkb hrl
             go_wp2_with (go_at_call 251;refine HWO.out.mono ?_;rintro e w4 ⟨v4,b4,rfl,hb4s,ho4,hb4⟩;refine Stop.of ?_)
             refine Stop.go ?_
             obtain⟨xa,xc,rfl⟩:=zAD ho4
             have hba:Below wr.heap.size wr (w4.alloc (.cells #[.slice xa W xc] 24)):=hb4.alloc hb4.size _
             have h4:=HSS.out.below hba
             have hu:RowN (Value.slice pa dn pc).ownBlock (w4.alloc (.cells #[.slice xa W xc] 24)) (.slice xa W xc) X:=(zLJ ho4 HXL.out (fun k' hk'=>by have:=h4.pR k' hk';have:=HSS.out.hR;omega)).keep (zNL.below ((Below.refl _ _).alloc (Nat.le_refl _) _))
             obtain⟨vs,hv1,hv2⟩:=h4.hr
             have hv1':=hv1
             rw[<- HRNL.out]at hv1'
             have M1:=hid (show rn+1<=maxLen by unfold maxLen;omega)
             have M2:=hid (show(rn+1)*24<=140737488355328 by omega)
             have M3:=hid h4.hR
             have H4:=hid h4
             have HV1:=hid hv1
             have HV1':=hid hv1'
             have HV2:=hid hv2
             have HU:=hid hu
             have HBA:=hid (zAA HBZ.out hba)
             clear h4 hv1 hv1' hv2 hu hba ho4 hb4 hb4s
             go_wp2_with (at_builtin;refine zAQ _ rfl (.tmp 81) (.tmp 86) 22 rfl wc.heap.size 24 (.slice none 0 0) 1 24 Tryz.underlying22 zKD rfl Nat.one_pos (.slice va rn vc) rn vs rfl HV1'.out (some ⟨w4.heap.size,0,none⟩) 1 1 [.slice xa W xc] rfl rfl zCD (zBT w4 _ _) (zCT _ _ _) M1.out M2.out M3.out ?_;refine Stop.of ?_)
             refine Stop.go ?_
             intro a5 c5 w5 own5 g5
             have h5:=H4.out.push HV1.out HV2.out HU.out g5 (r':=.slice a5 (rn+1) c5) (by rw[<- HRNL.out];exact own5)
             rw[<- HRE.out]at h5
             have hb5:Below wc.heap.size wc w5:=HBA.out.grown g5 M3.out fun k' hk'=>(zBH HV1'.out hk').1
             go_wp2
             exact⟨⟨k+1,by omega,by go_num,h5,hb5⟩,by simp[intOf];omega⟩
           ·obtain rfl:ln=k:=by omega
            have hall:=restT_all (f:=f) (a:=q) HLN.out.symm
            rw[hall]at hS
            have hS2:=hS.drop
            have HS2:=hid hS2
            clear hS hS2 hall hbz hkl hk
            obtain⟨wq,hwq⟩:=exq (wr)
            subst hwq
            go_wp2
            go_loopw [91] (fun i wz=>∃k:Nat,k<=dn∧i=.int .i64 k∧RedS w wc.heap.size wz (.slice none 0 0) (.slice da dn dc) u14 (.slice (some ⟨gp,0,none⟩) W cp) (.slice pa dn pc) [] (zLF f s.done k) ((s.left.eraseIdx q).map f) P s.piv) (fun i _=>dn-(intOf i).toNat)
            case atStart=>exact⟨0,Nat.zero_le _,rfl,by rw[doneT_zero];exact HS2.out⟩
            case round=>
             obtain⟨k,hk,rfl,hS⟩:=hrel
             by_cases hkl:k<dn
             ·have hks:k<s.done.length:=by rw[<- HDN.out];exact hkl
              obtain⟨gd,cd,ud,ed,_,_,_,hcd,hrd,_,_⟩:=hS.hd.at (by rw[doneT_len];exact HDN.out.symm) hkl
              cases ed
              rw[doneT_at hks]at hrd
              have hkw:=HBBS.out s.done[k] (List.mem_append_left _ (List.getElem_mem _))
              obtain⟨gk,ck,ek,hsk⟩:=hrd.form (by rw[hkw.1];omega)
              rw[hkw.1]at ek
              subst ek
              have hpp:zAI wr (some ⟨gp,0,none⟩) P:=(hS.hq.sp (by rw[HLP.out];omega)).ints
              have HWO:=hid (zMI wr (some ⟨gk,0,none⟩) (some ⟨gp,0,none⟩) W ck cp s.done[k] P hkw.1 HLP.out hW hsk.ints hpp hkw.2 HBP.out j hjlt)
              have hre:=doneT_succ (f:=f) hks
              have hXl:(zBF P j s.done[k]).length=W:=by rw[zGK (by rw[hkw.1,HLP.out])];exact hkw.1
              rw[HF.out s.done[k]]at hre
              obtain⟨X,hX⟩:=exq (zBF P j s.done[k])
              rw[<- hX]at HWO hre hXl
              have hki:(k:Int)<(dn:Int):=by omega
              have HRE:=hid hre
              have HXL:=hid hXl
              have HSS:=hid hS
              clear hre hS hks hkw hX hXl hpp hrd hsk
              go_wp2_with (go_at_call 251;refine HWO.out.mono ?_;rintro e w4 ⟨v4,b4,rfl,hb4s,ho4,hb4⟩;refine Stop.of ?_)
              refine Stop.go ?_
              obtain⟨xa,xc,rfl⟩:=zAD ho4
              have h4:=HSS.out.below hb4
              have hu:RowN (Value.slice pa dn pc).ownBlock w4 (.slice xa W xc) X:=zLJ ho4 HXL.out (fun k' hk'=>by have:=h4.pR k' hk';have:=HSS.out.hR;omega)
              obtain⟨g6,c6,v6,e6,hc6,hf6,h6⟩:=h4.store (by rw[doneT_len];exact HDN.out.symm) hkl hu
              cases e6
              rw[<- HRE.out]at h6
              have H6:=hid h6
              clear h6 h4 hu ho4 hb4 hb4s hcd
              go_wp2
              exact⟨⟨k+1,by omega,by go_num,H6.out⟩,by simp[intOf];omega⟩
             ·obtain rfl:dn=k:=by omega
              have hall:=doneT_all (f:=f) HDN.out.symm
              rw[hall]at hS
              obtain⟨D,hD⟩:=exq (s.done.map f)
              have hDl:D.length=dn:=by rw[hD,List.length_map];exact HDN.out.symm
              have hst3:=HST2.out
              rw[<- hD]at hst3 hS
              have h4:=hS.below ((Below.refl _ wr).alloc (Nat.le_refl _) (.cells #[.slice (some ⟨gp,0,none⟩) W cp] 24))
              obtain⟨vs,hv1,hv2⟩:=h4.hd
              have hv1':=hv1
              rw[hDl]at hv1'
              have hpl:=HPLS.out
              rw[<- HDN.out]at hpl
              have HPL2:=hid hpl
              have M1:=hid (show dn+1<=maxLen by unfold maxLen;omega)
              have M2:=hid (show(dn+1)*24<=140737488355328 by omega)
              have M2':=hid (show(dn+1)*8<=140737488355328 by omega)
              have M3:=hid (Nat.le_trans h4.hw h4.hR)
              have H4:=hid h4
              have HV1:=hid hv1
              have HV1':=hid hv1'
              have HV2:=hid hv2
              have HDL:=hid hDl
              have HST3:=hid hst3
              clear h4 hv1 hv1' hv2 hDl hst3 hD hall hS hpl hk hkl
              go_wp2_with (at_builtin;refine zAQ _ rfl (.tmp 105) (.tmp 107) 22 rfl w.heap.size 24 (.slice none 0 0) 1 24 Tryz.underlying22 zKD rfl Nat.one_pos (.slice da dn dc) dn vs rfl HV1'.out (some ⟨wr.heap.size,0,none⟩) 1 1 [.slice (some ⟨gp,0,none⟩) W cp] rfl rfl zCD (zBT wr _ _) (zCT _ _ _) M1.out M2.out M3.out ?_;refine Stop.of ?_)
              refine Stop.go ?_
              intro a5 c5 w5 own5 g5
              obtain⟨e1,e2,e3,e4⟩:=H4.out.onto HV1.out HV2.out g5 (d':=.slice a5 (dn+1) c5) (by rw[HDL.out];exact own5)
              have hal:Below w5.heap.size w5 (w5.alloc (.cells #[.int .i64 j] 3)):=(Below.refl _ _).alloc (Nat.le_refl _) _
              have E1:=hid (e1.below hal)
              have E2:=hid (e2.below hal)
              have E3:=hid (zBI e3 hal)
              have E4:=hid (zAA e4 hal)
              have e3':=E3.out
              rw[HPL2.out]at e3'
              have E3':=hid e3'
              have M4:=hid E4.out.size
              clear e1 e2 e3 e4 e3' hal own5 g5
              go_wp2_with (at_builtin;refine zIA _ rfl (.tmp 109) (.tmp 111) 24 rfl w.heap.size 3 (.int .i64 0) 1 8 Tryz.underlying24 zEF rfl Nat.one_pos (.slice pa dn pc) dn _ rfl E3'.out ⟨w5.heap.size,0,none⟩ 1 1 [.int .i64 j] rfl rfl (zBT w5 _ _ _ rfl) (zEE _) M1.out M2'.out M4.out ?_;refine Stop.of ?_)
              refine Stop.go ?_
              intro a6 c6 w6 own6 g6 hat6
              have hfin:=red_end E1.out E2.out E3.out E4.out g6 (by rw[World.size_alloc];exact hat6) (by rw[HPL2.out];exact own6)
              have HFIN:=hid hfin
              clear hfin own6 g6 hat6
              go_wp2
              refine⟨⟨j+1,by omega,by go_num,?_⟩,by simp[intOf];omega⟩
              unfold RedI
              rw[HSUCC.out,HST3.out]
              exact HFIN.out
end
section
theorem zLK{C:List (List Int)}{n:Nat}(h:∀r∈C,r.length=n)(t:Nat):(rRed C t).done.length+(rRed C t).left.length=C.length∧(rRed C t).piv.length=(rRed C t).done.length:=
 ⟨rRed_len C h t,(zEI C h t).2.symm⟩
end
end Go.Proofs.YtlffndehhhpgjaaGreat
