/- Walks and plain laws for DualBrightRow, part 2. -/
import Derived.Test.YtlffndehhhpgjaaGreatRows
import Derived.WalkKit
import Derived.BigQuiet
import Derived.Deep.QuietTactic
import Derived.Shelf.Abstract
import Derived.Deep.OwnRows
import Derived.RangeFuncNested
import Derived.RangeFuncBound
import Derived.RangeFuncCalls
import Derived.RangeFuncLeaves
import Derived.Shelf.RegionOpen
import Derived.OwnWalkIn
import Derived.TacticsInMore
import Derived.LoopNIn
import Derived.LoopIn
import Derived.Test.YtlffndehhhpgjaaGreatPkDualBrightRow1
namespace Go.Proofs.YtlffndehhhpgjaaGreat
set_option linter.unusedVariables false
set_option linter.unusedSimpArgs false
set_option maxRecDepth 100000
set_option maxHeartbeats 4000000
open _root_.List renaming getElem?_eq_getElem → yAA, getElem_mem → yAH, take_succ_eq_append_getElem → yAI, take_of_length_le → yAL, mem_iff_getElem → yAM, length_append → yAN, getElem?_append_left → yAO, getElem?_append_right → yAQ, length_map → yAS, getElem?_map → yAZ, length_cons → yBB, append_nil → yBC, map_append → yBF, getElem_cons_zero → yBG, pairwise_iff_getElem → yBI, mem_map → yBJ, getElem_append_right → yBL, mem_of_getElem? → yBM, getElem_append_left → yBO, mem_cons → yBP, range_succ → yBQ, getElem?_eq_some_iff → yBX, append_assoc → yBZ, mem_range → yCH, getElem?_set_ne → yCI, getElem?_take_of_lt → yCN, foldl_append → yCO, pairwise_cons → yCQ, foldl_nil → yCR, filterMap_append → yCS, mem_append → yCU, take_append_drop → yCY, set_append_right → yCZ, foldl_cons → yDC, flatMap_append → yDD, length_drop → yDF, getElem?_set_self → yDK, nil_append → yDL, mem_filter → yDM, any_eq_true → yDO, getElem?_replicate → yDV, replicate_succ → yEE, eq_nil_of_length_eq_zero → yEN, nodup_cons → yET, length_pos_iff → yEU, length_set → yFE, getElem_drop → yFF, mem_filterMap → yFM, contains_iff_mem → yFP, map_cons → yFS, flatMap_cons → yFU, getElem_zipWith → yGB, mem_drop_iff_getElem → yGD, prefix_refl → yGF, replicate_zero → yGI
open _root_.Nat renaming le_refl → yAC, le_trans → yAF, lt_of_lt_of_le → yAJ, zero_le → yAK, lt_or_ge → yAP, mul_le_mul → yAV, zero_add → yAW, eq_zero_or_pos → yBR, sub_self → yCF, le_mul_of_pos_left → yEB, lt_trichotomy → yFQ
open _root_.Int renaming natAbs_mul → yAR, eq_of_mul_eq_mul_left → yBE, mul_comm → yBV, mul_ne_zero → yCE, mul_eq_zero → yDW, le_of_dvd → yFV, eq_of_mul_eq_mul_right → yGA
open _root_.Array renaming getElem?_eq_some_iff → yAB, getElem?_eq_getElem → yDN, toList_inj → yEO, getElem_modify_self → yGE
open _root_.Option renaming getD_some → yBA, map_some → yFD
section
def upF(a:Int):Nat->List Int
 |0=>[]
 |m+1=>a::upF (a+1) m
theorem zGJ:∀(m:Nat) (a:Int),(upF a m).length=m
 |0,_=>rfl
 |m+1,a=>by simp[upF,zGJ m]
def comb:Nat->Nat->Int->List (List Int)
 |_,0,_=>[[]]
 |0,_+1,_=>[]
 |m+1,k+1,a=>(comb m k (a+1)).map (a:: ·)++comb m (k+1) (a+1)
def zIT(n:Int):List Int->Option (List Int)
 | []=>none
 |a::r=>match zIT n r with
  |some s=>some (a::s)
  |none=>if a+r.length+1<n then some (upF (a+1) (r.length+1))else none
theorem zFL:∀(m k:Nat) (a:Int),m<k->comb m k a=[]
 |0,k+1,a,_=>rfl
 |m+1,k+1,a,h=>by simp[comb,zFL m k (a+1) (by omega),zFL m (k+1) (a+1) (by omega)]
theorem zOH:∀(m k:Nat) (a:Int),k<=m->∃t,comb m k a=upF a k::t
 |m,0,a,_=>by cases m<;>exact⟨[],rfl⟩
 |m+1,k+1,a,h=>by
  obtain⟨t,ht⟩:=zOH m k (a+1) (by omega)
  exact⟨t.map (a:: ·)++comb m (k+1) (a+1),by simp[comb,ht,upF]⟩
theorem zCG:∀(m k:Nat) (a:Int),∀x∈comb m k a,x.length=k
 |m,0,a,x,h=>by cases m<;>(simp[comb]at h;simp[h])
 |0,k+1,a,x,h=>by simp[comb]at h
 |m+1,k+1,a,x,h=>by
  simp only[comb,yCU,yBJ]at h
  rcases h with⟨y,hy,rfl⟩|h
  ·simp[zCG m k (a+1) y hy]
  ·exact zCG m (k+1) (a+1) x h
theorem zJX:∀(m k:Nat) (a:Int),∀x∈comb m k a,x.Pairwise (· < ·)∧∀y∈x,a<=y∧y<a+m
 |m,0,a,x,h=>by cases m<;>(simp[comb]at h;simp[h])
 |0,k+1,a,x,h=>by simp[comb]at h
 |m+1,k+1,a,x,h=>by
  simp only[comb,yCU,yBJ]at h
  rcases h with⟨y,hy,rfl⟩|h
  ·obtain⟨h1,h2⟩:=zJX m k (a+1) y hy
   refine⟨yCQ.2 ⟨fun z hz=>by have:=h2 z hz;omega,h1⟩,fun z hz=>?_⟩
   rcases yBP.1 hz with rfl|hz
   ·omega
   ·have:=h2 z hz;omega
  ·obtain⟨h1,h2⟩:=zJX m (k+1) (a+1) x h
   exact⟨h1,fun z hz=>by have:=h2 z hz;omega⟩
theorem zJW:∀(m:Nat) (a:Int) (x:List Int),x.Pairwise (· < ·)->(∀y∈x,a<=y∧y<a+m)->x∈comb m x.length a
 |m,a,[],_,_=>by cases m<;>simp[comb]
 |0,a,y::x,_,h=>by have:=h y (by simp);omega
 |m+1,a,y::x,hp,h=>by
  rw[yCQ]at hp
  simp only[yBB,comb,yCU,yBJ]
  by_cases e:y=a
  ·subst e
   exact .inl ⟨x,zJW m (y+1) x hp.2 (fun z hz=>by have:=hp.1 z hz;have:=h z (by simp[hz]);omega),rfl⟩
  ·right
   have:=h y (by simp)
   exact zJW m (a+1) (y::x) (yCQ.2 hp) (fun z hz=>by
    rcases yBP.1 hz with rfl|hz'
    ·omega
    ·have h1:=hp.1 z hz';have:=h z hz;omega)
def Chn(n:Int)(e:Option (List Int)):List (List Int)->Prop
 | []=>True
 | [x]=>zIT n x=e
 |x::y::t=>zIT n x=some y∧Chn n e (y::t)
theorem Chn.append{n:Int}{e:Option (List Int)}{y:List Int}{t:List (List Int)}:∀{l:List (List Int)},Chn n (some y) l->Chn n e (y::t)->Chn n e (l++y::t)
 | [],_,h=>h
 | [x],h,h2=>⟨h,h2⟩
 |x::z::l,h,h2=>⟨h.1,Chn.append (l:=z::l) h.2 h2⟩
theorem Chn.cons{n a:Int}{k:Nat}:∀{l:List (List Int)},(∀x∈l,x.length=k)->Chn n none l->Chn n (if a+k+1<n then some (upF (a+1) (k+1))else none) (l.map (a:: ·))
 | [],_,_=>trivial
 | [x],hl,h=>by
   show(match zIT n x with|some s=>some (a::s)|none=>if a+x.length+1<n then some (upF (a+1) (x.length+1))else none)=_
   have h':zIT n x=none:=h
   rw[h',hl x (by simp)]
 |x::y::l,hl,h=>by
  refine⟨?_,Chn.cons (l:=y::l) (fun z hz=>hl z (by simp[yBP.1 hz])) h.2⟩
  show(match zIT n x with|some s=>some (a::s)|none=>_)=_
  rw[h.1]
theorem zRO:∀(m k:Nat) (a:Int),Chn (a+m) none (comb m k a)
 |m,0,a=>by cases m<;>exact rfl
 |0,k+1,a=>trivial
 |m+1,k+1,a=>by
  have h1:=Chn.cons (n:=a+(m+1:Nat)) (a:=a) (zCG m k (a+1)) (by have:=zRO m k (a+1);rwa [show a+1+(m:Int)=a+(m+1:Nat)by omega]at this)
  have h2:=zRO m (k+1) (a+1)
  rw[show a+1+(m:Int)=a+(m+1:Nat)by omega]at h2
  show Chn _ _ ((comb m k (a+1)).map (a:: ·)++comb m (k+1) (a+1))
  by_cases h:k+1<=m
  ·obtain⟨t,ht⟩:=zOH m (k+1) (a+1) h
   rw[if_pos (by omega)]at h1
   rw[ht]at h2⊢
   exact h1.append h2
  ·rw[if_neg (by omega)]at h1
   rw[zFL m (k+1) (a+1) (by omega),yBC]
   exact h1
theorem Chn.at{n:Int}:∀{l:List (List Int)} {i:Nat} {x:List Int},Chn n none l->l[i]? =some x->l[i+1]? =zIT n x
 | [],i,x,_,h=>by simp at h
 | [y],0,x,h,hi=>by
   simp at hi;subst hi
   have h':zIT n y=none:=h
   rw[h'];rfl
 | [y],i+1,x,h,hi=>by simp at hi
 |y::z::l,0,x,h,hi=>by simp at hi;subst hi;rw[h.1];rfl
 |y::z::l,i+1,x,h,hi=>Chn.at (l:=z::l) h.2 (by simpa using hi)
theorem zRD{n:Int}:∀(m:Nat) (a:Int),a+m=n->zIT n (upF a m)=none
 |0,_,_=>rfl
 |m+1,a,h=>by
  show(match zIT n (upF (a+1) m)with|some s=>some (a::s)|none=>if a+(upF (a+1) m).length+1<n then _ else none)=_
  rw[zRD m (a+1) (by omega),zGJ]
  simp only[]
  rw[if_neg (by omega)]
theorem nextS_at{n:Int}{m:Nat}{d:Int}(hd:d+m+1<n):∀u:List Int,zIT n (u++d::upF (n-m) m)=some (u++upF (d+1) (m+1))
 | []=>by
   show(match zIT n (upF (n-m) m)with|some s=>some (d::s)|none=>if d+(upF (n-m) m).length+1<n then some (upF (d+1) ((upF (n-m) m).length+1))else none)=_
   rw[zRD m (n-m) (by omega),zGJ]
   simp only[]
   rw[if_pos hd];rfl
 |a::u=>by
  show(match zIT n (u++d::upF (n-m) m)with|some s=>some (a::s)|none=>_)=_
  rw[nextS_at hd u];rfl
def zBM(a:Int)(s:List Int):Int:=match s.getLast? with|some x=>x+1|none=>a
def extS(a n:Int)(s:List Int):List (List Int):=(upF (zBM a s) (n-zBM a s).toNat).map (fun j=>s++[j])
theorem comb_one:∀(m:Nat) (a:Int),comb m 1 a=(upF a m).map (fun j=>[j])
 |0,_=>rfl
 |m+1,a=>by
  show(comb m 0 (a+1)).map (a:: ·)++comb m 1 (a+1)=_
  have:comb m 0 (a+1)=[[]]:=by cases m<;>rfl
  rw[this,comb_one m (a+1)];rfl
theorem extS_cons{a n:Int}(s:List Int):extS a n (a::s)=(extS (a+1) n s).map (a:: ·):=by
 unfold extS
 have e:zBM a (a::s)=zBM (a+1) s:=by
  unfold zBM
  cases s with
  |nil=>rfl
  |cons b s=>
   rw[List.getLast?_cons_cons,List.getLast?_eq_some_getLast (l:=b::s) (by simp)]
 rw[e,List.map_map];rfl
theorem extS_ne{a b n:Int}{s:List Int}(h:s≠[]):extS a n s=extS b n s:=by
 unfold extS zBM
 cases hs:s.getLast? with
 |none=>exact absurd (List.getLast?_eq_none_iff.1 hs) h
 |some x=>rfl
theorem zDU{α β:Type}{f g:α->List β}:∀{l:List α},(∀x∈l,f x=g x)->l.flatMap f=l.flatMap g
 | [],_=>rfl
 |x::l,h=>by rw[yFU,yFU,h x (by simp),zDU fun y hy=>h y (by simp[hy])]
theorem zJV:∀(m k:Nat) (a:Int),comb m (k+1) a=(comb m k a).flatMap (extS a (a+m))
 |m,0,a=>by
  rw[comb_one]
  have:comb m 0 a=[[]]:=by cases m<;>rfl
  rw[this]
  simp[extS,zBM,show(a+(m:Int)-a).toNat=m by omega]
 |0,k+1,a=>rfl
 |m+1,k+1,a=>by
  show(comb m (k+1) (a+1)).map (a:: ·)++comb m (k+2) (a+1)=((comb m k (a+1)).map (a:: ·)++comb m (k+1) (a+1)).flatMap (extS a (a+(m+1:Nat)))
  have e:a+((m+1:Nat):Int)=a+1+m:=by omega
  rw[e,yDD,List.flatMap_map,zJV m (k+1) (a+1)]
  congr 1
  ·conv=>lhs;rw[zJV m k (a+1)]
   rw[List.map_flatMap]
   congr 1
   funext s
   exact(extS_cons s).symm
  ·refine zDU fun s hs=>extS_ne ?_
   intro h
   have:=zCG m (k+1) (a+1) s hs
   rw[h]at this;simp at this
def lvls(n:Nat):Nat->List (List Int)
 |0=>comb n 0 0
 |k+1=>lvls n k++comb n (k+1) 0
def allS(n:Nat):List (List Int):=lvls n n
theorem zNM(n:Nat):∀k,[[]]++(lvls n k).flatMap (extS 0 n)=lvls n (k+1)
 |0=>by
  have h:=zJV n 0 0
  rw[Int.zero_add]at h
  show [[]]++(comb n 0 0).flatMap (extS 0 n)=comb n 0 0++comb n 1 0
  rw[<- h]
  have:comb n 0 0=[[]]:=by cases n<;>rfl
  rw[this]
 |k+1=>by
  have ih:=zNM n k
  have h:=zJV n (k+1) 0
  rw[Int.zero_add]at h
  show [[]]++(lvls n k++comb n (k+1) 0).flatMap (extS 0 n)=lvls n (k+1)++comb n (k+2) 0
  rw[yDD,<- yBZ,ih,<- h]
theorem allS_flat(n:Nat):allS n=[[]]++(allS n).flatMap (extS 0 n):=by
 unfold allS
 rw[zNM]
 show _=lvls n n++comb n (n+1) 0
 rw[zFL n (n+1) 0 (by omega),yBC]
theorem zLU{α β:Type}(f:α->List β)(l:List α)(k:Nat):(l.take k).flatMap f <+: l.flatMap f:=by
 refine⟨(l.drop k).flatMap f,?_⟩
 rw[<- yDD,yCY]
def grown(n at':Nat):List (List Int):=[[]]++((allS n).take at').flatMap (extS 0 n)
theorem zFS(n at':Nat):grown n at' <+: allS n:=by
 obtain⟨t,ht⟩:=zLU (extS 0 (n:Int)) (allS n) at'
 refine⟨t,?_⟩
 conv=>rhs;rw[allS_flat,<- ht]
 unfold grown
 rw[yBZ]
theorem grown_get{n at':Nat}(h:at'<(grown n at').length):(allS n)[at']? =some (grown n at')[at']:=by
 obtain⟨t,ht⟩:=zFS n at'
 rw[<- ht,yAO h,yAA h]
theorem zPX{n at':Nat}{s:List Int}(h:(allS n)[at']? =some s):grown n (at'+1)=grown n at'++extS 0 n s:=by
 unfold grown
 obtain⟨hlt,e⟩:=yBX.1 h
 rw[yAI hlt,yDD,e]
 simp
theorem grown_done{n at':Nat}(h:(grown n at').length<=at'):grown n at'=allS n:=by
 have key:∀k,(lvls n k).length<=(grown n at').length:=by
  intro k
  induction k with
  |zero=>
   have:comb n 0 0=[[]]:=by cases n<;>rfl
   show(comb n 0 0).length<=_
   rw[this];unfold grown;simp
  |succ k ih=>
   rcases yAP n (k+1)with h1|h1
   ·show(lvls n k++comb n (k+1) 0).length<=_
    rw[zFL n (k+1) 0 h1,yBC];exact ih
   ·rw[<- zNM n k]
    -- the first levels are the beginning of all sets
    have hp:∀j,k<=j->lvls n k <+: lvls n j:=by
     intro j hj
     induction j with
     |zero=>rw[show k=0 by omega];exact yGF _
     |succ j ih2=>
      by_cases e:k=j+1
      ·subst e;exact yGF _
      ·exact(ih2 (by omega)).trans (List.prefix_append _ _)
    obtain⟨t,ht⟩:=hp n (by omega)
    have e:(allS n).take at'=lvls n k++t.take (at'-(lvls n k).length):=by
     unfold allS;rw[<- ht,List.take_append,yAL (by omega)]
    unfold grown
    rw[e,yDD,<- yBZ]
    simp only[yAN]
    omega
 have h1:=key n
 have h2:=zFS n at'
 exact h2.eq_of_length_le h1
end
section
section
theorem Sp.split{K:Nat}{W:Nat->Vec}{v:Vec}(h:Sp (RB (K+1) W) v):∃n a:Int,n≠0∧Sp (RB K W) (fun c=>n*v c+a*W K c):=by
 induction h with
 |of hb=>
  obtain⟨k,hk,rfl⟩:=hb
  by_cases e:k=K
  ·subst e;exact⟨1,-1,by decide,Sp.zero.congr fun c=>by grind⟩
  ·exact⟨1,0,by decide,(RB.sp (by omega:k<K)).congr fun c=>by grind⟩
 |zero=>exact⟨1,0,by decide,Sp.zero.congr fun c=>by simp⟩
 |add _ _ h1 h2=>
  obtain⟨n,a,hn,h1⟩:=h1
  obtain⟨m,b,hm,h2⟩:=h2
  exact⟨n*m,m*a+n*b,yCE hn hm,(Sp.lin m n h1 h2).congr fun c=>by grind⟩
 |mul x _ h1=>
  obtain⟨n,a,hn,h1⟩:=h1
  exact⟨n,x*a,hn,(Sp.mul x h1).congr fun c=>by grind⟩
 |div hx _ h1=>
  obtain⟨n,a,hn,h1⟩:=h1
  exact⟨n*_,a,yCE hn hx,h1.congr fun c=>by grind⟩
theorem Red.le:∀{K:Nat} {K':Nat} {J':Nat->Nat} {R':Nat->Vec} {W:Nat->Vec},Red K' J' R'->(∀k,k<K'->Sp (RB K W) (R' k))->K'<=K
 |0,K',J',R',W,h,hs=>by
  rcases yBR K' with e|e
  ·omega
  ·exfalso
   have:∀{v:Vec},Sp (RB 0 W) v->∀c,v c=0:=by
    intro v hv
    induction hv with
    |of hb=>obtain⟨k,hk,_⟩:=hb;omega
    |zero=>intro c;rfl
    |add _ _ h1 h2=>intro c;simp only[h1,h2];rfl
    |mul x _ h1=>intro c;simp only[h1];simp
    |div hx _ h1=>intro c;exact zAU hx (h1 c)
   exact h.piv 0 e (this (hs 0 e) _)
 |K+1,K',J',R',W,h,hs=>by
  rcases Classical.em (∀k,k<K'->Sp (RB K W) (R' k))with c|c
  ·have:=Red.le h c;omega
  ·obtain⟨k0,c⟩:=Classical.not_forall.1 c
   obtain⟨hk0,c⟩:=Classical.not_imp.1 c
   obtain⟨n,a,hn,h0⟩:=(hs k0 hk0).split
   have ha:a≠0:=fun e=>c (Sp.div hn (h0.congr fun c=>by rw[e];grind))
   obtain⟨K1,rfl⟩:∃K1,K'=K1+1:=⟨K'-1,by omega⟩
   have hch:∀k,∃m b:Int,k<K1+1->m≠0∧Sp (RB K W) (fun c=>m*R' k c+b*W K c):=by
    intro k
    by_cases hk:k<K1+1
    ·obtain⟨m,b,hm,hh⟩:=(hs k hk).split;exact⟨m,b,fun _=>⟨hm,hh⟩⟩
    ·exact⟨0,0,fun h=>absurd h hk⟩
   obtain⟨sk,hsk⟩:∃sk:Nat->Nat,sk=fun k=>if k<k0 then k else k+1:=⟨_,rfl⟩
   have sk1:∀k,k<K1->sk k<K1+1∧sk k≠k0:=by
    intro k hk;rw[hsk];simp only[]
    split<;>constructor<;>omega
   have sk2:∀k q,sk k=sk q->k=q:=by
    intro k q e;rw[hsk]at e;simp only[]at e
    split at e<;>split at e<;>omega
   have hch2:∀k,∃V:Vec,k<K1->Sp (RB K W) V∧∃x y:Int,x≠0∧∀c,V c=x*R' (sk k) c+y*R' k0 c:=by
    intro k
    by_cases hk:k<K1
    ·obtain⟨m,b,hmb⟩:=hch (sk k)
     obtain⟨hm,hh⟩:=hmb (sk1 k hk).1
     refine⟨fun c=>a*(m*R' (sk k) c+b*W K c)+(-b)*(n*R' k0 c+a*W K c),fun _=>⟨Sp.lin a (-b) hh h0,a*m,-b*n,yCE ha hm,fun c=>by grind⟩⟩
    ·exact⟨fun _=>0,fun h=>absurd h hk⟩
   have hV:=Classical.choose_spec (Classical.axiomOfChoice hch2)
   obtain⟨V,hV⟩:=Classical.axiomOfChoice hch2
   have:K1<=K:=Red.le (K:=K) (J':=fun k=>J' (sk k)) (R':=V) (W:=W) ⟨fun k hk=>by
    obtain⟨_,x,y,hx,e⟩:=hV k hk
    obtain⟨s1,s2⟩:=sk1 k hk
    rw[e,h.off k0 hk0 (sk k) s1 (Ne.symm s2)]
    have:=h.piv (sk k) s1
    intro h9
    exact this (zAU hx (by simpa using h9)),
    fun k hk q hq hne=>by
     obtain⟨_,x,y,hx,e⟩:=hV k hk
     obtain⟨s1,s2⟩:=sk1 k hk
     obtain⟨t1,t2⟩:=sk1 q hq
     rw[e,h.off k0 hk0 (sk q) t1 (Ne.symm t2),h.off (sk k) s1 (sk q) t1 (fun e=>hne (sk2 _ _ e))]
     simp⟩ (fun k hk=>(hV k hk).1)
   omega
theorem Sp.map{B B':Vec->Prop}(f:Vec->Vec)(h0:f (fun _=>0)=fun _=>0)(ha:∀u v,f (fun c=>u c+v c)=fun c=>f u c+f v c)(hm:∀(k:Int) u,f (fun c=>k*u c)=fun c=>k*f u c)
 (hB:∀v,B v->Sp B' (f v)){v:Vec}(h:Sp B v):Sp B' (f v):=by
 induction h with
 |of hb=>exact hB _ hb
 |zero=>rw[h0];exact .zero
 |add _ _ h1 h2=>rw[ha];exact .add h1 h2
 |mul k _ h1=>rw[hm];exact .mul k h1
 |div hk _ h1=>rw[hm]at h1;exact .div hk h1
def zAO(M:List (List Int))(S:List Int):List (List Int):=M.map (fun r=>S.map (fun j=>vec r j.toNat))
def zGE(S:List Int)(v:Vec):Vec:=fun c=>match S[c]? with|some j=>v j.toNat|none=>0
theorem colsF_vec(r:List Int)(S:List Int):vec (S.map (fun j=>vec r j.toNat))=zGE S (vec r):=by
 funext c
 unfold zGE
 show((S.map (fun j=>vec r j.toNat))[c]?).getD 0=_
 rw[yAZ]
 cases S[c]? <;>rfl
theorem zIE(M:List (List Int))(S:List Int)(q:Nat):rowv (zAO M S) q=zGE S (rowv M q):=by
 unfold rowv zAO
 rw[yAZ]
 cases M[q]? with
 |none=>funext c;unfold zGE;cases S[c]? <;>simp[vec]
 |some r=>simp only[yFD,yBA];exact colsF_vec r S
theorem zBA(M:List (List Int))(S:List Int):(zAO M S).length=M.length:=by simp[zAO]
theorem colsF_wid(M:List (List Int))(S:List Int):∀r∈zAO M S,r.length=S.length:=by
 intro r hr
 obtain⟨r',_,rfl⟩:=yBJ.1 hr
 simp
theorem colsF_le{M:List (List Int)}(h:∀r∈M,∀c,-1<=vec r c∧vec r c<=1)(S:List Int):∀r∈zAO M S,∀c,-1<=vec r c∧vec r c<=1:=by
 intro r hr c
 obtain⟨r',hr',rfl⟩:=yBJ.1 hr
 rw[colsF_vec]
 unfold zGE
 split
 ·exact h r' hr' _
 ·decide
structure MaskOk (M:List (List Int)) (n:Nat):Prop where
 wid:∀r∈M,r.length=n
 le6:M.length<=6
 one:∀r∈M,∀c,-1<=vec r c∧vec r c<=1
theorem MaskOk.cols{M:List (List Int)}{n:Nat}(h:MaskOk M n)(S:List Int):MaskOk (zAO M S) S.length:=
 ⟨colsF_wid M S,by rw[zBA];exact h.le6,colsF_le h.one S⟩
theorem MaskOk.inv{M:List (List Int)}{n:Nat}(h:MaskOk M n)(t:Nat):RInv n M.length (rowv M) t (pRed M t).1 (pRed M t).2:=
 zCO M h.wid t (fun j _ q=>zCF (by decide) (fun r hr=>h.one r hr j) q)
theorem MaskOk.below{M:List (List Int)}{n:Nat}(h:MaskOk M n){q:Nat}(h1:(pRed M n).2.length<=q)(h2:q<M.length)(c:Nat):rowv (pRed M n).1 q c=0:=by
 rcases yAP c n with hc|hc
 ·exact(h.inv n).zero q h1 h2 c hc
 ·exact zHV (h.inv n).wid q hc
def zDE(M:List (List Int))(n:Nat):Nat:=(pRed M n).2.length
theorem MaskOk.cols_rank{M:List (List Int)}{n:Nat}(h:MaskOk M n)(S:List Int):zDE (zAO M S) S.length<=zDE M n:=by
 have hc:=h.cols S
 have hi:=hc.inv S.length
 refine Red.le (W:=fun k=>zGE S (rowv (pRed M n).1 k)) hi.ech.red fun k hk=>?_
 have h1:=(hi.span (fun q h1 h2 c=>hc.below h1 (by rw[zBA]at h2⊢;exact h2) c)).1 (RB.sp hk)
 refine h1.trans ?_
 rintro v ⟨q,hq,rfl⟩
 rw[zBA]at hq
 rw[zIE]
 refine Sp.map (zGE S) ?_ ?_ ?_ ?_ (((h.inv n).span (fun q h1 h2 c=>h.below h1 h2 c)).2 (RB.sp hq))
 ·funext c;unfold zGE;split<;>rfl
 ·intro u v;funext c;unfold zGE;split<;>simp
 ·intro k u;funext c;unfold zGE;split<;>simp
 ·rintro v ⟨k,hk,rfl⟩;exact .of ⟨k,hk,rfl⟩
theorem free_len{J:List Nat}{n:Nat}(hn:J.Nodup)(hl:∀x∈J,x<n):(zFW J n).length+J.length=n:=by
 have h1:((List.range n).filter (fun f=>J.contains f)).length=J.length:=by
  refine(List.Perm.length_eq ?_)
  refine(List.perm_ext_iff_of_nodup ?_ hn).2 fun x=>?_
  ·exact List.Pairwise.filter _ List.nodup_range
  ·simp only[yDM,yCH,yFP]
   exact⟨fun h=>h.2,fun h=>⟨hl x h,h⟩⟩
 have h2:=List.length_eq_countP_add_countP (fun f=>J.contains f) (l:=List.range n)
 rw[List.countP_eq_length_filter,List.countP_eq_length_filter,List.length_range,h1]at h2
 have e:(fun f=>decide ¬(J.contains f)=true)=fun f=>!J.contains f:=by funext f;cases J.contains f<;>rfl
 rw[e]at h2
 unfold zFW
 omega
end
section
def zAK(n:Nat)(S l:List Int)(k:Nat):List Int:=(List.range k).foldl (fun h i=>h.set (S[i]?.getD 0).toNat (l[i]?.getD 0)) (List.replicate n 0)
theorem zCW(n:Nat)(S l:List Int)(k:Nat):zAK n S l (k+1)=(zAK n S l k).set (S[k]?.getD 0).toNat (l[k]?.getD 0):=by
 unfold zAK;rw[yBQ,yCO];rfl
theorem zCJ(n:Nat)(S l:List Int):∀k,(zAK n S l k).length=n
 |0=>by simp[zAK]
 |k+1=>by rw[zCW,yFE];exact zCJ n S l k
theorem zQL{h:List Int}{c i:Nat}{x:Int}(hc:c<h.length):vec (h.set c x) i=if i=c then x else vec h i:=by
 unfold vec
 by_cases e:i=c
 ·subst e;rw[if_pos rfl,yDK hc];rfl
 ·rw[if_neg e,yCI (Ne.symm e)]
def zCI(n:Nat)(S:List Int):Prop:=S.Pairwise (· < ·)∧∀y∈S,0<=y∧y<(n:Int)
theorem zCI.get{n:Nat}{S:List Int}(h:zCI n S){i:Nat}(hi:i<S.length):0<=S[i]∧S[i]<n:=h.2 _ (yAH hi)
theorem zCI.inj{n:Nat}{S:List Int}(h:zCI n S){i j:Nat}(hi:i<S.length)(hj:j<S.length)(e:S[i]=S[j]):i=j:=by
 rcases yFQ i j with c|c|c
 ·have:=yBI.1 h.1 i j hi hj c;omega
 ·exact c
 ·have:=yBI.1 h.1 j i hj hi c;omega
theorem zDO{n:Nat}{S l:List Int}(h:zCI n S):∀k,k<=S.length->∀i (hi:i<S.length),i<k->vec (zAK n S l k) (S[i]).toNat=l[i]?.getD 0
 |0,_,i,_,h0=>by omega
 |k+1,hk,i,hi,hik=>by
  have hkS:k<S.length:=by omega
  have hS:S[k]?.getD 0=S[k]:=by rw[yAA hkS];rfl
  have g1:=h.get hkS
  have g2:=h.get hi
  rw[zCW,hS,zQL (by rw[zCJ];omega)]
  by_cases e:i=k
  ·subst e;rw[if_pos rfl]
  ·rw[if_neg (fun c=>e (h.inj hi hkS (by omega)))]
   exact zDO h k (by omega) i hi (by omega)
theorem zFA{n:Nat}{S l:List Int}(h:zCI n S){c:Nat}(hc:(c:Int)∉S):∀k,k<=S.length->vec (zAK n S l k) c=0
 |0,_=>by
  unfold zAK vec
  simp only[List.range_zero,yCR,yDV]
  split<;>rfl
 |k+1,hk=>by
  have hkS:k<S.length:=by omega
  have hS:S[k]?.getD 0=S[k]:=by rw[yAA hkS];rfl
  have g1:=h.get hkS
  rw[zCW,hS,zQL (by rw[zCJ];omega),if_neg (fun e=>hc (by
   have:(c:Int)=S[k]:=by omega
   rw[this];exact yAH hkS))]
  exact zFA h hc k (by omega)
def zBN:List Int->Int
 | []=>0
 |x::l=>if x=0 then zBN l else x
theorem zKX:∀{l:List Int} {i:Nat},(∀j,j<i->vec l j=0)->vec l i≠0->zBN l=vec l i
 | [],i,_,h=>by simp[vec]at h
 |x::l,0,_,h=>by
  have h':x≠0:=by simpa[vec]using h
  unfold zBN;rw[if_neg h'];simp[vec]
 |x::l,i+1,h0,h=>by
  have h1:=h0 0 (by omega)
  have h':x=0:=by simpa[vec]using h1
  unfold zBN;rw[if_pos h']
  have:=zKX (l:=l) (i:=i) (fun j hj=>by have:=h0 (j+1) (by omega);simpa[vec]using this) (by simpa[vec]using h)
  rw[this];simp[vec]
def zGC(h:List Int):List Int:=if zBN (zBI h)<0 then negF (zBI h)else zBI h
def zDJ(M:List (List Int))(S:List Int):List (List Int):=zII (pRed (zAO M S) S.length).1 (pRed (zAO M S) S.length).2 S.length
def zOX(M:List (List Int))(S:List Int):List (List Int):=zNR (rRed (zAO M S) S.length).done (rRed (zAO M S) S.length).piv S.length
def zCA(M:List (List Int))(n:Nat)(S:List Int):Option (List Int):=
 match zDJ M S with
 | [l]=>if l.contains 0 then none else some (zGC (zAK n S l S.length))
 |_=>none
def zIP(M:List (List Int))(n:Nat)(S:List Int):Option (List Int):=
 match zOX M S with
 | [l]=>if l.contains 0 then none else some (if vec (zAK n S l S.length) (S[0]?.getD 0).toNat<0 then negF (zAK n S l S.length)else zAK n S l S.length)
 |_=>none
theorem kerS_same{M:List (List Int)}{n:Nat}(h:MaskOk M n)(S:List Int):zDJ M S=zOX M S:=by
 unfold zDJ zOX
 have hc:=h.cols S
 exact zIV hc.wid hc.le6 (fun r hr c _=>hc.one r hr c)
theorem kerSR_prim{M:List (List Int)}{S l:List Int}(h:l∈zOX M S):∃r,l=zBI r:=by
 unfold zOX zNR at h
 obtain⟨f,_,rfl⟩:=yBJ.1 h
 unfold kerR
 exact⟨_,zFR _⟩
theorem kerSR_len{M:List (List Int)}{S l:List Int}(h:l∈zOX M S):l.length=S.length:=by
 unfold zOX zNR at h
 obtain⟨f,_,rfl⟩:=yBJ.1 h
 unfold kerR rawR
 rw[zFR,zCM,zDG];simp
theorem zQT{h:List Int}(hp:Prim (vec h)):zBI h=h:=by
 unfold zBI
 rw[if_neg]
 intro c
 have:=hp (gcdL h) (fun c=>zDY (P:=fun x=>gcdL h∣x) (Int.dvd_zero _) (fun x hx=>zJR hx) c)
 have:=yFV (by decide) this
 omega
theorem zQF{M:List (List Int)}{n:Nat}(h:MaskOk M n){S:List Int}(hS:zCI n S)(hne:S≠[]):zCA M n S=zIP M n S:=by
 unfold zCA zIP
 rw[kerS_same h]
 split
 ·rename_i l hl
  by_cases h0:l.contains 0=true
  ·rw[if_pos h0,if_pos h0]
  ·rw[if_neg h0,if_neg h0]
   have hm:l∈zOX M S:=by rw[hl];simp
   have hlen:=kerSR_len hm
   obtain⟨r,hr⟩:=kerSR_prim hm
   have hlp:0<S.length:=yEU.2 hne
   have hnz:∀x∈l,x≠0:=fun x hx e=>h0 (by subst e;simpa using hx)
   have hp:Prim (vec l):=by
    rcases zDQ r with a|a
    ·rw[hr];exact a
    ·exfalso
     have:=hnz l[0] (yAH (by omega))
     rw[<- zCV (by omega:0<l.length),hr]at this
     exact this (a 0)
   have hps:Prim (vec (zAK n S l S.length)):=by
    intro g hg
    refine hp g fun c=>?_
    rcases yAP c l.length with hc|hc
    ·have:=hg (S[c]'(by omega)).toNat
     rw[zDO hS S.length (yAC _) c (by omega) (by omega)]at this
     exact this
    ·rw[zFP hc];exact Int.dvd_zero _
   have hfirst:zBN (zAK n S l S.length)=vec (zAK n S l S.length) (S[0]?.getD 0).toNat:=by
    have hs0:S[0]?.getD 0=S[0]:=by rw[yAA hlp];rfl
    refine zKX (fun j hj=>zFA hS (fun hm=>?_) _ (yAC _)) ?_
    ·obtain⟨i,hi,e⟩:=yAM.1 hm
     have g:=hS.get hlp
     rw[hs0]at hj
     rcases yBR i with c|c
     ·subst c;omega
     ·have:=yBI.1 hS.1 0 i hlp hi c;omega
    ·rw[hs0,zDO hS S.length (yAC _) 0 hlp hlp,yAA (by omega)]
     exact hnz _ (yAH _)
   unfold zGC
   rw[zQT hps,hfirst]
 ·rename_i hl
  rfl
def zEN(M:List (List Int))(n:Nat):List (List Int):=(List.range (min (zDE M n+1) n)).flatMap fun k=>(comb n (k+1) 0).filterMap (zCA M n)
def circR(M:List (List Int))(n:Nat):List (List Int):=(allS n).filterMap fun S=>if S.length=0∨M.length+1<S.length then none else zIP M n S
theorem zHR{n k:Nat}{S:List Int}(h:S∈comb n k 0):zCI n S:=by
 obtain⟨h1,h2⟩:=zJX n k 0 S h
 exact⟨h1,fun y hy=>by have:=h2 y hy;omega⟩
theorem zQX{M:List (List Int)}{n:Nat}(h:MaskOk M n):zDE M n<=M.length:=(h.inv n).K_le
theorem kerSP_len{M:List (List Int)}{n:Nat}(h:MaskOk M n)(S:List Int):(zDJ M S).length+zDE (zAO M S) S.length=S.length:=by
 unfold zDJ zII zDE
 rw[yAS]
 have hi:=(h.cols S).inv S.length
 exact free_len (hi.asc.imp (fun h=>by omega)) hi.lt
theorem zQG{M:List (List Int)}{n:Nat}(h:MaskOk M n){S:List Int}(hS:zDE M n+1<S.length):zCA M n S=none:=by
 unfold zCA
 have h1:=kerSP_len h S
 have h2:=h.cols_rank S
 split
 ·rename_i l hl
  rw[hl]at h1
  simp at h1
  omega
 ·rfl
theorem zPS(n:Nat):∀k,lvls n k=(List.range (k+1)).flatMap fun j=>comb n j 0
 |0=>by simp[lvls]
 |k+1=>by
  show lvls n k++comb n (k+1) 0=_
  rw[zPS n k,yBQ (n:=k+1),yDD];simp
theorem zFX{α β:Type}{f:α->Option β}:∀{l:List α},(∀x∈l,f x=none)->l.filterMap f=[]
 | [],_=>rfl
 |x::l,h=>by rw[List.filterMap_cons,h x (by simp)];exact zFX fun y hy=>h y (by simp[hy])
theorem zIM{α β:Type}{f g:α->Option β}:∀{l:List α},(∀x∈l,f x=g x)->l.filterMap f=l.filterMap g
 | [],_=>rfl
 |x::l,h=>by rw[List.filterMap_cons,List.filterMap_cons,h x (by simp),zIM fun y hy=>h y (by simp[hy])]
theorem flatMap_nil'{α β:Type}{f:α->List β}{l:List α}(h:∀x∈l,f x=[]):l.flatMap f=[]:=by
 rw[zDU (g:=fun _=>[]) h];induction l<;>simp_all
theorem zIN{α β γ:Type}(f:β->Option γ)(g:α->List β):∀l:List α,(l.flatMap g).filterMap f=l.flatMap fun x=>(g x).filterMap f
 | []=>rfl
 |x::l=>by rw[yFU,yCS,zIN f g l,yFU]
theorem circ_same{M:List (List Int)}{n:Nat}(h:MaskOk M n):zEN M n=circR M n:=by
 have hr:=zQX h
 unfold circR allS
 rw[zPS,zIN,List.range_succ_eq_map,yFU,List.flatMap_map]
 have e0:(comb n 0 0).filterMap (fun S=>if S.length=0∨M.length+1<S.length then none else zIP M n S)=[]:=
  zFX fun S hS=>by rw[zCG n 0 0 S hS,if_pos (.inl rfl)]
 rw[e0,yDL]
 have e1:∀k,(comb n (k+1) 0).filterMap (fun S=>if S.length=0∨M.length+1<S.length then none else zIP M n S)=if k<zDE M n+1 then(comb n (k+1) 0).filterMap (zCA M n)else []:=by
  intro k
  by_cases hk:k<zDE M n+1
  ·rw[if_pos hk]
   refine zIM fun S hS=>?_
   have hl:=zCG n (k+1) 0 S hS
   rw[if_neg (by omega)]
   exact(zQF h (zHR hS) (by intro e;rw[e]at hl;simp at hl)).symm
  ·rw[if_neg hk]
   refine zFX fun S hS=>?_
   have hl:=zCG n (k+1) 0 S hS
   split
   ·rfl
   ·rw[<- zQF h (zHR hS) (by intro e;rw[e]at hl;simp at hl)]
    exact zQG h (by omega)
 have e2:(List.range n).flatMap (fun k=>(comb n (k+1) 0).filterMap (fun S=>if S.length=0∨M.length+1<S.length then none else zIP M n S))=zEN M n:=by
  unfold zEN
  rw[zDU (g:=fun k=>if k<zDE M n+1 then(comb n (k+1) 0).filterMap (zCA M n)else []) fun k _=>e1 k]
  rcases yAP n (zDE M n+1)with c|c
  ·rw[show min (zDE M n+1) n=n by omega]
   exact zDU fun k hk=>if_pos (by have:=yCH.1 hk;omega)
  ·rw[show min (zDE M n+1) n=zDE M n+1 by omega]
   have:List.range n=List.range (zDE M n+1)++(List.range' (zDE M n+1) (n-(zDE M n+1))):=by
    rw[List.range_eq_range',List.range_eq_range']
    have:=@List.range'_append_1 0 (zDE M n+1) (n-(zDE M n+1))
    rw[yAW]at this
    rw[this];congr 1;omega
   rw[this,yDD]
   rw[flatMap_nil' (l:=List.range' _ _) fun k hk=>if_neg (by have:=(List.mem_range'_1.1 hk).1;omega),yBC]
   exact zDU fun k hk=>if_pos (yCH.1 hk)
 exact e2.symm
end
section
def ofF(n d:Int):Int×Int:=
 let g:Int:=(Int.gcd n d:Nat)
 if d<0 then(n.tdiv (-g),d.tdiv (-g))else(n.tdiv g,d.tdiv g)
def zBF(n d:Int):Int×Int:=(n.tdiv (Int.gcd n d:Nat),d.tdiv (Int.gcd n d:Nat))
theorem zNJ{n d:Int}(h:0<d):ofF n d=zBF n d:=by unfold ofF zBF;simp only[];rw[if_neg (by omega)]
def zAJ(R:List (List Int))(y:List Int):List (List Int):=List.zipWith (fun r v=>r++[v]) R y
theorem zEK{R:List (List Int)}{y:List Int}(h:y.length=R.length):(zAJ R y).length=R.length:=by simp[zAJ,h]
theorem zMO{R:List (List Int)}{y:List Int}{r:List Int}(h:r∈zAJ R y):∃r'∈R,∃v∈y,r=r'++[v]:=by
 unfold zAJ at h
 obtain⟨i,hi,rfl⟩:=yAM.1 h
 rw[yGB]
 simp at hi
 exact⟨_,yAH (by omega),_,yAH (by omega),rfl⟩
theorem vec_snoc_lt{r:List Int}{v:Int}{c:Nat}(h:c<r.length):vec (r++[v]) c=vec r c:=by
 unfold vec;rw[yAO h]
structure MaskY (R:List (List Int)) (n:Nat) (Y:Nat):Prop where
 wid:∀r∈R,r.length=n+1
 le6:R.length<=6
 one:∀r∈R,∀c,c<n-> -1<=vec r c∧vec r c<=1
 all:∀r∈R,∀x∈r,-(Y:Int)<=x∧x<=Y
theorem MaskOk.addY{M:List (List Int)}{n:Nat}(h:MaskOk M n){y:List Int}(hy:y.length=M.length){Y:Nat}(hY1:1<=Y)(hY:∀v∈y,-(Y:Int)<=v∧v<=Y):MaskY (zAJ M y) n Y:=by
 refine⟨fun r hr=>?_,by rw[zEK hy];exact h.le6,fun r hr c hc=>?_,fun r hr x hx=>?_⟩
 ·obtain⟨r',h1,v,_,rfl⟩:=zMO hr
  simp[h.wid r' h1]
 ·obtain⟨r',h1,v,_,rfl⟩:=zMO hr
  rw[vec_snoc_lt (by rw[h.wid r' h1];exact hc)];exact h.one r' h1 c
 ·obtain⟨r',h1,v,h2,rfl⟩:=zMO hr
  rcases yCU.1 hx with hx|hx
  ·obtain⟨c,hc,rfl⟩:=yAM.1 hx
   have:=h.one r' h1 c
   rw[zCV hc]at this;omega
  ·simp at hx;subst hx;exact hY _ h2
def zAX(R:List (List Int))(n:Nat):List (Int×Int)×Int:=
 let s:=pRed R n
 if (s.1.drop s.2.length).any (nz n)then([],8)
 else if s.2.length<n then([],11)
 else((List.range n).map fun k=>ofF (vec (s.1[k]?.getD []) n) (vec (s.1[k]?.getD []) (jf s.2 k)),0)
def zBR(R:List (List Int))(n:Nat):List (Int×Int)×Int×Bool:=
 let s:=rRed R (n+1)
 if n∈s.piv then([],0,false)
 else((List.range s.piv.length).foldl (fun out i=>out.set (jf s.piv i) (zBF (vec (s.done[i]?.getD []) n) (vec (s.done[i]?.getD []) (jf s.piv i)))) (List.replicate n (0,1)),(n:Int)-s.piv.length,true)
def zPH(R:List (List Int))(n:Nat):List (Int×Int)×Int:=
 let s:=zBR R n
 if s.2.2=false then([],8)else if 0<s.2.1 then([],11)else(s.1,0)
theorem zQH:∀{J:List Nat} {a b:Nat},J.Pairwise (· < ·)->(∀x∈J,a<=x∧x<b)->J.length<=b-a
 | [],a,b,_,_=>yAK _
 |x::J,a,b,hp,hb=>by
  rw[yCQ]at hp
  have hx:=hb x (by simp)
  have:=zQH (a:=x+1) (b:=b) hp.2 (fun y hy=>by have:=hp.1 y hy;have:=hb y (by simp[hy]);omega)
  simp only[yBB];omega
theorem zMK:∀{J:List Nat} {a n:Nat},J.Pairwise (· < ·)->(∀x∈J,a<=x∧x<a+n)->J.length=n->J=List.range' a n
 | [],a,n,_,_,h=>by simp at h;subst h;rfl
 |x::J,a,0,_,_,h=>by simp at h
 |x::J,a,n+1,hp,hb,h=>by
  rw[yCQ]at hp
  have hx:=hb x (by simp)
  have hlen:J.length=n:=by simpa using h
  -- all others lie above x
  have hxa:x=a:=by
   rcases yAP a x with c|c
   ·exfalso
    have h2:=zQH (a:=a+1) (b:=a+(n+1)) (yCQ.2 hp) (fun y hy=>by
     have:=hb y hy
     rcases yBP.1 hy with rfl|hy'
     ·omega
     ·have:=hp.1 y hy';omega)
    simp at h2;omega
   ·omega
  subst hxa
  rw[List.range'_succ]
  congr 1
  exact zMK hp.2 (fun y hy=>by have:=hp.1 y hy;have:=hb y (by simp[hy]);omega) hlen
theorem zPG{R:List (List Int)}{n Y:Nat}(h:MaskY R n Y):zAX R n=zPH R n:=by
 have hi:=zCO R h.wid n (fun j hj q=>zCF (by decide) (fun r hr=>h.one r hr j hj) q)
 have hl:=zEJ R n
 unfold zAX zPH zBR
 simp only[]
 by_cases c:((pRed R n).1.drop (pRed R n).2.length).any (nz n)=true
 ·rw[if_pos c]
  obtain⟨r,hr,hz⟩:=yDO.1 c
  obtain⟨i,hilt,rfl⟩:=yAM.1 hr
  rw[yFF]at hz
  have hmem:=red_more (m:=n+1) h.wid h.one (yAC _) (q:=(pRed R n).2.length+i) (by omega) (by rw[yDF]at hilt;omega) (by
   rw[zGL (by rw[yDF]at hilt;omega)];simpa[nz]using hz)
  rw[if_pos hmem];simp
 ·rw[if_neg c]
  have h0:∀q,(pRed R n).2.length<=q->q<R.length->∀x,n<=x->x<n+1->rowv (pRed R n).1 q x=0:=by
   intro q h1 h2 x hx1 hx2
   obtain rfl:x=n:=by omega
   rw[zGL (by omega)]
   have hm:(pRed R x).1[q]'(by omega)∈(pRed R x).1.drop (pRed R x).2.length:=by
    rw[yGD];exact⟨q-(pRed R x).2.length,by omega,by congr 1;omega⟩
   rcases Classical.em (vec ((pRed R x).1[q]'(by omega)) x=0)with e|e
   ·exact e
   ·exact absurd (yDO.2 ⟨_,hm,by simpa[nz]using e⟩) c
  obtain⟨e1,e2⟩:=zMC (m:=n+1) h.wid h.one (yAC _) h0
  rw[e2,<- e1]
  have hnm:n∉(pRed R n).2:=fun hm=>by have:=hi.lt _ hm;omega
  rw[if_neg hnm]
  simp only[Bool.true_eq_false,if_false]
  have hKn:(pRed R n).2.length<=n:=by
   have:=zQH (a:=0) (b:=n) hi.asc (fun x hx=>⟨yAK _,hi.lt x hx⟩)
   omega
  by_cases c2:(pRed R n).2.length<n
  ·rw[if_pos c2,if_pos (by omega)]
  ·rw[if_neg c2,if_neg (by omega)]
   have hK:(pRed R n).2.length=n:=by omega
   have hJ:=zMK (a:=0) hi.asc (fun x hx=>⟨yAK _,by have:=hi.lt x hx;omega⟩) hK
   have hjf:∀k,k<n->jf (pRed R n).2 k=k:=by
    intro k hk
    unfold jf
    rw[hJ,List.getElem?_range' hk];simp
   congr 1
   rw[hK]
   -- the places filled one after the other
   have key:∀t,t<=n->(List.range t).foldl (fun(out:List (Int×Int)) i=>out.set (jf (pRed R n).2 i) (zBF (vec (((pRed R n).1.take n)[i]?.getD []) n) (vec (((pRed R n).1.take n)[i]?.getD []) (jf (pRed R n).2 i)))) (List.replicate n (0,1))=
    (List.range t).map (fun k=>ofF (vec ((pRed R n).1[k]?.getD []) n) (vec ((pRed R n).1[k]?.getD []) (jf (pRed R n).2 k)))++List.replicate (n-t) (0,1):=by
    intro t
    induction t with
    |zero=>intro _;simp
    |succ t ih=>
     intro ht
     rw[yBQ,yCO,ih (by omega),yBF]
     simp only[yDC,yCR,yFS,List.map_nil]
     rw[hjf t (by omega),yCN (by omega)]
     have hpos:=(hi.pp t (by omega)).2
     rw[hjf t (by omega)]at hpos
     rw[zNJ (show 0<vec ((pRed R n).1[t]?.getD []) t from hpos)]
     rw[show n-t=(n-(t+1))+1 by omega,yEE,yCZ _ _ (by simp)]
     simp
   have:=key n (yAC _)
   rw[yCF]at this
   simp only[yGI,yBC]at this
   rw[this]
end
section
def dotS(u v:Vec)(n:Nat):Int:=sm (fun c=>u c*v c) n
theorem zRM{B:Vec->Prop}{h:Vec}{n:Nat}(hB:∀u,B u->dotS u h n=0){v:Vec}(hv:Sp B v):dotS v h n=0:=by
 unfold dotS at*
 induction hv with
 |of hb=>exact hB _ hb
 |zero=>rw[zAS (g:=fun _=>0) (fun k _=>by simp),zGK]
 | @add u v _ _ h1 h2=>rw[zAS (g:=fun c=>u c*h c+v c*h c) (fun k _=>by grind),zLK,h1,h2];rfl
 | @mul k u _ h1=>rw[zAS (g:=fun c=>k*(u c*h c)) (fun k _=>by grind),zED,h1];simp
 | @div k u hk _ h1=>
   rw[zAS (g:=fun c=>k*(u c*h c)) (fun k _=>by grind),zED]at h1
   exact zAU hk h1
abbrev RP(M:List (List Int))(n:Nat):List (List Int):=(pRed M n).1
abbrev JP(M:List (List Int))(n:Nat):List Nat:=(pRed M n).2
theorem MaskOk.rp_le{M:List (List Int)}{n:Nat}(h:MaskOk M n)(k c:Nat): -720<=vec ((RP M n)[k]?.getD []) c∧vec ((RP M n)[k]?.getD []) c<=720:=by
 cases hk:(RP M n)[k]? with
 |none=>simp[vec]
 |some r=>
  have:=(zRA (n:=n) (Y:=1) h.wid h.le6 (fun r hr c _=>h.one r hr c) (fun r hr=>zFE (P:=fun x=> -((1:Nat):Int)<=x∧x<=((1:Nat):Int)) fun c=>by have:=h.one r hr c;omega) (yAC n) r (yBM hk)).2
  have h2:=vec_le (Y:=720) (by decide) (fun x hx=>by have:=this x hx;omega) c
  simpa using h2
theorem MaskOk.span{M:List (List Int)}{n:Nat}(h:MaskOk M n){v:Vec}:Sp (RB (JP M n).length (rowv (RP M n))) v↔Sp (RB M.length (rowv M)) v:=
 (h.inv n).span (fun q h1 h2 c=>h.below h1 h2 c)
def zEO(M:List (List Int))(n:Nat)(v:Vec):Prop:=∀q,q<M.length->dotS (rowv M q) v n=0
theorem MaskOk.ker_iff{M:List (List Int)}{n:Nat}(h:MaskOk M n){v:Vec}:zEO M n v↔∀k,k<(JP M n).length->dotS (rowv (RP M n) k) v n=0:=by
 constructor
 ·intro hk k hlt
  exact zRM (B:=RB M.length (rowv M)) (fun u ⟨q,hq,e⟩=>e▸hk q hq) (h.span.1 (RB.sp hlt))
 ·intro hk q hq
  exact zRM (B:=RB (JP M n).length (rowv (RP M n))) (fun u ⟨k,hlt,e⟩=>e▸hk k hlt) (h.span.2 (RB.sp hq))
theorem MaskOk.dot_row{M:List (List Int)}{n:Nat}(h:MaskOk M n)(v:Vec){k:Nat}(hk:k<(JP M n).length):
 dotS (rowv (RP M n) k) v n=rowv (RP M n) k (jf (JP M n) k)*v (jf (JP M n) k)+sm (fun c=>if c∈JP M n then 0 else rowv (RP M n) k c*v c) n:=by
 have hi:=h.inv n
 have hjl:=hi.lt _ (jf_mem hk)
 unfold dotS
 rw[zAS (g:=fun c=>(if c=jf (JP M n) k then rowv (RP M n) k c*v c else 0)+(if c∈JP M n then 0 else rowv (RP M n) k c*v c)) (fun c _=>?_),zLK,zEA hjl (fun c _ hne=>if_neg hne),if_pos rfl]
 by_cases hc:c∈JP M n
 ·obtain⟨i,hlt,rfl⟩:=zPR hc
  rw[if_pos hc]
  by_cases e:i=k
  ·subst e;simp
  ·rw[hi.ech.red.off k hk i hlt (Ne.symm e)];simp
 ·rw[if_neg hc,if_neg (fun e:c=jf (JP M n) k=>hc (by rw[e];exact jf_mem hk))];simp
theorem MaskOk.raw{M:List (List Int)}{n:Nat}(h:MaskOk M n){f:Nat}(hf:f<n)(hfJ:f∉JP M n):
 ∃t:Int,0<t∧t<=720∧vec (rawP (RP M n) (JP M n) n f) f=t∧(∀c,c∉JP M n->c≠f->vec (rawP (RP M n) (JP M n) n f) c=0)∧
  ∀i,i<(JP M n).length->vec (rawP (RP M n) (JP M n) n f) (jf (JP M n) i)*rowv (RP M n) i (jf (JP M n) i)= -(rowv (RP M n) i f)*t:=by
 obtain⟨d,d1,d2,hk⟩:=zNH (n:=n) h.wid h.le6 (fun r hr c _=>h.one r hr c)
 obtain⟨a1,a2,a3,a4,a5⟩:=rawP_vals hk hf hfJ
 refine⟨zDL (RP M n) f (JP M n) 0 1,a1,?_,by rw[a4 f hfJ,if_pos rfl],fun c hc hne=>by rw[a4 c hc,if_neg hne],a5⟩
 have h9:=yFV (by omega) a2
 have h8:zDL (RP M n) f (JP M n) 0 1<=(d:Int):=h9
 omega
theorem MaskOk.raw_ker{M:List (List Int)}{n:Nat}(h:MaskOk M n){f:Nat}(hf:f<n)(hfJ:f∉JP M n):zEO M n (vec (rawP (RP M n) (JP M n) n f)):=by
 obtain⟨t,ht,_,h1,h2,h3⟩:=h.raw hf hfJ
 rw[h.ker_iff]
 intro k hk
 rw[h.dot_row _ hk]
 have:sm (fun c=>if c∈JP M n then 0 else rowv (RP M n) k c*vec (rawP (RP M n) (JP M n) n f) c) n=rowv (RP M n) k f*t:=by
  rw[zEA hf (fun c _ hne=>?_),if_neg hfJ,h1]
  by_cases hc:c∈JP M n
  ·rw[if_pos hc]
  ·rw[if_neg hc,h2 c hc hne];simp
 rw[this]
 have:=h3 k hk
 grind
theorem zEO.short{M:List (List Int)}{n:Nat}{l:List Int}(h:zEO M n (vec l)):zEO M n (vec (zBI l)):=by
 obtain⟨g,hg,e⟩:=zCD l
 intro q hq
 have:=h q hq
 unfold dotS at*
 rw[zAS (g:=fun c=>g*(rowv M q c*vec (zBI l) c)) (fun c _=>by rw[<- e c];grind),zED]at this
 exact zAU (g:=g) (by omega) this
theorem shortF_le(l:List Int)(c:Nat):(vec (zBI l) c).natAbs<=(vec l c).natAbs:=by
 obtain⟨g,hg,e⟩:=zCD l
 rw[<- e c,yAR]
 exact yEB _ (by omega)
theorem MaskOk.kern{M:List (List Int)}{n:Nat}(h:MaskOk M n){l:List Int}(hl:l∈zII (RP M n) (JP M n) n):
 zEO M n (vec l)∧l.length=n∧(∀c,(vec l c).natAbs<=518400)∧∃f,f<n∧0<vec l f:=by
 unfold zII at hl
 obtain⟨f,hf,rfl⟩:=yBJ.1 hl
 obtain⟨hf1,hf2⟩:=yDM.1 hf
 have hfn:f<n:=by simpa using hf1
 have hfJ:f∉JP M n:=by simpa using hf2
 obtain⟨t,ht,ht2,h1,h2,h3⟩:=h.raw hfn hfJ
 refine⟨(h.raw_ker hfn hfJ).short,by unfold kerP rawP;rw[zCM,zDG];simp,fun c=>?_,f,hfn,short_pos (by rw[h1];exact ht)⟩
 refine yAF (shortF_le _ c) ?_
 by_cases hc:c∈JP M n
 ·obtain⟨i,hi,rfl⟩:=zPR hc
  have e:=h3 i hi
  have hp:0<rowv (RP M n) i (jf (JP M n) i):=((h.inv n).pp i hi).2
  have hb:=h.rp_le i f
  have e2:=congrArg Int.natAbs e
  rw[yAR,yAR,Int.natAbs_neg]at e2
  have h5:(vec (rawP (RP M n) (JP M n) n f) (jf (JP M n) i)).natAbs<=(rowv (RP M n) i f).natAbs*t.natAbs:=by
   rw[<- e2];exact Nat.le_mul_of_pos_right _ (by omega)
  refine yAF h5 ?_
  show _<=720*720
  exact yAV (by unfold rowv;omega) (by omega)
 ·by_cases e:c=f
  ·subst e;rw[h1];omega
  ·rw[h2 c hc e];simp
theorem MaskOk.ker_one{M:List (List Int)}{n:Nat}(h:MaskOk M n){f:Nat}(hf:zFW (JP M n) n=[f]){v:Vec}(hv:zEO M n v){c:Nat}(hc:c<n):
 v c*vec (rawP (RP M n) (JP M n) n f) f=vec (rawP (RP M n) (JP M n) n f) c*v f:=by
 have hfm:f∈zFW (JP M n) n:=by rw[hf];simp
 obtain⟨hf1,hf2⟩:=yDM.1 hfm
 have hfn:f<n:=by simpa using hf1
 have hfJ:f∉JP M n:=by simpa using hf2
 obtain⟨t,ht,ht2,h1,h2,h3⟩:=h.raw hfn hfJ
 have only:∀c,c<n->c∉JP M n->c=f:=fun c hc hcJ=>by
  have:c∈zFW (JP M n) n:=yDM.2 ⟨by simpa using hc,by simpa using hcJ⟩
  rw[hf]at this;simpa using this
 rw[h1]
 by_cases hcJ:c∈JP M n
 ·obtain⟨i,hi,rfl⟩:=zPR hcJ
  have hk:=h.ker_iff.1 hv i hi
  rw[h.dot_row _ hi,zEA hfn (fun c hc hne=>by
   by_cases e:c∈JP M n
   ·rw[if_pos e]
   ·exact absurd (only c hc e) hne),if_neg hfJ]at hk
  have hp:0<rowv (RP M n) i (jf (JP M n) i):=((h.inv n).pp i hi).2
  have e:=h3 i hi
  refine yGA (show rowv (RP M n) i (jf (JP M n) i)≠0 by omega) ?_
  have e1:rowv (RP M n) i (jf (JP M n) i)*v (jf (JP M n) i)= -(rowv (RP M n) i f*v f):=by omega
  calc v (jf (JP M n) i)*t*rowv (RP M n) i (jf (JP M n) i)=(rowv (RP M n) i (jf (JP M n) i)*v (jf (JP M n) i))*t:=by grind
   _= -(rowv (RP M n) i f*v f)*t:=by rw[e1]
   _=(-(rowv (RP M n) i f)*t)*v f:=by grind
   _=_:=by rw[<- e];grind
 ·have:=only c hc hcJ
  subst this
  rw[h1];exact yBV _ _
end
section
theorem MaskOk.rank_ker{M:List (List Int)}{n:Nat}(h:MaskOk M n):zDE M n+(zII (RP M n) (JP M n) n).length=n:=by
 obtain⟨d,d1,d2,hk⟩:=zNH (n:=n) h.wid h.le6 (fun r hr c _=>h.one r hr c)
 unfold zII
 rw[yAS]
 have:=free_len hk.nodup hk.lt
 rw[Nat.add_comm]
 exact this
end
end
section
section
theorem sm_add_at{f g:Nat->Int}{p:Nat}{x:Int}:∀{n:Nat},p<n->(∀c,c<n->f c=g c+if c=p then x else 0)->sm f n=sm g n+x
 |n,hp,h=>by rw[zAS h,zLK,zEA (f:=fun c=>if c=p then x else 0) hp (fun k _ hne=>if_neg hne),if_pos rfl]
theorem dotS_set{r:Vec}{h:List Int}{p n:Nat}{x:Int}(hp:p<n)(hl:h.length=n):dotS r (vec (h.set p x)) n=dotS r (vec h) n+r p*(x-vec h p):=by
 unfold dotS
 refine sm_add_at hp fun c hc=>?_
 rw[zQL (by omega)]
 by_cases e:c=p
 ·subst e;rw[if_pos rfl,if_pos rfl];grind
 ·rw[if_neg e,if_neg e];grind
theorem zJA{n:Nat}{S l:List Int}(h:zCI n S){k:Nat}(hk:k<S.length):∀t,t<=k->vec (zAK n S l t) (S[k]).toNat=0
 |0,_=>by
  unfold zAK vec
  simp only[List.range_zero,yCR,yDV]
  split<;>rfl
 |t+1,ht=>by
  have htS:t<S.length:=by omega
  have hS:S[t]?.getD 0=S[t]:=by rw[yAA htS];rfl
  have g1:=h.get htS
  have g2:=h.get hk
  rw[zCW,hS,zQL (by rw[zCJ];omega),if_neg (fun c=>by have:=h.inj hk htS (by omega);omega)]
  exact zJA h hk t (by omega)
theorem zIC{n:Nat}{S l:List Int}(h:zCI n S)(r:Vec):∀k,k<=S.length->dotS r (vec (zAK n S l k)) n=sm (fun i=>zGE S r i*vec l i) k
 |0,_=>by
  unfold dotS
  rw[zAS (g:=fun _=>0) (fun c _=>?_),zGK];rfl
  unfold zAK vec
  simp only[List.range_zero,yCR,yDV]
  split<;>simp
 |k+1,hk=>by
  have hkS:k<S.length:=by omega
  have hS:S[k]?.getD 0=S[k]:=by rw[yAA hkS];rfl
  have g1:=h.get hkS
  rw[zCW,hS,dotS_set (by omega) (zCJ n S l k),zIC h r k (by omega),zJA h hkS k (yAC _)]
  have:zGE S r k=r (S[k]).toNat:=by unfold zGE;rw[yAA hkS]
  show _=sm _ k+zGE S r k*vec l k
  rw[this]
  unfold vec
  simp
theorem zGA{M:List (List Int)}{n:Nat}{S l:List Int}(h:zCI n S):zEO M n (vec (zAK n S l S.length))↔zEO (zAO M S) S.length (vec l):=by
 unfold zEO
 rw[zBA]
 have:∀q,dotS (rowv M q) (vec (zAK n S l S.length)) n=dotS (rowv (zAO M S) q) (vec l) S.length:=fun q=>by
  rw[zIC h _ _ (yAC _),zIE];rfl
 constructor
 ·intro hk q hq;rw[<- this];exact hk q hq
 ·intro hk q hq;rw[this];exact hk q hq
theorem zHE{n:Nat}{S l:List Int}(h:zCI n S)(hl:l.length=S.length){c:Nat}:vec (zAK n S l S.length) c≠0↔∃i,∃hi:i<S.length,S[i]=(c:Int)∧vec l i≠0:=by
 constructor
 ·intro hc
  by_cases hm:(c:Int)∈S
  ·obtain⟨i,hi,e⟩:=yAM.1 hm
   refine⟨i,hi,e,fun h0=>hc ?_⟩
   have:=zDO (l:=l) h S.length (yAC _) i hi hi
   rw[show(S[i]).toNat=c by omega]at this
   rw[this];exact h0
  ·exact absurd (zFA h hm _ (yAC _)) hc
 ·rintro⟨i,hi,e,hz⟩ h0
  have:=zDO (l:=l) h S.length (yAC _) i hi hi
  rw[show(S[i]).toNat=c by omega,h0]at this
  exact hz this.symm
theorem zIQ{n:Nat}{S:List Int}(h:zCI n S){v:Vec}(h0:∀c,c<n->(c:Int)∉S->v c=0){c:Nat}(hc:c<n):vec (zAK n S (S.map fun j=>v j.toNat) S.length) c=v c:=by
 by_cases hm:(c:Int)∈S
 ·obtain⟨i,hi,e⟩:=yAM.1 hm
  have:=zDO (l:=S.map fun j=>v j.toNat) h S.length (yAC _) i hi hi
  rw[show(S[i]).toNat=c by omega]at this
  rw[this,yAZ,yAA hi]
  show v (S[i]).toNat=v c
  rw[e];rfl
 ·rw[zFA h hm _ (yAC _),h0 c hc hm]
theorem zEO.congr{M:List (List Int)}{n:Nat}{u v:Vec}(h:zEO M n u)(e:∀c,c<n->u c=v c):zEO M n v:=fun q hq=>by
 have:=h q hq
 unfold dotS at*
 rw[zAS (g:=fun c=>rowv M q c*u c) (fun c hc=>by rw[e c hc])];exact this
theorem primV_vec(h:List Int):∃x y:Int,0<x∧(y=1∨y= -1)∧∀c,x*vec (zGC h) c=y*vec h c:=by
 obtain⟨g,hg,e⟩:=zCD h
 unfold zGC
 split
 ·exact⟨g,-1,hg,.inr rfl,fun c=>by rw[zMF,<- e c];grind⟩
 ·exact⟨g,1,hg,.inl rfl,fun c=>by rw[e c];omega⟩
theorem zLA{M:List (List Int)}{n:Nat}(h:MaskOk M n){S c:List Int}(hS:zCI n S)(hc:zCA M n S=some c):
 ∃l,zDJ M S=[l]∧l.length=S.length∧(∀i,i<S.length->vec l i≠0)∧c=zGC (zAK n S l S.length):=by
 unfold zCA at hc
 split at hc
 ·rename_i l hl
  have hm:l∈zOX M S:=by rw[<- kerS_same h,hl];simp
  have hlen:=kerSR_len hm
  by_cases h0:l.contains 0=true
  ·rw[if_pos h0]at hc;cases hc
  ·rw[if_neg h0]at hc
   cases hc
   refine⟨l,hl,hlen,fun i hi e=>h0 ?_,rfl⟩
   rw[zCV (by omega)]at e
   rw[yFP,<- e]
   exact yAH _
 ·cases hc
theorem zJZ{M:List (List Int)}{n:Nat}(h:MaskOk M n){S c:List Int}(hS:zCI n S)(hc:zCA M n S=some c)(j:Nat):vec c j≠0↔(j:Int)∈S:=by
 obtain⟨l,hl,hlen,hnz,rfl⟩:=zLA h hS hc
 obtain⟨x,y,hx,hy,e⟩:=primV_vec (zAK n S l S.length)
 have h1:vec (zGC (zAK n S l S.length)) j≠0↔vec (zAK n S l S.length) j≠0:=by
  have:=e j
  constructor
  ·intro h0 h1;rw[h1]at this;exact h0 (zAU (g:=x) (by omega) (by simpa using this))
  ·intro h0 h1;rw[h1]at this;exact h0 (zAU (g:=y) (by omega) (by simpa using this.symm))
 rw[h1,zHE hS hlen]
 constructor
 ·rintro⟨i,hi,e,_⟩;rw[<- e];exact yAH hi
 ·intro hm
  obtain⟨i,hi,e⟩:=yAM.1 hm
  exact⟨i,hi,e,hnz i hi⟩
theorem kerSP_one{M:List (List Int)}{S l:List Int}(hl:zDJ M S=[l]):∃f,zFW (JP (zAO M S) S.length) S.length=[f]∧l=zBI (rawP (RP (zAO M S) S.length) (JP (zAO M S) S.length) S.length f):=by
 unfold zDJ zII at hl
 obtain⟨f,hf,e⟩:∃f,zFW (JP (zAO M S) S.length) S.length=[f]∧_=l:=by
  cases hfr:zFW (JP (zAO M S) S.length) S.length with
  |nil=>rw[show zFW (pRed (zAO M S) S.length).2 S.length=[]from hfr]at hl;simp at hl
  |cons f t=>
   rw[show zFW (pRed (zAO M S) S.length).2 S.length=f::t from hfr]at hl
   simp only[yFS,List.cons.injEq]at hl
   have ht:t=[]:=by simpa using hl.2
   subst ht
   exact⟨f,rfl,hl.1⟩
 exact⟨f,hf,e.symm⟩
theorem circ_least{M:List (List Int)}{n:Nat}(h:MaskOk M n){S c:List Int}(hS:zCI n S)(hc:zCA M n S=some c){v:Vec}(hv:zEO M n v)(h0:∀j,j<n->(j:Int)∉S->v j=0)(hne:∃j,j<n∧v j≠0):
 ∀j:Nat,(j:Int)∈S->v j≠0:=by
 obtain⟨l,hl,hlen,hnz,rfl⟩:=zLA h hS hc
 obtain⟨f,hf,hlf⟩:=kerSP_one hl
 have hk:zEO (zAO M S) S.length (vec (S.map fun j=>v j.toNat)):=(zGA hS).1 (hv.congr fun c hc=>(zIQ hS h0 hc).symm)
 obtain⟨g,hg,e⟩:=zCD (rawP (RP (zAO M S) S.length) (JP (zAO M S) S.length) S.length f)
 rw[<- hlf]at e
 have hfS:f<S.length:=by
  have:f∈zFW (JP (zAO M S) S.length) S.length:=by rw[hf];simp
  simpa using (yDM.1 this).1
 -- w i*l f=l i*w f
 have key:∀i,i<S.length->vec (S.map fun j=>v j.toNat) i*vec l f=vec l i*vec (S.map fun j=>v j.toNat) f:=by
  intro i hi
  have:=(h.cols S).ker_one hf hk hi
  rw[<- e,<- e]at this
  refine yBE (show g≠0 by omega) ?_
  grind
 have hw:∀i (hi:i<S.length),vec (S.map fun j=>v j.toNat) i=v (S[i]).toNat:=fun i hi=>by
  unfold vec;rw[yAZ,yAA hi];rfl
 have hwf:vec (S.map fun j=>v j.toNat) f≠0:=by
  intro hz
  obtain⟨j,hj,hvj⟩:=hne
  have hm:(j:Int)∈S:=by
   rcases Classical.em ((j:Int)∈S)with c|c
   ·exact c
   ·exact absurd (h0 j hj c) hvj
  obtain⟨i,hi,ei⟩:=yAM.1 hm
  have:=key i hi
  rw[hz,hw i hi,show(S[i]).toNat=j by omega,Int.mul_zero]at this
  rcases yDW.1 this with a|a
  ·exact hvj a
  ·exact hnz f hfS a
 intro j hm hz
 obtain⟨i,hi,ei⟩:=yAM.1 hm
 have:=key i hi
 rw[hw i hi,show(S[i]).toNat=j by omega,hz,Int.zero_mul]at this
 rcases yDW.1 this.symm with a|a
 ·exact hnz i hi a
 ·exact hwf a
theorem zOL{M:List (List Int)}{n:Nat}{c:List Int}:c∈zEN M n↔∃k S,k<min (zDE M n+1) n∧S∈comb n (k+1) 0∧zCA M n S=some c:=by
 unfold zEN
 simp only[List.mem_flatMap,yCH,yFM]
 constructor
 ·rintro⟨k,hk,S,hS,e⟩;exact⟨k,S,hk,hS,e⟩
 ·rintro⟨k,S,hk,hS,e⟩;exact⟨k,hk,S,hS,e⟩
theorem zIF{M:List (List Int)}{n:Nat}(h:MaskOk M n){S c:List Int}(hS:zCI n S)(hne:S≠[])(hc:zCA M n S=some c):
 c.length=n∧zEO M n (vec c)∧(∀j,(vec c j).natAbs<=518400)∧Prim (vec c)∧0<zBN c:=by
 obtain⟨l,hl,hlen,hnz,rfl⟩:=zLA h hS hc
 have hm:l∈zDJ M S:=by rw[hl];simp
 obtain⟨k1,k2,k3,_⟩:=(h.cols S).kern hm
 obtain⟨x,y,hx,hy,e⟩:=primV_vec (zAK n S l S.length)
 have hkS:=(zGA (M:=M) hS).2 k1
 have hSp:0<S.length:=yEU.2 hne
 refine⟨?_,?_,?_,?_,?_⟩
 ·unfold zGC
  split
  ·unfold negF;rw[yAS,zCM,zCJ]
  ·rw[zCM,zCJ]
 ·intro q hq
  have h1:=hkS q hq
  refine zAU (g:=x) (by omega) ?_
  unfold dotS at*
  rw[<- zED,zAS (g:=fun c=>y*(rowv M q c*vec (zAK n S l S.length) c)) (fun c _=>by have:=e c;grind),zED,h1];simp
 ·intro j
  have h1:(vec (zGC (zAK n S l S.length)) j).natAbs<=(vec (zAK n S l S.length) j).natAbs:=by
   have:=congrArg Int.natAbs (e j)
   rw[yAR,yAR]at this
   have hy1:y.natAbs=1:=by omega
   rw[hy1,Nat.one_mul]at this
   rw[<- this];exact yEB _ (by omega)
  refine yAF h1 ?_
  by_cases hm:(j:Int)∈S
  ·obtain⟨i,hi,ei⟩:=yAM.1 hm
   have:=zDO (l:=l) hS S.length (yAC _) i hi hi
   rw[show(S[i]).toNat=j by omega]at this
   rw[this];exact k3 i
  ·rw[zFA hS hm _ (yAC _)];simp
 ·have hp:Prim (vec (zBI (zAK n S l S.length))):=by
   rcases zDQ (zAK n S l S.length)with a|a
   ·exact a
   ·exfalso
    obtain⟨g,hg,e2⟩:=zCD (zAK n S l S.length)
    have h1:=e2 (S[0]).toNat
    rw[a,zDO hS S.length (yAC _) 0 hSp hSp]at h1
    exact hnz 0 hSp (by unfold vec;rw[<- h1];simp)
  unfold zGC
  split
  ·exact zQZ (z:= -1) (.inr rfl) (fun c=>by rw[zMF];omega) hp
  ·exact hp
 ·-- the first number that is not 0
  have hz:∀m:List Int,(∃j,vec m j≠0)->zBN m≠0:=by
   intro m
   induction m with
   |nil=>rintro⟨j,hj⟩;simp[vec]at hj
   |cons a m ih=>
    rintro⟨j,hj⟩
    unfold zBN
    by_cases ha:a=0
    ·rw[if_pos ha]
     match j,hj with
     |0,hj=>simp[vec]at hj;exact absurd ha hj
     |j+1,hj=>exact ih ⟨j,by simpa[vec]using hj⟩
    ·rw[if_neg ha];exact ha
  have hn:∀m:List Int,zBN (negF m)= -zBN m:=by
   intro m
   induction m with
   |nil=>rfl
   |cons a m ih=>
    show(if-a=0 then zBN (negF m)else-a)= -(if a=0 then zBN m else a)
    by_cases ha:a=0
    ·rw[if_pos ha,if_pos (by omega),ih]
    ·rw[if_neg ha,if_neg (by omega)]
  have hs:zBN (zBI (zAK n S l S.length))≠0:=by
   refine hz _ ⟨(S[0]).toNat,fun h0=>?_⟩
   obtain⟨g,hg,e2⟩:=zCD (zAK n S l S.length)
   have h1:=e2 (S[0]).toNat
   rw[h0,zDO hS S.length (yAC _) 0 hSp hSp]at h1
   exact hnz 0 hSp (by unfold vec;rw[<- h1];simp)
  unfold zGC
  split
  ·rw[hn];omega
  ·omega
theorem zNL{α:Type}[BEq α][LawfulBEq α]:∀{l m:List α},l.Nodup->(∀x∈l,x∈m)->l.length<=m.length
 | [],_,_,_=>yAK _
 |x::l,m,hn,h=>by
  rw[yET]at hn
  have hx:=h x (by simp)
  have:=zNL (l:=l) (m:=m.erase x) hn.2 (fun y hy=>(List.mem_erase_of_ne (fun e=>hn.1 (by rw[<- e];exact hy))).2 (h y (by simp[hy])))
  rw[List.length_erase_of_mem hx]at this
  have:=List.length_pos_of_mem hx
  simp only[yBB];omega
def zBK(n:Nat)(v:Vec):List Int:=((List.range n).filter (fun c=>decide (v c≠0))).map (fun c:Nat=>(c:Int))
theorem zCP{n:Nat}{v:Vec}{j:Nat}:(j:Int)∈zBK n v↔j<n∧v j≠0:=by
 unfold zBK
 simp only[yBJ,yDM,yCH]
 constructor
 ·rintro⟨c,⟨h1,h2⟩,e⟩
  have:c=j:=by omega
  subst this;exact⟨h1,by simpa using h2⟩
 ·rintro⟨h1,h2⟩;exact⟨j,⟨h1,by simpa using h2⟩,rfl⟩
theorem zET(n:Nat)(v:Vec):zCI n (zBK n v):=by
 constructor
 ·unfold zBK
  rw[List.pairwise_map]
  exact(List.pairwise_lt_range.filter _).imp (fun h=>by omega)
 ·intro y hy
  unfold zBK at hy
  obtain⟨c,hc,rfl⟩:=yBJ.1 hy
  have:=yCH.1 (yDM.1 hc).1
  omega
theorem zOJ{M:List (List Int)}{n:Nat}(h:MaskOk M n):∀(s:Nat) (v:Vec),(zBK n v).length=s->zEO M n v->(∃j,j<n∧v j≠0)->∃S c,zCI n S∧S.length<=s∧S≠[]∧(∀y∈S,y∈zBK n v)∧zCA M n S=some c:=by
 intro s
 induction s using Nat.strongRecOn with
 |ind s ih=>
  intro v hs hv hne
  have hS:=zET n v
  obtain⟨S,hSe⟩:=exq (zBK n v)
  rw[<- hSe]at hS hs
  have h0:∀j,j<n->(j:Int)∉S->v j=0:=fun j hj hm=>by
   rcases Classical.em (v j=0)with c|c
   ·exact c
   ·exact absurd (by rw[hSe];exact zCP.2 ⟨hj,c⟩) hm
  have hne2:S≠[]:=by
   obtain⟨j,hj,hvj⟩:=hne
   intro e
   have:(j:Int)∈S:=by rw[hSe];exact zCP.2 ⟨hj,hvj⟩
   rw[e]at this;simp at this
  have hk:zEO (zAO M S) S.length (vec (S.map fun j=>v j.toNat)):=(zGA hS).1 (hv.congr fun c hc=>(zIQ hS h0 hc).symm)
  have hc:=h.cols S
  have hw:∀i (hi:i<S.length),vec (S.map fun j=>v j.toNat) i≠0:=fun i hi=>by
   have:vec (S.map fun j=>v j.toNat) i=v (S[i]).toNat:=by unfold vec;rw[yAZ,yAA hi];rfl
   rw[this]
   have hm:((S[i]).toNat:Int)∈zBK n v:=by
    have g:=hS.get hi
    rw[show((S[i]).toNat:Int)=S[i]by omega,<- hSe];exact yAH hi
   exact(zCP.1 hm).2
  -- the free columns
  have hfree:∃f,f<S.length∧f∉JP (zAO M S) S.length:=by
   refine Classical.byContradiction fun hno=>?_
   have hall:∀f,f<S.length->f∈JP (zAO M S) S.length:=fun f hf=>Classical.byContradiction fun hn=>hno ⟨f,hf,hn⟩
   have hSp:0<S.length:=yEU.2 hne2
   obtain⟨i,hi,e⟩:=zPR (hall 0 hSp)
   have hr:=hc.ker_iff.1 hk i hi
   rw[hc.dot_row _ hi,zAS (g:=fun _=>0) (fun c hcl=>if_pos (hall c hcl)),zGK,e]at hr
   have hp:0<rowv (RP (zAO M S) S.length) i (jf (JP (zAO M S) S.length) i):=((hc.inv S.length).pp i hi).2
   rw[e]at hp
   rcases yDW.1 (show rowv (RP (zAO M S) S.length) i 0*vec (S.map fun j=>v j.toNat) 0=0 by omega)with a|a
   ·omega
   ·exact hw 0 hSp a
  obtain⟨f,hf,hfJ⟩:=hfree
  have hfm:f∈zFW (JP (zAO M S) S.length) S.length:=yDM.2 ⟨by simpa using hf,by simpa using hfJ⟩
  rcases Classical.em (∃f2,f2∈zFW (JP (zAO M S) S.length) S.length∧f2≠f)with⟨f2,hf2,hne3⟩|hone
  ·-- a second free column:a vector with a smaller support
   obtain⟨g1,g2⟩:=yDM.1 hf2
   have hf2S:f2<S.length:=by simpa using g1
   have hf2J:f2∉JP (zAO M S) S.length:=by simpa using g2
   obtain⟨t,ht,_,r1,r2,_⟩:=hc.raw hf hfJ
   have hrk:=hc.raw_ker hf hfJ
   have hlen:(rawP (RP (zAO M S) S.length) (JP (zAO M S) S.length) S.length f).length=S.length:=by unfold rawP;rw[zDG];simp
   obtain⟨u,hu⟩:=exq (vec (zAK n S (rawP (RP (zAO M S) S.length) (JP (zAO M S) S.length) S.length f) S.length))
   have huk:zEO M n u:=by rw[hu];exact(zGA hS).2 hrk
   have hsub:∀y∈zBK n u,y∈S∧y≠S[f2]:=by
    intro y hy
    have gy:=(zET n u).2 y hy
    have hy':((y.toNat:Nat):Int)∈zBK n u:=by rw[show((y.toNat:Nat):Int)=y by omega];exact hy
    obtain⟨_,hz⟩:=zCP.1 hy'
    rw[hu]at hz
    obtain⟨i,hi,ei,hzi⟩:=(zHE hS hlen).1 hz
    have e1:S[i]=y:=by omega
    refine⟨by rw[<- e1];exact yAH hi,fun e2=>?_⟩
    have:=hS.inj hi hf2S (by rw[e1,e2])
    subst this
    exact hzi (r2 i hf2J hne3)
   have hlt:(zBK n u).length<s:=by
    have hnd:(zBK n u).Nodup:=(zET n u).1.imp (fun h=>by omega)
    have h1:(S[f2]::zBK n u).length<=S.length:=by
     refine zNL ?_ ?_
     ·exact yET.2 ⟨fun hm=>(hsub _ hm).2 rfl,hnd⟩
     ·intro y hy
      rcases yBP.1 hy with rfl|hy
      ·exact yAH hf2S
      ·exact(hsub y hy).1
    simp only[yBB]at h1
    omega
   have hune:∃j,j<n∧u j≠0:=by
    have g:=hS.get hf
    refine⟨(S[f]).toNat,by omega,?_⟩
    rw[hu,zHE hS hlen]
    exact⟨f,hf,by omega,by rw[r1];omega⟩
   obtain⟨T,c,t1,t2,t3,t4,t5⟩:=ih _ hlt u rfl huk hune
   exact⟨T,c,t1,by omega,t3,fun y hy=>by rw[<- hSe];exact(hsub y (t4 y hy)).1,t5⟩
  ·-- one free column:a circuit
   have hone':zFW (JP (zAO M S) S.length) S.length=[f]:=by
    have hall:∀x∈zFW (JP (zAO M S) S.length) S.length,x=f:=fun x hx=>Classical.byContradiction fun hn=>hone ⟨x,hx,hn⟩
    have hnd:(zFW (JP (zAO M S) S.length) S.length).Nodup:=List.Pairwise.filter _ List.nodup_range
    match hL:zFW (JP (zAO M S) S.length) S.length,hall,hnd with
    | [],_,_=>rw[hL]at hfm;simp at hfm
    | [x],hall,_=>rw[hall x (by simp)]
    |x::y::t,hall,hnd=>
     have h1:=hall x (by simp)
     have h2:=hall y (by simp)
     rw[h1,h2]at hnd
     simp at hnd
   have hl:zDJ M S=[zBI (rawP (RP (zAO M S) S.length) (JP (zAO M S) S.length) S.length f)]:=by
    show(zFW (JP (zAO M S) S.length) S.length).map _=_
    rw[hone'];rfl
   refine⟨S,zGC (zAK n S (zBI (rawP (RP (zAO M S) S.length) (JP (zAO M S) S.length) S.length f)) S.length),hS,by omega,hne2,fun y hy=>by rw[<- hSe];exact hy,?_⟩
   unfold zCA
   rw[hl]
   simp only[]
   rw[if_neg]
   intro h0'
   have hm:(0:Int)∈zBI (rawP (RP (zAO M S) S.length) (JP (zAO M S) S.length) S.length f):=by simpa using h0'
   obtain⟨i,hi,ei⟩:=yAM.1 hm
   have hiS:i<S.length:=by
    rw[zCM]at hi
    unfold rawP at hi
    rw[zDG]at hi
    simpa using hi
   have h1:=hc.ker_one hone' hk hiS
   obtain⟨g,hg,e⟩:=zCD (rawP (RP (zAO M S) S.length) (JP (zAO M S) S.length) S.length f)
   have h2:=e i
   rw[zCV hi,ei,Int.mul_zero]at h2
   rw[<- h2,Int.zero_mul]at h1
   obtain⟨t,ht,_,r1,_⟩:=hc.raw hf hfJ
   rw[r1]at h1
   rcases yDW.1 h1 with a|a
   ·exact hw i hiS a
   ·omega
end
section
def unitF(N i:Nat):List Int:=(List.replicate N 0).set i 1
def extF(M:List (List Int)):List (List Int):=M.mapIdx (fun i r=>r++unitF M.length i)
theorem vec_app_lt{a b:List Int}{c:Nat}(h:c<a.length):vec (a++b) c=vec a c:=by unfold vec;rw[yAO h]
theorem vec_app_ge{a b:List Int}{c:Nat}(h:a.length<=c):vec (a++b) c=vec b (c-a.length):=by unfold vec;rw[yAQ h]
abbrev RE(M:List (List Int))(n:Nat):List (List Int):=(pRed (extF M) n).1
def zFC(n:Nat)(v:Vec):Vec:=fun c=>if c<n then v c else 0
theorem truncV_sp{B B':Vec->Prop}{n:Nat}(hB:∀v,B v->Sp B' (zFC n v)){v:Vec}(h:Sp B v):Sp B' (zFC n v):=
 Sp.map (zFC n) (by funext c;unfold zFC;split<;>rfl) (fun u v=>by funext c;unfold zFC;split<;>simp) (fun k u=>by funext c;unfold zFC;split<;>simp) hB h
theorem zHA{M:List (List Int)}{n:Nat}(h:MaskOk M n){y:List Int}(hy:y.length=M.length){q:Nat}(hq:q<M.length)(c:Nat):
 rowv (zAJ M y) q c=if c<n then rowv M q c else if c=n then vec y q else 0:=by
 have hw:=h.wid _ (yAH hq)
 have e:(zAJ M y)[q]? =some (M[q]++[y[q]]):=by unfold zAJ;rw[List.getElem?_zipWith,yAA hq,yAA (by omega)]
 unfold rowv
 rw[e,yAA hq]
 simp only[yBA]
 by_cases hc:c<n
 ·rw[if_pos hc,vec_app_lt (by rw[hw];exact hc)]
 ·rw[if_neg hc,vec_app_ge (by rw[hw];omega),hw]
  by_cases e2:c=n
  ·rw[if_pos e2,e2,yCF,zCV (l:=[y[q]]) (by simp),zCV (l:=y) (by omega)];rfl
  ·rw[if_neg e2,zFP (by simp;omega)]
end
end
section
open Go.RowKit
def Stop(P:Prop):Prop:=P
theorem Stop.of{P:Prop}(h:Stop P):P:=h
theorem Stop.go{P:Prop}(h:P):Stop P:=h
theorem hid{p:Prop}(h:p):Hid p:=h
def zAH(w:World)(a:Option Addr)(l:List Int):Prop:=
 ∀j,j<l.length->∃b off,a=some ⟨b,off,none⟩∧b<w.heap.size∧w.cell? ⟨b,off+j,none⟩=some (.int .i64 (l[j]?.getD 0))
theorem zAH.below{w w':World}{a:Option Addr}{l:List Int}(h:zAH w a l)(hb:Below w.heap.size w w'):zAH w' a l:=by
 intro j hj
 obtain⟨b,off,e,hlt,hc⟩:=h j hj
 exact⟨b,off,e,yAJ hlt hb.size,(hb.cell (p:=⟨b,off+j,none⟩) hlt).trans hc⟩
theorem zAA{a b c:World}(h:Below a.heap.size a b)(k:Below b.heap.size b c):Below a.heap.size a c:=h.trans (k.mono h.size)
theorem zAI{B:Nat}{a w:World}(h:Below B a w)(n:Nat):Below B a (w.drewN n):=⟨h.os,h.tape,h.output,h.size,h.block⟩
theorem bcell{W w1:World}(hb:Below W.heap.size W w1):(∀b o,b<W.heap.size->w1.cell? ⟨b,o,none⟩=W.cell? ⟨b,o,none⟩)∧(∀b o,b<W.heap.size->w1.frozen? ⟨b,o,none⟩=W.frozen? ⟨b,o,none⟩):=
 ⟨fun b o h=>hb.cell (p:=⟨b,o,none⟩) h,fun b o h=>hb.frozen (p:=⟨b,o,none⟩) h⟩
theorem meas{n k:Nat}(h:k<n):n-(intOf (.int .i64 ((k:Int)+1))).toNat<n-(intOf (.int .i64 (k:Int))).toNat:=by simp[intOf];omega
theorem cast1(k:Nat):Value.int .i64 ((k:Int)+1)=Value.int .i64 ((k+1:Nat):Int):=by congr 1
theorem zDC{k:IntKind}{a b:Int}(h:a=b):Ending.returned (.int k a)=.returned (.int k b):=by rw[h]
theorem zAP{a b:Bool}(h:a=b):Ending.returned (.bool a)=.returned (.bool b):=by rw[h]
def idxP{α:Type}(p:α->Bool):List α->Nat->Int
 | [],_=> -1
 |x::l,k=>if p x then(k:Int)else idxP p l (k+1)
theorem zGR{α:Type}(p:α->Bool):∀(l:List α) (k:Nat),(∀x∈l,p x=false)->idxP p l k= -1
 | [],_,_=>rfl
 |x::l,k,h=>by
  unfold idxP
  rw[if_neg (by rw[h x (by simp)];simp),zGR p l (k+1) (fun y hy=>h y (by simp[hy]))]
theorem zIW{α:Type}(p:α->Bool):∀(l:List α) (k j:Nat) (x:α),l[j]? =some x->p x=true->(∀i y,i<j->l[i]? =some y->p y=false)->idxP p l k=((k+j:Nat):Int)
 | [],_,j,x,h,_,_=>by simp at h
 |y::l,k,0,x,h,hp,_=>by
  simp at h;subst h;unfold idxP;rw[if_pos hp];simp
 |y::l,k,j+1,x,h,hp,hn=>by
  have h0:=hn 0 y (by omega) rfl
  unfold idxP
  rw[if_neg (by rw[h0];simp),zIW p l (k+1) j x (by simpa using h) hp (fun i z hi hz=>hn (i+1) z (by omega) (by simpa using hz))]
  congr 1;omega
theorem zKV{α:Type}(p:α->Bool):∀(l:List α) (k:Nat),(0<=idxP p l k)=(l.any p=true)
 | [],k=>by simp[idxP]
 |x::l,k=>by
  unfold idxP
  by_cases h:p x=true
  ·simp[h]
  ·rw[if_neg h,zKV p l (k+1)];simp[h]
def zPB(P:Program)(g:Nat)(lb:Array Value)(w:World)(p:Int->Bool):Prop:=
 ∀(x:Int) (W:World),Below w.heap.size w W->Calls P g (#[.int .i64 x]++lb) W fun e W'=>e=.returned (.bool (p x))∧Below W.heap.size W W'
theorem getD_lt{l:List Int}{k:Nat}(h:k<l.length):l[k]? =some (l[k]?.getD 0):=by
 simp[yAA h]
end
section
open Go.RowKit
structure Keep (S:Nat->Prop) (A B:World):Prop where
 os:B.os=A.os
 tape:B.tape=A.tape
 output:B.output=A.output
 size:A.heap.size<=B.heap.size
 block:∀k,k<A.heap.size->S k->B.heap[k]? =A.heap[k]?
theorem Keep.refl(S:Nat->Prop)(A:World):Keep S A A:=⟨rfl,rfl,rfl,yAC _,fun _ _ _=>rfl⟩
theorem Keep.trans{S:Nat->Prop}{A B C:World}(h:Keep S A B)(k:Keep S B C):Keep S A C:=
 ⟨k.os.trans h.os,k.tape.trans h.tape,k.output.trans h.output,yAF h.size k.size,fun i hi hs=>(k.block i (yAJ hi h.size) hs).trans (h.block i hi hs)⟩
theorem Keep.drewN{S:Nat->Prop}{A B:World}(h:Keep S A B)(n:Nat):Keep S A (B.drewN n):=⟨h.os,h.tape,h.output,h.size,h.block⟩
theorem Keep.mono{S T:Nat->Prop}{A B:World}(h:Keep S A B)(hs:∀k,T k->S k):Keep T A B:=⟨h.os,h.tape,h.output,h.size,fun k hk ht=>h.block k hk (hs k ht)⟩
theorem Keep.of_below{S:Nat->Prop}{A B:World}(h:Below A.heap.size A B):Keep S A B:=⟨h.os,h.tape,h.output,h.size,fun k hk _=>h.block k hk⟩
theorem Keep.grown{A B:World}{row:Option Nat}(h:A.grownBy B row):Keep (fun k=>some k≠row) A B:=⟨h.os,h.tape,h.output,h.size,fun k hk hs=>h.block k hk hs⟩
theorem Keep.put(A:World)(l:Nat)(o:Obj):Keep (fun k=>k≠l) A (A.putObj l o):=(Keep.grown (grownBy_putObj' A l o)).mono fun k hk e=>hk (by cases e;rfl)
theorem Keep.set(A:World)(b o:Nat)(v:Value):Keep (fun k=>k≠b) A (A.setCell ⟨b,o,none⟩ v):=
 ⟨rfl,rfl,rfl,by simp[World.setCell],fun k _ hs=>Below.heap_setCell _ _ _ _ hs⟩
theorem Keep.below{S:Nat->Prop}{A B w:World}{N:Nat}(h:Keep S A B)(hb:Below N w A)(hN:N<=A.heap.size)(hs:∀k,k<N->S k):Below N w B:=
 hb.trans ⟨h.os,h.tape,h.output,h.size,fun k hk=>h.block k (by omega) (hs k hk)⟩
theorem Keep.cell{S:Nat->Prop}{A B:World}(h:Keep S A B){b o:Nat}{v:Value}(hc:A.cell? ⟨b,o,none⟩=some v)(hs:S b):B.cell? ⟨b,o,none⟩=some v:=
 (World.cell?_of_block (a:=⟨b,o,none⟩) (h.block b (World.block_lt_of_cell? A ⟨b,o,none⟩ hc) hs)).trans hc
def zLT(w:World)(E:TypeId)(b:Nat)(l:List Int):Prop:=w.heap[b]? =some (.cells (l.map (Value.int .i64)).toArray E (0,0))
theorem zLT.set{w:World}{E:TypeId}{b:Nat}{l:List Int}(h:zLT w E b l)(j:Nat)(n:Int):zLT (w.setCell ⟨b,j,none⟩ (.int .i64 n)) E b (l.set j n):=by
 obtain⟨hlt,hk⟩:=yAB.1 h
 unfold zLT
 show(w.heap.modify b _)[b]? =_
 rw[yDN (by rw[Array.size_modify];exact hlt),yGE,hk]
 simp[List.map_set]
theorem zLT.made(w:World)(E:TypeId)(n:Nat):zLT (w.alloc (.cells (madeCells #[.int .i64 0] n) E)) E w.heap.size (List.replicate n 0):=by
 have e:madeCells #[Value.int .i64 0] n=((List.replicate n (0:Int)).map (Value.int .i64)).toArray:=by
  apply yEO.1
  rw[toList_madeCells_one];simp
 unfold zLT
 rw[<- e]
 exact World.alloc_heap_new _ _
def IterInts(P:Program)(E:TypeId)(g:Nat)(lb:Array Value)(xs:List (List Int))(fp:Nat->Prop)(w0:World):Prop:=
 ∀(l:Nat) (J:Nat->List (List Int)->World->Prop) (Jx:List (List Int)->World->Prop) (W:World),Below w0.heap.size w0 W->
  (∀it s A B,W.heap.size<=it->J it s A->Keep (fun k=>k≠it) A B->J it s B)->
  (∀it pre x cap sp W1,pre++[x] <+: xs->W.heap.size<=it->it<W1.heap.size->J it pre W1->W1.heap[it]? =some (.cells (x.map (Value.int .i64)++sp).toArray E (0,0))->
    YieldAt Fence.wide 0 P l #[.slice (some ⟨it,0,none⟩) x.length cap] W1 fun e W'=>
     (e=.returned (.bool true)∧J it (pre++[x]) W'∧W1.heap.size<=W'.heap.size∧(∀k,fp k∨k=it->W'.heap[k]? =W1.heap[k]?))∨(e=.returned (.bool false)∧Jx (pre++[x]) W'))->
  (∀it,W.heap.size<=it->J it [] W)->
  CallsIn Fence.wide 0 P g (#[.func (.yield l) #[] #[]]++lb) W fun e W'=>(∃v,e=.returned v)∧((∃it,W.heap.size<=it∧J it xs W')∨(∃pre,pre <+: xs∧Jx pre W'))
def roundEnd(S:Nat->Prop)(I:List (List Int)->World->Prop)(Ix:Code->List (List Int)->World->Prop)(xs:List (List Int))(W:World):Exit->Act->World->Prop
 | .normal,_,W'=>W.heap.size<=W'.heap.size∧(∀k,S k->W'.heap[k]? =W.heap[k]?)∧I xs W'
 | .ret,_,W'=>W.heap.size<=W'.heap.size∧(∀k,S k->W'.heap[k]? =W.heap[k]?)∧Ix .ret xs W'
 | .exit id,_,W'=>W.heap.size<=W'.heap.size∧(∀k,S k->W'.heap[k]? =W.heap[k]?)∧Ix (.exit id) xs W'
 | .goto t,_,W'=>W.heap.size<=W'.heap.size∧(∀k,S k->W'.heap[k]? =W.heap[k]?)∧Ix (.goto t) xs W'
 | .panic _,_,_=>False
 | .outgrown,_,_=>False
theorem range_ints{P:Program}{E:TypeId}{g:Operand}{p:Tmp}{assign body:Code}{Q:Exit->Act->World->Prop}{a:Act}{w:World}
 {gf:Nat}{lb:Array Value}(hg:a.eval g=.func (.func gf) #[] lb)(eg:∀args w,(callFunc gf args).run P w=.ok (.enter gf args) w)
 {xs:List (List Int)}{fp:Nat->Prop}{w0:World}(hseq:IterInts P E gf lb xs fp w0)(hb0:Below w0.heap.size w0 w)(hfp:∀k,fp k->k<w.heap.size)
 (I:Nat->List (List Int)->World->Prop)(Ix:Code->List (List Int)->World->Prop)
 (hI:∀it s A B,w.heap.size+2<=it->I it s A->Keep (fun k=>k≠w.heap.size∧k≠w.heap.size+1∧k≠it) A B->I it s B)
 (hIx:∀c s A B,Ix c s A->Keep (fun k=>k≠w.heap.size∧k≠w.heap.size+1) A B->Ix c s B)
 (h0:∀it,w.heap.size+2<=it->I it [] w)(a₁:Value->Act)
 (hassign:∀(l:Nat) (v:Value) (W:World) (K:Act->World->Prop),K (a₁ v) W->
   assign.wpIn (Fence.wide.inRound l) 0 P (Exit.then K (fun _ _ _=>False)) {tmps:=a.tmps.setIfInBounds p v,defers:=[]} W)
 (hbody:∀(l it:Nat) (pre:List (List Int)) (x:List Int) (cap:Nat) (sp:List Value) (W:World),w.heap.size+2<=it->pre++[x] <+: xs->I it pre W->it<W.heap.size->
   W.heap[it]? =some (.cells (x.map (Value.int .i64)++sp).toArray E (0,0))->
   (∃o,W.heap[w.heap.size]? =some o∧o.isCells=false)->(∃o,W.heap[w.heap.size+1]? =some o∧o.isCells=false)->
   body.wpIn (Fence.wide.inRound l) 0 P (roundEnd (fun k=>fp k∨k=w.heap.size∨k=w.heap.size+1∨k=it) (I it) Ix (pre++[x]) W) (a₁ (.slice (some ⟨it,0,none⟩) x.length cap)) W)
 (hdone:∀(it:Nat) (W:World),w.heap.size+2<=it->I it xs W->W.heap[w.heap.size]? =some (.deferred (some []))->Q .normal {a with defers:={target:=.collected w.heap.size,args:=#[]}::a.defers} W)
 (hstop:∀(c:Code) (pre:List (List Int)) (W:World),pre <+: xs->Ix c pre W->W.heap[w.heap.size]? =some (.deferred (some []))->c.wpIn Fence.wide 0 P Q {a with defers:={target:=.collected w.heap.size,args:=#[]}::a.defers} W):
 (Code.rangeFunc g #[p] assign body).wpIn Fence.wide 0 P Q a w:=by
 refine wpIn_rangeFunc ?_
 intro fn hfn
 obtain⟨rec,hrec⟩:∃rec:LoopState->Option Code->Loop,rec=fun st pe=>{state:=st,pending:=pe,fn,tmps:=a.tmps,params:=#[p],assign,body,defers:=w.heap.size}:=⟨_,rfl⟩
 obtain⟨W1,hW1⟩:∃W1,(w.alloc (.deferred (some []))).alloc (.loop (rec .ready none))=W1:=⟨_,rfl⟩
 have hsz1:W1.heap.size=w.heap.size+2:=by rw[<- hW1];simp
 have hL1:W1.heap[w.heap.size+1]? =some (.loop (rec .ready none)):=by
  rw[<- hW1];have:=World.alloc_heap_new (w.alloc (.deferred (some []))) (.loop (rec .ready none));rwa [World.size_alloc]at this
 have hK1:W1.heap[w.heap.size]? =some (.deferred (some [])):=by
  rw[<- hW1];exact(Below.heap_alloc _ _ _ (by simp)).trans (World.alloc_heap_new w _)
 have hbw:Below w.heap.size w W1:=by rw[<- hW1];exact((Below.refl _ w).alloc (yAC _) _).alloc (by simp) _
 refine⟨w.heap.size+1,[{target:=.collected w.heap.size,args:=#[]}],W1,{target:=.fn (.func gf) lb,args:=#[.func (.yield (w.heap.size+1)) #[] #[]]},W1,gf,
  #[.func (.yield (w.heap.size+1)) #[] #[]]++lb,W1,?_,?_,?_,?_,fun h=>by simp[Fence.wide]at h,?_⟩
 ·rw[<- hW1,hrec];exact run_enterLoop_outer _ _ _ _ _
 ·simp only[resolve,hg]
  simp[go_sem]
 ·intro f' hf';exact trivial
 ·simp[invoke,go_sem,eg]
 ·refine(hseq (w.heap.size+1)
   (fun it pre W=>I it pre W∧W.heap[w.heap.size+1]? =some (.loop (rec .ready none))∧W.heap[w.heap.size]? =some (.deferred (some [])))
   (fun pre W=>∃c,Ix c pre W∧W.heap[w.heap.size+1]? =some (.loop (rec .done (some c)))∧W.heap[w.heap.size]? =some (.deferred (some [])))
   W1 (zAA hb0 hbw) ?_ ?_ ?_).mono ?_
  ·rintro it s A B hit ⟨hi,hl,hk⟩ hAB
   rw[hsz1]at hit
   exact⟨hI it s A B hit hi (hAB.mono fun k hk=>hk.2.2),(hAB.block _ (yAB.1 hl).1 (by omega)).trans hl,(hAB.block _ (yAB.1 hk).1 (by omega)).trans hk⟩
  ·rintro it pre x cap sp W hpre hit hitW ⟨hi,hl,hk⟩ hx
   rw[hsz1]at hit
   have hlt:w.heap.size+1<W.heap.size:=(yAB.1 hl).1
   have hy:=run_yield (P:=P) (args:=#[.slice (some ⟨it,0,none⟩) x.length cap]) hl (by rw[hrec];simp)
   rw[hrec]at hy
   have hy':(Instr.yield (w.heap.size+1) #[.slice (some ⟨it,0,none⟩) x.length cap]).run P W=.ok (.round (w.heap.size+1) fn (a.tmps.setIfInBounds p (.slice (some ⟨it,0,none⟩) x.length cap)) assign body) W:=by
    simpa using hy
   refine⟨fn,_,assign,body,hy',roundIn_of_wpIn hfn ?_⟩
   refine hassign _ (.slice (some ⟨it,0,none⟩) x.length cap) W _ ?_
   refine⟨_,run_beginRound hl (by rw[hrec]),?_⟩
   have hl2:(W.putObj (w.heap.size+1) (.loop {rec .ready none with state:=.busy})).heap[w.heap.size+1]? =some (.loop {rec .ready none with state:=.busy}):=World.putObj_heap_same hlt
   have hx2:(W.putObj (w.heap.size+1) (.loop {rec .ready none with state:=.busy})).heap[it]? =some (.cells (x.map (Value.int .i64)++sp).toArray E (0,0)):=(World.putObj_heap_other (by omega)).trans hx
   have hkp:=Keep.put W (w.heap.size+1) (.loop {rec .ready none with state:=.busy})
   refine wpIn_mono (hbody _ it pre x cap sp _ hit hpre (hI it _ _ _ hit hi (hkp.mono fun k hk=>hk.2.1)) (yAJ hitW hkp.size) hx2 ⟨_,(World.putObj_heap_other (by omega)).trans hk,rfl⟩ ⟨_,hl2,rfl⟩) ?_
   have fin:∀(jump:Option Code) (W3:World),(∀k,(fp k∨k=w.heap.size∨k=w.heap.size+1∨k=it)->W3.heap[k]? =(W.putObj (w.heap.size+1) (.loop {rec .ready none with state:=.busy})).heap[k]?)->
    (Instr.endRound (w.heap.size+1) jump).run P W3=.ok (.bool jump.isNone) (W3.putObj (w.heap.size+1) (.loop (rec (if jump.isNone then .ready else .done) jump)))∧
    W3.heap[w.heap.size+1]? =some (.loop {rec .ready none with state:=.busy})∧
    (W3.putObj (w.heap.size+1) (.loop (rec (if jump.isNone then .ready else .done) jump))).heap[w.heap.size+1]? =some (.loop (rec (if jump.isNone then .ready else .done) jump))∧
    (W3.putObj (w.heap.size+1) (.loop (rec (if jump.isNone then .ready else .done) jump))).heap[w.heap.size]? =some (.deferred (some [])):=fun jump W3 hk3=>by
    have hl3:=(hk3 (w.heap.size+1) (by simp)).trans hl2
    have:=run_endRound (P:=P) jump hl3
    rw[hrec]at this⊢
    refine⟨this,by rw[hrec]at hl3;exact hl3,World.putObj_heap_same (yAB.1 hl3).1,(World.putObj_heap_other (by omega)).trans ((hk3 w.heap.size (by simp)).trans ((World.putObj_heap_other (by omega)).trans hk))⟩
   rintro e a3 W3 hp
   have keepP:∀(o:Obj),Keep (fun k=>k≠w.heap.size∧k≠w.heap.size+1) W3 (W3.putObj (w.heap.size+1) o):=fun o=>(Keep.put W3 (w.heap.size+1) o).mono fun k hk=>hk.2
   cases e with
   |normal=>
    obtain⟨hs3,hk3,hi3⟩:=hp
    obtain⟨hr,hl3,hl4,hk4⟩:=fin none W3 hk3
    refine⟨_,_,hr,.inl ⟨rfl,⟨hI it _ _ _ hit hi3 ((Keep.put W3 _ _).mono fun k hk=>hk.2.1),hl4,hk4⟩,?_,?_⟩⟩
    ·exact yAF (yAF hkp.size hs3) (keepP _).size
    ·intro k hk
     have hne:k≠w.heap.size+1:=by
      rcases hk with hk|hk
      ·have:=hfp k hk;omega
      ·omega
     exact(World.putObj_heap_other hne).trans ((hk3 k (by rcases hk with hk|hk<;>simp[hk])).trans (World.putObj_heap_other hne))
   |ret=>
    obtain⟨hs3,hk3,hi3⟩:=hp
    obtain⟨hr,hl3,hl4,hk4⟩:=fin (some .ret) W3 hk3
    exact⟨_,_,hr,.inr ⟨rfl,.ret,hIx _ _ _ _ hi3 (keepP _),hl4,hk4⟩⟩
   |exit id=>
    obtain⟨hs3,hk3,hi3⟩:=hp
    obtain⟨hr,hl3,hl4,hk4⟩:=fin (some (.exit id)) W3 hk3
    exact⟨_,_,hr,.inr ⟨rfl,.exit id,hIx _ _ _ _ hi3 (keepP _),hl4,hk4⟩⟩
   |goto t=>
    obtain⟨hs3,hk3,hi3⟩:=hp
    obtain⟨hr,hl3,hl4,hk4⟩:=fin (some (.goto t)) W3 hk3
    exact⟨_,_,hr,.inr ⟨rfl,.goto t,hIx _ _ _ _ hi3 (keepP _),hl4,hk4⟩⟩
   |panic ch=>exact hp.elim
   |outgrown=>exact hp.elim
  ·intro it hit
   rw[hsz1]at hit
   exact⟨hI it _ _ _ hit (h0 it hit) (Keep.of_below hbw),hL1,hK1⟩
  ·rintro e W2 ⟨⟨v,rfl⟩,(⟨it,hit,hi,hl,hk⟩|⟨pre,hSp,c,hi,hl,hk⟩)⟩
   ·rw[hsz1]at hit
    refine⟨none,_,by have:=run_endLoop (P:=P) hl (by rw[hrec];simp);rw[hrec]at this;exact this,hdone it _ hit (hI it _ _ _ hit hi ((Keep.put W2 _ _).mono fun k hk=>hk.2.1)) ((World.putObj_heap_other (by omega)).trans hk)⟩
   ·refine⟨some c,_,by have:=run_endLoop (P:=P) hl (by rw[hrec];simp);rw[hrec]at this;exact this,hstop c pre _ hSp (hIx _ _ _ _ hi ((Keep.put W2 _ _).mono fun k hk=>hk.2)) ((World.putObj_heap_other (by omega)).trans hk)⟩
end
section
open Go.RowKit
def zAM(w:World)(a:Option Addr)(ls:List (List Int)):Prop:=
 ∀j (hj:j<ls.length),∃b off ra n cap,a=some ⟨b,off,none⟩∧b<w.heap.size∧w.cell? ⟨b,off+j,none⟩=some (.slice ra n cap)∧ls[j].length=n∧n<=maxLen∧zAH w ra ls[j]
theorem zAM.below{w w':World}{a:Option Addr}{l:List (List Int)}(h:zAM w a l)(hb:Below w.heap.size w w'):zAM w' a l:=by
 intro j hj
 obtain⟨b,off,ra,n,cap,e,hlt,h0,hn,hm,hi⟩:=h j hj
 exact⟨b,off,ra,n,cap,e,yAJ hlt hb.size,(hb.cell (p:=⟨b,_,none⟩) hlt).trans h0,hn,hm,hi.below hb⟩
def zDX(E:TypeId)(W:World)(base:Nat)(S:Nat->Prop)(v:Value)(l:List Int):Prop:=
 ∃a n cap,v=.slice a n cap∧l.length=n∧n<=maxLen∧∀j,j<l.length->∃b off,a=some ⟨b,off,none⟩∧S b∧b<W.heap.size∧
  (b<base∨∃c f,W.heap[b]? =some (.cells c E f))∧W.cell? ⟨b,off+j,none⟩=some (.int .i64 (l[j]?.getD 0))
theorem zDX.keep{E:TypeId}{W W':World}{base:Nat}{S T:Nat->Prop}{v:Value}{l:List Int}(h:zDX E W base S v l)(hk:Keep T W W')
 (hT:∀b,S b->b<W.heap.size->(b<base∨∃c f,W.heap[b]? =some (.cells c E f))->T b):zDX E W' base S v l:=by
 obtain⟨a,n,cap,e,hn,hm,hj⟩:=h
 refine⟨a,n,cap,e,hn,hm,fun j hlt=>?_⟩
 obtain⟨b,off,e,hS,hb,hty,hc⟩:=hj j hlt
 have ht:=hT b hS hb hty
 refine⟨b,off,e,hS,yAJ hb hk.size,?_,hk.cell hc ht⟩
 rcases hty with h|⟨c,f,h⟩
 ·exact .inl h
 ·exact .inr ⟨c,f,(hk.block b hb ht).trans h⟩
theorem zDX.ints{E:TypeId}{W:World}{base:Nat}{S:Nat->Prop}{l:List Int}{a:Option Addr}{n cap:Nat}(h:zDX E W base S (.slice a n cap) l):l.length=n∧n<=maxLen∧zAH W a l:=by
 obtain⟨a',n',cap',e,hn,hm,hj⟩:=h
 cases e
 refine⟨hn,hm,fun j hlt=>?_⟩
 obtain⟨b,off,e,_,hb,_,hc⟩:=hj j hlt
 exact⟨b,off,e,hb,hc⟩
theorem zDX.own{E:TypeId}{W:World}{b0 base:Nat}{S:Nat->Prop}{v:Value}{l:List Int}(h:W.ownsRow b0 E 1 v l.length (l.map (Value.int .i64)))(hm:l.length<=maxLen)(hS:∀b,b0<=b->S b):zDX E W base S v l:=by
 obtain⟨h1,h2⟩:=h
 rcases h2 with⟨rfl,h0⟩|⟨g,cap,cur,rfl,hg,hh,hnc,hcm,hsz,htk⟩
 ·exact⟨none,0,0,rfl,h0,by unfold maxLen;omega,fun j hj=>by omega⟩
 ·refine⟨_,_,cap,rfl,rfl,hm,fun j hj=>⟨g,0,rfl,hS g hg,(yAB.1 hh).1,.inr ⟨cur,_,hh⟩,?_⟩⟩
  rw[yAW]
  have:=World.ownsRow.cellAt (w:=W) (base:=b0) (e:=E) (size:=1) (g:=g) (n:=l.length) (cap:=cap) (xs:=l.map (Value.int .i64)) ⟨h1,.inr ⟨g,cap,cur,rfl,hg,hh,hnc,hcm,hsz,htk⟩⟩ j (by omega)
  rw[this,yAZ,yAA hj];rfl
theorem zAC{W:World}{base:Nat}{e:TypeId}{size:Nat}{v:Value}{n:Nat}{xs:List Value}(h:W.ownsRow base e size v n xs):∃a cap,v=.slice a n cap:=by
 rcases h.2 with⟨rfl,rfl⟩|⟨g,cap,cur,rfl,_⟩
 ·exact⟨_,_,rfl⟩
 ·exact⟨_,_,rfl⟩
def zEQ(E T:TypeId)(W:World)(base:Nat)(S:Nat->Prop)(v:Value)(ls:List (List Int)):Prop:=
 ∃vs,W.ownsRow base T 1 v ls.length vs∧(∀k,v.ownBlock=some k->S k)∧∀j (hj:j<ls.length),∃u,vs[j]? =some u∧zDX E W base S u ls[j]
theorem zEQ.nil(E T:TypeId)(W:World)(base:Nat)(S:Nat->Prop):zEQ E T W base S (.slice none 0 0) []:=
 ⟨[],World.ownsRow_nil _ _ _ _,fun k hk=>by simp[Value.ownBlock]at hk,fun j hj=>by simp at hj⟩
theorem zEQ.keep{E T:TypeId}{W W':World}{base:Nat}{S:Nat->Prop}{v:Value}{ls:List (List Int)}(h:zEQ E T W base S v ls)(hk:Keep S W W'):zEQ E T W' base S v ls:=by
 obtain⟨vs,ho,hg,he⟩:=h
 refine⟨vs,⟨ho.1,?_⟩,hg,fun j hj=>?_⟩
 ·rcases ho.2 with hn|⟨g,cap,cur,rfl,hb,hgg,rest⟩
  ·exact .inl hn
  ·exact .inr ⟨g,cap,cur,rfl,hb,(hk.block g (yAB.1 hgg).1 (hg g rfl)).trans hgg,rest⟩
 ·obtain⟨u,hu,hel⟩:=he j hj
  exact⟨u,hu,hel.keep hk fun b hS _ _=>hS⟩
theorem zEQ.snoc{E T:TypeId}(hET:E≠T){W w1 w2:World}{base:Nat}{S:Nat->Prop}{v v' u:Value}{ls:List (List Int)}{l:List Int}{vs:List Value}
 (ho:W.ownsRow base T 1 v ls.length vs)(he:∀j (hj:j<ls.length),∃u,vs[j]? =some u∧zDX E W base S u ls[j])(hu:zDX E W base S u l)
 (hW1:Below W.heap.size W w1)(hg:w1.grownBy w2 v.ownBlock)(ho':w2.ownsRow base T 1 v' (ls.length+1) (vs++[u]))(hS':∀k,v'.ownBlock=some k->S k):zEQ E T w2 base S v' (ls++[l]):=by
 have hlen:vs.length=ls.length:=by have:=ho.1;omega
 have hgb:∀b,(b<base∨∃c f,W.heap[b]? =some (.cells c E f))->b<W.heap.size->w2.heap[b]? =W.heap[b]? :=by
  intro b hty hb
  refine(hg.block b (yAJ hb hW1.size) ?_).trans (hW1.block b hb)
  rcases ho.2 with⟨rfl,_⟩|⟨g,cap,cur,rfl,hbg,hgg,_⟩
  ·simp[Value.ownBlock]
  ·intro e
   obtain rfl:b=g:=by simpa[Value.ownBlock]using e
   rcases hty with h|⟨c,f,h⟩
   ·omega
   ·rw[h]at hgg;cases hgg;exact hET rfl
 have hel:∀u l,zDX E W base S u l->zDX E w2 base S u l:=by
  intro u l h
  refine h.keep (T:=fun b=>b<W.heap.size∧(b<base∨∃c f,W.heap[b]? =some (.cells c E f))) ⟨hg.os.trans hW1.os,hg.tape.trans hW1.tape,hg.output.trans hW1.output,yAF hW1.size hg.size,fun k hk hT=>hgb k hT.2 hk⟩ fun b _ hb hty=>⟨hb,hty⟩
 refine⟨vs++[u],by simpa using ho',hS',fun j hj=>?_⟩
 by_cases e:j<ls.length
 ·obtain⟨u',hu',hel'⟩:=he j e
  refine⟨u',by rw[yAO (by omega)];exact hu',?_⟩
  rw[yBO e]
  exact hel _ _ hel'
 ·have:j=ls.length:=by simp at hj;omega
  subst this
  refine⟨u,by rw[yAQ (by omega),hlen];simp,?_⟩
  simp only[yBL (yAC _),yCF,yBG]
  exact hel _ _ hu
theorem zEQ.reads{E T:TypeId}{W:World}{base:Nat}{S:Nat->Prop}{v:Value}{ls:List (List Int)}(h:zEQ E T W base S v ls):∃a cap,v=.slice a ls.length cap∧ls.length<=maxLen∧zAM W a ls∧(a=none->ls=[]):=by
 obtain⟨vs,ho,hg,he⟩:=h
 rcases ho.2 with⟨rfl,h0⟩|⟨g,cap,cur,rfl,hbg,hgg,hnc,hcm,hsz,htk⟩
 ·have:ls=[]:=yEN h0
  subst this
  exact⟨none,0,rfl,by simp,fun j hj=>by simp at hj,fun _=>rfl⟩
 ·refine⟨_,cap,rfl,by omega,fun j hj=>?_,fun h=>by cases h⟩
  obtain⟨u,hu,hel⟩:=he j hj
  have hc:=World.ownsRow.cellAt (w:=W) (base:=base) (e:=T) (size:=1) (g:=g) (n:=ls.length) (cap:=cap) (xs:=vs) ⟨ho.1,.inr ⟨g,cap,cur,rfl,hbg,hgg,hnc,hcm,hsz,htk⟩⟩ j (by omega)
  obtain⟨a',n',cap',rfl,h1,h2,h3⟩:=id hel
  obtain⟨h1,h2,h3⟩:=hel.ints
  exact⟨g,0,a',n',cap',rfl,(yAB.1 hgg).1,by rw[yAW,hc,hu],h1,h2,h3⟩
end
end Go.Proofs.YtlffndehhhpgjaaGreat
