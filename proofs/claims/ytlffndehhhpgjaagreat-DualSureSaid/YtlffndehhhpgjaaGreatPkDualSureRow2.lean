/- Walks and plain laws for DualSureRow, part 2. -/
import Derived.Test.YtlffndehhhpgjaaGreatRows
import Derived.WalkKit
import Derived.BigQuiet
import Derived.Deep.QuietTactic
import Derived.Shelf.Abstract
import Derived.Deep.OwnRows
import Derived.RangeFuncNested
import Derived.RangeFuncBound
import Derived.RangeFuncCalls
import Derived.RangeFuncLeaves
import Derived.Shelf.RegionOpen
import Derived.OwnWalkIn
import Derived.TacticsInMore
import Derived.LoopNIn
import Derived.LoopIn
import Derived.Laws.EntriesVeiled
import Derived.Laws.AppendOwnNone
import Derived.IntWalk
import Derived.Deep.RegionHeld3
import Derived.Test.YtlffndehhhpgjaaGreatPkDualSureRow1
namespace Go.Proofs.YtlffndehhhpgjaaGreat
set_option linter.unusedVariables false
set_option linter.unusedSimpArgs false
set_option maxRecDepth 100000
set_option maxHeartbeats 4000000
section
section
theorem Sp.mono{B B':Vec->Prop}(h:∀v,B v->B' v){v:Vec}(hv:Sp B v):Sp B' v:=hv.trans fun u hu=>.of (h u hu)
theorem RB.mono{K K':Nat}(h:K<=K'){W:Nat->Vec}{v:Vec}(hv:Sp (RB K W) v):Sp (RB K' W) v:=hv.mono fun u ⟨k,hk,e⟩=>⟨k,by omega,e⟩
theorem Sp.split{K:Nat}{W:Nat->Vec}{v:Vec}(h:Sp (RB (K+1) W) v):∃n a:Int,n≠0∧Sp (RB K W) (fun c=>n*v c+a*W K c):=by
 induction h with
 |of hb=>
  obtain⟨k,hk,rfl⟩:=hb
  by_cases e:k=K
  ·subst e;exact⟨1,-1,by decide,Sp.zero.congr fun c=>by grind⟩
  ·exact⟨1,0,by decide,(RB.sp (by omega:k<K)).congr fun c=>by grind⟩
 |zero=>exact⟨1,0,by decide,Sp.zero.congr fun c=>by simp⟩
 |add _ _ h1 h2=>
  obtain⟨n,a,hn,h1⟩:=h1
  obtain⟨m,b,hm,h2⟩:=h2
  exact⟨n*m,m*a+n*b,Int.mul_ne_zero hn hm,(Sp.lin m n h1 h2).congr fun c=>by grind⟩
 |mul x _ h1=>
  obtain⟨n,a,hn,h1⟩:=h1
  exact⟨n,x*a,hn,(Sp.mul x h1).congr fun c=>by grind⟩
 |div hx _ h1=>
  obtain⟨n,a,hn,h1⟩:=h1
  exact⟨n*_,a,Int.mul_ne_zero hn hx,h1.congr fun c=>by grind⟩
theorem Red.le:∀{K:Nat} {K':Nat} {J':Nat->Nat} {R':Nat->Vec} {W:Nat->Vec},Red K' J' R'->(∀k,k<K'->Sp (RB K W) (R' k))->K'<=K
 |0,K',J',R',W,h,hs=>by
  rcases Nat.eq_zero_or_pos K' with e|e
  ·omega
  ·exfalso
   have:∀{v:Vec},Sp (RB 0 W) v->∀c,v c=0:=by
    intro v hv
    induction hv with
    |of hb=>obtain⟨k,hk,_⟩:=hb;omega
    |zero=>intro c;rfl
    |add _ _ h1 h2=>intro c;simp only[h1,h2];rfl
    |mul x _ h1=>intro c;simp only[h1];simp
    |div hx _ h1=>intro c;exact zAN hx (h1 c)
   exact h.piv 0 e (this (hs 0 e) _)
 |K+1,K',J',R',W,h,hs=>by
  rcases Classical.em (∀k,k<K'->Sp (RB K W) (R' k))with c|c
  ·have:=Red.le h c;omega
  ·obtain⟨k0,c⟩:=Classical.not_forall.1 c
   obtain⟨hk0,c⟩:=Classical.not_imp.1 c
   obtain⟨n,a,hn,h0⟩:=(hs k0 hk0).split
   have ha:a≠0:=fun e=>c (Sp.div hn (h0.congr fun c=>by rw[e];grind))
   obtain⟨K1,rfl⟩:∃K1,K'=K1+1:=⟨K'-1,by omega⟩
   have hch:∀k,∃m b:Int,k<K1+1->m≠0∧Sp (RB K W) (fun c=>m*R' k c+b*W K c):=by
    intro k
    by_cases hk:k<K1+1
    ·obtain⟨m,b,hm,hh⟩:=(hs k hk).split;exact⟨m,b,fun _=>⟨hm,hh⟩⟩
    ·exact⟨0,0,fun h=>absurd h hk⟩
   obtain⟨sk,hsk⟩:∃sk:Nat->Nat,sk=fun k=>if k<k0 then k else k+1:=⟨_,rfl⟩
   have sk1:∀k,k<K1->sk k<K1+1∧sk k≠k0:=by
    intro k hk;rw[hsk];simp only[]
    split<;>constructor<;>omega
   have sk2:∀k q,sk k=sk q->k=q:=by
    intro k q e;rw[hsk]at e;simp only[]at e
    split at e<;>split at e<;>omega
   have hch2:∀k,∃V:Vec,k<K1->Sp (RB K W) V∧∃x y:Int,x≠0∧∀c,V c=x*R' (sk k) c+y*R' k0 c:=by
    intro k
    by_cases hk:k<K1
    ·obtain⟨m,b,hmb⟩:=hch (sk k)
     obtain⟨hm,hh⟩:=hmb (sk1 k hk).1
     refine⟨fun c=>a*(m*R' (sk k) c+b*W K c)+(-b)*(n*R' k0 c+a*W K c),fun _=>⟨Sp.lin a (-b) hh h0,a*m,-b*n,Int.mul_ne_zero ha hm,fun c=>by grind⟩⟩
    ·exact⟨fun _=>0,fun h=>absurd h hk⟩
   have hV:=Classical.choose_spec (Classical.axiomOfChoice hch2)
   obtain⟨V,hV⟩:=Classical.axiomOfChoice hch2
   have:K1<=K:=Red.le (K:=K) (J':=fun k=>J' (sk k)) (R':=V) (W:=W) ⟨fun k hk=>by
    obtain⟨_,x,y,hx,e⟩:=hV k hk
    obtain⟨s1,s2⟩:=sk1 k hk
    rw[e,h.off k0 hk0 (sk k) s1 (Ne.symm s2)]
    have:=h.piv (sk k) s1
    intro h9
    exact this (zAN hx (by simpa using h9)),
    fun k hk q hq hne=>by
     obtain⟨_,x,y,hx,e⟩:=hV k hk
     obtain⟨s1,s2⟩:=sk1 k hk
     obtain⟨t1,t2⟩:=sk1 q hq
     rw[e,h.off k0 hk0 (sk q) t1 (Ne.symm t2),h.off (sk k) s1 (sk q) t1 (fun e=>hne (sk2 _ _ e))]
     simp⟩ (fun k hk=>(hV k hk).1)
   omega
theorem Sp.map{B B':Vec->Prop}(f:Vec->Vec)(h0:f (fun _=>0)=fun _=>0)(ha:∀u v,f (fun c=>u c+v c)=fun c=>f u c+f v c)(hm:∀(k:Int) u,f (fun c=>k*u c)=fun c=>k*f u c)
 (hB:∀v,B v->Sp B' (f v)){v:Vec}(h:Sp B v):Sp B' (f v):=by
 induction h with
 |of hb=>exact hB _ hb
 |zero=>rw[h0];exact .zero
 |add _ _ h1 h2=>rw[ha];exact .add h1 h2
 |mul k _ h1=>rw[hm];exact .mul k h1
 |div hk _ h1=>rw[hm]at h1;exact .div hk h1
def zAW(M:List (List Int))(S:List Int):List (List Int):=M.map (fun r=>S.map (fun j=>vec r j.toNat))
def zFB(S:List Int)(v:Vec):Vec:=fun c=>match S[c]? with|some j=>v j.toNat|none=>0
theorem colsF_vec(r:List Int)(S:List Int):vec (S.map (fun j=>vec r j.toNat))=zFB S (vec r):=by
 funext c
 unfold zFB
 show((S.map (fun j=>vec r j.toNat))[c]?).getD 0=_
 rw[List.getElem?_map]
 cases S[c]? <;>rfl
theorem zGN(M:List (List Int))(S:List Int)(q:Nat):rowv (zAW M S) q=zFB S (rowv M q):=by
 unfold rowv zAW
 rw[List.getElem?_map]
 cases M[q]? with
 |none=>funext c;unfold zFB;cases S[c]? <;>simp[vec]
 |some r=>simp only[Option.map_some,Option.getD_some];exact colsF_vec r S
theorem zBR(M:List (List Int))(S:List Int):(zAW M S).length=M.length:=by simp[zAW]
theorem colsF_wid(M:List (List Int))(S:List Int):∀r∈zAW M S,r.length=S.length:=by
 intro r hr
 obtain⟨r',_,rfl⟩:=List.mem_map.1 hr
 simp
theorem colsF_le{M:List (List Int)}(h:∀r∈M,∀c,-1<=vec r c∧vec r c<=1)(S:List Int):∀r∈zAW M S,∀c,-1<=vec r c∧vec r c<=1:=by
 intro r hr c
 obtain⟨r',hr',rfl⟩:=List.mem_map.1 hr
 rw[colsF_vec]
 unfold zFB
 split
 ·exact h r' hr' _
 ·decide
structure MaskOk (M:List (List Int)) (n:Nat):Prop where
 wid:∀r∈M,r.length=n
 le6:M.length<=6
 one:∀r∈M,∀c,-1<=vec r c∧vec r c<=1
theorem MaskOk.cols{M:List (List Int)}{n:Nat}(h:MaskOk M n)(S:List Int):MaskOk (zAW M S) S.length:=
 ⟨colsF_wid M S,by rw[zBR];exact h.le6,colsF_le h.one S⟩
theorem MaskOk.inv{M:List (List Int)}{n:Nat}(h:MaskOk M n)(t:Nat):RInv n M.length (rowv M) t (pRed M t).1 (pRed M t).2:=
 zCA M h.wid t (fun j _ q=>zBT (by decide) (fun r hr=>h.one r hr j) q)
theorem MaskOk.below{M:List (List Int)}{n:Nat}(h:MaskOk M n){q:Nat}(h1:(pRed M n).2.length<=q)(h2:q<M.length)(c:Nat):rowv (pRed M n).1 q c=0:=by
 rcases Nat.lt_or_ge c n with hc|hc
 ·exact(h.inv n).zero q h1 h2 c hc
 ·exact zGH (h.inv n).wid q hc
def zEU(M:List (List Int))(n:Nat):Nat:=(pRed M n).2.length
theorem MaskOk.cols_rank{M:List (List Int)}{n:Nat}(h:MaskOk M n)(S:List Int):zEU (zAW M S) S.length<=zEU M n:=by
 have hc:=h.cols S
 have hi:=hc.inv S.length
 refine Red.le (W:=fun k=>zFB S (rowv (pRed M n).1 k)) hi.ech.red fun k hk=>?_
 have h1:=(hi.span (fun q h1 h2 c=>hc.below h1 (by rw[zBR]at h2⊢;exact h2) c)).1 (RB.sp hk)
 refine h1.trans ?_
 rintro v ⟨q,hq,rfl⟩
 rw[zBR]at hq
 rw[zGN]
 refine Sp.map (zFB S) ?_ ?_ ?_ ?_ (((h.inv n).span (fun q h1 h2 c=>h.below h1 h2 c)).2 (RB.sp hq))
 ·funext c;unfold zFB;split<;>rfl
 ·intro u v;funext c;unfold zFB;split<;>simp
 ·intro k u;funext c;unfold zFB;split<;>simp
 ·rintro v ⟨k,hk,rfl⟩;exact .of ⟨k,hk,rfl⟩
theorem free_len{J:List Nat}{n:Nat}(hn:J.Nodup)(hl:∀x∈J,x<n):(zEV J n).length+J.length=n:=by
 have h1:((List.range n).filter (fun f=>J.contains f)).length=J.length:=by
  refine(List.Perm.length_eq ?_)
  refine(List.perm_ext_iff_of_nodup ?_ hn).2 fun x=>?_
  ·exact List.Pairwise.filter _ List.nodup_range
  ·simp only[List.mem_filter,List.mem_range,List.contains_iff_mem]
   exact⟨fun h=>h.2,fun h=>⟨hl x h,h⟩⟩
 have h2:=List.length_eq_countP_add_countP (fun f=>J.contains f) (l:=List.range n)
 rw[List.countP_eq_length_filter,List.countP_eq_length_filter,List.length_range,h1]at h2
 have e:(fun f=>decide ¬(J.contains f)=true)=fun f=>!J.contains f:=by funext f;cases J.contains f<;>rfl
 rw[e]at h2
 unfold zEV
 omega
end
section
def zAP(n:Nat)(S l:List Int)(k:Nat):List Int:=(List.range k).foldl (fun h i=>h.set (S[i]?.getD 0).toNat (l[i]?.getD 0)) (List.replicate n 0)
theorem zDR(n:Nat)(S l:List Int)(k:Nat):zAP n S l (k+1)=(zAP n S l k).set (S[k]?.getD 0).toNat (l[k]?.getD 0):=by
 unfold zAP;rw[List.range_succ,List.foldl_append];rfl
theorem zCX(n:Nat)(S l:List Int):∀k,(zAP n S l k).length=n
 |0=>by simp[zAP]
 |k+1=>by rw[zDR,List.length_set];exact zCX n S l k
theorem zKI{h:List Int}{c i:Nat}{x:Int}(hc:c<h.length):vec (h.set c x) i=if i=c then x else vec h i:=by
 unfold vec
 by_cases e:i=c
 ·subst e;rw[if_pos rfl,List.getElem?_set_self hc];rfl
 ·rw[if_neg e,List.getElem?_set_ne (Ne.symm e)]
def zCE(n:Nat)(S:List Int):Prop:=S.Pairwise (· < ·)∧∀y∈S,0<=y∧y<(n:Int)
theorem zCE.get{n:Nat}{S:List Int}(h:zCE n S){i:Nat}(hi:i<S.length):0<=S[i]∧S[i]<n:=h.2 _ (List.getElem_mem hi)
theorem zCE.inj{n:Nat}{S:List Int}(h:zCE n S){i j:Nat}(hi:i<S.length)(hj:j<S.length)(e:S[i]=S[j]):i=j:=by
 rcases Nat.lt_trichotomy i j with c|c|c
 ·have:=List.pairwise_iff_getElem.1 h.1 i j hi hj c;omega
 ·exact c
 ·have:=List.pairwise_iff_getElem.1 h.1 j i hj hi c;omega
theorem zDQ{n:Nat}{S l:List Int}(h:zCE n S):∀k,k<=S.length->∀i (hi:i<S.length),i<k->vec (zAP n S l k) (S[i]).toNat=l[i]?.getD 0
 |0,_,i,_,h0=>by omega
 |k+1,hk,i,hi,hik=>by
  have hkS:k<S.length:=by omega
  have hS:S[k]?.getD 0=S[k]:=by rw[List.getElem?_eq_getElem hkS];rfl
  have g1:=h.get hkS
  have g2:=h.get hi
  rw[zDR,hS,zKI (by rw[zCX];omega)]
  by_cases e:i=k
  ·subst e;rw[if_pos rfl]
  ·rw[if_neg (fun c=>e (h.inj hi hkS (by omega)))]
   exact zDQ h k (by omega) i hi (by omega)
theorem zEY{n:Nat}{S l:List Int}(h:zCE n S){c:Nat}(hc:(c:Int)∉S):∀k,k<=S.length->vec (zAP n S l k) c=0
 |0,_=>by
  unfold zAP vec
  simp only[List.range_zero,List.foldl_nil,List.getElem?_replicate]
  split<;>rfl
 |k+1,hk=>by
  have hkS:k<S.length:=by omega
  have hS:S[k]?.getD 0=S[k]:=by rw[List.getElem?_eq_getElem hkS];rfl
  have g1:=h.get hkS
  rw[zDR,hS,zKI (by rw[zCX];omega),if_neg (fun e=>hc (by
   have:(c:Int)=S[k]:=by omega
   rw[this];exact List.getElem_mem hkS))]
  exact zEY h hc k (by omega)
def zBY:List Int->Int
 | []=>0
 |x::l=>if x=0 then zBY l else x
def zLO(h:List Int):List Int:=if zBY (zBO h)<0 then negF (zBO h)else zBO h
def zHU(M:List (List Int))(S:List Int):List (List Int):=zLA (pRed (zAW M S) S.length).1 (pRed (zAW M S) S.length).2 S.length
def kerSR(M:List (List Int))(S:List Int):List (List Int):=kernR (rRed (zAW M S) S.length).done (rRed (zAW M S) S.length).piv S.length
def zFN(M:List (List Int))(n:Nat)(S:List Int):Option (List Int):=
 match zHU M S with
 | [l]=>if l.contains 0 then none else some (zLO (zAP n S l S.length))
 |_=>none
theorem kerS_same{M:List (List Int)}{n:Nat}(h:MaskOk M n)(S:List Int):zHU M S=kerSR M S:=by
 unfold zHU kerSR
 have hc:=h.cols S
 exact kernel_same hc.wid hc.le6 (fun r hr c _=>hc.one r hr c)
theorem kerSR_len{M:List (List Int)}{S l:List Int}(h:l∈kerSR M S):l.length=S.length:=by
 unfold kerSR kernR at h
 obtain⟨f,_,rfl⟩:=List.mem_map.1 h
 unfold kerR rawR
 rw[zHN,zDA,zEH];simp
def circP(M:List (List Int))(n:Nat):List (List Int):=(List.range (min (zEU M n+1) n)).flatMap fun k=>(comb n (k+1) 0).filterMap (zFN M n)
theorem comb_ok{n k:Nat}{S:List Int}(h:S∈comb n k 0):zCE n S:=by
 obtain⟨h1,h2⟩:=zID n k 0 S h
 exact⟨h1,fun y hy=>by have:=h2 y hy;omega⟩
theorem rank_le{M:List (List Int)}{n:Nat}(h:MaskOk M n):zEU M n<=M.length:=(h.inv n).K_le
theorem kerSP_len{M:List (List Int)}{n:Nat}(h:MaskOk M n)(S:List Int):(zHU M S).length+zEU (zAW M S) S.length=S.length:=by
 unfold zHU zLA zEU
 rw[List.length_map]
 have hi:=(h.cols S).inv S.length
 exact free_len (hi.asc.imp (fun h=>by omega)) hi.lt
theorem circ1_many{M:List (List Int)}{n:Nat}(h:MaskOk M n){S:List Int}(hS:zEU M n+1<S.length):zFN M n S=none:=by
 unfold zFN
 have h1:=kerSP_len h S
 have h2:=h.cols_rank S
 split
 ·rename_i l hl
  rw[hl]at h1
  simp at h1
  omega
 ·rfl
end
section
def ofF(n d:Int):Int×Int:=
 let g:Int:=(Int.gcd n d:Nat)
 if d<0 then(n.tdiv (-g),d.tdiv (-g))else(n.tdiv g,d.tdiv g)
def zBC(n d:Int):Int×Int:=(n.tdiv (Int.gcd n d:Nat),d.tdiv (Int.gcd n d:Nat))
theorem zKU{n d:Int}(h:0<d):ofF n d=zBC n d:=by unfold ofF zBC;simp only[];rw[if_neg (by omega)]
def zAF(R:List (List Int))(y:List Int):List (List Int):=List.zipWith (fun r v=>r++[v]) R y
theorem zED{R:List (List Int)}{y:List Int}(h:y.length=R.length):(zAF R y).length=R.length:=by simp[zAF,h]
theorem zKG{R:List (List Int)}{y:List Int}{r:List Int}(h:r∈zAF R y):∃r'∈R,∃v∈y,r=r'++[v]:=by
 unfold zAF at h
 obtain⟨i,hi,rfl⟩:=List.mem_iff_getElem.1 h
 rw[List.getElem_zipWith]
 simp at hi
 exact⟨_,List.getElem_mem (by omega),_,List.getElem_mem (by omega),rfl⟩
theorem vec_snoc_lt{r:List Int}{v:Int}{c:Nat}(h:c<r.length):vec (r++[v]) c=vec r c:=by
 unfold vec;rw[List.getElem?_append_left h]
structure MaskY (R:List (List Int)) (n:Nat) (Y:Nat):Prop where
 wid:∀r∈R,r.length=n+1
 le6:R.length<=6
 one:∀r∈R,∀c,c<n-> -1<=vec r c∧vec r c<=1
 all:∀r∈R,∀x∈r,-(Y:Int)<=x∧x<=Y
theorem MaskOk.addY{M:List (List Int)}{n:Nat}(h:MaskOk M n){y:List Int}(hy:y.length=M.length){Y:Nat}(hY1:1<=Y)(hY:∀v∈y,-(Y:Int)<=v∧v<=Y):MaskY (zAF M y) n Y:=by
 refine⟨fun r hr=>?_,by rw[zED hy];exact h.le6,fun r hr c hc=>?_,fun r hr x hx=>?_⟩
 ·obtain⟨r',h1,v,_,rfl⟩:=zKG hr
  simp[h.wid r' h1]
 ·obtain⟨r',h1,v,_,rfl⟩:=zKG hr
  rw[vec_snoc_lt (by rw[h.wid r' h1];exact hc)];exact h.one r' h1 c
 ·obtain⟨r',h1,v,h2,rfl⟩:=zKG hr
  rcases List.mem_append.1 hx with hx|hx
  ·obtain⟨c,hc,rfl⟩:=List.mem_iff_getElem.1 hx
   have:=h.one r' h1 c
   rw[zCS hc]at this;omega
  ·simp at hx;subst hx;exact hY _ h2
def zAQ(R:List (List Int))(n:Nat):List (Int×Int)×Int:=
 let s:=pRed R n
 if (s.1.drop s.2.length).any (nz n)then([],8)
 else if s.2.length<n then([],11)
 else((List.range n).map fun k=>ofF (vec (s.1[k]?.getD []) n) (vec (s.1[k]?.getD []) (jf s.2 k)),0)
def zCB(R:List (List Int))(n:Nat):List (Int×Int)×Int×Bool:=
 let s:=rRed R (n+1)
 if n∈s.piv then([],0,false)
 else((List.range s.piv.length).foldl (fun out i=>out.set (jf s.piv i) (zBC (vec (s.done[i]?.getD []) n) (vec (s.done[i]?.getD []) (jf s.piv i)))) (List.replicate n (0,1)),(n:Int)-s.piv.length,true)
def solveR(R:List (List Int))(n:Nat):List (Int×Int)×Int:=
 let s:=zCB R n
 if s.2.2=false then([],8)else if 0<s.2.1 then([],11)else(s.1,0)
theorem zMN:∀{J:List Nat} {a b:Nat},J.Pairwise (· < ·)->(∀x∈J,a<=x∧x<b)->J.length<=b-a
 | [],a,b,_,_=>Nat.zero_le _
 |x::J,a,b,hp,hb=>by
  rw[List.pairwise_cons]at hp
  have hx:=hb x (by simp)
  have:=zMN (a:=x+1) (b:=b) hp.2 (fun y hy=>by have:=hp.1 y hy;have:=hb y (by simp[hy]);omega)
  simp only[List.length_cons];omega
theorem zKB:∀{J:List Nat} {a n:Nat},J.Pairwise (· < ·)->(∀x∈J,a<=x∧x<a+n)->J.length=n->J=List.range' a n
 | [],a,n,_,_,h=>by simp at h;subst h;rfl
 |x::J,a,0,_,_,h=>by simp at h
 |x::J,a,n+1,hp,hb,h=>by
  rw[List.pairwise_cons]at hp
  have hx:=hb x (by simp)
  have hlen:J.length=n:=by simpa using h
  -- all others lie above x
  have hxa:x=a:=by
   rcases Nat.lt_or_ge a x with c|c
   ·exfalso
    have h2:=zMN (a:=a+1) (b:=a+(n+1)) (List.pairwise_cons.2 hp) (fun y hy=>by
     have:=hb y hy
     rcases List.mem_cons.1 hy with rfl|hy'
     ·omega
     ·have:=hp.1 y hy';omega)
    simp at h2;omega
   ·omega
  subst hxa
  rw[List.range'_succ]
  congr 1
  exact zKB hp.2 (fun y hy=>by have:=hp.1 y hy;have:=hb y (by simp[hy]);omega) hlen
theorem solve_same{R:List (List Int)}{n Y:Nat}(h:MaskY R n Y):zAQ R n=solveR R n:=by
 have hi:=zCA R h.wid n (fun j hj q=>zBT (by decide) (fun r hr=>h.one r hr j hj) q)
 have hl:=zEP R n
 unfold zAQ solveR zCB
 simp only[]
 by_cases c:((pRed R n).1.drop (pRed R n).2.length).any (nz n)=true
 ·rw[if_pos c]
  obtain⟨r,hr,hz⟩:=List.any_eq_true.1 c
  obtain⟨i,hilt,rfl⟩:=List.mem_iff_getElem.1 hr
  rw[List.getElem_drop]at hz
  have hmem:=red_more (m:=n+1) h.wid h.one (Nat.le_refl _) (q:=(pRed R n).2.length+i) (by omega) (by rw[List.length_drop]at hilt;omega) (by
   rw[zFU (by rw[List.length_drop]at hilt;omega)];simpa[nz]using hz)
  rw[if_pos hmem];simp
 ·rw[if_neg c]
  have h0:∀q,(pRed R n).2.length<=q->q<R.length->∀x,n<=x->x<n+1->rowv (pRed R n).1 q x=0:=by
   intro q h1 h2 x hx1 hx2
   obtain rfl:x=n:=by omega
   rw[zFU (by omega)]
   have hm:(pRed R x).1[q]'(by omega)∈(pRed R x).1.drop (pRed R x).2.length:=by
    rw[List.mem_drop_iff_getElem];exact⟨q-(pRed R x).2.length,by omega,by congr 1;omega⟩
   rcases Classical.em (vec ((pRed R x).1[q]'(by omega)) x=0)with e|e
   ·exact e
   ·exact absurd (List.any_eq_true.2 ⟨_,hm,by simpa[nz]using e⟩) c
  obtain⟨e1,e2⟩:=zMV (m:=n+1) h.wid h.one (Nat.le_refl _) h0
  rw[e2,<- e1]
  have hnm:n∉(pRed R n).2:=fun hm=>by have:=hi.lt _ hm;omega
  rw[if_neg hnm]
  simp only[Bool.true_eq_false,if_false]
  have hKn:(pRed R n).2.length<=n:=by
   have:=zMN (a:=0) (b:=n) hi.asc (fun x hx=>⟨Nat.zero_le _,hi.lt x hx⟩)
   omega
  by_cases c2:(pRed R n).2.length<n
  ·rw[if_pos c2,if_pos (by omega)]
  ·rw[if_neg c2,if_neg (by omega)]
   have hK:(pRed R n).2.length=n:=by omega
   have hJ:=zKB (a:=0) hi.asc (fun x hx=>⟨Nat.zero_le _,by have:=hi.lt x hx;omega⟩) hK
   have hjf:∀k,k<n->jf (pRed R n).2 k=k:=by
    intro k hk
    unfold jf
    rw[hJ,List.getElem?_range' hk];simp
   congr 1
   rw[hK]
   -- the places filled one after the other
   have key:∀t,t<=n->(List.range t).foldl (fun(out:List (Int×Int)) i=>out.set (jf (pRed R n).2 i) (zBC (vec (((pRed R n).1.take n)[i]?.getD []) n) (vec (((pRed R n).1.take n)[i]?.getD []) (jf (pRed R n).2 i)))) (List.replicate n (0,1))=
    (List.range t).map (fun k=>ofF (vec ((pRed R n).1[k]?.getD []) n) (vec ((pRed R n).1[k]?.getD []) (jf (pRed R n).2 k)))++List.replicate (n-t) (0,1):=by
    intro t
    induction t with
    |zero=>intro _;simp
    |succ t ih=>
     intro ht
     rw[List.range_succ,List.foldl_append,ih (by omega),List.map_append]
     simp only[List.foldl_cons,List.foldl_nil,List.map_cons,List.map_nil]
     rw[hjf t (by omega),List.getElem?_take_of_lt (by omega)]
     have hpos:=(hi.pp t (by omega)).2
     rw[hjf t (by omega)]at hpos
     rw[zKU (show 0<vec ((pRed R n).1[t]?.getD []) t from hpos)]
     rw[show n-t=(n-(t+1))+1 by omega,List.replicate_succ,List.set_append_right _ _ (by simp)]
     simp
   have:=key n (Nat.le_refl _)
   rw[Nat.sub_self]at this
   simp only[List.replicate_zero,List.append_nil]at this
   rw[this]
end
section
def dotS(u v:Vec)(n:Nat):Int:=sm (fun c=>u c*v c) n
theorem zNN{B:Vec->Prop}{h:Vec}{n:Nat}(hB:∀u,B u->dotS u h n=0){v:Vec}(hv:Sp B v):dotS v h n=0:=by
 unfold dotS at*
 induction hv with
 |of hb=>exact hB _ hb
 |zero=>rw[zAG (g:=fun _=>0) (fun k _=>by simp),zCR]
 | @add u v _ _ h1 h2=>rw[zAG (g:=fun c=>u c*h c+v c*h c) (fun k _=>by grind),zEN,h1,h2];rfl
 | @mul k u _ h1=>rw[zAG (g:=fun c=>k*(u c*h c)) (fun k _=>by grind),zCC,h1];simp
 | @div k u hk _ h1=>
   rw[zAG (g:=fun c=>k*(u c*h c)) (fun k _=>by grind),zCC]at h1
   exact zAN hk h1
abbrev RP(M:List (List Int))(n:Nat):List (List Int):=(pRed M n).1
abbrev JP(M:List (List Int))(n:Nat):List Nat:=(pRed M n).2
theorem MaskOk.rp_le{M:List (List Int)}{n:Nat}(h:MaskOk M n)(k c:Nat): -720<=vec ((RP M n)[k]?.getD []) c∧vec ((RP M n)[k]?.getD []) c<=720:=by
 cases hk:(RP M n)[k]? with
 |none=>simp[vec]
 |some r=>
  have:=(zNA (n:=n) (Y:=1) h.wid h.le6 (fun r hr c _=>h.one r hr c) (fun r hr=>zKW (P:=fun x=> -((1:Nat):Int)<=x∧x<=((1:Nat):Int)) fun c=>by have:=h.one r hr c;omega) (Nat.le_refl n) r (List.mem_of_getElem? hk)).2
  have h2:=vec_le (Y:=720) (by decide) (fun x hx=>by have:=this x hx;omega) c
  simpa using h2
theorem MaskOk.span{M:List (List Int)}{n:Nat}(h:MaskOk M n){v:Vec}:Sp (RB (JP M n).length (rowv (RP M n))) v↔Sp (RB M.length (rowv M)) v:=
 (h.inv n).span (fun q h1 h2 c=>h.below h1 h2 c)
def zDD(M:List (List Int))(n:Nat)(v:Vec):Prop:=∀q,q<M.length->dotS (rowv M q) v n=0
theorem MaskOk.ker_iff{M:List (List Int)}{n:Nat}(h:MaskOk M n){v:Vec}:zDD M n v↔∀k,k<(JP M n).length->dotS (rowv (RP M n) k) v n=0:=by
 constructor
 ·intro hk k hlt
  exact zNN (B:=RB M.length (rowv M)) (fun u ⟨q,hq,e⟩=>e▸hk q hq) (h.span.1 (RB.sp hlt))
 ·intro hk q hq
  exact zNN (B:=RB (JP M n).length (rowv (RP M n))) (fun u ⟨k,hlt,e⟩=>e▸hk k hlt) (h.span.2 (RB.sp hq))
theorem MaskOk.dot_row{M:List (List Int)}{n:Nat}(h:MaskOk M n)(v:Vec){k:Nat}(hk:k<(JP M n).length):
 dotS (rowv (RP M n) k) v n=rowv (RP M n) k (jf (JP M n) k)*v (jf (JP M n) k)+sm (fun c=>if c∈JP M n then 0 else rowv (RP M n) k c*v c) n:=by
 have hi:=h.inv n
 have hjl:=hi.lt _ (jf_mem hk)
 unfold dotS
 rw[zAG (g:=fun c=>(if c=jf (JP M n) k then rowv (RP M n) k c*v c else 0)+(if c∈JP M n then 0 else rowv (RP M n) k c*v c)) (fun c _=>?_),zEN,zDS hjl (fun c _ hne=>if_neg hne),if_pos rfl]
 by_cases hc:c∈JP M n
 ·obtain⟨i,hlt,rfl⟩:=mem_jf hc
  rw[if_pos hc]
  by_cases e:i=k
  ·subst e;simp
  ·rw[hi.ech.red.off k hk i hlt (Ne.symm e)];simp
 ·rw[if_neg hc,if_neg (fun e:c=jf (JP M n) k=>hc (by rw[e];exact jf_mem hk))];simp
theorem MaskOk.raw{M:List (List Int)}{n:Nat}(h:MaskOk M n){f:Nat}(hf:f<n)(hfJ:f∉JP M n):
 ∃t:Int,0<t∧t<=720∧vec (rawP (RP M n) (JP M n) n f) f=t∧(∀c,c∉JP M n->c≠f->vec (rawP (RP M n) (JP M n) n f) c=0)∧
  ∀i,i<(JP M n).length->vec (rawP (RP M n) (JP M n) n f) (jf (JP M n) i)*rowv (RP M n) i (jf (JP M n) i)= -(rowv (RP M n) i f)*t:=by
 obtain⟨d,d1,d2,hk⟩:=pRed_ok (n:=n) h.wid h.le6 (fun r hr c _=>h.one r hr c)
 obtain⟨a1,a2,a3,a4,a5⟩:=rawP_vals hk hf hfJ
 refine⟨zEX (RP M n) f (JP M n) 0 1,a1,?_,by rw[a4 f hfJ,if_pos rfl],fun c hc hne=>by rw[a4 c hc,if_neg hne],a5⟩
 have h9:=Int.le_of_dvd (by omega) a2
 have h8:zEX (RP M n) f (JP M n) 0 1<=(d:Int):=h9
 omega
theorem MaskOk.raw_ker{M:List (List Int)}{n:Nat}(h:MaskOk M n){f:Nat}(hf:f<n)(hfJ:f∉JP M n):zDD M n (vec (rawP (RP M n) (JP M n) n f)):=by
 obtain⟨t,ht,_,h1,h2,h3⟩:=h.raw hf hfJ
 rw[h.ker_iff]
 intro k hk
 rw[h.dot_row _ hk]
 have:sm (fun c=>if c∈JP M n then 0 else rowv (RP M n) k c*vec (rawP (RP M n) (JP M n) n f) c) n=rowv (RP M n) k f*t:=by
  rw[zDS hf (fun c _ hne=>?_),if_neg hfJ,h1]
  by_cases hc:c∈JP M n
  ·rw[if_pos hc]
  ·rw[if_neg hc,h2 c hc hne];simp
 rw[this]
 have:=h3 k hk
 grind
theorem zDD.short{M:List (List Int)}{n:Nat}{l:List Int}(h:zDD M n (vec l)):zDD M n (vec (zBO l)):=by
 obtain⟨g,hg,e⟩:=zBU l
 intro q hq
 have:=h q hq
 unfold dotS at*
 rw[zAG (g:=fun c=>g*(rowv M q c*vec (zBO l) c)) (fun c _=>by rw[<- e c];grind),zCC]at this
 exact zAN (g:=g) (by omega) this
theorem shortF_le(l:List Int)(c:Nat):(vec (zBO l) c).natAbs<=(vec l c).natAbs:=by
 obtain⟨g,hg,e⟩:=zBU l
 rw[<- e c,Int.natAbs_mul]
 exact Nat.le_mul_of_pos_left _ (by omega)
theorem MaskOk.kern{M:List (List Int)}{n:Nat}(h:MaskOk M n){l:List Int}(hl:l∈zLA (RP M n) (JP M n) n):
 zDD M n (vec l)∧l.length=n∧(∀c,(vec l c).natAbs<=518400)∧∃f,f<n∧0<vec l f:=by
 unfold zLA at hl
 obtain⟨f,hf,rfl⟩:=List.mem_map.1 hl
 obtain⟨hf1,hf2⟩:=List.mem_filter.1 hf
 have hfn:f<n:=by simpa using hf1
 have hfJ:f∉JP M n:=by simpa using hf2
 obtain⟨t,ht,ht2,h1,h2,h3⟩:=h.raw hfn hfJ
 refine⟨(h.raw_ker hfn hfJ).short,by unfold kerP rawP;rw[zDA,zEH];simp,fun c=>?_,f,hfn,short_pos (by rw[h1];exact ht)⟩
 refine Nat.le_trans (shortF_le _ c) ?_
 by_cases hc:c∈JP M n
 ·obtain⟨i,hi,rfl⟩:=mem_jf hc
  have e:=h3 i hi
  have hp:0<rowv (RP M n) i (jf (JP M n) i):=((h.inv n).pp i hi).2
  have hb:=h.rp_le i f
  have e2:=congrArg Int.natAbs e
  rw[Int.natAbs_mul,Int.natAbs_mul,Int.natAbs_neg]at e2
  have h5:(vec (rawP (RP M n) (JP M n) n f) (jf (JP M n) i)).natAbs<=(rowv (RP M n) i f).natAbs*t.natAbs:=by
   rw[<- e2];exact Nat.le_mul_of_pos_right _ (by omega)
  refine Nat.le_trans h5 ?_
  show _<=720*720
  exact Nat.mul_le_mul (by unfold rowv;omega) (by omega)
 ·by_cases e:c=f
  ·subst e;rw[h1];omega
  ·rw[h2 c hc e];simp
theorem MaskOk.ker_one{M:List (List Int)}{n:Nat}(h:MaskOk M n){f:Nat}(hf:zEV (JP M n) n=[f]){v:Vec}(hv:zDD M n v){c:Nat}(hc:c<n):
 v c*vec (rawP (RP M n) (JP M n) n f) f=vec (rawP (RP M n) (JP M n) n f) c*v f:=by
 have hfm:f∈zEV (JP M n) n:=by rw[hf];simp
 obtain⟨hf1,hf2⟩:=List.mem_filter.1 hfm
 have hfn:f<n:=by simpa using hf1
 have hfJ:f∉JP M n:=by simpa using hf2
 obtain⟨t,ht,ht2,h1,h2,h3⟩:=h.raw hfn hfJ
 have only:∀c,c<n->c∉JP M n->c=f:=fun c hc hcJ=>by
  have:c∈zEV (JP M n) n:=List.mem_filter.2 ⟨by simpa using hc,by simpa using hcJ⟩
  rw[hf]at this;simpa using this
 rw[h1]
 by_cases hcJ:c∈JP M n
 ·obtain⟨i,hi,rfl⟩:=mem_jf hcJ
  have hk:=h.ker_iff.1 hv i hi
  rw[h.dot_row _ hi,zDS hfn (fun c hc hne=>by
   by_cases e:c∈JP M n
   ·rw[if_pos e]
   ·exact absurd (only c hc e) hne),if_neg hfJ]at hk
  have hp:0<rowv (RP M n) i (jf (JP M n) i):=((h.inv n).pp i hi).2
  have e:=h3 i hi
  refine Int.eq_of_mul_eq_mul_right (show rowv (RP M n) i (jf (JP M n) i)≠0 by omega) ?_
  have e1:rowv (RP M n) i (jf (JP M n) i)*v (jf (JP M n) i)= -(rowv (RP M n) i f*v f):=by omega
  calc v (jf (JP M n) i)*t*rowv (RP M n) i (jf (JP M n) i)=(rowv (RP M n) i (jf (JP M n) i)*v (jf (JP M n) i))*t:=by grind
   _= -(rowv (RP M n) i f*v f)*t:=by rw[e1]
   _=(-(rowv (RP M n) i f)*t)*v f:=by grind
   _=_:=by rw[<- e];grind
 ·have:=only c hc hcJ
  subst this
  rw[h1];exact Int.mul_comm _ _
end
section
theorem MaskOk.rank_ker{M:List (List Int)}{n:Nat}(h:MaskOk M n):zEU M n+(zLA (RP M n) (JP M n) n).length=n:=by
 obtain⟨d,d1,d2,hk⟩:=pRed_ok (n:=n) h.wid h.le6 (fun r hr c _=>h.one r hr c)
 unfold zLA
 rw[List.length_map]
 have:=free_len hk.nodup hk.lt
 rw[Nat.add_comm]
 exact this
end
end
section
section
theorem zKN{f g:Nat->Int}{p:Nat}{x:Int}:∀{n:Nat},p<n->(∀c,c<n->f c=g c+if c=p then x else 0)->sm f n=sm g n+x
 |n,hp,h=>by rw[zAG h,zEN,zDS (f:=fun c=>if c=p then x else 0) hp (fun k _ hne=>if_neg hne),if_pos rfl]
theorem dotS_set{r:Vec}{h:List Int}{p n:Nat}{x:Int}(hp:p<n)(hl:h.length=n):dotS r (vec (h.set p x)) n=dotS r (vec h) n+r p*(x-vec h p):=by
 unfold dotS
 refine zKN hp fun c hc=>?_
 rw[zKI (by omega)]
 by_cases e:c=p
 ·subst e;rw[if_pos rfl,if_pos rfl];grind
 ·rw[if_neg e,if_neg e];grind
theorem zHD{n:Nat}{S l:List Int}(h:zCE n S){k:Nat}(hk:k<S.length):∀t,t<=k->vec (zAP n S l t) (S[k]).toNat=0
 |0,_=>by
  unfold zAP vec
  simp only[List.range_zero,List.foldl_nil,List.getElem?_replicate]
  split<;>rfl
 |t+1,ht=>by
  have htS:t<S.length:=by omega
  have hS:S[t]?.getD 0=S[t]:=by rw[List.getElem?_eq_getElem htS];rfl
  have g1:=h.get htS
  have g2:=h.get hk
  rw[zDR,hS,zKI (by rw[zCX];omega),if_neg (fun c=>by have:=h.inj hk htS (by omega);omega)]
  exact zHD h hk t (by omega)
theorem zGL{n:Nat}{S l:List Int}(h:zCE n S)(r:Vec):∀k,k<=S.length->dotS r (vec (zAP n S l k)) n=sm (fun i=>zFB S r i*vec l i) k
 |0,_=>by
  unfold dotS
  rw[zAG (g:=fun _=>0) (fun c _=>?_),zCR];rfl
  unfold zAP vec
  simp only[List.range_zero,List.foldl_nil,List.getElem?_replicate]
  split<;>simp
 |k+1,hk=>by
  have hkS:k<S.length:=by omega
  have hS:S[k]?.getD 0=S[k]:=by rw[List.getElem?_eq_getElem hkS];rfl
  have g1:=h.get hkS
  rw[zDR,hS,dotS_set (by omega) (zCX n S l k),zGL h r k (by omega),zHD h hkS k (Nat.le_refl _)]
  have:zFB S r k=r (S[k]).toNat:=by unfold zFB;rw[List.getElem?_eq_getElem hkS]
  show _=sm _ k+zFB S r k*vec l k
  rw[this]
  unfold vec
  simp
theorem zEZ{M:List (List Int)}{n:Nat}{S l:List Int}(h:zCE n S):zDD M n (vec (zAP n S l S.length))↔zDD (zAW M S) S.length (vec l):=by
 unfold zDD
 rw[zBR]
 have:∀q,dotS (rowv M q) (vec (zAP n S l S.length)) n=dotS (rowv (zAW M S) q) (vec l) S.length:=fun q=>by
  rw[zGL h _ _ (Nat.le_refl _),zGN];rfl
 constructor
 ·intro hk q hq;rw[<- this];exact hk q hq
 ·intro hk q hq;rw[this];exact hk q hq
theorem zFS{n:Nat}{S l:List Int}(h:zCE n S)(hl:l.length=S.length){c:Nat}:vec (zAP n S l S.length) c≠0↔∃i,∃hi:i<S.length,S[i]=(c:Int)∧vec l i≠0:=by
 constructor
 ·intro hc
  by_cases hm:(c:Int)∈S
  ·obtain⟨i,hi,e⟩:=List.mem_iff_getElem.1 hm
   refine⟨i,hi,e,fun h0=>hc ?_⟩
   have:=zDQ (l:=l) h S.length (Nat.le_refl _) i hi hi
   rw[show(S[i]).toNat=c by omega]at this
   rw[this];exact h0
  ·exact absurd (zEY h hm _ (Nat.le_refl _)) hc
 ·rintro⟨i,hi,e,hz⟩ h0
  have:=zDQ (l:=l) h S.length (Nat.le_refl _) i hi hi
  rw[show(S[i]).toNat=c by omega,h0]at this
  exact hz this.symm
theorem zGS{n:Nat}{S:List Int}(h:zCE n S){v:Vec}(h0:∀c,c<n->(c:Int)∉S->v c=0){c:Nat}(hc:c<n):vec (zAP n S (S.map fun j=>v j.toNat) S.length) c=v c:=by
 by_cases hm:(c:Int)∈S
 ·obtain⟨i,hi,e⟩:=List.mem_iff_getElem.1 hm
  have:=zDQ (l:=S.map fun j=>v j.toNat) h S.length (Nat.le_refl _) i hi hi
  rw[show(S[i]).toNat=c by omega]at this
  rw[this,List.getElem?_map,List.getElem?_eq_getElem hi]
  show v (S[i]).toNat=v c
  rw[e];rfl
 ·rw[zEY h hm _ (Nat.le_refl _),h0 c hc hm]
theorem zDD.congr{M:List (List Int)}{n:Nat}{u v:Vec}(h:zDD M n u)(e:∀c,c<n->u c=v c):zDD M n v:=fun q hq=>by
 have:=h q hq
 unfold dotS at*
 rw[zAG (g:=fun c=>rowv M q c*u c) (fun c hc=>by rw[e c hc])];exact this
theorem primV_vec(h:List Int):∃x y:Int,0<x∧(y=1∨y= -1)∧∀c,x*vec (zLO h) c=y*vec h c:=by
 obtain⟨g,hg,e⟩:=zBU h
 unfold zLO
 split
 ·exact⟨g,-1,hg,.inr rfl,fun c=>by rw[zJW,<- e c];grind⟩
 ·exact⟨g,1,hg,.inl rfl,fun c=>by rw[e c];omega⟩
theorem zIZ{M:List (List Int)}{n:Nat}(h:MaskOk M n){S c:List Int}(hS:zCE n S)(hc:zFN M n S=some c):
 ∃l,zHU M S=[l]∧l.length=S.length∧(∀i,i<S.length->vec l i≠0)∧c=zLO (zAP n S l S.length):=by
 unfold zFN at hc
 split at hc
 ·rename_i l hl
  have hm:l∈kerSR M S:=by rw[<- kerS_same h,hl];simp
  have hlen:=kerSR_len hm
  by_cases h0:l.contains 0=true
  ·rw[if_pos h0]at hc;cases hc
  ·rw[if_neg h0]at hc
   cases hc
   refine⟨l,hl,hlen,fun i hi e=>h0 ?_,rfl⟩
   rw[zCS (by omega)]at e
   rw[List.contains_iff_mem,<- e]
   exact List.getElem_mem _
 ·cases hc
theorem zIE{M:List (List Int)}{n:Nat}(h:MaskOk M n){S c:List Int}(hS:zCE n S)(hc:zFN M n S=some c)(j:Nat):vec c j≠0↔(j:Int)∈S:=by
 obtain⟨l,hl,hlen,hnz,rfl⟩:=zIZ h hS hc
 obtain⟨x,y,hx,hy,e⟩:=primV_vec (zAP n S l S.length)
 have h1:vec (zLO (zAP n S l S.length)) j≠0↔vec (zAP n S l S.length) j≠0:=by
  have:=e j
  constructor
  ·intro h0 h1;rw[h1]at this;exact h0 (zAN (g:=x) (by omega) (by simpa using this))
  ·intro h0 h1;rw[h1]at this;exact h0 (zAN (g:=y) (by omega) (by simpa using this.symm))
 rw[h1,zFS hS hlen]
 constructor
 ·rintro⟨i,hi,e,_⟩;rw[<- e];exact List.getElem_mem hi
 ·intro hm
  obtain⟨i,hi,e⟩:=List.mem_iff_getElem.1 hm
  exact⟨i,hi,e,hnz i hi⟩
theorem kerSP_one{M:List (List Int)}{S l:List Int}(hl:zHU M S=[l]):∃f,zEV (JP (zAW M S) S.length) S.length=[f]∧l=zBO (rawP (RP (zAW M S) S.length) (JP (zAW M S) S.length) S.length f):=by
 unfold zHU zLA at hl
 obtain⟨f,hf,e⟩:∃f,zEV (JP (zAW M S) S.length) S.length=[f]∧_=l:=by
  cases hfr:zEV (JP (zAW M S) S.length) S.length with
  |nil=>rw[show zEV (pRed (zAW M S) S.length).2 S.length=[]from hfr]at hl;simp at hl
  |cons f t=>
   rw[show zEV (pRed (zAW M S) S.length).2 S.length=f::t from hfr]at hl
   simp only[List.map_cons,List.cons.injEq]at hl
   have ht:t=[]:=by simpa using hl.2
   subst ht
   exact⟨f,rfl,hl.1⟩
 exact⟨f,hf,e.symm⟩
theorem circ_least{M:List (List Int)}{n:Nat}(h:MaskOk M n){S c:List Int}(hS:zCE n S)(hc:zFN M n S=some c){v:Vec}(hv:zDD M n v)(h0:∀j,j<n->(j:Int)∉S->v j=0)(hne:∃j,j<n∧v j≠0):
 ∀j:Nat,(j:Int)∈S->v j≠0:=by
 obtain⟨l,hl,hlen,hnz,rfl⟩:=zIZ h hS hc
 obtain⟨f,hf,hlf⟩:=kerSP_one hl
 have hk:zDD (zAW M S) S.length (vec (S.map fun j=>v j.toNat)):=(zEZ hS).1 (hv.congr fun c hc=>(zGS hS h0 hc).symm)
 obtain⟨g,hg,e⟩:=zBU (rawP (RP (zAW M S) S.length) (JP (zAW M S) S.length) S.length f)
 rw[<- hlf]at e
 have hfS:f<S.length:=by
  have:f∈zEV (JP (zAW M S) S.length) S.length:=by rw[hf];simp
  simpa using (List.mem_filter.1 this).1
 -- w i*l f=l i*w f
 have key:∀i,i<S.length->vec (S.map fun j=>v j.toNat) i*vec l f=vec l i*vec (S.map fun j=>v j.toNat) f:=by
  intro i hi
  have:=(h.cols S).ker_one hf hk hi
  rw[<- e,<- e]at this
  refine Int.eq_of_mul_eq_mul_left (show g≠0 by omega) ?_
  grind
 have hw:∀i (hi:i<S.length),vec (S.map fun j=>v j.toNat) i=v (S[i]).toNat:=fun i hi=>by
  unfold vec;rw[List.getElem?_map,List.getElem?_eq_getElem hi];rfl
 have hwf:vec (S.map fun j=>v j.toNat) f≠0:=by
  intro hz
  obtain⟨j,hj,hvj⟩:=hne
  have hm:(j:Int)∈S:=by
   rcases Classical.em ((j:Int)∈S)with c|c
   ·exact c
   ·exact absurd (h0 j hj c) hvj
  obtain⟨i,hi,ei⟩:=List.mem_iff_getElem.1 hm
  have:=key i hi
  rw[hz,hw i hi,show(S[i]).toNat=j by omega,Int.mul_zero]at this
  rcases Int.mul_eq_zero.1 this with a|a
  ·exact hvj a
  ·exact hnz f hfS a
 intro j hm hz
 obtain⟨i,hi,ei⟩:=List.mem_iff_getElem.1 hm
 have:=key i hi
 rw[hw i hi,show(S[i]).toNat=j by omega,hz,Int.zero_mul]at this
 rcases Int.mul_eq_zero.1 this.symm with a|a
 ·exact hnz i hi a
 ·exact hwf a
theorem circP_mem{M:List (List Int)}{n:Nat}{c:List Int}:c∈circP M n↔∃k S,k<min (zEU M n+1) n∧S∈comb n (k+1) 0∧zFN M n S=some c:=by
 unfold circP
 simp only[List.mem_flatMap,List.mem_range,List.mem_filterMap]
 constructor
 ·rintro⟨k,hk,S,hS,e⟩;exact⟨k,S,hk,hS,e⟩
 ·rintro⟨k,S,hk,hS,e⟩;exact⟨k,hk,S,hS,e⟩
theorem zML{M:List (List Int)}{n:Nat}(h:MaskOk M n){S c:List Int}(hS:zCE n S)(hne:S≠[])(hc:zFN M n S=some c):
 c.length=n∧zDD M n (vec c)∧(∀j,(vec c j).natAbs<=518400)∧Prim (vec c)∧0<zBY c:=by
 obtain⟨l,hl,hlen,hnz,rfl⟩:=zIZ h hS hc
 have hm:l∈zHU M S:=by rw[hl];simp
 obtain⟨k1,k2,k3,_⟩:=(h.cols S).kern hm
 obtain⟨x,y,hx,hy,e⟩:=primV_vec (zAP n S l S.length)
 have hkS:=(zEZ (M:=M) hS).2 k1
 have hSp:0<S.length:=List.length_pos_iff.2 hne
 refine⟨?_,?_,?_,?_,?_⟩
 ·unfold zLO
  split
  ·unfold negF;rw[List.length_map,zDA,zCX]
  ·rw[zDA,zCX]
 ·intro q hq
  have h1:=hkS q hq
  refine zAN (g:=x) (by omega) ?_
  unfold dotS at*
  rw[<- zCC,zAG (g:=fun c=>y*(rowv M q c*vec (zAP n S l S.length) c)) (fun c _=>by have:=e c;grind),zCC,h1];simp
 ·intro j
  have h1:(vec (zLO (zAP n S l S.length)) j).natAbs<=(vec (zAP n S l S.length) j).natAbs:=by
   have:=congrArg Int.natAbs (e j)
   rw[Int.natAbs_mul,Int.natAbs_mul]at this
   have hy1:y.natAbs=1:=by omega
   rw[hy1,Nat.one_mul]at this
   rw[<- this];exact Nat.le_mul_of_pos_left _ (by omega)
  refine Nat.le_trans h1 ?_
  by_cases hm:(j:Int)∈S
  ·obtain⟨i,hi,ei⟩:=List.mem_iff_getElem.1 hm
   have:=zDQ (l:=l) hS S.length (Nat.le_refl _) i hi hi
   rw[show(S[i]).toNat=j by omega]at this
   rw[this];exact k3 i
  ·rw[zEY hS hm _ (Nat.le_refl _)];simp
 ·have hp:Prim (vec (zBO (zAP n S l S.length))):=by
   rcases zDK (zAP n S l S.length)with a|a
   ·exact a
   ·exfalso
    obtain⟨g,hg,e2⟩:=zBU (zAP n S l S.length)
    have h1:=e2 (S[0]).toNat
    rw[a,zDQ hS S.length (Nat.le_refl _) 0 hSp hSp]at h1
    exact hnz 0 hSp (by unfold vec;rw[<- h1];simp)
  unfold zLO
  split
  ·exact zMY (z:= -1) (.inr rfl) (fun c=>by rw[zJW];omega) hp
  ·exact hp
 ·-- the first number that is not 0
  have hz:∀m:List Int,(∃j,vec m j≠0)->zBY m≠0:=by
   intro m
   induction m with
   |nil=>rintro⟨j,hj⟩;simp[vec]at hj
   |cons a m ih=>
    rintro⟨j,hj⟩
    unfold zBY
    by_cases ha:a=0
    ·rw[if_pos ha]
     match j,hj with
     |0,hj=>simp[vec]at hj;exact absurd ha hj
     |j+1,hj=>exact ih ⟨j,by simpa[vec]using hj⟩
    ·rw[if_neg ha];exact ha
  have hn:∀m:List Int,zBY (negF m)= -zBY m:=by
   intro m
   induction m with
   |nil=>rfl
   |cons a m ih=>
    show(if-a=0 then zBY (negF m)else-a)= -(if a=0 then zBY m else a)
    by_cases ha:a=0
    ·rw[if_pos ha,if_pos (by omega),ih]
    ·rw[if_neg ha,if_neg (by omega)]
  have hs:zBY (zBO (zAP n S l S.length))≠0:=by
   refine hz _ ⟨(S[0]).toNat,fun h0=>?_⟩
   obtain⟨g,hg,e2⟩:=zBU (zAP n S l S.length)
   have h1:=e2 (S[0]).toNat
   rw[h0,zDQ hS S.length (Nat.le_refl _) 0 hSp hSp]at h1
   exact hnz 0 hSp (by unfold vec;rw[<- h1];simp)
  unfold zLO
  split
  ·rw[hn];omega
  ·omega
theorem zHR{α:Type}[BEq α][LawfulBEq α]:∀{l m:List α},l.Nodup->(∀x∈l,x∈m)->l.length<=m.length
 | [],_,_,_=>Nat.zero_le _
 |x::l,m,hn,h=>by
  rw[List.nodup_cons]at hn
  have hx:=h x (by simp)
  have:=zHR (l:=l) (m:=m.erase x) hn.2 (fun y hy=>(List.mem_erase_of_ne (fun e=>hn.1 (by rw[<- e];exact hy))).2 (h y (by simp[hy])))
  rw[List.length_erase_of_mem hx]at this
  have:=List.length_pos_of_mem hx
  simp only[List.length_cons];omega
def zAT(n:Nat)(v:Vec):List Int:=((List.range n).filter (fun c=>decide (v c≠0))).map (fun c:Nat=>(c:Int))
theorem zBL{n:Nat}{v:Vec}{j:Nat}:(j:Int)∈zAT n v↔j<n∧v j≠0:=by
 unfold zAT
 simp only[List.mem_map,List.mem_filter,List.mem_range]
 constructor
 ·rintro⟨c,⟨h1,h2⟩,e⟩
  have:c=j:=by omega
  subst this;exact⟨h1,by simpa using h2⟩
 ·rintro⟨h1,h2⟩;exact⟨j,⟨h1,by simpa using h2⟩,rfl⟩
theorem zDE(n:Nat)(v:Vec):zCE n (zAT n v):=by
 constructor
 ·unfold zAT
  rw[List.pairwise_map]
  exact(List.pairwise_lt_range.filter _).imp (fun h=>by omega)
 ·intro y hy
  unfold zAT at hy
  obtain⟨c,hc,rfl⟩:=List.mem_map.1 hy
  have:=List.mem_range.1 (List.mem_filter.1 hc).1
  omega
theorem zLJ{M:List (List Int)}{n:Nat}(h:MaskOk M n):∀(s:Nat) (v:Vec),(zAT n v).length=s->zDD M n v->(∃j,j<n∧v j≠0)->∃S c,zCE n S∧S.length<=s∧S≠[]∧(∀y∈S,y∈zAT n v)∧zFN M n S=some c:=by
 intro s
 induction s using Nat.strongRecOn with
 |ind s ih=>
  intro v hs hv hne
  have hS:=zDE n v
  obtain⟨S,hSe⟩:=exq (zAT n v)
  rw[<- hSe]at hS hs
  have h0:∀j,j<n->(j:Int)∉S->v j=0:=fun j hj hm=>by
   rcases Classical.em (v j=0)with c|c
   ·exact c
   ·exact absurd (by rw[hSe];exact zBL.2 ⟨hj,c⟩) hm
  have hne2:S≠[]:=by
   obtain⟨j,hj,hvj⟩:=hne
   intro e
   have:(j:Int)∈S:=by rw[hSe];exact zBL.2 ⟨hj,hvj⟩
   rw[e]at this;simp at this
  have hk:zDD (zAW M S) S.length (vec (S.map fun j=>v j.toNat)):=(zEZ hS).1 (hv.congr fun c hc=>(zGS hS h0 hc).symm)
  have hc:=h.cols S
  have hw:∀i (hi:i<S.length),vec (S.map fun j=>v j.toNat) i≠0:=fun i hi=>by
   have:vec (S.map fun j=>v j.toNat) i=v (S[i]).toNat:=by unfold vec;rw[List.getElem?_map,List.getElem?_eq_getElem hi];rfl
   rw[this]
   have hm:((S[i]).toNat:Int)∈zAT n v:=by
    have g:=hS.get hi
    rw[show((S[i]).toNat:Int)=S[i]by omega,<- hSe];exact List.getElem_mem hi
   exact(zBL.1 hm).2
  -- the free columns
  have hfree:∃f,f<S.length∧f∉JP (zAW M S) S.length:=by
   refine Classical.byContradiction fun hno=>?_
   have hall:∀f,f<S.length->f∈JP (zAW M S) S.length:=fun f hf=>Classical.byContradiction fun hn=>hno ⟨f,hf,hn⟩
   have hSp:0<S.length:=List.length_pos_iff.2 hne2
   obtain⟨i,hi,e⟩:=mem_jf (hall 0 hSp)
   have hr:=hc.ker_iff.1 hk i hi
   rw[hc.dot_row _ hi,zAG (g:=fun _=>0) (fun c hcl=>if_pos (hall c hcl)),zCR,e]at hr
   have hp:0<rowv (RP (zAW M S) S.length) i (jf (JP (zAW M S) S.length) i):=((hc.inv S.length).pp i hi).2
   rw[e]at hp
   rcases Int.mul_eq_zero.1 (show rowv (RP (zAW M S) S.length) i 0*vec (S.map fun j=>v j.toNat) 0=0 by omega)with a|a
   ·omega
   ·exact hw 0 hSp a
  obtain⟨f,hf,hfJ⟩:=hfree
  have hfm:f∈zEV (JP (zAW M S) S.length) S.length:=List.mem_filter.2 ⟨by simpa using hf,by simpa using hfJ⟩
  rcases Classical.em (∃f2,f2∈zEV (JP (zAW M S) S.length) S.length∧f2≠f)with⟨f2,hf2,hne3⟩|hone
  ·-- a second free column:a vector with a smaller support
   obtain⟨g1,g2⟩:=List.mem_filter.1 hf2
   have hf2S:f2<S.length:=by simpa using g1
   have hf2J:f2∉JP (zAW M S) S.length:=by simpa using g2
   obtain⟨t,ht,_,r1,r2,_⟩:=hc.raw hf hfJ
   have hrk:=hc.raw_ker hf hfJ
   have hlen:(rawP (RP (zAW M S) S.length) (JP (zAW M S) S.length) S.length f).length=S.length:=by unfold rawP;rw[zEH];simp
   obtain⟨u,hu⟩:=exq (vec (zAP n S (rawP (RP (zAW M S) S.length) (JP (zAW M S) S.length) S.length f) S.length))
   have huk:zDD M n u:=by rw[hu];exact(zEZ hS).2 hrk
   have hsub:∀y∈zAT n u,y∈S∧y≠S[f2]:=by
    intro y hy
    have gy:=(zDE n u).2 y hy
    have hy':((y.toNat:Nat):Int)∈zAT n u:=by rw[show((y.toNat:Nat):Int)=y by omega];exact hy
    obtain⟨_,hz⟩:=zBL.1 hy'
    rw[hu]at hz
    obtain⟨i,hi,ei,hzi⟩:=(zFS hS hlen).1 hz
    have e1:S[i]=y:=by omega
    refine⟨by rw[<- e1];exact List.getElem_mem hi,fun e2=>?_⟩
    have:=hS.inj hi hf2S (by rw[e1,e2])
    subst this
    exact hzi (r2 i hf2J hne3)
   have hlt:(zAT n u).length<s:=by
    have hnd:(zAT n u).Nodup:=(zDE n u).1.imp (fun h=>by omega)
    have h1:(S[f2]::zAT n u).length<=S.length:=by
     refine zHR ?_ ?_
     ·exact List.nodup_cons.2 ⟨fun hm=>(hsub _ hm).2 rfl,hnd⟩
     ·intro y hy
      rcases List.mem_cons.1 hy with rfl|hy
      ·exact List.getElem_mem hf2S
      ·exact(hsub y hy).1
    simp only[List.length_cons]at h1
    omega
   have hune:∃j,j<n∧u j≠0:=by
    have g:=hS.get hf
    refine⟨(S[f]).toNat,by omega,?_⟩
    rw[hu,zFS hS hlen]
    exact⟨f,hf,by omega,by rw[r1];omega⟩
   obtain⟨T,c,t1,t2,t3,t4,t5⟩:=ih _ hlt u rfl huk hune
   exact⟨T,c,t1,by omega,t3,fun y hy=>by rw[<- hSe];exact(hsub y (t4 y hy)).1,t5⟩
  ·-- one free column:a circuit
   have hone':zEV (JP (zAW M S) S.length) S.length=[f]:=by
    have hall:∀x∈zEV (JP (zAW M S) S.length) S.length,x=f:=fun x hx=>Classical.byContradiction fun hn=>hone ⟨x,hx,hn⟩
    have hnd:(zEV (JP (zAW M S) S.length) S.length).Nodup:=List.Pairwise.filter _ List.nodup_range
    match hL:zEV (JP (zAW M S) S.length) S.length,hall,hnd with
    | [],_,_=>rw[hL]at hfm;simp at hfm
    | [x],hall,_=>rw[hall x (by simp)]
    |x::y::t,hall,hnd=>
     have h1:=hall x (by simp)
     have h2:=hall y (by simp)
     rw[h1,h2]at hnd
     simp at hnd
   have hl:zHU M S=[zBO (rawP (RP (zAW M S) S.length) (JP (zAW M S) S.length) S.length f)]:=by
    show(zEV (JP (zAW M S) S.length) S.length).map _=_
    rw[hone'];rfl
   refine⟨S,zLO (zAP n S (zBO (rawP (RP (zAW M S) S.length) (JP (zAW M S) S.length) S.length f)) S.length),hS,by omega,hne2,fun y hy=>by rw[<- hSe];exact hy,?_⟩
   unfold zFN
   rw[hl]
   simp only[]
   rw[if_neg]
   intro h0'
   have hm:(0:Int)∈zBO (rawP (RP (zAW M S) S.length) (JP (zAW M S) S.length) S.length f):=by simpa using h0'
   obtain⟨i,hi,ei⟩:=List.mem_iff_getElem.1 hm
   have hiS:i<S.length:=by
    rw[zDA]at hi
    unfold rawP at hi
    rw[zEH]at hi
    simpa using hi
   have h1:=hc.ker_one hone' hk hiS
   obtain⟨g,hg,e⟩:=zBU (rawP (RP (zAW M S) S.length) (JP (zAW M S) S.length) S.length f)
   have h2:=e i
   rw[zCS hi,ei,Int.mul_zero]at h2
   rw[<- h2,Int.zero_mul]at h1
   obtain⟨t,ht,_,r1,_⟩:=hc.raw hf hfJ
   rw[r1]at h1
   rcases Int.mul_eq_zero.1 h1 with a|a
   ·exact hw i hiS a
   ·omega
end
section
def unitF(N i:Nat):List Int:=(List.replicate N 0).set i 1
def extF(M:List (List Int)):List (List Int):=M.mapIdx (fun i r=>r++unitF M.length i)
theorem extF_len(M:List (List Int)):(extF M).length=M.length:=by simp[extF]
theorem extF_get{M:List (List Int)}{i:Nat}(h:i<M.length):(extF M)[i]? =some (M[i]++unitF M.length i):=by
 unfold extF;rw[List.getElem?_mapIdx,List.getElem?_eq_getElem h];rfl
theorem extF_mem{M:List (List Int)}{r:List Int}(h:r∈extF M):∃i,∃hi:i<M.length,r=M[i]++unitF M.length i:=by
 obtain⟨i,hi,rfl⟩:=List.mem_iff_getElem.1 h
 rw[extF_len]at hi
 have:=extF_get hi
 rw[List.getElem?_eq_getElem (by rw[extF_len];exact hi)]at this
 exact⟨i,hi,Option.some.inj this⟩
theorem unitF_len(N i:Nat):(unitF N i).length=N:=by simp[unitF]
theorem unitF_vec{N i:Nat}(hi:i<N)(c:Nat):vec (unitF N i) c=if c=i then 1 else 0:=by
 unfold unitF
 rw[zKI (by simpa using hi)]
 split
 ·rfl
 ·unfold vec;rw[List.getElem?_replicate];split<;>rfl
theorem zLP{a b:List Int}{c:Nat}(h:c<a.length):vec (a++b) c=vec a c:=by unfold vec;rw[List.getElem?_append_left h]
theorem zLQ{a b:List Int}{c:Nat}(h:a.length<=c):vec (a++b) c=vec b (c-a.length):=by unfold vec;rw[List.getElem?_append_right h]
structure ExtOk (M:List (List Int)) (n:Nat):Prop where
 wid:∀r∈extF M,r.length=n+M.length
 one:∀r∈extF M,∀c,-1<=vec r c∧vec r c<=1
theorem MaskOk.ext{M:List (List Int)}{n:Nat}(h:MaskOk M n):ExtOk M n:=by
 constructor
 ·intro r hr
  obtain⟨i,hi,rfl⟩:=extF_mem hr
  rw[List.length_append,unitF_len,h.wid _ (List.getElem_mem hi)]
 ·intro r hr c
  obtain⟨i,hi,rfl⟩:=extF_mem hr
  rcases Nat.lt_or_ge c (M[i]).length with hc|hc
  ·rw[zLP hc];exact h.one _ (List.getElem_mem hi) c
  ·rw[zLQ hc,unitF_vec hi];split<;>decide
abbrev RE(M:List (List Int))(n:Nat):List (List Int):=(pRed (extF M) n).1
def zEE(n:Nat)(v:Vec):Vec:=fun c=>if c<n then v c else 0
theorem truncV_sp{B B':Vec->Prop}{n:Nat}(hB:∀v,B v->Sp B' (zEE n v)){v:Vec}(h:Sp B v):Sp B' (zEE n v):=
 Sp.map (zEE n) (by funext c;unfold zEE;split<;>rfl) (fun u v=>by funext c;unfold zEE;split<;>simp) (fun k u=>by funext c;unfold zEE;split<;>simp) hB h
theorem zFQ{M:List (List Int)}{n:Nat}(h:MaskOk M n){y:List Int}(hy:y.length=M.length){q:Nat}(hq:q<M.length)(c:Nat):
 rowv (zAF M y) q c=if c<n then rowv M q c else if c=n then vec y q else 0:=by
 have hw:=h.wid _ (List.getElem_mem hq)
 have e:(zAF M y)[q]? =some (M[q]++[y[q]]):=by unfold zAF;rw[List.getElem?_zipWith,List.getElem?_eq_getElem hq,List.getElem?_eq_getElem (by omega)]
 unfold rowv
 rw[e,List.getElem?_eq_getElem hq]
 simp only[Option.getD_some]
 by_cases hc:c<n
 ·rw[if_pos hc,zLP (by rw[hw];exact hc)]
 ·rw[if_neg hc,zLQ (by rw[hw];omega),hw]
  by_cases e2:c=n
  ·rw[if_pos e2,e2,Nat.sub_self,zCS (l:=[y[q]]) (by simp),zCS (l:=y) (by omega)];rfl
  ·rw[if_neg e2,zGO (by simp;omega)]
end
end
section
open Go.RowKit
def Stop(P:Prop):Prop:=P
theorem Stop.of{P:Prop}(h:Stop P):P:=h
theorem Stop.go{P:Prop}(h:P):Stop P:=h
theorem hid{p:Prop}(h:p):Hid p:=h
def zAE(w:World)(a:Option Addr)(l:List Int):Prop:=
 ∀j,j<l.length->∃b off,a=some ⟨b,off,none⟩∧b<w.heap.size∧w.cell? ⟨b,off+j,none⟩=some (.int .i64 (l[j]?.getD 0))
theorem zAE.below{w w':World}{a:Option Addr}{l:List Int}(h:zAE w a l)(hb:Below w.heap.size w w'):zAE w' a l:=by
 intro j hj
 obtain⟨b,off,e,hlt,hc⟩:=h j hj
 exact⟨b,off,e,Nat.lt_of_lt_of_le hlt hb.size,(hb.cell (p:=⟨b,off+j,none⟩) hlt).trans hc⟩
theorem zAB{a b c:World}(h:Below a.heap.size a b)(k:Below b.heap.size b c):Below a.heap.size a c:=h.trans (k.mono h.size)
theorem zBW{B:Nat}{a w:World}(h:Below B a w)(n:Nat):Below B a (w.drewN n):=⟨h.os,h.tape,h.output,h.size,h.block⟩
theorem bcell{W w1:World}(hb:Below W.heap.size W w1):(∀b o,b<W.heap.size->w1.cell? ⟨b,o,none⟩=W.cell? ⟨b,o,none⟩)∧(∀b o,b<W.heap.size->w1.frozen? ⟨b,o,none⟩=W.frozen? ⟨b,o,none⟩):=
 ⟨fun b o h=>hb.cell (p:=⟨b,o,none⟩) h,fun b o h=>hb.frozen (p:=⟨b,o,none⟩) h⟩
theorem cast1(k:Nat):Value.int .i64 ((k:Int)+1)=Value.int .i64 ((k+1:Nat):Int):=by congr 1
theorem zBP{k:IntKind}{a b:Int}(h:a=b):Ending.returned (.int k a)=.returned (.int k b):=by rw[h]
theorem zAX{a b:Bool}(h:a=b):Ending.returned (.bool a)=.returned (.bool b):=by rw[h]
def idxP{α:Type}(p:α->Bool):List α->Nat->Int
 | [],_=> -1
 |x::l,k=>if p x then(k:Int)else idxP p l (k+1)
theorem zGJ{α:Type}(p:α->Bool):∀(l:List α) (k:Nat),(∀x∈l,p x=false)->idxP p l k= -1
 | [],_,_=>rfl
 |x::l,k,h=>by
  unfold idxP
  rw[if_neg (by rw[h x (by simp)];simp),zGJ p l (k+1) (fun y hy=>h y (by simp[hy]))]
theorem zIV{α:Type}(p:α->Bool):∀(l:List α) (k j:Nat) (x:α),l[j]? =some x->p x=true->(∀i y,i<j->l[i]? =some y->p y=false)->idxP p l k=((k+j:Nat):Int)
 | [],_,j,x,h,_,_=>by simp at h
 |y::l,k,0,x,h,hp,_=>by
  simp at h;subst h;unfold idxP;rw[if_pos hp];simp
 |y::l,k,j+1,x,h,hp,hn=>by
  have h0:=hn 0 y (by omega) rfl
  unfold idxP
  rw[if_neg (by rw[h0];simp),zIV p l (k+1) j x (by simpa using h) hp (fun i z hi hz=>hn (i+1) z (by omega) (by simpa using hz))]
  congr 1;omega
theorem zLD{α:Type}(p:α->Bool):∀(l:List α) (k:Nat),(0<=idxP p l k)=(l.any p=true)
 | [],k=>by simp[idxP]
 |x::l,k=>by
  unfold idxP
  by_cases h:p x=true
  ·simp[h]
  ·rw[if_neg h,zLD p l (k+1)];simp[h]
def zNU(P:Program)(g:Nat)(lb:Array Value)(w:World)(p:Int->Bool):Prop:=
 ∀(x:Int) (W:World),Below w.heap.size w W->Calls P g (#[.int .i64 x]++lb) W fun e W'=>e=.returned (.bool (p x))∧Below W.heap.size W W'
theorem getD_lt{l:List Int}{k:Nat}(h:k<l.length):l[k]? =some (l[k]?.getD 0):=by
 simp[List.getElem?_eq_getElem h]
structure Cel where
 row:List Int
 lo:Int
 hi:Int
def CelV(w:World)(v:Value)(c:Cel):Prop:=
 ∃ra n cap,v=.agg #[.slice ra n cap,.int .i64 c.lo,.int .i64 c.hi]∧c.row.length=n∧n<=maxLen∧zAE w ra c.row
theorem CelV.below{w w':World}{v:Value}{c:Cel}(h:CelV w v c)(hb:Below w.heap.size w w'):CelV w' v c:=by
 obtain⟨ra,n,cap,e,hn,hm,hi⟩:=h
 exact⟨ra,n,cap,e,hn,hm,hi.below hb⟩
def CellsAt(w:World)(a:Option Addr)(l:List Cel):Prop:=
 ∀j (hj:j<l.length),∃b off ra n cap,a=some ⟨b,off,none⟩∧b<w.heap.size∧
  w.cell? ⟨b,off+j*3,none⟩=some (.slice ra n cap)∧w.cell? ⟨b,off+j*3+1,none⟩=some (.int .i64 l[j].lo)∧w.cell? ⟨b,off+j*3+2,none⟩=some (.int .i64 l[j].hi)∧
  l[j].row.length=n∧n<=maxLen∧zAE w ra l[j].row
theorem CellsAt.below{w w':World}{a:Option Addr}{l:List Cel}(h:CellsAt w a l)(hb:Below w.heap.size w w'):CellsAt w' a l:=by
 intro j hj
 obtain⟨b,off,ra,n,cap,e,hlt,h0,h1,h2,hn,hm,hi⟩:=h j hj
 exact⟨b,off,ra,n,cap,e,Nat.lt_of_lt_of_le hlt hb.size,(hb.cell (p:=⟨b,_,none⟩) hlt).trans h0,(hb.cell (p:=⟨b,_,none⟩) hlt).trans h1,(hb.cell (p:=⟨b,_,none⟩) hlt).trans h2,hn,hm,hi.below hb⟩
end
section
open Go.RowKit
structure Keep (S:Nat->Prop) (A B:World):Prop where
 os:B.os=A.os
 tape:B.tape=A.tape
 output:B.output=A.output
 size:A.heap.size<=B.heap.size
 block:∀k,k<A.heap.size->S k->B.heap[k]? =A.heap[k]?
theorem Keep.refl(S:Nat->Prop)(A:World):Keep S A A:=⟨rfl,rfl,rfl,Nat.le_refl _,fun _ _ _=>rfl⟩
theorem Keep.trans{S:Nat->Prop}{A B C:World}(h:Keep S A B)(k:Keep S B C):Keep S A C:=
 ⟨k.os.trans h.os,k.tape.trans h.tape,k.output.trans h.output,Nat.le_trans h.size k.size,fun i hi hs=>(k.block i (Nat.lt_of_lt_of_le hi h.size) hs).trans (h.block i hi hs)⟩
theorem Keep.drewN{S:Nat->Prop}{A B:World}(h:Keep S A B)(n:Nat):Keep S A (B.drewN n):=⟨h.os,h.tape,h.output,h.size,h.block⟩
theorem Keep.mono{S T:Nat->Prop}{A B:World}(h:Keep S A B)(hs:∀k,T k->S k):Keep T A B:=⟨h.os,h.tape,h.output,h.size,fun k hk ht=>h.block k hk (hs k ht)⟩
theorem Keep.of_below{S:Nat->Prop}{A B:World}(h:Below A.heap.size A B):Keep S A B:=⟨h.os,h.tape,h.output,h.size,fun k hk _=>h.block k hk⟩
theorem Keep.grown{A B:World}{row:Option Nat}(h:A.grownBy B row):Keep (fun k=>some k≠row) A B:=⟨h.os,h.tape,h.output,h.size,fun k hk hs=>h.block k hk hs⟩
theorem Keep.put(A:World)(l:Nat)(o:Obj):Keep (fun k=>k≠l) A (A.putObj l o):=(Keep.grown (grownBy_putObj' A l o)).mono fun k hk e=>hk (by cases e;rfl)
theorem Keep.set(A:World)(b o:Nat)(v:Value):Keep (fun k=>k≠b) A (A.setCell ⟨b,o,none⟩ v):=
 ⟨rfl,rfl,rfl,by simp[World.setCell],fun k _ hs=>Below.heap_setCell _ _ _ _ hs⟩
theorem Keep.below{S:Nat->Prop}{A B w:World}{N:Nat}(h:Keep S A B)(hb:Below N w A)(hN:N<=A.heap.size)(hs:∀k,k<N->S k):Below N w B:=
 hb.trans ⟨h.os,h.tape,h.output,h.size,fun k hk=>h.block k (by omega) (hs k hk)⟩
theorem Keep.cell{S:Nat->Prop}{A B:World}(h:Keep S A B){b o:Nat}{v:Value}(hc:A.cell? ⟨b,o,none⟩=some v)(hs:S b):B.cell? ⟨b,o,none⟩=some v:=
 (World.cell?_of_block (a:=⟨b,o,none⟩) (h.block b (World.block_lt_of_cell? A ⟨b,o,none⟩ hc) hs)).trans hc
def zFF(w:World)(E:TypeId)(b:Nat)(l:List Int):Prop:=w.heap[b]? =some (.cells (l.map (Value.int .i64)).toArray E (0,0))
theorem zFF.lt{w:World}{E:TypeId}{b:Nat}{l:List Int}(h:zFF w E b l):b<w.heap.size:=(Array.getElem?_eq_some_iff.1 h).1
theorem zFF.cell{w:World}{E:TypeId}{b:Nat}{l:List Int}(h:zFF w E b l){j:Nat}(hj:j<l.length):w.cell? ⟨b,j,none⟩=some (.int .i64 (l[j]?.getD 0)):=by
 simp[World.cell?,show w.heap[b]? =_ from h,hj]
theorem zFF.keep{w w':World}{E:TypeId}{b:Nat}{l:List Int}(h:zFF w E b l)(hk:w'.heap[b]? =w.heap[b]?):zFF w' E b l:=hk.trans h
theorem zFF.set{w:World}{E:TypeId}{b:Nat}{l:List Int}(h:zFF w E b l)(j:Nat)(n:Int):zFF (w.setCell ⟨b,j,none⟩ (.int .i64 n)) E b (l.set j n):=by
 obtain⟨hlt,hk⟩:=Array.getElem?_eq_some_iff.1 h
 unfold zFF
 show(w.heap.modify b _)[b]? =_
 rw[Array.getElem?_eq_getElem (by rw[Array.size_modify];exact hlt),Array.getElem_modify_self,hk]
 simp[List.map_set]
theorem zFF.ints{w:World}{E:TypeId}{b:Nat}{l:List Int}(h:zFF w E b l):zAE w (some ⟨b,0,none⟩) l:=
 fun j hj=>⟨b,0,rfl,h.lt,by rw[Nat.zero_add];exact h.cell hj⟩
def IterInts(P:Program)(E:TypeId)(g:Nat)(lb:Array Value)(xs:List (List Int))(fp:Nat->Prop)(w0:World):Prop:=
 ∀(l:Nat) (J:Nat->List (List Int)->World->Prop) (Jx:List (List Int)->World->Prop) (W:World),Below w0.heap.size w0 W->
  (∀it s A B,W.heap.size<=it->J it s A->Keep (fun k=>k≠it) A B->J it s B)->
  (∀it pre x cap sp W1,pre++[x] <+: xs->W.heap.size<=it->it<W1.heap.size->J it pre W1->W1.heap[it]? =some (.cells (x.map (Value.int .i64)++sp).toArray E (0,0))->
    YieldAt Fence.wide 0 P l #[.slice (some ⟨it,0,none⟩) x.length cap] W1 fun e W'=>
     (e=.returned (.bool true)∧J it (pre++[x]) W'∧W1.heap.size<=W'.heap.size∧(∀k,fp k∨k=it->W'.heap[k]? =W1.heap[k]?))∨(e=.returned (.bool false)∧Jx (pre++[x]) W'))->
  (∀it,W.heap.size<=it->J it [] W)->
  CallsIn Fence.wide 0 P g (#[.func (.yield l) #[] #[]]++lb) W fun e W'=>(∃v,e=.returned v)∧((∃it,W.heap.size<=it∧J it xs W')∨(∃pre,pre <+: xs∧Jx pre W'))
end
section
open Go.RowKit
def zAL(w:World)(a:Option Addr)(ls:List (List Int)):Prop:=
 ∀j (hj:j<ls.length),∃b off ra n cap,a=some ⟨b,off,none⟩∧b<w.heap.size∧w.cell? ⟨b,off+j,none⟩=some (.slice ra n cap)∧ls[j].length=n∧n<=maxLen∧zAE w ra ls[j]
theorem zAL.below{w w':World}{a:Option Addr}{l:List (List Int)}(h:zAL w a l)(hb:Below w.heap.size w w'):zAL w' a l:=by
 intro j hj
 obtain⟨b,off,ra,n,cap,e,hlt,h0,hn,hm,hi⟩:=h j hj
 exact⟨b,off,ra,n,cap,e,Nat.lt_of_lt_of_le hlt hb.size,(hb.cell (p:=⟨b,_,none⟩) hlt).trans h0,hn,hm,hi.below hb⟩
def zFP(E:TypeId)(W:World)(base:Nat)(S:Nat->Prop)(v:Value)(l:List Int):Prop:=
 ∃a n cap,v=.slice a n cap∧l.length=n∧n<=maxLen∧∀j,j<l.length->∃b off,a=some ⟨b,off,none⟩∧S b∧b<W.heap.size∧
  (b<base∨∃c f,W.heap[b]? =some (.cells c E f))∧W.cell? ⟨b,off+j,none⟩=some (.int .i64 (l[j]?.getD 0))
theorem zFP.keep{E:TypeId}{W W':World}{base:Nat}{S T:Nat->Prop}{v:Value}{l:List Int}(h:zFP E W base S v l)(hk:Keep T W W')
 (hT:∀b,S b->b<W.heap.size->(b<base∨∃c f,W.heap[b]? =some (.cells c E f))->T b):zFP E W' base S v l:=by
 obtain⟨a,n,cap,e,hn,hm,hj⟩:=h
 refine⟨a,n,cap,e,hn,hm,fun j hlt=>?_⟩
 obtain⟨b,off,e,hS,hb,hty,hc⟩:=hj j hlt
 have ht:=hT b hS hb hty
 refine⟨b,off,e,hS,Nat.lt_of_lt_of_le hb hk.size,?_,hk.cell hc ht⟩
 rcases hty with h|⟨c,f,h⟩
 ·exact .inl h
 ·exact .inr ⟨c,f,(hk.block b hb ht).trans h⟩
theorem zFP.ints{E:TypeId}{W:World}{base:Nat}{S:Nat->Prop}{l:List Int}{a:Option Addr}{n cap:Nat}(h:zFP E W base S (.slice a n cap) l):l.length=n∧n<=maxLen∧zAE W a l:=by
 obtain⟨a',n',cap',e,hn,hm,hj⟩:=h
 cases e
 refine⟨hn,hm,fun j hlt=>?_⟩
 obtain⟨b,off,e,_,hb,_,hc⟩:=hj j hlt
 exact⟨b,off,e,hb,hc⟩
theorem zFP.own{E:TypeId}{W:World}{b0 base:Nat}{S:Nat->Prop}{v:Value}{l:List Int}(h:W.ownsRow b0 E 1 v l.length (l.map (Value.int .i64)))(hm:l.length<=maxLen)(hS:∀b,b0<=b->S b):zFP E W base S v l:=by
 obtain⟨h1,h2⟩:=h
 rcases h2 with⟨rfl,h0⟩|⟨g,cap,cur,rfl,hg,hh,hnc,hcm,hsz,htk⟩
 ·exact⟨none,0,0,rfl,h0,by unfold maxLen;omega,fun j hj=>by omega⟩
 ·refine⟨_,_,cap,rfl,rfl,hm,fun j hj=>⟨g,0,rfl,hS g hg,(Array.getElem?_eq_some_iff.1 hh).1,.inr ⟨cur,_,hh⟩,?_⟩⟩
  rw[Nat.zero_add]
  have:=World.ownsRow.cellAt (w:=W) (base:=b0) (e:=E) (size:=1) (g:=g) (n:=l.length) (cap:=cap) (xs:=l.map (Value.int .i64)) ⟨h1,.inr ⟨g,cap,cur,rfl,hg,hh,hnc,hcm,hsz,htk⟩⟩ j (by omega)
  rw[this,List.getElem?_map,List.getElem?_eq_getElem hj];rfl
theorem zAH{W:World}{base:Nat}{e:TypeId}{size:Nat}{v:Value}{n:Nat}{xs:List Value}(h:W.ownsRow base e size v n xs):∃a cap,v=.slice a n cap:=by
 rcases h.2 with⟨rfl,rfl⟩|⟨g,cap,cur,rfl,_⟩
 ·exact⟨_,_,rfl⟩
 ·exact⟨_,_,rfl⟩
def zIH(E T:TypeId)(W:World)(base:Nat)(S:Nat->Prop)(v:Value)(ls:List (List Int)):Prop:=
 ∃vs,W.ownsRow base T 1 v ls.length vs∧(∀k,v.ownBlock=some k->S k)∧∀j (hj:j<ls.length),∃u,vs[j]? =some u∧zFP E W base S u ls[j]
theorem zIH.nil(E T:TypeId)(W:World)(base:Nat)(S:Nat->Prop):zIH E T W base S (.slice none 0 0) []:=
 ⟨[],World.ownsRow_nil _ _ _ _,fun k hk=>by simp[Value.ownBlock]at hk,fun j hj=>by simp at hj⟩
theorem zIH.keep{E T:TypeId}{W W':World}{base:Nat}{S:Nat->Prop}{v:Value}{ls:List (List Int)}(h:zIH E T W base S v ls)(hk:Keep S W W'):zIH E T W' base S v ls:=by
 obtain⟨vs,ho,hg,he⟩:=h
 refine⟨vs,⟨ho.1,?_⟩,hg,fun j hj=>?_⟩
 ·rcases ho.2 with hn|⟨g,cap,cur,rfl,hb,hgg,rest⟩
  ·exact .inl hn
  ·exact .inr ⟨g,cap,cur,rfl,hb,(hk.block g (Array.getElem?_eq_some_iff.1 hgg).1 (hg g rfl)).trans hgg,rest⟩
 ·obtain⟨u,hu,hel⟩:=he j hj
  exact⟨u,hu,hel.keep hk fun b hS _ _=>hS⟩
theorem zIH.snoc{E T:TypeId}(hET:E≠T){W w1 w2:World}{base:Nat}{S:Nat->Prop}{v v' u:Value}{ls:List (List Int)}{l:List Int}{vs:List Value}
 (ho:W.ownsRow base T 1 v ls.length vs)(he:∀j (hj:j<ls.length),∃u,vs[j]? =some u∧zFP E W base S u ls[j])(hu:zFP E W base S u l)
 (hW1:Below W.heap.size W w1)(hg:w1.grownBy w2 v.ownBlock)(ho':w2.ownsRow base T 1 v' (ls.length+1) (vs++[u]))(hS':∀k,v'.ownBlock=some k->S k):zIH E T w2 base S v' (ls++[l]):=by
 have hlen:vs.length=ls.length:=by have:=ho.1;omega
 have hgb:∀b,(b<base∨∃c f,W.heap[b]? =some (.cells c E f))->b<W.heap.size->w2.heap[b]? =W.heap[b]? :=by
  intro b hty hb
  refine(hg.block b (Nat.lt_of_lt_of_le hb hW1.size) ?_).trans (hW1.block b hb)
  rcases ho.2 with⟨rfl,_⟩|⟨g,cap,cur,rfl,hbg,hgg,_⟩
  ·simp[Value.ownBlock]
  ·intro e
   obtain rfl:b=g:=by simpa[Value.ownBlock]using e
   rcases hty with h|⟨c,f,h⟩
   ·omega
   ·rw[h]at hgg;cases hgg;exact hET rfl
 have hel:∀u l,zFP E W base S u l->zFP E w2 base S u l:=by
  intro u l h
  refine h.keep (T:=fun b=>b<W.heap.size∧(b<base∨∃c f,W.heap[b]? =some (.cells c E f))) ⟨hg.os.trans hW1.os,hg.tape.trans hW1.tape,hg.output.trans hW1.output,Nat.le_trans hW1.size hg.size,fun k hk hT=>hgb k hT.2 hk⟩ fun b _ hb hty=>⟨hb,hty⟩
 refine⟨vs++[u],by simpa using ho',hS',fun j hj=>?_⟩
 by_cases e:j<ls.length
 ·obtain⟨u',hu',hel'⟩:=he j e
  refine⟨u',by rw[List.getElem?_append_left (by omega)];exact hu',?_⟩
  rw[List.getElem_append_left e]
  exact hel _ _ hel'
 ·have:j=ls.length:=by simp at hj;omega
  subst this
  refine⟨u,by rw[List.getElem?_append_right (by omega),hlen];simp,?_⟩
  simp only[List.getElem_append_right (Nat.le_refl _),Nat.sub_self,List.getElem_cons_zero]
  exact hel _ _ hu
end
section
open Go.RowKit
def inB(n lo hi:Int):Bool:=decide (lo<=n)&&decide (n<=hi)
theorem zFW(n lo hi:Int)(w:World):Calls Tryz.prog 142 #[.int .i64 n,.int .i64 lo,.int .i64 hi] w fun e w'=>e=.returned (.bool (inB n lo hi))∧w=w':=by
 by_cases h1:lo<=n<;>by_cases h2:n<=hi
 all_goals
  go_enter Tryz.func142,Tryz.ntmps142
  go_wp2
  go_ret
  exact⟨zAX (by simp[inB,h1,h2]),rfl⟩
theorem indexI(w:World)(a:Option Addr)(n cap:Nat)(l:List Int)(hn:l.length=n)(hm:n<=maxLen)(H:zAE w a l)(g:Nat)(lb:Array Value)(p:Int->Bool)
 (eg:∀args w,(callFunc g args).run Tryz.prog w=.ok (.enter g args) w)(hp:zNU Tryz.prog g lb w p):
 Calls Tryz.prog 166 #[.slice a n cap,.func (.func g) #[] lb] w fun e w'=>e=.returned (.int .i64 (idxP p l 0))∧Below w.heap.size w w':=by
 have HN:=hid hn
 have HH:=hid H
 have HP:=hid hp
 clear hn H hp
 unfold maxLen at hm
 go_enter Tryz.func166,Tryz.ntmps166
 go_wp2
 go_loopw [8] (fun i wr=>∃k:Nat,k<=n∧i=.int .i64 k∧Below w.heap.size w wr∧∀i y,i<k->l[i]? =some y->p y=false) (fun i _=>n-(intOf i).toNat)
 case atStart=>exact⟨0,Nat.zero_le _,rfl,Below.refl _ _,fun i y h=>by omega⟩
 case round=>
  obtain⟨k,hk,rfl,hb,hno⟩:=hrel
  have HNO:=hid hno
  clear hno
  by_cases hlt:k<n
  ·obtain⟨b,off,rfl,hbs,hc⟩:=(HH.out.below hb) k (by rw[HN.out];exact hlt)
   have hkk:=getD_lt (l:=l) (k:=k) (by rw[HN.out];exact hlt)
   have HK:=hid hkk
   clear hkk
   cases hpx:p (l[k]?.getD 0)
   ·go_wp2_with (refine(HP.out _ _ hb).mono ?_;rintro e w1 ⟨rfl,hb1⟩)
    refine⟨⟨k+1,by omega,by go_num,zAB hb hb1,?_⟩,by simp[intOf];omega⟩
    intro i y hi hy
    by_cases e:i=k
    ·subst e;rw[HK.out]at hy;cases hy;exact hpx
    ·exact HNO.out i y (by omega) hy
   ·go_wp2_with (refine(HP.out _ _ hb).mono ?_;rintro e w1 ⟨rfl,hb1⟩)
    go_ret
    refine⟨zBP ?_,zAB hb hb1⟩
    rw[zIV p l 0 k _ HK.out hpx HNO.out];simp
  ·go_wp2
   go_ret
   refine⟨zBP ?_,hb⟩
   rw[zGJ]
   intro x hx
   obtain⟨i,hi,e⟩:=List.getElem_of_mem hx
   exact HNO.out i x (by have:=HN.out;omega) (by rw[List.getElem?_eq_getElem hi,e])
theorem zGD(w:World)(a:Option Addr)(n cap:Nat)(l:List Int)(hn:l.length=n)(hm:n<=maxLen)(H:zAE w a l)(g:Nat)(lb:Array Value)(p:Int->Bool)
 (eg:∀args w,(callFunc g args).run Tryz.prog w=.ok (.enter g args) w)(hp:zNU Tryz.prog g lb w p):
 Calls Tryz.prog 105 #[.slice a n cap,.func (.func g) #[] lb] w fun e w'=>e=.returned (.bool (l.any p))∧Below w.heap.size w w':=by
 have HC:=hid (indexI w a n cap l hn hm H g lb p eg hp)
 have HG:=zLD p l 0
 have HG':=hid HG
 clear hn H hp HG
 go_enter Tryz.func105,Tryz.ntmps105
 go_wp2_with (refine HC.out.mono ?_;rintro e w1 ⟨rfl,hb1⟩)
 go_ret
 refine⟨zAX ?_,hb1⟩
 rw[Bool.eq_iff_iff,decide_eq_true_iff,HG'.out]
def SlV(w:World)(v:Value)(l:List Int):Prop:=∃ra n cap,v=.slice ra n cap∧l.length=n∧n<=maxLen∧zAE w ra l
theorem SlV.below{w w':World}{v:Value}{l:List Int}(h:SlV w v l)(hb:Below w.heap.size w w'):SlV w' v l:=by
 obtain⟨ra,n,cap,e,hn,hm,hi⟩:=h
 exact⟨ra,n,cap,e,hn,hm,hi.below hb⟩
def PredR(P:Program)(g:Nat)(lb:Array Value)(w:World)(p:List Int->Bool):Prop:=
 ∀(l:List Int) (v:Value) (W:World),Below w.heap.size w W->SlV W v l->Calls P g (#[v]++lb) W fun e W'=>e=.returned (.bool (p l))∧Below W.heap.size W W'
theorem indexR(w:World)(a:Option Addr)(n cap:Nat)(l:List (List Int))(hn:l.length=n)(hm:n<=maxLen)(H:zAL w a l)(g:Nat)(lb:Array Value)(p:List Int->Bool)
 (eg:∀args w,(callFunc g args).run Tryz.prog w=.ok (.enter g args) w)(hp:PredR Tryz.prog g lb w p):
 Calls Tryz.prog 228 #[.slice a n cap,.func (.func g) #[] lb] w fun e w'=>e=.returned (.int .i64 (idxP p l 0))∧Below w.heap.size w w':=by
 have HN:=hid hn
 have HH:=hid H
 have HP:=hid hp
 clear hn H hp
 unfold maxLen at hm
 go_enter Tryz.func228,Tryz.ntmps228
 go_wp2
 go_loopw [8] (fun i wr=>∃k:Nat,k<=n∧i=.int .i64 k∧Below w.heap.size w wr∧∀i y,i<k->l[i]? =some y->p y=false) (fun i _=>n-(intOf i).toNat)
 case atStart=>exact⟨0,Nat.zero_le _,rfl,Below.refl _ _,fun i y h=>by omega⟩
 case round=>
  obtain⟨k,hk,rfl,hb,hno⟩:=hrel
  have HNO:=hid hno
  clear hno
  by_cases hlt:k<n
  ·have hkl:k<l.length:=by rw[HN.out];exact hlt
   obtain⟨b,off,ra,rn,rc,rfl,hbs,h0,hrn,hrm,hri⟩:=(HH.out.below hb) k hkl
   have HV:=hid (show SlV wr (.slice ra rn rc) l[k]from⟨ra,rn,rc,rfl,hrn,hrm,hri⟩)
   clear hrn hri
   have HK:=hid (List.getElem?_eq_getElem hkl)
   cases hpx:p l[k]
   ·go_wp2_with (refine(HP.out _ _ _ hb HV.out).mono ?_;rintro e w1 ⟨rfl,hb1⟩)
    refine⟨⟨k+1,by omega,by go_num,zAB hb hb1,?_⟩,by simp[intOf];omega⟩
    intro i y hi hy
    by_cases e:i=k
    ·subst e;rw[HK.out]at hy;cases hy;exact hpx
    ·exact HNO.out i y (by omega) hy
   ·go_wp2_with (refine(HP.out _ _ _ hb HV.out).mono ?_;rintro e w1 ⟨rfl,hb1⟩)
    go_ret
    refine⟨zBP ?_,zAB hb hb1⟩
    rw[zIV p l 0 k _ HK.out hpx HNO.out];simp
  ·go_wp2
   go_ret
   refine⟨zBP ?_,hb⟩
   rw[zGJ]
   intro x hx
   obtain⟨i,hi,e⟩:=List.getElem_of_mem hx
   exact HNO.out i x (by have:=HN.out;omega) (by rw[List.getElem?_eq_getElem hi,e])
theorem containsR(w:World)(a:Option Addr)(n cap:Nat)(l:List (List Int))(hn:l.length=n)(hm:n<=maxLen)(H:zAL w a l)(g:Nat)(lb:Array Value)(p:List Int->Bool)
 (eg:∀args w,(callFunc g args).run Tryz.prog w=.ok (.enter g args) w)(hp:PredR Tryz.prog g lb w p):
 Calls Tryz.prog 202 #[.slice a n cap,.func (.func g) #[] lb] w fun e w'=>e=.returned (.bool (l.any p))∧Below w.heap.size w w':=by
 have HC:=hid (indexR w a n cap l hn hm H g lb p eg hp)
 have HG:=zLD p l 0
 have HG':=hid HG
 clear hn H hp HG
 go_enter Tryz.func202,Tryz.ntmps202
 go_wp2_with (refine HC.out.mono ?_;rintro e w1 ⟨rfl,hb1⟩)
 go_ret
 refine⟨zAX ?_,hb1⟩
 rw[Bool.eq_iff_iff,decide_eq_true_iff,HG'.out]
theorem allI1(w:World)(b g:Nat)(lb:Array Value)(p:Int->Bool)(eg:∀args w,(callFunc g args).run Tryz.prog w=.ok (.enter g args) w)(hb:b<w.heap.size)(hc:w.cell? ⟨b,0,none⟩=some (.func (.func g) #[] lb))(hp:zNU Tryz.prog g lb w p):
 zNU Tryz.prog 247 #[.pointer (some ⟨b,0,none⟩)] w (fun n=>!p n):=by
 intro x W hbw
 have hc':W.cell? ⟨b,0,none⟩=some (.func (.func g) #[] lb):=(hbw.cell (p:=⟨b,0,none⟩) hb).trans hc
 have HP:=hid (hp x W hbw)
 clear hp
 go_enter Tryz.func247,Tryz.ntmps247
 go_wp2_with (refine HP.out.mono ?_;rintro e w1 ⟨rfl,hb1⟩)
 go_ret
 exact⟨rfl,hb1⟩
theorem allI_c(w:World)(a:Option Addr)(n cap:Nat)(l:List Int)(hn:l.length=n)(hm:n<=maxLen)(H:zAE w a l)(g:Nat)(lb:Array Value)(p:Int->Bool)
 (eg:∀args w,(callFunc g args).run Tryz.prog w=.ok (.enter g args) w)(hp:zNU Tryz.prog g lb w p):
 Calls Tryz.prog 204 #[.slice a n cap,.func (.func g) #[] lb] w fun e w'=>e=.returned (.bool (l.all p))∧Below w.heap.size w w':=by
 have hb0:Below w.heap.size w (w.alloc (.cells #[.func (.func g) #[] lb] 125)):=(Below.refl _ _).alloc (Nat.le_refl _) _
 have HC:=hid (zGD (w.alloc (.cells #[.func (.func g) #[] lb] 125)) a n cap l hn hm (H.below hb0) 247 #[.pointer (some ⟨w.heap.size,0,none⟩)] _ (enters_of Tryz.func247 (by kernel_rfl) rfl)
  (allI1 _ w.heap.size g lb p eg (by simp) (by rw[World.cell?_alloc_at _ _ _ _ rfl];rfl) (fun x W h=>hp x W (zAB hb0 h))))
 clear hn H hp
 have hmf:∀(fn:Fn) (first cap:Array Value) (w:World),(Instr.makeFunc fn first cap).run Tryz.prog w=.ok (.func fn first cap) w:=fun _ _ _ _=>rfl
 go_enter Tryz.func204,Tryz.ntmps204
 go_wp2_with (refine HC.out.mono ?_;rintro e w1 ⟨rfl,hb1⟩)
 go_ret
 exact⟨zAX (by simp[List.all_eq_not_any_not]),zAB hb0 hb1⟩
theorem allR1(w:World)(b g:Nat)(lb:Array Value)(p:List Int->Bool)(eg:∀args w,(callFunc g args).run Tryz.prog w=.ok (.enter g args) w)(hb:b<w.heap.size)(hc:w.cell? ⟨b,0,none⟩=some (.func (.func g) #[] lb))(hp:PredR Tryz.prog g lb w p):
 PredR Tryz.prog 203 #[.pointer (some ⟨b,0,none⟩)] w (fun n=>!p n):=by
 intro x v W hbw hv
 have hc':W.cell? ⟨b,0,none⟩=some (.func (.func g) #[] lb):=(hbw.cell (p:=⟨b,0,none⟩) hb).trans hc
 have HP:=hid (hp x v W hbw hv)
 obtain⟨ra,rn,rc,rfl,_,_,_⟩:=hv
 clear hp
 go_enter Tryz.func203,Tryz.ntmps203
 go_wp2_with (refine HP.out.mono ?_;rintro e w1 ⟨rfl,hb1⟩)
 go_ret
 exact⟨rfl,hb1⟩
theorem allR_c(w:World)(a:Option Addr)(n cap:Nat)(l:List (List Int))(hn:l.length=n)(hm:n<=maxLen)(H:zAL w a l)(g:Nat)(lb:Array Value)(p:List Int->Bool)
 (eg:∀args w,(callFunc g args).run Tryz.prog w=.ok (.enter g args) w)(hp:PredR Tryz.prog g lb w p):
 Calls Tryz.prog 143 #[.slice a n cap,.func (.func g) #[] lb] w fun e w'=>e=.returned (.bool (l.all p))∧Below w.heap.size w w':=by
 have hb0:Below w.heap.size w (w.alloc (.cells #[.func (.func g) #[] lb] 131)):=(Below.refl _ _).alloc (Nat.le_refl _) _
 have HC:=hid (containsR (w.alloc (.cells #[.func (.func g) #[] lb] 131)) a n cap l hn hm (H.below hb0) 203 #[.pointer (some ⟨w.heap.size,0,none⟩)] _ (enters_of Tryz.func203 (by kernel_rfl) rfl)
  (allR1 _ w.heap.size g lb p eg (by simp) (by rw[World.cell?_alloc_at _ _ _ _ rfl];rfl) (fun x v W h=>hp x v W (zAB hb0 h))))
 clear hn H hp
 have hmf:∀(fn:Fn) (first cap:Array Value) (w:World),(Instr.makeFunc fn first cap).run Tryz.prog w=.ok (.func fn first cap) w:=fun _ _ _ _=>rfl
 go_enter Tryz.func143,Tryz.ntmps143
 go_wp2_with (refine HC.out.mono ?_;rintro e w1 ⟨rfl,hb1⟩)
 go_ret
 exact⟨zAX (by simp[List.all_eq_not_any_not]),zAB hb0 hb1⟩
abbrev Mask:=List (List Int)
def zFL(l:List Int):Bool:=inB l.length 1 10&&l.all (fun n=>inB n (-1) 1)
def zAA(M:Mask):Nat:=(M[0]?.getD []).length
def okM(M:Mask):Bool:=inB M.length 1 6&&M.all (fun l=>decide (l.length=zAA M)&&zFL l)
theorem row1(w:World):zNU Tryz.prog 205 #[] w (fun n=>inB n (-1) 1):=by
 intro x W hb
 go_enter Tryz.func205,Tryz.ntmps205
 go_wp2_with (go_at_call 142;refine(zFW _ _ _ _).mono ?_;rintro e w1 ⟨rfl,rfl⟩)
 go_ret
 exact⟨rfl,Below.refl _ _⟩
theorem mrow_c(w:World)(a:Option Addr)(n cap:Nat)(l:List Int)(hn:l.length=n)(hm:n<=maxLen)(H:zAE w a l):
 Calls Tryz.prog 145 #[.slice a n cap] w fun e w'=>e=.returned (.bool (zFL l))∧Below w.heap.size w w':=by
 have HC:=hid (allI_c w a n cap l hn hm H 205 #[] _ (enters_of Tryz.func205 (by kernel_rfl) rfl) (row1 w))
 have HN:=hid hn
 clear hn H
 cases h:inB n 1 10
 all_goals
  have HQ:=hid h
  go_enter Tryz.func145,Tryz.ntmps145
  go_wp2_with (first| (go_at_call 142;refine(zFW _ _ _ _).mono ?_;rintro e w1 ⟨rfl,rfl⟩)| (refine HC.out.mono ?_;rintro e w1 ⟨rfl,hb1⟩))
  go_ret
  first
   |exact⟨zAX (by unfold zFL;rw[HN.out,HQ.out];simp),hb1⟩
   |exact⟨zAX (by unfold zFL;rw[HN.out,HQ.out];simp),Below.refl _ _⟩
theorem valid1(w:World)(b:Nat)(a:Option Addr)(n cap:Nat)(M:Mask)(hn:M.length=n)(hm:n<=maxLen)(h0:0<n)(H:zAL w a M)(hb:b<w.heap.size)(hc:w.cell? ⟨b,0,none⟩=some (.slice a n cap)):
 PredR Tryz.prog 144 #[.pointer (some ⟨b,0,none⟩)] w (fun l=>decide (l.length=zAA M)&&zFL l):=by
 intro x v W hbw hv
 have hc':W.cell? ⟨b,0,none⟩=some (.slice a n cap):=(hbw.cell (p:=⟨b,0,none⟩) hb).trans hc
 obtain⟨ra,rn,rc,rfl,hrn,hrm,hri⟩:=hv
 have HR:=hid (mrow_c W ra rn rc x hrn hrm hri)
 obtain⟨b',off,qa,qn,qc,rfl,hbs,hq0,hqn,hqm,hqi⟩:=(H.below hbw) 0 (by omega)
 have HCols:zAA M=qn:=by unfold zAA;rw[List.getElem?_eq_getElem (by omega),<- hqn];rfl
 have HCO:=hid HCols
 have HRN:=hid hrn
 unfold maxLen at hm
 simp only[Nat.add_zero]at hq0
 clear HCols hrn hri hqn hqi H hc
 by_cases h:rn=qn
 all_goals
  have hd:((rn:Int)==(qn:Int))=decide (rn=qn):=by rw[Bool.eq_iff_iff];simp;omega
  have HQ:=hid h
  first
   |rw[decide_eq_true h]at hd
   |rw[decide_eq_false h]at hd
  clear h
  go_enter Tryz.func144,Tryz.ntmps144
  go_wp2_with (go_at_call 145;refine HR.out.mono ?_;rintro e w1 ⟨rfl,hb1⟩)
  go_ret
  first
   |exact⟨zAX (by rw[HRN.out,HCO.out,decide_eq_true HQ.out];simp),hb1⟩
   |exact⟨zAX (by rw[HRN.out,HCO.out,decide_eq_false HQ.out];simp),Below.refl _ _⟩
theorem zGU(w:World)(a:Option Addr)(n cap:Nat)(M:Mask)(hn:M.length=n)(hm:n<=maxLen)(H:zAL w a M):
 Calls Tryz.prog 79 #[.slice a n cap] w fun e w'=>e=.returned (.bool (okM M))∧Below w.heap.size w w':=by
 have hb0:Below w.heap.size w (w.alloc (.cells #[.slice a n cap] 23)):=(Below.refl _ _).alloc (Nat.le_refl _) _
 have hmf:∀(fn:Fn) (first cap:Array Value) (w:World),(Instr.makeFunc fn first cap).run Tryz.prog w=.ok (.func fn first cap) w:=fun _ _ _ _=>rfl
 cases h:inB n 1 6
 ·have HQ:=hid h
  have HN:=hid hn
  clear hn H
  go_enter Tryz.func79,Tryz.ntmps79
  go_wp2_with (go_at_call 142;refine(zFW _ _ _ _).mono ?_;rintro e w1 ⟨rfl,rfl⟩)
  go_ret
  exact⟨zAX (by unfold okM;rw[HN.out,HQ.out];simp),hb0⟩
 ·have h0:0<n:=by unfold inB at h;simp at h;omega
  have HC:=hid (allR_c (w.alloc (.cells #[.slice a n cap] 23)) a n cap M hn hm (H.below hb0) 144 #[.pointer (some ⟨w.heap.size,0,none⟩)] _ (enters_of Tryz.func144 (by kernel_rfl) rfl)
   (valid1 _ w.heap.size a n cap M hn hm h0 (H.below hb0) (by simp) (by rw[World.cell?_alloc_at _ _ _ _ rfl];rfl)))
  have HQ:=hid h
  have HN:=hid hn
  clear hn H
  go_enter Tryz.func79,Tryz.ntmps79
  go_wp2_with (first| (go_at_call 142;refine(zFW _ _ _ _).mono ?_;rintro e w1 ⟨rfl,rfl⟩)| (refine HC.out.mono ?_;rintro e w1 ⟨rfl,hb1⟩))
  go_ret
  exact⟨zAX (by unfold okM;rw[HN.out,HQ.out];simp),zAB hb0 hb1⟩
end
section
open Go.RowKit
theorem zIQ{P:Program}{w:World}(base:Nat)(t ty e:TypeId)(i:TypeInfo)(size c:Nat)(ht:P.underlying t=some (.slice e))(hi:P.info? e=some i)
 (v:Value)(n:Nat)(xs:List Value)(hown:w.ownsRow base e size v n xs):(Builtin.append_ #[t,t] ty #[v,.slice none 0 c]).run P w=.ok v w:=by
 rcases hown.2 with⟨rfl,rfl⟩|⟨g,cap,cur,rfl,_,_,hnc,_⟩
 ·simp[Builtin.append_,run_underlying ht,sizeOf,typeInfo,hi,Builtin.lenOf,Builtin.firstCells]
 ·simp[Builtin.append_,run_underlying ht,sizeOf,typeInfo,hi,Builtin.lenOf,Builtin.firstCells,hnc,storeCells]
theorem zBN{P:Program}(w:World){ops:Array Oper}{rest:List Oper}{o:Oper}{a:Act}{Q:Exit->Act->World->Prop}(hgd:o.guard=none)(s x:Operand)(t:TypeId)
 (ho:o.op=.call {callee:=.builtin .append,args:=#[s,x],argTypes:=#[t,t]})
 (base:Nat)(e:TypeId)(z:Value)(size bytes:Nat)(ht:P.underlying t=some (.slice e))(hinfo:(P.info? e).map (fun i=>(i.zero,i.size,i.bytes))=some (some z,size,bytes))
 (hzs:z.cells.size=size)(hsz:0<size)
 (v:Value)(n:Nat)(xs:List Value)(hs:a.eval s=v)(hown:w.ownsRow base e size v n xs)
 (ao:Option Addr)(m c:Nat)(news:List Value)(hx:a.eval x=.slice ao m c)(hl:news.length=m*size)(hnone:ao=none->m=0)
 (hnews:∀ad,ao=some ad->∀j u,news[j]? =some u->w.cell? (ad.add j)=some u)(h1:∀u∈news,u.oneCell'=true)
 (h63:n+m<=maxLen)(hbytes:(n+m)*bytes<=140737488355328)(hbase:base<=w.heap.size)
 (h:∀a' c' w',w'.ownsRow base e size (.slice a' (n+m) c') (n+m) (xs++news)->w.grownBy w' v.ownBlock->wpList P ops Q rest (a.put o.dst (.slice a' (n+m) c')) w'):wpList P ops Q (o::rest) a w:=by
 obtain⟨i,hi,hz,h2,h3⟩:=info_parts hinfo
 cases ao with
 |some ad=>
  refine wpList_append_own w hgd s x t ho base e i z size bytes ht hi hz h2 h3 hzs hsz v n xs hs hown ad m c news hx hl (hnews ad rfl) h1 h63 hbytes hbase ?_
  intro v' w' ho' hg _
  obtain⟨a',c',rfl⟩:=zAH ho'
  exact h a' c' w' ho' hg
 |none=>
  obtain rfl:=hnone rfl
  have hnil:news=[]:=List.eq_nil_of_length_eq_zero (by simpa using hl)
  subst hnil
  refine wpList_plain hgd fun K hK=>?_
  have hrun:=zIQ (P:=P) (w:=w) base t o.type e i size c ht hi v n xs hown
  obtain⟨a',c',rfl⟩:=zAH hown
  unfold Oper.wp
  simp[execOp,ho,resolve,invoke,builtin,hs,hx,hrun,Result.andThen]
  exact hK _ _ (h a' c' w (by simpa using hown) (World.grownBy.refl _ _))
theorem ints_news{w:World}{a:Option Addr}{l:List Int}(H:zAE w a l):∀ad,a=some ad->∀j u,(l.map (Value.int .i64))[j]? =some u->w.cell? (ad.add j)=some u:=by
 intro ad ha j u hu
 rw[List.getElem?_map]at hu
 obtain⟨x,hx,rfl⟩:=Option.map_eq_some_iff.1 hu
 obtain⟨hj,e⟩:=List.getElem?_eq_some_iff.1 hx
 obtain⟨b,off,ea,hb,hc⟩:=H j hj
 rw[ha]at ea
 cases ea
 rw[Addr.add_lit,hc,hx];rfl
theorem ints_none{w:World}{a:Option Addr}{l:List Int}(H:zAE w a l):a=none->l.length=0:=by
 intro ha
 rcases Nat.eq_zero_or_pos l.length with h|h
 ·exact h
 ·obtain⟨_,_,e,_⟩:=H 0 h;rw[ha]at e;cases e
theorem zDG(w:World)(x:Value)(t:TypeId):∀ad,(some ⟨w.heap.size,0,none⟩:Option Addr)=some ad->∀j u,[x][j]? =some u->(w.alloc (.cells #[x] t)).cell? (ad.add j)=some u:=by
 intro ad e j u hu
 cases e
 match j,hu with
 |0,hu=>
  simp at hu;subst hu
  rw[Addr.add_lit,World.cell?_alloc_at _ _ _ _ rfl];rfl
theorem zCV(w:World)(o:Obj):w.heap.size<=(w.alloc o).heap.size:=by simp
theorem zHI(a:Option Addr)(n c:Nat):∀u∈[Value.slice a n c],u.oneCell'=true:=by intro u hu;simp at hu;subst hu;rfl
theorem zDM{α:Type}{a:α}{p:Prop}:some a=none->p:=fun h=>by cases h
theorem zBA{w:World}{b:Nat}{c:Array Value}{E:TypeId}{f:Nat×Nat}(h:w.heap[b]? =some (.cells c E f))(j:Nat)(v:Value):
 (w.setCell ⟨b,j,none⟩ v).heap[b]? =some (.cells (c.setIfInBounds j v) E f):=by
 obtain⟨hlt,hk⟩:=Array.getElem?_eq_some_iff.1 h
 show(w.heap.modify b _)[b]? =_
 rw[Array.getElem?_eq_getElem (by rw[Array.size_modify];exact hlt),Array.getElem_modify_self,hk]
 rfl
theorem zAM{B:Nat}{a w:World}(h:Below B a w){b:Nat}(hb:B<=b)(o:Nat)(v:Value):Below B a (w.setCell ⟨b,o,none⟩ v):=h.setCell (p:=⟨b,o,none⟩) hb v
end
section
open Go.RowKit
theorem drewN_add(w:World)(a b:Nat):(w.drewN a).drewN b=w.drewN (a+b):=by simp[World.drewN,Nat.add_assoc]
theorem gcd_mod(x y:Nat)(hy:0<y):Nat.gcd y (x%y)=Nat.gcd x y:=by rw[Nat.gcd_comm x y,Nat.gcd_rec y x,Nat.gcd_comm]
theorem zIB(w:World)(a b:Int)(ha: -4611686018427387904<=a∧a<=4611686018427387904)(hb: -4611686018427387904<=b∧b<=4611686018427387904):
 Calls Tryz.prog 206 #[.int .i64 a,.int .i64 b] w fun e w'=>e=.returned (.int .i64 (Int.gcd a b:Nat))∧∃k,w'=w.drewN k:=by
 obtain⟨x,hx⟩:∃x:Nat,x=a.natAbs:=⟨_,rfl⟩
 obtain⟨y,hy⟩:∃y:Nat,y=b.natAbs:=⟨_,rfl⟩
 have HG:=hid (show Nat.gcd x y=Int.gcd a b by rw[hx,hy];rfl)
 have hx2:x<=4611686018427387904:=by omega
 have hy2:y<=4611686018427387904:=by omega
 obtain⟨ha1,ha2⟩:=ha
 obtain⟨hb1,hb2⟩:=hb
 rcases Int.lt_or_le a 0 with sa|sa<;>rcases Int.lt_or_le b 0 with sb|sb
 all_goals
  have HX:=hid hx
  have HY:=hid hy
  clear hx hy
  go_enter Tryz.func206,Tryz.ntmps206
  go_wp2
  go_loopw [0,1] (fun u v wr=>∃p q:Nat,u=.int .i64 p∧v=.int .i64 q∧p<=4611686018427387904∧q<=4611686018427387904∧Nat.gcd p q=Nat.gcd x y∧∃k,wr=w.drewN k) (fun _ v _=>(intOf v).toNat)
  case atStart=>
   have h1:=HX.out
   have h2:=HY.out
   exact⟨x,y,by congr 1;omega,by congr 1;omega,hx2,hy2,rfl,0,rfl⟩
  case round=>
   obtain⟨p,q,rfl,rfl,hp,hq,hg,k,rfl⟩:=hrel
   have HGG:=hid hg
   clear hg
   by_cases h0:q=0
   ·subst h0
    go_wp2
    go_ret
    refine⟨zBP ?_,_,rfl⟩
    have h1:=HGG.out
    rw[Nat.gcd_zero_right]at h1
    rw[h1,HG.out]
   ·have hq1:1<=q:=by omega
    have hne:((q:Int) !=0)=true:=by simp;omega
    clear h0
    have hm1:p%q<q:=Nat.mod_lt _ hq1
    have hgm:=gcd_mod p q hq1
    have HGM:=hid (hgm.trans HGG.out)
    have HM:=hid hm1
    have HE:=hid (show((p:Int)% (q:Int))=((p%q:Nat):Int)by simp)
    clear hgm hm1
    go_wp2
    go_quiet (fail)
    go_wp2
    have hm1:=HM.out
    exact⟨⟨q,p%q,rfl,by rw[HE.out],hq,by omega,HGM.out,_,drewN_add _ _ _⟩,by rw[HE.out];simp[intOf];omega⟩
end
section
open Go.RowKit
theorem zFA(n lo hi:Int)(w:World):Calls Tryz.prog 131 #[.int .i64 n,.int .i64 lo,.int .i64 hi] w fun e w'=>e=.returned (.bool (inB n lo hi))∧w=w':=by
 by_cases h1:lo<=n<;>by_cases h2:n<=hi
 all_goals
  go_enter Tryz.func131,Tryz.ntmps131
  go_wp2
  go_ret
  exact⟨zAX (by simp[inB,h1,h2]),rfl⟩
theorem zIG{α:Type}{p:α->Bool}{l:List α}{k:Nat}(hk:k<l.length)(h:p l[k]=false):l.all p=false:=by
 rw[List.all_eq_false];exact⟨l[k],List.getElem_mem hk,by simp[h]⟩
theorem zKC{α:Type}{p:α->Bool}{l:List α}(h:∀j (hj:j<l.length),p l[j]=true):l.all p=true:=by
 rw[List.all_eq_true]
 intro x hx
 obtain⟨i,hi,e⟩:=List.getElem_of_mem hx
 rw[<- e];exact h i hi
theorem r2row_c(w:World)(a:Option Addr)(n cap:Nat)(l:List Int)(hn:l.length=n)(hm:n<=maxLen)(H:zAE w a l):
 Calls Tryz.prog 130 #[.slice a n cap] w fun e w'=>e=.returned (.bool (zFL l))∧w=w':=by
 have HN:=hid hn
 have HH:=hid H
 clear hn H
 unfold maxLen at hm
 go_enter Tryz.func130,Tryz.ntmps130
 go_wp2
 go_loop [7] (fun i=>∃k:Nat,k<=n∧i=.int .i64 k∧∀j (hj:j<l.length),j<k->inB l[j] (-1) 1=true) (fun i=>n-(intOf i).toNat)
 case atStart=>exact⟨0,Nat.zero_le _,rfl,fun i _ h=>by omega⟩
 case round=>
  obtain⟨k,hk,rfl,hno⟩:=hrel
  have HNO:=hid hno
  clear hno
  by_cases hlt:k<n
  ·have hkl:k<l.length:=by rw[HN.out];exact hlt
   obtain⟨b,off,rfl,hbs,hc⟩:=HH.out k hkl
   have hg:l[k]?.getD 0=l[k]:=by rw[List.getElem?_eq_getElem hkl];rfl
   rw[hg]at hc
   obtain⟨B,hB⟩:=exq (inB l[k] (-1) 1)
   have HW:=hid (fun W=>zFA l[k] (-1) 1 W)
   rw[<- hB]at HW
   have HBB:=hid hB
   have HKL:=hid hkl
   clear hg hB
   cases B
   ·go_wp2_with (go_at_call 131;refine(HW.out _).mono ?_;rintro e w1 ⟨rfl,rfl⟩)
    go_ret
    refine⟨zAX ?_,rfl⟩
    unfold zFL
    rw[zIG HKL.out HBB.out.symm];simp
   ·go_wp2_with (go_at_call 131;refine(HW.out _).mono ?_;rintro e w1 ⟨rfl,rfl⟩)
    go_round
    case rel=>
     refine⟨k+1,by omega,by go_num,fun j hj hjk=>?_⟩
     by_cases e:j=k
     ·subst e;exact HBB.out.symm
     ·exact HNO.out j hj (by omega)
    case measure=>simp[intOf];omega
  ·go_wp2_with (go_at_call 131;refine(zFA _ _ _ _).mono ?_;rintro e w1 ⟨rfl,rfl⟩)
   go_ret
   refine⟨zAX ?_,rfl⟩
   unfold zFL
   rw[HN.out,zKC (fun j hj=>HNO.out j hj (by have:=HN.out;omega))];simp
theorem zHL(w:World)(a:Option Addr)(n cap:Nat)(M:Mask)(hn:M.length=n)(hm:n<=maxLen)(H:zAL w a M):
 Calls Tryz.prog 68 #[.slice a n cap] w fun e w'=>e=.returned (.bool (okM M))∧w=w':=by
 have HN:=hid hn
 have HH:=hid H
 clear hn H
 unfold maxLen at hm
 go_enter Tryz.func68,Tryz.ntmps68
 go_wp2
 go_loop [7] (fun i=>∃k:Nat,k<=n∧i=.int .i64 k∧∀j (hj:j<M.length),j<k->(decide (M[j].length=zAA M)&&zFL M[j])=true) (fun i=>n-(intOf i).toNat)
 case atStart=>exact⟨0,Nat.zero_le _,rfl,fun i _ h=>by omega⟩
 case round=>
  obtain⟨k,hk,rfl,hno⟩:=hrel
  have HNO:=hid hno
  clear hno
  by_cases hlt:k<n
  ·have hkl:k<M.length:=by rw[HN.out];exact hlt
   obtain⟨b,off,ra,rn,rc,rfl,hbs,hc,hrn,hrm,hri⟩:=HH.out k hkl
   obtain⟨b',off',qa,qn,qc,e0,hbs',hc0,hqn,_,_⟩:=HH.out 0 (by omega)
   cases e0
   rw[Nat.add_zero]at hc0
   have hcol:zAA M=qn:=by unfold zAA;rw[List.getElem?_eq_getElem (by omega),<- hqn];rfl
   have HW:=hid (r2row_c w ra rn rc M[k] hrn hrm hri)
   obtain⟨B,hB⟩:=exq (zFL M[k])
   rw[<- hB]at HW
   have HBB:=hid hB
   have HKL:=hid hkl
   have HCol:=hid hcol
   have HRN:=hid hrn
   unfold maxLen at hrm
   have h0:0<n:=by omega
   clear hB hcol hrn hqn hri
   cases B
   ·go_wp2_with (go_at_call 130;refine HW.out.mono ?_;rintro e w1 ⟨rfl,rfl⟩)
    go_ret
    refine⟨zAX ?_,rfl⟩
    unfold okM
    rw[zIG HKL.out (by rw[<- HBB.out];simp)];simp
   ·by_cases hq:rn=qn
    ·have hd:((rn:Int) !=(qn:Int))=false:=by simp[hq]
     have HQ:=hid hq
     clear hq
     go_wp2_with (go_at_call 130;refine HW.out.mono ?_;rintro e w1 ⟨rfl,rfl⟩)
     go_round
     case rel=>
      refine⟨k+1,by omega,by go_num,fun j hj hjk=>?_⟩
      by_cases e:j=k
      ·subst e;rw[<- HBB.out,HCol.out,HRN.out,HQ.out];simp
      ·exact HNO.out j hj (by omega)
     case measure=>simp[intOf];omega
    ·have hd:((rn:Int) !=(qn:Int))=true:=by simp;omega
     have HQ:=hid hq
     clear hq
     go_wp2_with (go_at_call 130;refine HW.out.mono ?_;rintro e w1 ⟨rfl,rfl⟩)
     go_ret
     refine⟨zAX ?_,rfl⟩
     unfold okM
     rw[zIG HKL.out (by rw[HCol.out,HRN.out];simp[HQ.out])];simp
  ·go_wp2_with (go_at_call 131;refine(zFA _ _ _ _).mono ?_;rintro e w1 ⟨rfl,rfl⟩)
   go_ret
   refine⟨zAX ?_,rfl⟩
   unfold okM
   rw[HN.out,zKC (fun j hj=>HNO.out j hj (by have:=HN.out;omega))];simp
end
section
open Go.RowKit
section
variable {P:Program} {ops:Array Oper} {Q:Exit->Act->World->Prop} {md:Region.Mode} {S:World->Prop}
def AnyT(P:Program)(md:Region.Mode)(ops:Array Oper)(Q:Exit->Act->World->Prop)(T:Nat->World->Prop):Nat->Array Bool->Act->World->Prop
 |0,listed,a,w=>Region.ready md ops listed=[]∧Q .normal a w
 |fuel+1,listed,a,w=>
  (Region.ready md ops listed=[]->Q .normal a w)∧
  ∀j∈Region.ready md ops listed,wpOp P ops Q j (fun a' w'=>T j w'∧AnyT P md ops Q T fuel (listed.setIfInBounds j true) a' w') a w
variable {T:Nat->World->Prop}
theorem AnyT.any:∀(fuel:Nat) (listed:Array Bool) (a:Act) (w:World),AnyT P md ops Q T fuel listed a w->wpAny P md ops Q fuel listed a w
 |0,_,_,_,h=>h
 |fuel+1,_,_,_,h=>⟨h.1,fun i hi=>wpOp_mono (fun a' w' h'=>AnyT.any fuel _ a' w' h'.2) (h.2 i hi)⟩
theorem AnyT.first{i:Nat}{oi:Oper}{v:Value}(hi:ops[i]? =some oi)(hsel:∀(j:Nat) (o:Oper) cs b,ops[j]? =some o->o.op≠.select cs b)
 (hQ:∀c a w,Q (.panic c) (a.put oi.dst v) w->Q (.panic c) a w)
 (hT:∀(j:Nat) oj,ops[j]? =some oj->(∀e∈oj.after,Region.binds md e=true->e.on≠i)->∀w,T j w->S w)(hTi:∀w,S w->T i w):
 ∀(fuel:Nat) (listed:Array Bool) (a:Act) (w:World),
  (∀j oj,ops[j]? =some oj->j≠i->listed.getD j true=false->(∀e∈oj.after,Region.binds md e=true->e.on≠i)->oi.apart ops oj=true)->
  i∈Region.ready md ops listed->YieldsIf P ops S oi v a->S w->
  AnyT P md ops Q T fuel (listed.setIfInBounds i true) (a.put oi.dst v) w->AnyT P md ops Q T (fuel+1) listed a w:=by
 intro fuel
 induction fuel with
 |zero=>
  intro listed a w _ hr hy hS H
  refine⟨fun h=>(by rw[h]at hr;cases hr),fun j hj=>?_⟩
  by_cases e:j=i
  ·subst e;exact hy.wpOp hi hS ⟨hTi w hS,H⟩
  ·have h0:=ready_mono hj e
   rw[H.1]at h0;cases h0
 |succ fuel ih=>
  intro listed a w hfree hr hy hS H
  refine⟨fun h=>(by rw[h]at hr;cases hr),fun j hj=>?_⟩
  by_cases e:j=i
  ·subst e;exact hy.wpOp hi hS ⟨hTi w hS,H⟩
  ·obtain⟨hun,oj,hoj,hall⟩:=mem_ready.1 hj
   have hnot:∀x∈oj.after,Region.binds md x=true->x.on≠i:=by
    intro x hx hb heq
    have h1:=hall x hx hb
    have h0:=(mem_ready.1 hr).1
    rw[heq]at h1
    rcases Nat.lt_or_ge i listed.size with hlt|hge
    ·simp[hlt]at h0 h1;rw[h0]at h1;cases h1
    ·simp[Array.getElem?_eq_none hge]at h1
   refine wpOp_mono (fun a' w' h3=>?_) (wpOp_putIf hoj (hfree j oj hoj e hun hnot) (fun cs b=>hsel i oi cs b hi) (fun cs b=>hsel j oj cs b hoj) hQ hy (H.2 j (ready_mono hj e)))
   have hS':=hT j oj hoj hnot w' h3.2.1
   refine⟨h3.2.1,ih (listed.setIfInBounds j true) a' w' ?_ (ready_mono hr (fun h=>e h.symm)) h3.1 hS' ?_⟩
   ·intro k ok hk hki hkun hno
    refine hfree k ok hk hki ?_ hno
    by_cases hjk:j=k
    ·subst hjk;exact hun
    ·rwa [getD_set_ne true hjk]at hkun
   ·rw[Array.setIfInBounds_comm _ _ e];exact h3.2.2
def waits(md:Region.Mode)(ops:Array Oper)(i j:Nat):Bool:=match ops[j]? with|some o=>o.after.any (fun e=>Region.binds md e&&e.on==i)|none=>true
theorem AnyT.take{i:Nat}{oi:Oper}{v:Value}{fuel:Nat}{listed:Array Bool}{a:Act}{w:World}(hi:ops[i]? =some oi)
 (hs:Region.noSelect ops=true)(hf:Region.free md ops listed i=true)(hr:(Region.ready md ops listed).contains i=true)
 (hQ:∀c a w,Q (.panic c) (a.put oi.dst v) w->Q (.panic c) a w)
 (hT:∀j,waits md ops i j=false->∀w,T j w->S w)(hTi:∀w,S w->T i w)(hy:YieldsIf P ops S oi v a)(hS:S w)
 (h:AnyT P md ops Q T fuel (listed.setIfInBounds i true) (a.put oi.dst v) w):AnyT P md ops Q T (fuel+1) listed a w:=
 AnyT.first hi (Region.noSelect_spec hs) hQ (fun j oj hj hno w hw=>hT j (by
  unfold waits;rw[hj]
  simp only[Array.any_eq_false]
  intro k hk
  have:=hno oj.after[k] (Array.getElem_mem hk)
  cases hb:Region.binds md oj.after[k]<;>simp[hb]at this⊢
  exact this) w hw) hTi fuel listed a w (Region.free_spec hi hf) (by simpa using hr) hy hS h
theorem AnyT.takeW{i:Nat}{oi:Oper}{v:Value}{fuel:Nat}{listed:Array Bool}{a:Act}{w:World}{Wf:Nat->Bool}(hi:ops[i]? =some oi)
 (hs:Region.noSelect ops=true)(hf:Region.free md ops listed i=true)(hr:(Region.ready md ops listed).contains i=true)
 (hQ:∀c a w,Q (.panic c) (a.put oi.dst v) w->Q (.panic c) a w)
 (hW:(List.range ops.size).all (fun j=>waits md ops i j||Wf j)=true)(hw:Region.wanted oi (yielded ops a.tmps)=true)(hy:∀w,S w->(execOp a.eval oi).run P w=.ok (.value v) w)(hS:S w)
 (h:AnyT P md ops Q (fun j w=>Wf j=true->S w) fuel (listed.setIfInBounds i true) (a.put oi.dst v) w):AnyT P md ops Q (fun j w=>Wf j=true->S w) (fuel+1) listed a w:=
 AnyT.take hi hs hf hr hQ (fun j hj w hT=>hT (by
  by_cases e:j<ops.size
  ·have:=List.all_eq_true.1 hW j (List.mem_range.2 e)
   rw[hj]at this;simpa using this
  ·unfold waits at hj;rw[Array.getElem?_eq_none (by omega)]at hj;cases hj)) (fun w hS _=>hS) (.inl ⟨hw,hy⟩) hS h
theorem AnyT.next{i:Nat}{o:Oper}{fuel:Nat}{listed:Array Bool}{a:Act}{w:World}(hr:Region.ready md ops listed=[i])(ho:ops[i]? =some o)
 (h:wpOp P ops Q i (fun a' w'=>T i w'∧AnyT P md ops Q T fuel (listed.setIfInBounds i true) a' w') a w):AnyT P md ops Q T (fuel+1) listed a w:=
 ⟨fun h0=>(by rw[hr]at h0;cases h0),fun j hj=>by rw[hr]at hj;obtain rfl:j=i:=(by simpa using hj);exact h⟩
theorem AnyT.done{listed:Array Bool}{a:Act}{w:World}(hr:Region.ready md ops listed=[])(h:Q .normal a w):∀fuel,AnyT P md ops Q T fuel listed a w
 |0=>⟨hr,h⟩
 |_+1=>⟨fun _=>h,by rw[hr];simp⟩
theorem zAI(T:Nat->World->Prop){id:Nat}{a:Act}{w:World}(hm:P.follows .mixedOrders=true)
 (h:AnyT P .any ops Q T ops.size (Array.replicate ops.size false) a w.drew):(Code.region id ops true).wp P Q a w:=
 wp_region_any hm (AnyT.any _ _ _ _ h)
def oneQ(K:Act->World->Prop)(Q:Exit->Act->World->Prop):Exit->Act->World->Prop
 | .normal,a,w=>K a w
 |e,a,w=>Q e a w
theorem wpOp_of_list{i:Nat}{o:Oper}{K:Act->World->Prop}{a:Act}{w:World}(ho:ops[i]? =some o)
 (h:wpList P ops (oneQ K Q) [o] a w):wpOp P ops Q i K a w:=by
 unfold wpOp
 simp only[ho]
 unfold wpList at h
 split
 ·rename_i hw
  simp only[hw,if_true]at h
  rcases h with h|⟨h,hl⟩
  ·refine .inl ?_
   unfold Oper.wp at h⊢
   generalize (execOp a.eval o).run P w=r at*
   cases r with
   |ok x w'=>
    cases x<;>simp only[Oper.upon]at h⊢ <;>first
     |exact h
     |exact Calls.mono h (fun e w'' he=>by cases e<;>exact he)
   |halt x w'=>cases x<;>simp only[Oper.upon]at h⊢ <;>exact h
  ·exact .inr ⟨h,hl⟩
 ·rename_i hw
  simp only[hw]at h
  exact h
end
theorem AnyT.nx{P:Program}{md:Region.Mode}{ops:Array Oper}{Q:Exit->Act->World->Prop}{T:Nat->World->Prop}{i:Nat}{o:Oper}{fuel:Nat}{listed:Array Bool}{a:Act}{w:World}(ho:ops[i]? =some o)
 (h:wpList P ops (oneQ (fun a' w'=>T i w'∧AnyT P md ops Q T fuel (listed.setIfInBounds i true) a' w') Q) [o] a w)(hr:Region.ready md ops listed=[i]:=by kernel_rfl):AnyT P md ops Q T (fuel+1) listed a w:=
 AnyT.next hr ho (wpOp_of_list ho h)
end
end Go.Proofs.YtlffndehhhpgjaaGreat
