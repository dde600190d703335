/- Walks and plain laws for DualNormsRow, part 7. -/
import Derived.Lib.AppendZeros
import Derived.Deep.CutRange
import Derived.Test.YtlffndehhhpgjaaGreatPkDualNormsRow6
namespace Go.Proofs.YtlffndehhhpgjaaGreat
set_option linter.unusedVariables false
set_option linter.unusedSimpArgs false
set_option maxRecDepth 100000
set_option maxHeartbeats 4000000
section
def sumA{α:Type}(v:α->Int):List α->Nat
 | []=>0
 |r::rs=>(v r).natAbs+sumA v rs
def pairA{α:Type}(c d:α->Int):List α->Nat
 | []=>0
 |r::rs=>sumA (fun s=>c r*d s-d r*c s) rs+pairA c d rs
theorem ex_abs{α:Type}(v:α->Int):∀(l:List α) (F:Nat) (f:List α->Int),(∀m:List α,m.length+1=l.length->(f m).natAbs<=F)->(ex v f l).natAbs<=F*sumA v l
 | [],F,f,_=>by simp[ex]
 |r::rs,F,f,hf=>by
  have h1:=ex_abs v rs F (fun l=>f (r::l)) (fun m hm=>hf _ (by simp;omega))
  have h2:=hf rs (by simp)
  have h3:(v r*f rs).natAbs<=F*(v r).natAbs:=by rw[Int.natAbs_mul,Nat.mul_comm];exact Nat.mul_le_mul_right _ h2
  unfold ex sumA
  rw[Nat.mul_add]
  omega
theorem ex_lin{α:Type}(c d:α->Int)(x y:Int):∀(l:List α) (f:List α->Int),ex (fun s=>x*d s-y*c s) f l=x*ex d f l-y*ex c f l
 | [],f=>by simp[ex]
 |r::rs,f=>by
  unfold ex
  rw[ex_lin c d x y rs (fun l=>f (r::l))]
  grind
theorem ex2_abs{α:Type}(c d:α->Int):∀(l:List α) (F:Nat) (f:List α->Int),(∀m:List α,m.length+2=l.length->(f m).natAbs<=F)->(ex c (ex d f) l).natAbs<=F*pairA c d l
 | [],F,f,_=>by simp[ex]
 |r::rs,F,f,hf=>by
  have h1:=ex2_abs c d rs F (fun k=>f (r::k)) (fun m hm=>hf _ (by simp;omega))
  have e1:ex c (fun l=>ex d f (r::l)) rs=d r*ex c f rs-ex c (ex d (fun m=>f (r::m))) rs:=by
   have:(fun l=>ex d f (r::l))=fun l=>d r*f l-ex d (fun m=>f (r::m)) l:=by funext l;rfl
   rw[this,ex_sub c rs (fun l=>d r*f l) (fun l=>ex d (fun m=>f (r::m)) l),ex_mul]
  have e2:ex c (ex d f) (r::rs)=ex (fun s=>c r*d s-d r*c s) f rs+ex c (ex d (fun m=>f (r::m))) rs:=by
   rw[ex_lin]
   show c r*ex d f rs-ex c (fun l=>ex d f (r::l)) rs=_
   rw[e1];omega
  have h2:=ex_abs (fun s=>c r*d s-d r*c s) rs F f (fun m hm=>hf m (by simp;omega))
  rw[e2]
  unfold pairA
  rw[Nat.mul_add]
  omega
structure Cnt where
 a:Nat
 b:Nat
 c:Nat
 d:Nat
def cnt{α:Type}(c d:α->Int):List α->Cnt
 | []=>⟨0,0,0,0⟩
 |r::rs=>
  let k:=cnt c d rs
  if c r=0 then(if d r=0 then k else {k with d:=k.d+1})else if d r=0 then {k with c:=k.c+1}else if c r=d r then {k with a:=k.a+1}else {k with b:=k.b+1}
theorem zKU{α:Type}(c d:α->Int)(r:α)(rs:List α):cnt c d (r::rs)=if c r=0 then(if d r=0 then cnt c d rs else {cnt c d rs with d:=(cnt c d rs).d+1})else if d r=0 then {cnt c d rs with c:=(cnt c d rs).c+1}else if c r=d r then {cnt c d rs with a:=(cnt c d rs).a+1}else {cnt c d rs with b:=(cnt c d rs).b+1}:=rfl
theorem one3{x:Int}(h: -1<=x∧x<=1):x= -1∨x=0∨x=1:=by omega
theorem cnt_le{α:Type}(c d:α->Int):∀l:List α,(cnt c d l).a+(cnt c d l).b+(cnt c d l).c+(cnt c d l).d<=l.length
 | []=>by simp[cnt]
 |r::rs=>by
  have:=cnt_le c d rs
  rw[zKU]
  simp only[List.length_cons]
  generalize cnt c d rs=k at this⊢
  obtain⟨A,B,C,D⟩:=k
  split<;>(try split)<;>(try split)<;>(try simp only[])<;>(try simp only[]at this)<;>omega
theorem sum_cnt{α:Type}{c d:α->Int}(hc:∀r,-1<=c r∧c r<=1)(hd:∀r,-1<=d r∧d r<=1)(x y:Int)(hx: -1<=x∧x<=1)(hy: -1<=y∧y<=1):∀l:List α,
 sumA (fun s=>x*d s-y*c s) l=if x=0 then(if y=0 then 0 else(cnt c d l).a+(cnt c d l).b+(cnt c d l).c)else if y=0 then(cnt c d l).a+(cnt c d l).b+(cnt c d l).d else if x=y then 2*(cnt c d l).b+(cnt c d l).c+(cnt c d l).d else 2*(cnt c d l).a+(cnt c d l).c+(cnt c d l).d
 | []=>by simp[sumA,cnt]
 |r::rs=>by
  have ih:=sum_cnt hc hd x y hx hy rs
  unfold sumA
  rw[ih,zKU]
  have h1:=one3 (hc r)
  have h2:=one3 (hd r)
  generalize c r=p at h1⊢
  generalize d r=q at h2⊢
  generalize cnt c d rs=k
  rcases one3 hx with rfl|rfl|rfl<;>rcases one3 hy with rfl|rfl|rfl<;>rcases h1 with rfl|rfl|rfl<;>rcases h2 with rfl|rfl|rfl<;>simp<;>omega
theorem pair_cnt{α:Type}{c d:α->Int}(hc:∀r,-1<=c r∧c r<=1)(hd:∀r,-1<=d r∧d r<=1):∀l:List α,
 pairA c d l=2*((cnt c d l).a*(cnt c d l).b)+(cnt c d l).c*(cnt c d l).d+((cnt c d l).c+(cnt c d l).d)*((cnt c d l).a+(cnt c d l).b)
 | []=>by simp[pairA,cnt]
 |r::rs=>by
  have ih:=pair_cnt hc hd rs
  have hs:=sum_cnt hc hd (c r) (d r) (hc r) (hd r) rs
  unfold pairA
  rw[hs,ih,zKU]
  have h1:=one3 (hc r)
  have h2:=one3 (hd r)
  generalize c r=p at h1⊢
  generalize d r=q at h2⊢
  generalize cnt c d rs=k
  obtain⟨A,B,C,D⟩:=k
  rcases h1 with rfl|rfl|rfl<;>rcases h2 with rfl|rfl|rfl<;>simp<;>grind
theorem pair_le{α:Type}{c d:α->Int}(hc:∀r,-1<=c r∧c r<=1)(hd:∀r,-1<=d r∧d r<=1)(l:List α):2*pairA c d l<=l.length*l.length:=by
 rw[pair_cnt hc hd l]
 have h:=cnt_le c d l
 generalize cnt c d l=k at h⊢
 obtain⟨A,B,C,D⟩:=k
 simp only[]at h⊢
 refine Nat.le_trans ?_ (Nat.mul_le_mul h h)
 have hab:2*(A*B)<=A*A+B*B:=by
  rcases Nat.le_total A B with e|e
  ·obtain⟨t,rfl⟩:=Nat.exists_eq_add_of_le e
   have:=Nat.zero_le (t*t)
   grind
  ·obtain⟨t,rfl⟩:=Nat.exists_eq_add_of_le e
   have:=Nat.zero_le (t*t)
   grind
 have h1:=Nat.zero_le (C*C)
 have h2:=Nat.zero_le (D*D)
 have e:(A+B+C+D)*(A+B+C+D)=A*A+B*B+2*(A*B)+(C*C+D*D+2*(C*D))+2*((C+D)*(A+B)):=by grind
 rw[e]
 omega
theorem det_288{α:Type}(cs:List (α->Int))(hc:∀c∈cs,∀r,-1<=c r∧c r<=1)(l:List α)(hl:l.length=cs.length)(h6:cs.length<=6):(det cs l).natAbs<=288:=by
 have two:∀(c d:α->Int) (ds:List (α->Int)) (F:Nat) (m:List α),(∀r,-1<=c r∧c r<=1)->(∀r,-1<=d r∧d r<=1)->(∀k:List α,k.length+2=m.length->(det ds k).natAbs<=F)->(det (c::d::ds) m).natAbs<=F*(m.length*m.length/2):=by
  intro c d ds F m h1 h2 h3
  refine Nat.le_trans (ex2_abs c d m F (det ds) h3) (Nat.mul_le_mul_left _ ?_)
  have:=pair_le h1 h2 m
  omega
 have d0:∀m:List α,(det ([]:List (α->Int)) m).natAbs<=1:=fun m=>by simp[det]
 have d1:∀(c:α->Int) (m:List α),(∀r,-1<=c r∧c r<=1)->m.length=1->(det [c] m).natAbs<=1:=by
  intro c m h hm
  match m,hm with
  | [r],_=>have:=h r;simp[det,ex];omega
 match cs,hc,hl,h6 with
 | [],_,_,_=>have:=d0 l;omega
 | [c],hc,hl,_=>have:=d1 c l (hc c (by simp)) (by simpa using hl);omega
 | [c,d],hc,hl,_=>
   have:=two c d [] 1 l (hc c (by simp)) (hc d (by simp)) (fun k _=>d0 k)
   rw[hl]at this;simp at this;omega
 | [c,d,e],hc,hl,_=>
   have:=two c d [e] 1 l (hc c (by simp)) (hc d (by simp)) (fun k hk=>d1 e k (hc e (by simp)) (by simp at hl;omega))
   rw[hl]at this;simp at this;omega
 | [c,d,e,f],hc,hl,_=>
   have:=two c d [e,f] 2 l (hc c (by simp)) (hc d (by simp)) (fun k hk=>by
    have:=two e f [] 1 k (hc e (by simp)) (hc f (by simp)) (fun k _=>d0 k)
    rw[show k.length=2 by simp at hl;omega]at this;simpa using this)
   rw[hl]at this;simp at this;omega
 | [c,d,e,f,g],hc,hl,_=>
   have:=two c d [e,f,g] 4 l (hc c (by simp)) (hc d (by simp)) (fun k hk=>by
    have hk3:k.length=3:=by simp at hl;omega
    have:=two e f [g] 1 k (hc e (by simp)) (hc f (by simp)) (fun j hj=>d1 g j (hc g (by simp)) (by omega))
    rw[hk3]at this;simpa using this)
   rw[hl]at this;simp at this;omega
 | [c,d,e,f,g,h],hc,hl,_=>
   have:=two c d [e,f,g,h] 16 l (hc c (by simp)) (hc d (by simp)) (fun k hk=>by
    have hk4:k.length=4:=by simp at hl;omega
    have:=two e f [g,h] 2 k (hc e (by simp)) (hc f (by simp)) (fun j hj=>by
     have:=two g h [] 1 j (hc g (by simp)) (hc h (by simp)) (fun k _=>d0 k)
     rw[show j.length=2 by omega]at this;simpa using this)
    rw[hk4]at this;simpa using this)
   rw[hl]at this;simp at this;omega
 |_::_::_::_::_::_::_::_,_,_,h6=>simp at h6
end
section
theorem RInv.piv_288{W N:Nat}{A0:Nat->Vec}{j:Nat}{L:List (List Int)}{J:List Nat}(h:RInv W N A0 j L J)(hN:N<=6)(h1:∀x∈J,∀r,-1<=A0 r x∧A0 r x<=1){k:Nat}(hk:k<J.length):
 0<rowv L k (jf J k)∧rowv L k (jf J k)<=288:=by
 have hp:=(h.pp k hk).2
 refine⟨hp,?_⟩
 obtain⟨A,hs,hA⟩:=h.st
 have hd:=det_288 (zCD (jf J) A J.length) (fun x hx r=>by
  obtain⟨k,hk,rfl⟩:=zEL.1 hx
  obtain⟨q0,e⟩:=hA r
  simp only[e]
  exact h1 _ (by unfold jf;rw[List.getElem?_eq_getElem hk];exact List.getElem_mem hk) q0) (zBW J.length) (by rw[zDM,zCT]) (by rw[zCT];exact Nat.le_trans hs.le hN)
 have h0:=hs.d0
 have hdv:=Int.natAbs_dvd_natAbs.2 (hs.piv_dvd hk (h.pp k hk).1)
 have:=Nat.le_of_dvd (by omega) hdv
 omega
theorem sys_zero{R:List (List Int)}{n Y:Nat}(h:MaskY R n Y)(hn:n∉(rRed R (n+1)).piv){q:Nat}(h1:(pRed R n).2.length<=q)(h2:q<R.length)(c:Nat):rowv (pRed R n).1 q c=0:=by
 have hi:=zBQ R h.wid n (fun j hj q=>zBN (by decide) (fun r hr=>h.one r hr j hj) q)
 rcases Nat.lt_or_ge c n with hc|hc
 ·exact hi.zero q h1 h2 c hc
 ·by_cases e:c=n
  ·subst e
   rcases Classical.em (rowv (pRed R c).1 q c=0)with e0|e0
   ·exact e0
   ·exact absurd (red_more (m:=c+1) h.wid h.one (Nat.le_refl _) h1 h2 e0) hn
  ·exact zEV hi.wid q (by omega)
theorem zEM{α:Type}(f:Nat->α)(g:Nat->Nat)(l:List α):∀(K j:Nat),(∀a,a<K->g a≠j)->((List.range K).foldl (fun out i=>out.set (g i) (f i)) l)[j]? =l[j]?
 |0,j,_=>by simp
 |K+1,j,h=>by
  rw[List.range_succ,List.foldl_append]
  simp only[List.foldl_cons,List.foldl_nil]
  rw[List.getElem?_set_ne (h K (by omega))]
  exact zEM f g l K j (fun a ha=>h a (by omega))
theorem zHB{R:List (List Int)}{n Y:Nat}(h:MaskY R n Y)(hn:n∉(rRed R (n+1)).piv):
 (zBM R n).2.2=true∧(zBM R n).1.length=n∧(∀i,i<(pRed R n).2.length->zAD (zBM R n).1 (jf (pRed R n).2 i)=zAK (rowv (pRed R n).1 i n) (rowv (pRed R n).1 i (jf (pRed R n).2 i)))∧
 (∀j,j∉(pRed R n).2->zAD (zBM R n).1 j=(0,1)):=by
 have hi:=zBQ R h.wid n (fun j hj q=>zBN (by decide) (fun r hr=>h.one r hr j hj) q)
 obtain⟨e1,e2⟩:=red_same (m:=n+1) h.wid h.one (Nat.le_refl _) (fun q h1 h2 c _ _=>sys_zero h hn h1 h2 c)
 have hl:=zDI R n
 have hK:=hi.K_le
 unfold zBM
 simp only[]
 rw[if_neg hn,e2,<- e1]
 refine⟨rfl,by rw[zDU];simp,fun i hlt=>?_,fun j hj=>?_⟩
 ·unfold zAD
  rw[zHH (fun i=>zAK (vec (((pRed R n).1.take (pRed R n).2.length)[i]?.getD []) n) (vec (((pRed R n).1.take (pRed R n).2.length)[i]?.getD []) (jf (pRed R n).2 i))) (fun i=>jf (pRed R n).2 i) _ _ i hlt (by simp only[List.length_replicate];exact hi.jf_lt hlt) (fun a b h1 h2=>by have:=hi.ech.asc a b h1 h2;omega)]
  rw[List.getElem?_take_of_lt hlt]
  rfl
 ·unfold zAD
  rw[zEM _ _ _ _ j (fun a ha e=>hj (by rw[<- e];exact jf_mem ha)),List.getElem?_replicate]
  split<;>rfl
theorem zBY{a b:Int}(hb:0<b):0<(zAK a b).2∧(zAK a b).2<=b∧(zAK a b).1.natAbs<=a.natAbs∧Int.gcd (zAK a b).1 (zAK a b).2=1∧(zAK a b).1*b=a*(zAK a b).2:=by
 have g1:0<Int.gcd a b:=Nat.pos_of_ne_zero fun e=>by have:=(Int.gcd_eq_zero_iff.1 e).2;omega
 obtain⟨a1,ha⟩:=Int.gcd_dvd_left a b
 obtain⟨b1,hb1⟩:=Int.gcd_dvd_right a b
 have hG0:((Int.gcd a b:Nat):Int)≠0:=by omega
 have e:zAK a b=(a1,b1):=by
  unfold zAK
  rw[Int.tdiv_eq_of_eq_mul_left hG0 (c:=a1) (by rw[Int.mul_comm];exact ha),Int.tdiv_eq_of_eq_mul_left hG0 (c:=b1) (by rw[Int.mul_comm];exact hb1)]
 rw[e]
 have hb0:0<b1:=by
  rcases Int.lt_or_le 0 b1 with h|h
  ·exact h
  ·have:((Int.gcd a b:Nat):Int)*b1<=0:=Int.mul_nonpos_of_nonneg_of_nonpos (by omega) h
   omega
 have hg:Int.gcd a1 b1=1:=by
  have k1:Int.gcd (((Int.gcd a b:Nat):Int)*a1) (((Int.gcd a b:Nat):Int)*b1)=Int.gcd a b*Int.gcd a1 b1:=by
   rw[Int.gcd_mul_left];simp
  rw[<- ha,<- hb1]at k1
  exact Nat.eq_of_mul_eq_mul_left g1 (by omega)
 refine⟨hb0,?_,?_,hg,?_⟩
 ·have:b1*1<=b1*((Int.gcd a b:Nat):Int):=Int.mul_le_mul_of_nonneg_left (by omega) (by omega)
  rw[Int.mul_comm b1 ((Int.gcd a b:Nat):Int)]at this
  omega
 ·have:a1.natAbs<=Int.gcd a b*a1.natAbs:=Nat.le_mul_of_pos_left _ g1
  have h2:a.natAbs=Int.gcd a b*a1.natAbs:=by
   have:=congrArg Int.natAbs ha
   rwa [Int.natAbs_mul,Int.natAbs_natCast]at this
  omega
 ·show a1*b=a*b1
  generalize ((Int.gcd a b:Nat):Int)=G at ha hb1
  rw[ha,hb1];grind
theorem sys_le{R:List (List Int)}{n Y:Nat}(h:MaskY R n Y)(i c:Nat):(rowv (pRed R n).1 i c).natAbs<=720*Y:=by
 unfold rowv
 cases hk:(pRed R n).1[i]? with
 |none=>simp[vec]
 |some r=>
  have h2:=(pRed_le (n:=n) (Y:=Y) h.wid h.le6 (fun r hr c hc=>h.one r hr c hc) h.all (Nat.le_refl n) r (List.mem_of_getElem? hk)).2
  have:=zEC (P:=fun x=>x.natAbs<=720*Y) (by simp) (fun x hx=>by have:=h2 x hx;omega) c
  simpa using this
theorem zHA{R:List (List Int)}{n Y:Nat}(h:MaskY R n Y)(hY:Y<=1000000)(hn:n∉(rRed R (n+1)).piv):(zBM R n).1.all zAC=true∧∀j,0<(zAD (zBM R n).1 j).2:=by
 obtain⟨_,hl,hp,ho⟩:=zHB h hn
 have hi:=zBQ R h.wid n (fun j hj q=>zBN (by decide) (fun r hr=>h.one r hr j hj) q)
 have hv:∀j,zAC (zAD (zBM R n).1 j)=true:=by
  intro j
  by_cases hj:j∈(pRed R n).2
  ·obtain⟨i,hilt,e⟩:=List.mem_iff_getElem.1 hj
   have ej:jf (pRed R n).2 i=j:=by unfold jf;rw[List.getElem?_eq_getElem hilt];simpa using e
   rw[<- ej,hp i hilt]
   obtain⟨b1,b2⟩:=hi.piv_288 h.le6 (fun x hx r=>zBN (by decide) (fun r hr=>h.one r hr x (hi.lt x hx)) r) hilt
   have b3:=sys_le h i n
   obtain⟨c1,c2,c3,c4,_⟩:=zBY (a:=rowv (pRed R n).1 i n) b1
   have b4:720*Y<=720000000:=by omega
   rw[zAO]
   exact⟨by omega,by omega,by omega,by omega,c4⟩
  ·rw[ho j hj];decide
 refine⟨List.all_eq_true.2 fun r hr=>?_,fun j=>?_⟩
 ·obtain⟨j,hj,e⟩:=List.mem_iff_getElem.1 hr
  have:=hv j
  unfold zAD at this
  rw[List.getElem?_eq_getElem hj]at this
  rw[<- e];exact this
 ·have:=(zAO.1 (hv j)).1;omega
theorem zID(f:Nat->Int)(n:Nat):sm f (n+1)=sm f n+f n:=rfl
theorem solved_row{R:List (List Int)}{n Y:Nat}(h:MaskY R n Y)(hY:Y<=1000000)(hn:n∉(rRed R (n+1)).piv){u:Vec}(hu:Sp (RB R.length (rowv R)) u):
 sm (fun j=>u j*numP (zBM R n).1 n j) n=u n*denP (zBM R n).1 n:=by
 obtain⟨_,hl,hp,ho⟩:=zHB h hn
 obtain⟨_,hpos⟩:=zHA h hY hn
 have hi:=zBQ R h.wid n (fun j hj q=>zBN (by decide) (fun r hr=>h.one r hr j hj) q)
 have hden:denP (zBM R n).1 n≠0:=denP_ne (fun k=>by have:=hpos k;omega) n
 have hnum:=fun i (hi:i<n)=>numP_eq (x:=(zBM R n).1) (W:=n) hi
 generalize (zBM R n).1=X at hl hp ho hpos hden hnum⊢
 have hsp:=(hi.span (fun q h1 h2 c=>sys_zero h hn h1 h2 c)).2 hu
 have key:=dotS_sp (B:=RB (pRed R n).2.length (rowv (pRed R n).1)) (h:=fun c=>if c<n then numP X n c else-denP X n) (n:=n+1) (by
  rintro v ⟨k,hk,rfl⟩
  have hkn:=hi.jf_lt hk
  unfold dotS
  rw[zID,zAY (g:=fun c=>rowv (pRed R n).1 k c*numP X n c) (fun c hc=>by simp only[if_pos hc])]
  simp only[Nat.lt_irrefl,if_false]
  rw[zEF hkn (fun c hc hne=>?_)]
  ·have e1:=hnum _ hkn
   rw[hp k hk]at e1
   have hb:=(hi.pp k hk).2
   obtain⟨c1,_,_,_,c5⟩:=zBY (a:=rowv (pRed R n).1 k n) hb
   -- num*b2=b1*den,b1*b=a*b2
   generalize rowv (pRed R n).1 k (jf (pRed R n).2 k)=b at*
   generalize rowv (pRed R n).1 k n=a at*
   generalize zAK a b=p at*
   obtain⟨b1,b2⟩:=p
   dsimp only at*
   have e2:b2*(b*numP X n (jf (pRed R n).2 k))=b2*(a*denP X n):=by
    have:b2*(b*numP X n (jf (pRed R n).2 k))=b*(numP X n (jf (pRed R n).2 k)*b2):=by grind
    rw[this,e1]
    have:b*(b1*denP X n)=(b1*b)*denP X n:=by grind
    rw[this,c5];grind
   have e3:=Int.eq_of_mul_eq_mul_left (show b2≠0 by omega) e2
   rw[e3,Int.mul_neg];omega
  ·by_cases hm:c∈(pRed R n).2
   ·obtain⟨q,hq,e⟩:=List.mem_iff_getElem.1 hm
    have ej:jf (pRed R n).2 q=c:=by unfold jf;rw[List.getElem?_eq_getElem hq];simpa using e
    have hqk:q≠k:=fun e2=>hne (by rw[<- ej,e2])
    rw[<- ej,hi.ech.red.off k hk q hq (fun e3=>hqk e3.symm)]
    simp
   ·have e1:=hnum c hc
    rw[ho c hm]at e1
    simp at e1
    rw[e1];simp) hsp
 unfold dotS at key
 rw[zID,zAY (g:=fun c=>u c*numP X n c) (fun c hc=>by simp only[if_pos hc])]at key
 simp only[Nat.lt_irrefl,if_false]at key
 rw[Int.mul_neg]at key
 omega
end
section
theorem zHY{M:List (List Int)}{n:Nat}(h:MaskOk M n){y:List Int}(hy:y.length=M.length){q:Nat}(hq:q<M.length):zCZ n (rowv (zAF M y) q)=rowv M q:=by
 funext c
 unfold zCZ
 by_cases hc:c<n
 ·rw[if_pos hc,zEB h hy hq,if_pos hc]
 ·rw[if_neg hc,zEV h.wid q (by omega)]
theorem zHZ{M:List (List Int)}{n:Nat}(h:MaskOk M n){y:List Int}(hy:y.length=M.length){Y:Nat}(hY:MaskY (zAF M y) n Y):(pRed (zAF M y) n).2=JP M n:=by
 have he:=zBQ (zAF M y) hY.wid n (fun j hj q=>zBN (by decide) (fun r hr=>hY.one r hr j hj) q)
 rw[zCY hy]at he
 have hi:=h.inv n
 have hE:Ech (pRed (zAF M y) n).2.length (jf (pRed (zAF M y) n).2) (fun k=>zCZ n (rowv (pRed (zAF M y) n).1 k)):=by
  have e:=he.ech
  refine⟨⟨fun k hk=>?_,fun k hk q hq hne=>?_⟩,fun k hk c hc=>?_,e.asc⟩
  ·have hl:=he.jf_lt hk
   simp only[zCZ,if_pos hl]
   exact e.red.piv k hk
  ·have hl:=he.jf_lt hq
   simp only[zCZ,if_pos hl]
   exact e.red.off k hk q hq hne
  ·simp only[zCZ]
   split
   ·exact e.lead k hk c hc
   ·rfl
 have s1:∀k,k<(pRed (zAF M y) n).2.length->Sp (RB (JP M n).length (rowv (RP M n))) (zCZ n (rowv (pRed (zAF M y) n).1 k)):=by
  intro k hk
  refine h.span.2 (truncV_sp (B:=RB M.length (rowv (zAF M y))) ?_ (he.sp1 k (Nat.lt_of_lt_of_le hk he.K_le)))
  rintro v ⟨q,hq,rfl⟩
  rw[zHY h hy hq];exact RB.sp hq
 have s2:∀k,k<(JP M n).length->Sp (RB (pRed (zAF M y) n).2.length (fun k=>zCZ n (rowv (pRed (zAF M y) n).1 k))) (rowv (RP M n) k):=by
  intro k hk
  refine(h.span.1 (RB.sp hk)).trans ?_
  rintro v ⟨q,hq,rfl⟩
  rw[<- zHY h hy hq]
  refine truncV_sp (B:=RB M.length (rowv (pRed (zAF M y) n).1)) ?_ (he.sp2 q hq)
  rintro v ⟨m,hm,rfl⟩
  rcases Nat.lt_or_ge m (pRed (zAF M y) n).2.length with c|c
  ·exact .of ⟨m,c,rfl⟩
  ·refine Sp.zero.congr fun x=>?_
   unfold zCZ
   split
   ·exact he.zero m c hm x ‹_›
   ·rfl
 obtain⟨hK,hJ,hR⟩:=hE.unique hi.ech s1 s2
 exact List.ext_getElem hK fun k h1 h2=>by
  have:=hJ k h1
  unfold jf at this
  rw[List.getElem?_eq_getElem h1,List.getElem?_eq_getElem h2]at this
  simpa using this
end
section
theorem denP_pos{x:List Rt}(h:∀k,0<(zAD x k).2):∀k,0<denP x k
 |0=>by show(0:Int)<1;decide
 |k+1=>Int.mul_pos (denP_pos h k) (h k)
theorem solve_of{M:List (List Int)}{n:Nat}(h:MaskOk M n){y:List Int}(hy:y.length=M.length)(hmil:∀v∈y,-1000000<=v∧v<=1000000)(hr:rankF M n=n)
 {l:Nat->Int}{D:Int}(hD:D≠0)(hl:∀q,q<M.length->sm (fun i=>rowv M q i*l i) n=vec y q*D):
 (zAN (zAF M y) n).2=0∧(zAN (zAF M y) n).1.length=n∧∀k,k<n->(zAD (zAN (zAF M y) n).1 k).1*D=l k*(zAD (zAN (zAF M y) n).1 k).2∧0<(zAD (zAN (zAF M y) n).1 k).2∧(zAD (zAN (zAF M y) n).1 k).2<=288∧Int.gcd (zAD (zAN (zAF M y) n).1 k).1 (zAD (zAN (zAF M y) n).1 k).2=1:=by
 have hY:=h.addY hy (Y:=1000000) (by decide) (by simpa using hmil)
 have hi:=zBQ (zAF M y) hY.wid n (fun j hj q=>zBN (by decide) (fun r hr=>hY.one r hr j hj) q)
 have hpiv:=zHZ h hy hY
 have hJl:(pRed (zAF M y) n).2.length=n:=by rw[hpiv];exact hr
 have hasc:(pRed (zAF M y) n).2=List.range' 0 n:=zHV hi.asc (fun x hx=>by have:=hi.lt x hx;omega) hJl
 have hjf:∀k,k<n->jf (pRed (zAF M y) n).2 k=k:=fun k hk=>by
  rw[hasc];unfold jf;rw[List.getElem?_range' hk];simp
 have hlen:(zAF M y).length=M.length:=zCY hy
 have hdot:∀u,Sp (RB (zAF M y).length (rowv (zAF M y))) u->dotS u (fun c=>if c<n then l c else-D) (n+1)=0:=by
  intro u hu
  refine dotS_sp ?_ hu
  rintro v ⟨q,hq,rfl⟩
  rw[hlen]at hq
  unfold dotS
  rw[zID,zAY (g:=fun i=>rowv M q i*l i) (fun c hc=>by simp only[if_pos hc];rw[zEB h hy hq,if_pos hc]),hl q hq]
  simp only[Nat.lt_irrefl,if_false]
  rw[zEB h hy hq,if_neg (by omega),if_pos rfl]
  rw[Int.mul_neg];omega
 have hsp1:=hi.sp1
 rw[<- hlen]at hy
 -- the rows behind the pivots
 have h0:∀q,n<=q->q<(zAF M y).length->rowv (pRed (zAF M y) n).1 q n=0:=by
  intro q h1 h2
  have hd:=hdot _ (hsp1 q h2)
  unfold dotS at hd
  rw[zID,zAY (g:=fun _=>0) (fun c hc=>by simp only[if_pos hc];rw[hi.zero q (by omega) h2 c hc];simp),zEE]at hd
  simp only[Nat.lt_irrefl,if_false]at hd
  rcases Int.mul_eq_zero.1 (show rowv (pRed (zAF M y) n).1 q n* -D=0 by omega)with e|e
  ·exact e
  ·omega
 have hpl:=zDI (zAF M y) n
 have hany:((pRed (zAF M y) n).1.drop (pRed (zAF M y) n).2.length).any (nz n)=false:=by
  rw[List.any_eq_false]
  intro r hr2
  obtain⟨i,hilt,rfl⟩:=List.mem_iff_getElem.1 hr2
  rw[List.getElem_drop]
  rw[List.length_drop]at hilt
  have:=h0 ((pRed (zAF M y) n).2.length+i) (by omega) (by omega)
  rw[zEG (by omega)]at this
  simpa[nz]using this
 have hs:zAN (zAF M y) n=((List.range n).map fun k=>ofF (vec ((pRed (zAF M y) n).1[k]?.getD []) n) (vec ((pRed (zAF M y) n).1[k]?.getD []) (jf (pRed (zAF M y) n).2 k)),0):=by
  unfold zAN
  simp only[]
  rw[if_neg (by rw[hany];simp),if_neg (by omega)]
 rw[hs]
 refine⟨rfl,by simp,fun k hk=>?_⟩
 have hk':k<(pRed (zAF M y) n).2.length:=by omega
 have hb:=hi.piv_288 (by rw[zCY (by omega)];exact h.le6) (fun x hx r=>zBN (by decide) (fun r hr=>hY.one r hr x (hi.lt x hx)) r) hk'
 have e1:zAD ((List.range n).map fun k=>ofF (vec ((pRed (zAF M y) n).1[k]?.getD []) n) (vec ((pRed (zAF M y) n).1[k]?.getD []) (jf (pRed (zAF M y) n).2 k))) k=ofF (rowv (pRed (zAF M y) n).1 k n) (rowv (pRed (zAF M y) n).1 k (jf (pRed (zAF M y) n).2 k)):=by
  unfold zAD
  rw[List.getElem?_map,List.getElem?_range hk];rfl
 rw[e1,zIK hb.1]
 have hd:=hdot _ (hsp1 k (Nat.lt_of_lt_of_le hk' hi.K_le))
 unfold dotS at hd
 rw[zID,zEF hk (fun c hc hne=>?_)]at hd
 ·simp only[if_pos hk,Nat.lt_irrefl,if_false]at hd
  have hjk:=hjf k hk
  rw[hjk]at hb⊢
  obtain⟨c1,c2,c3,c4,c5⟩:=zBY (a:=rowv (pRed (zAF M y) n).1 k n) hb.1
  refine⟨?_,c1,by omega,c4⟩
  generalize rowv (pRed (zAF M y) n).1 k k=b at*
  generalize rowv (pRed (zAF M y) n).1 k n=a at*
  generalize zAK a b=p at*
  obtain⟨b1,b2⟩:=p
  dsimp only at*
  have e2:b*(b1*D)=b*(l k*b2):=by
   have:b*(b1*D)=(b1*b)*D:=by grind
   rw[this,c5]
   have hd':b*l k=a*D:=by rw[Int.mul_neg]at hd;omega
   have:b*(l k*b2)=(b*l k)*b2:=by grind
   rw[this,hd'];grind
  exact Int.eq_of_mul_eq_mul_left (by omega) e2
 ·simp only[if_pos hc]
  have hc':c<(pRed (zAF M y) n).2.length:=by omega
  have:=hi.ech.red.off k hk' c hc' (fun e=>hne e.symm)
  rw[hjf c hc]at this
  rw[this];simp
theorem solve_to{M:List (List Int)}{n:Nat}(h:MaskOk M n){y:List Int}(hy:y.length=M.length)(hmil:∀v∈y,-1000000<=v∧v<=1000000)(he:(zAN (zAF M y) n).2=0):
 rankF M n=n∧∃(l:Nat->Int) (D:Int),0<D∧(∀q,q<M.length->sm (fun i=>rowv M q i*l i) n=vec y q*D)∧∀k,k<n->(zAD (zAN (zAF M y) n).1 k).1*D=l k*(zAD (zAN (zAF M y) n).1 k).2:=by
 have hY:=h.addY hy (Y:=1000000) (by decide) (by simpa using hmil)
 have hi:=zBQ (zAF M y) hY.wid n (fun j hj q=>zBN (by decide) (fun r hr=>hY.one r hr j hj) q)
 have hpiv:=zHZ h hy hY
 have hle:=zJW (a:=0) (b:=n) hi.asc (fun x hx=>⟨Nat.zero_le _,hi.lt x hx⟩)
 have hge:n<=(pRed (zAF M y) n).2.length:=by
  unfold zAN at he
  simp only[]at he
  split at he
  ·simp at he
  ·split at he
   ·simp at he
   ·omega
 have hr:rankF M n=n:=by
  have:rankF M n=(pRed (zAF M y) n).2.length:=by rw[hpiv];rfl
  omega
 have hss:=solve_same hY
 have hn:n∉(rRed (zAF M y) (n+1)).piv:=by
  intro hm
  rw[hss]at he
  unfold solveR zBM at he
  simp only[]at he
  rw[if_pos hm]at he
  simp at he
 have hsv:(zAN (zAF M y) n).1=(zBM (zAF M y) n).1:=by
  rw[hss]at he⊢
  unfold solveR at he⊢
  simp only[]at he⊢
  split at he
  ·simp at he
  ·rename_i h1
   split at he
   ·simp at he
   ·rename_i h2
    rw[if_neg h1,if_neg h2]
 obtain⟨_,hpos⟩:=zHA hY (Nat.le_refl _) hn
 refine⟨hr,numP (zBM (zAF M y) n).1 n,denP (zBM (zAF M y) n).1 n,denP_pos hpos n,fun q hq=>?_,fun k hk=>?_⟩
 ·have:=solved_row hY (Nat.le_refl _) hn (RB.sp (K:=(zAF M y).length) (R:=rowv (zAF M y)) (k:=q) (by rw[zCY hy];exact hq))
  rw[zAY (g:=fun i=>rowv M q i*numP (zBM (zAF M y) n).1 n i) (fun c hc=>by rw[zEB h hy hq,if_pos hc]),zEB h hy hq,if_neg (by omega),if_pos rfl]at this
  exact this
 ·rw[hsv]
  have:=numP_eq (x:=(zBM (zAF M y) n).1) (W:=n) hk
  omega
end
section
theorem zEY:∀(m k:Nat) (a:Int),(comb m k a).Nodup
 |_,0,_=>by unfold comb;simp
 |0,_+1,_=>by unfold comb;simp
 |m+1,k+1,a=>by
  unfold comb
  rw[List.nodup_append]
  refine⟨?_,zEY m (k+1) (a+1),?_⟩
  ·unfold List.Nodup
   rw[List.pairwise_map]
   exact(zEY m k (a+1)).imp fun h e=>h (by simpa using e)
  ·rintro x hx y hy rfl
   obtain⟨z,_,rfl⟩:=List.mem_map.1 hx
   have:=(zFZ _ _ _ _ hy).2 a (by simp)
   omega
structure Perm2 (n:Nat) (s t:Nat->Nat):Prop where
 s_lt:∀i,i<n->s i<n
 t_lt:∀i,i<n->t i<n
 st:∀i,i<n->s (t i)=i
 ts:∀i,i<n->t (s i)=i
theorem Perm2.symm{n:Nat}{s t:Nat->Nat}(h:Perm2 n s t):Perm2 n t s:=⟨h.t_lt,h.s_lt,h.ts,h.st⟩
end
section
def SolM(M:List (List Int))(n:Nat)(y:List Int)(l:Nat->Int)(D:Int):Prop:=0<D∧∀q,q<M.length->sm (fun i=>rowv M q i*l i) n=vec y q*D
end
section
theorem cop_dvd{b a d:Int}(h:Int.gcd a b=1)(h1:b∣a*d):b∣d:=by
 have h2:b.natAbs∣a.natAbs*d.natAbs:=by rw[<- Int.natAbs_mul];exact Int.natAbs_dvd_natAbs.2 h1
 have h3:Nat.Coprime b.natAbs a.natAbs:=by rw[Nat.coprime_comm];exact h
 exact Int.natAbs_dvd_natAbs.1 (h3.dvd_of_dvd_mul_left h2)
theorem zDH{a b:Int}(h:Int.gcd a b=1):zAK a b=(a,b):=by unfold zAK;rw[h];simp
theorem zFS{n d:Int}(hd:0<d):∃g a b:Int,zAK n d=(a,b)∧0<g∧0<b∧n=a*g∧d=b*g∧Int.gcd a b=1:=by
 obtain⟨c1,_,_,c4,c5⟩:=zBY (a:=n) hd
 obtain⟨⟨a,b⟩,hab⟩:∃p,p=zAK n d:=⟨_,rfl⟩
 rw[<- hab]at c1 c4 c5
 simp only[]at c1 c4 c5
 -- b divides n*b,so b|a*d,so b|d
 have h1:b∣a*d:=⟨n,by rw[c5];exact Int.mul_comm _ _⟩
 have h2:b∣d:=cop_dvd c4 h1
 obtain⟨g,hg⟩:=h2
 have hg0:0<g:=by
  rcases Int.lt_or_le 0 g with h|h
  ·exact h
  ·have:b*g<=0:=Int.mul_nonpos_of_nonneg_of_nonpos (by omega) h
   omega
 refine⟨g,a,b,hab.symm,hg0,c1,?_,hg,c4⟩
 have:b*n=b*(a*g):=by rw[Int.mul_comm b n,<- c5,hg];grind
 exact Int.eq_of_mul_eq_mul_left (by omega) this
theorem low_div{n d a b g:Int}(hd:0<d)(hg:0<g)(hb:0<b)(hn:n=a*g)(he:d=b*g)(hc:Int.gcd a b=1)(k:Int):n%d*k%d=0↔b∣k:=by
 have h1:n%d*k%d=n*k%d:=by rw[Int.mul_emod,Int.emod_emod_of_dvd _ (Int.dvd_refl d),<- Int.mul_emod]
 rw[h1]
 constructor
 ·intro h
  obtain⟨c,hc2⟩:=Int.dvd_of_emod_eq_zero h
  rw[hn,he]at hc2
  have:g*(a*k)=g*(b*c):=by grind
  have h3:=Int.eq_of_mul_eq_mul_left (by omega) this
  exact cop_dvd hc ⟨c,h3⟩
 ·rintro⟨c,rfl⟩
  rw[hn,he]
  refine Int.emod_eq_zero_of_dvd ⟨a*c,by grind⟩
theorem low_val{n d a b g:Int}(hn0:0<=n)(hd:0<d)(hg:0<g)(hn:n=a*g)(he:d=b*g):n/d*b+n%d*b/d=a:=by
 have h1:n%d*b=d*(a-n/d*b):=by
  have h2:=Int.emod_add_mul_ediv n d -- n%d+d*(n/d)=n
  have h3:n%d=n-d*(n/d):=by omega
  rw[h3,Int.sub_mul,Int.mul_sub]
  have:n*b=d*a:=by rw[hn,he];grind
  rw[this];grind
 rw[h1,Int.mul_ediv_cancel_left _ (by omega)]
 omega
theorem low_nonneg{n d a b g:Int}(hn0:0<=n)(hg:0<g)(hn:n=a*g):0<=a:=by
 rcases Int.lt_or_le a 0 with h|h
 ·have:=Int.mul_neg_of_neg_of_pos h hg;omega
 ·exact h
theorem low_neg{n d:Int}(hd:0<d):zAK (-n) d=(-(zAK n d).1,(zAK n d).2):=by
 obtain⟨g,a,b,e,hg,hb,hn,he,hc⟩:=zFS (n:=n) hd
 rw[e]
 have h2:zAK (-n) d=zAK (-a) b:=zEH hd hb (by rw[hn,he];grind)
 rw[h2,zDH (by rw[Int.neg_gcd];exact hc)]
theorem zEU{a b:Int}:zAC (-a,b)=zAC (a,b):=by
 rw[Bool.eq_iff_iff,zAO,zAO]
 simp only[Int.neg_gcd]
 constructor<;>(rintro⟨h1,h2,h3,h4,h5⟩;exact⟨h1,h2,by omega,by omega,h5⟩)
theorem low_big{n d:Int}(hn0:0<=n)(hd:0<d)(h:10000000000<n/d):zAC (zAK n d)=false:=by
 obtain⟨g,a,b,e,hg,hb,hn,he,hc⟩:=zFS (n:=n) hd
 rw[e]
 cases hv:zAC (a,b)
 ·rfl
 ·have h1:=(zAO.1 hv).2.2.2.1
  simp only[]at h1
  have h2:n/d<=a:=by
   have h3:n/d*d<=n:=by rw[Int.mul_comm];exact Int.mul_ediv_self_le (by omega)
   have h4:n/d*(b*g)<=a*g:=by rw[<- he,<- hn];exact h3
   have h5:n/d*b*g<=a*g:=by rw[Int.mul_assoc];exact h4
   have h6:=Int.le_of_mul_le_mul_right h5 hg
   have h7:n/d*1<=n/d*b:=Int.mul_le_mul_of_nonneg_left (by omega) (Int.ediv_nonneg hn0 (by omega))
   omega
  omega
structure CfI (N D n d p q P Q:Int):Prop where
 n0:0<=n
 d0:0<=d
 p0:0<=p
 q0:0<=q
 P0:0<=P
 Q0:0<=Q
 pm:p<=10000000000
 qm:q<=400
 Pm:P<=10000000000
 Qm:Q<=400
 eN:N=p*n+P*d
 eD:D=q*n+Q*d
 det:p*Q-q*P=1∨p*Q-q*P= -1
theorem CfI.start{N D:Int}(hN:0<=N)(hD:0<D):CfI N D N D 1 0 0 1:=
 ⟨hN,by omega,by omega,by omega,by omega,by omega,by omega,by omega,by omega,by omega,by omega,by omega,.inl (by omega)⟩
theorem CfI.step{N D n d p q P Q:Int}(h:CfI N D n d p q P Q)(hd:0<d)(h1:n/d*p+P<=10000000000)(h2:n/d*q+Q<=400):CfI N D d (n%d) (n/d*p+P) (n/d*q+Q) p q:=by
 have hk:=Int.ediv_nonneg h.n0 (show 0<=d by omega)
 have hm:=Int.emod_nonneg n (show d≠0 by omega)
 have he:=Int.emod_add_mul_ediv n d
 refine⟨by omega,hm,?_,?_,h.p0,h.q0,h1,h2,h.pm,h.qm,?_,?_,?_⟩
 ·have:=Int.mul_nonneg hk h.p0;have:=h.P0;omega
 ·have:=Int.mul_nonneg hk h.q0;have:=h.Q0;omega
 ·rw[h.eN]
  generalize n/d=k at*
  generalize n%d=r at*
  rw[<- he];grind
 ·rw[h.eD]
  generalize n/d=k at*
  generalize n%d=r at*
  rw[<- he];grind
 ·have:=h.det
  generalize n/d=k at*
  have e:(k*p+P)*q-(k*q+Q)*p= -(p*Q-q*P):=by grind
  omega
theorem cop_of_det{p q P Q:Int}(h:p*Q-q*P=1∨p*Q-q*P= -1):Int.gcd p q=1:=by
 have h1:((Int.gcd p q:Nat):Int)∣p*Q-q*P:=Int.dvd_sub (Int.dvd_trans (Int.gcd_dvd_left _ _) (Int.dvd_mul_right _ _)) (Int.dvd_trans (Int.gcd_dvd_right _ _) (Int.dvd_mul_right _ _))
 have h2:((Int.gcd p q:Nat):Int)∣1:=by
  rcases h with h|h
  ·rw[h]at h1;exact h1
  ·rw[h]at h1;exact Int.dvd_neg.1 h1
 have:=Int.le_of_dvd (by omega) h2
 have h3:Int.gcd p q≠0:=by
  intro e
  rw[e]at h2
  obtain⟨c,hc⟩:=h2
  simp at hc
 omega
theorem CfI.done{N D n p q P Q:Int}(h:CfI N D n 0 p q P Q)(hD:0<D):zAK N D=(p,q):=by
 have eN:=h.eN
 have eD:=h.eD
 rw[Int.mul_zero,Int.add_zero]at eN eD
 have hq:0<q:=by
  rcases Int.lt_or_le 0 q with c|c
  ·exact c
  ·have:q=0:=by have:=h.q0;omega
   rw[this]at eD;omega
 rw[zEH hD hq (c:=p) (by rw[eN,eD];grind),zDH (cop_of_det h.det)]
theorem CfI.valid{N D n p q P Q:Int}(h:CfI N D n 0 p q P Q)(hD:0<D):zAC (p,q)=true:=by
 have e:=h.done hD
 obtain⟨c1,_,_,c4,_⟩:=zBY (a:=N) hD
 rw[e]at c1 c4
 rw[zAO]
 exact⟨c1,h.qm,by have:=h.p0;show-10000000000<=p;omega,h.pm,c4⟩
theorem CfI.over{N D n d p q P Q:Int}(h:CfI N D n d p q P Q)(hN:0<=N)(hD:0<D)(hd:0<d)(hb:10000000000<n/d*p+P∨400<n/d*q+Q):zAC (zAK N D)=false:=by
 obtain⟨g,a,b,e,hg,hb',hn,he,hc⟩:=zFS (n:=N) hD
 have hk:=Int.ediv_nonneg h.n0 (show 0<=d by omega)
 have hm:=Int.emod_nonneg n (show d≠0 by omega)
 have hnd:=Int.emod_add_mul_ediv n d
 -- g divides d
 have hgd:g∣d:=by
  have h1:q*N-p*D= -(p*Q-q*P)*d:=by rw[h.eN,h.eD];grind
  have h2:g∣q*N-p*D:=Int.dvd_sub ⟨q*a,by rw[hn];grind⟩ ⟨p*b,by rw[he];grind⟩
  rw[h1]at h2
  rcases h.det with c|c
  ·rw[c]at h2
   have: -1*d= -d:=by omega
   rw[this]at h2;exact Int.dvd_neg.1 h2
  ·rw[c]at h2;simpa using h2
 have hgl:g<=d:=Int.le_of_dvd hd hgd
 rw[e]
 cases hv:zAC (a,b)
 ·rfl
 ·exfalso
  have hv':=zAO.1 hv
  simp only[]at hv'
  have eN:=h.eN
  have eD:=h.eD
  have r1:0<=p*(n%d):=Int.mul_nonneg h.p0 hm
  have r2:0<=q*(n%d):=Int.mul_nonneg h.q0 hm
  have x1:0<=n/d*p+P:=by have:=Int.mul_nonneg hk h.p0;have:=h.P0;omega
  have x2:0<=n/d*q+Q:=by have:=Int.mul_nonneg hk h.q0;have:=h.Q0;omega
  have eN2:N=(n/d*p+P)*d+p*(n%d):=by
   rw[eN];generalize n/d=k at*;generalize n%d=r at*;rw[<- hnd];grind
  have eD2:D=(n/d*q+Q)*d+q*(n%d):=by
   rw[eD];generalize n/d=k at*;generalize n%d=r at*;rw[<- hnd];grind
  have y1:(n/d*p+P)*g<=a*g:=by
   have:=Int.mul_le_mul_of_nonneg_left hgl x1
   rw[<- hn];omega
  have y2:(n/d*q+Q)*g<=b*g:=by
   have:=Int.mul_le_mul_of_nonneg_left hgl x2
   rw[<- he];omega
  have z1:=Int.le_of_mul_le_mul_right y1 hg
  have z2:=Int.le_of_mul_le_mul_right y2 hg
  omega
end
section
def nrmI(l:Nat->Int)(n:Nat):Int:=sm (fun j=>((l j).natAbs:Int)) n
theorem nrmI_pos(l:Nat->Int):∀n,0<=nrmI l n
 |0=>Int.le_refl _
 |n+1=>by
  have:=nrmI_pos l n
  show 0<=nrmI l n+((l n).natAbs:Int)
  omega
def zBK(x:List Rt):Nat->Int×Int
 |0=>(0,1)
 |k+1=>((zBK x k).1*(zAD x k).2+(zBK x k).2*((zAD x k).1.natAbs:Int),(zBK x k).2*(zAD x k).2)
def nrmQ(x:List Rt):Int×Int:=zBK x x.length
theorem zIM{x:List Rt}(h:∀k,0<(zAD x k).2):∀k,0<(zBK x k).2∧0<=(zBK x k).1
 |0=>⟨by show(0:Int)<1;omega,Int.le_refl _⟩
 |k+1=>by
  obtain⟨h1,h2⟩:=zIM h k
  have h3:=h k
  exact⟨Int.mul_pos h1 h3,Int.add_nonneg (Int.mul_nonneg h2 (by omega)) (Int.mul_nonneg (by omega) (by omega))⟩
theorem zIL{x:List Rt}{l:Nat->Int}{D:Int}(hD:0<D)(hp:∀k,0<(zAD x k).2):∀n,(∀k,k<n->(zAD x k).1*D=l k*(zAD x k).2)->(zBK x n).1*D=(zBK x n).2*nrmI l n
 |0,_=>by simp[zBK,nrmI,sm]
 |n+1,h=>by
  have ih:=zIL hD hp n (fun k hk=>h k (by omega))
  have e:=h n (by omega)
  have e2:((zAD x n).1.natAbs:Int)*D=((l n).natAbs:Int)*(zAD x n).2:=by
   have h1:=congrArg Int.natAbs e
   rw[Int.natAbs_mul,Int.natAbs_mul]at h1
   have h2:=hp n
   have h3:(((zAD x n).1.natAbs*D.natAbs:Nat):Int)=(((l n).natAbs*(zAD x n).2.natAbs:Nat):Int):=by rw[h1]
   rw[Int.natCast_mul,Int.natCast_mul]at h3
   have h4:((D.natAbs:Nat):Int)=D:=by omega
   have h5:(((zAD x n).2.natAbs:Nat):Int)=(zAD x n).2:=by omega
   rw[h4,h5]at h3
   exact h3
  show((zBK x n).1*(zAD x n).2+(zBK x n).2*((zAD x n).1.natAbs:Int))*D=(zBK x n).2*(zAD x n).2*(nrmI l n+((l n).natAbs:Int))
  generalize (zBK x n).1=a at*
  generalize (zBK x n).2=b at*
  generalize (zAD x n).2=c at*
  generalize ((zAD x n).1.natAbs:Int)=u at*
  generalize ((l n).natAbs:Int)=v at*
  generalize nrmI l n=N at*
  have:(a*c+b*u)*D=(a*D)*c+b*(u*D):=by grind
  rw[this,ih,e2];grind
def sgnI(z:Int):Int:=if z<0 then-1 else if z=0 then 0 else 1
theorem sgnI_abs(z:Int):sgnI z*z=(z.natAbs:Int):=by unfold sgnI;split<;>(try split)<;>omega
end
section
theorem solve_vals{R:List (List Int)}{n:Nat}(he:(zAN R n).2=0):(zAN R n).1=(List.range n).map fun k=>ofF (vec ((pRed R n).1[k]?.getD []) n) (vec ((pRed R n).1[k]?.getD []) (jf (pRed R n).2 k)):=by
 unfold zAN at he⊢
 simp only[]at he⊢
 split at he
 ·simp at he
 ·rename_i h1
  split at he
  ·simp at he
  ·rename_i h2
   rw[if_neg h1,if_neg h2]
theorem zHC{M:List (List Int)}{n:Nat}(h:MaskOk M n){y:List Int}(hy:y.length=M.length)(hmil:∀v∈y,-1000000<=v∧v<=1000000)(he:(zAN (zAF M y) n).2=0):
 ∃(l:Nat->Int) (D:Int),0<D∧D<=288∧(∀k,k<n->(zAD (zAN (zAF M y) n).1 k).1*D=l k*(zAD (zAN (zAF M y) n).1 k).2)∧(∀k,k<n->(l k).natAbs<=720000000)∧
  SolM M n y l D∧(∀k,0<(zAD (zAN (zAF M y) n).1 k).2)∧rankF M n=n∧(∀k,zAC (zAD (zAN (zAF M y) n).1 k)=true):=by
 obtain⟨hr,l',D',hD',k1,k2⟩:=solve_to h hy hmil he
 have hY:=h.addY hy (Y:=1000000) (by decide) (by simpa using hmil)
 have hi:=zBQ (zAF M y) hY.wid n (fun j hj q=>zBN (by decide) (fun r hr=>hY.one r hr j hj) q)
 have hpiv:=zHZ h hy hY
 have hJl:(pRed (zAF M y) n).2.length=n:=by rw[hpiv];exact hr
 have hasc:(pRed (zAF M y) n).2=List.range' 0 n:=zHV hi.asc (fun x hx=>by have:=hi.lt x hx;omega) hJl
 have hjf:∀k,k<n->jf (pRed (zAF M y) n).2 k=k:=fun k hk=>by
  rw[hasc];unfold jf;rw[List.getElem?_range' hk];simp
 have hval:=solve_vals he
 have hat:∀k,k<n->zAD (zAN (zAF M y) n).1 k=ofF (rowv (pRed (zAF M y) n).1 k n) (rowv (pRed (zAF M y) n).1 k k):=fun k hk=>by
  rw[hval]
  unfold zAD
  rw[List.getElem?_map,List.getElem?_range hk]
  simp only[Option.map_some,Option.getD_some]
  rw[hjf k hk];rfl
 have hout:∀k,n<=k->zAD (zAN (zAF M y) n).1 k=(0,1):=fun k hk=>by
  rw[hval];unfold zAD
  rw[List.getElem?_eq_none (by simp;exact hk)];rfl
 have hJ1:∀x∈(pRed (zAF M y) n).2,∀r,-1<=rowv (zAF M y) r x∧rowv (zAF M y) r x<=1:=fun x hx r=>zBN (by decide) (fun r hr=>hY.one r hr x (hi.lt x hx)) r
 have hpv:=fun k (hk:k<n)=>hi.piv_288 hY.le6 hJ1 (k:=k) (by omega)
 obtain⟨A,hs,hA⟩:=hi.st
 have hA1:∀k,k<(pRed (zAF M y) n).2.length->∀r,-1<=A r (jf (pRed (zAF M y) n).2 k)∧A r (jf (pRed (zAF M y) n).2 k)<=1:=by
  intro k hk r
  obtain⟨q0,e⟩:=hA r
  rw[e]
  exact hJ1 _ (by unfold jf;rw[List.getElem?_eq_getElem hk];exact List.getElem_mem hk) q0
 have hAY:∀r,-(1000000:Int)<=A r n∧A r n<=1000000:=fun r=>by
  obtain⟨q0,e⟩:=hA r
  rw[e]
  exact zBN (c:=n) (by omega) (fun r hr=>zEC (P:=fun x=> -(1000000:Int)<=x∧x<=1000000) (by omega) (hY.all r hr) n) q0
 have hd288:=det_288 (zCD (jf (pRed (zAF M y) n).2) A (pRed (zAF M y) n).2.length) (fun x hx r=>by
  obtain⟨k,hk,rfl⟩:=zEL.1 hx
  exact hA1 k hk r) (zBW (pRed (zAF M y) n).2.length) (by rw[zDM,zCT]) (by rw[zCT];exact Nat.le_trans hs.le hY.le6)
 have hd0:=hs.d0
 obtain⟨d,hd⟩:=exq (det (zCD (jf (pRed (zAF M y) n).2) A (pRed (zAF M y) n).2.length) (zBW (pRed (zAF M y) n).2.length))
 rw[<- hd]at hd288 hd0
 -- the minors
 have hmin:∀k,k<n->∃E:Int,E.natAbs<=720000000∧rowv (pRed (zAF M y) n).1 k k*E=d*rowv (pRed (zAF M y) n).1 k n:=by
  intro k hk
  have hk':k<(pRed (zAF M y) n).2.length:=by omega
  obtain⟨⟨s,hs2,e0⟩,e⟩:=hs.minorU hk'
  rw[<- hd]at e0
  have e1:=e n
  rw[e0,hjf k hk]at e1
  have hl:=(zDS (J:=jf (pRed (zAF M y) n).2) (A:=A) hk').2
  have hb:=det_le2 (c:=fun r=>A r n) hAY (zAZ (jf (pRed (zAF M y) n).2) A k (pRed (zAF M y) n).2.length) (fun d hd r=>by obtain⟨k,hk,rfl⟩:=zCJ hd;exact hA1 k hk r) (zBW (pRed (zAF M y) n).2.length) (by rw[zDM];exact hl.symm)
  rw[hl]at hb
  have hK6:(pRed (zAF M y) n).2.length<=6:=Nat.le_trans hs.le hY.le6
  have hfact:∀a:Nat,a+1<=6->((a+1:Nat):Int)*(1000000*(fact a:Int))<=720000000:=fun a ha=>by
   have:a=0∨a=1∨a=2∨a=3∨a=4∨a=5:=by omega
   rcases this with rfl|rfl|rfl|rfl|rfl|rfl<;>decide
  have hf:=hfact (zAZ (jf (pRed (zAF M y) n).2) A k (pRed (zAF M y) n).2.length).length (by omega)
  rw[hl]at hf
  refine⟨s*minorU (pRed (zAF M y) n).2.length (jf (pRed (zAF M y) n).2) A k n,?_,?_⟩
  ·have:(s*minorU (pRed (zAF M y) n).2.length (jf (pRed (zAF M y) n).2) A k n).natAbs=(minorU (pRed (zAF M y) n).2.length (jf (pRed (zAF M y) n).2) A k n).natAbs:=by
    rw[Int.natAbs_mul]
    rcases hs2 with rfl|rfl<;>simp
   rw[this]
   unfold minorU
   omega
  ·have h1:s*s=1:=by rcases hs2 with rfl|rfl<;>rfl
   generalize minorU (pRed (zAF M y) n).2.length (jf (pRed (zAF M y) n).2) A k n=E at*
   generalize rowv (pRed (zAF M y) n).1 k k=b at*
   generalize rowv (pRed (zAF M y) n).1 k n=a at*
   have:b*(s*E)=s*(b*E):=by grind
   rw[this,e1]
   have:s*(s*d*a)=(s*s)*(d*a):=by grind
   rw[this,h1];omega
 -- the values over|d|
 have key:∀k,k<n->∃E:Int,E.natAbs<=720000000∧(zAD (zAN (zAF M y) n).1 k).1*(d.natAbs:Int)=E*(zAD (zAN (zAF M y) n).1 k).2:=by
  intro k hk
  obtain⟨E,h1,h2⟩:=hmin k hk
  have hb:=(hpv k hk).1
  rw[hjf k hk]at hb
  rw[hat k hk,zIK hb]
  obtain⟨c1,_,_,_,c5⟩:=zBY (a:=rowv (pRed (zAF M y) n).1 k n) hb
  generalize rowv (pRed (zAF M y) n).1 k k=b at*
  generalize rowv (pRed (zAF M y) n).1 k n=a at*
  generalize zAK a b=p at*
  obtain⟨p1,p2⟩:=p
  dsimp only at*
  have e1:b*(p1*d)=b*(E*p2):=by
   have:b*(p1*d)=(p1*b)*d:=by grind
   rw[this,c5]
   have:b*(E*p2)=(b*E)*p2:=by grind
   rw[this,h2];grind
  have e2:=Int.eq_of_mul_eq_mul_left (show b≠0 by omega) e1
  rcases Int.lt_or_le d 0 with c|c
  ·refine⟨-E,by omega,?_⟩
   have:(d.natAbs:Int)= -d:=by omega
   rw[this,Int.mul_neg,e2,Int.neg_mul]
  ·refine⟨E,h1,?_⟩
   have:(d.natAbs:Int)=d:=by omega
   rw[this,e2]
 have hpos:∀k,0<(zAD (zAN (zAF M y) n).1 k).2:=fun k=>by
  rcases Nat.lt_or_ge k n with hk|hk
  ·have hb:=(hpv k hk).1
   rw[hjf k hk]at hb
   rw[hat k hk,zIK hb]
   exact(zBY hb).1
  ·rw[hout k hk];decide
 have hex:∃l:Nat->Int,∀k,k<n->(l k).natAbs<=720000000∧(zAD (zAN (zAF M y) n).1 k).1*(d.natAbs:Int)=l k*(zAD (zAN (zAF M y) n).1 k).2:=by
  refine⟨fun k=>if hk:k<n then Classical.choose (key k hk)else 0,fun k hk=>?_⟩
  simp only[dif_pos hk]
  exact Classical.choose_spec (key k hk)
 obtain⟨l,hl⟩:=hex
 refine⟨l,(d.natAbs:Int),by omega,by omega,fun k hk=>(hl k hk).2,fun k hk=>(hl k hk).1,⟨by omega,fun q hq=>?_⟩,hpos,hr,fun k=>?_⟩
 ·-- the system
  have e1:=k1 q hq
  have e2:∀c,c<n->D'*(rowv M q c*l c)=(d.natAbs:Int)*(rowv M q c*l' c):=fun c hc=>by
   have h1:=(hl c hc).2
   have h2:=k2 c hc
   have hp:=hpos c
   generalize zAD (zAN (zAF M y) n).1 c=p at*
   obtain⟨p1,p2⟩:=p
   dsimp only at*
   have h3:p2*(l c*D')=p2*(l' c*(d.natAbs:Int)):=by
    have:p2*(l c*D')=(l c*p2)*D':=by grind
    rw[this,<- h1]
    have:p1*(d.natAbs:Int)*D'=(p1*D')*(d.natAbs:Int):=by grind
    rw[this,h2];grind
   have h4:=Int.eq_of_mul_eq_mul_left (show p2≠0 by omega) h3
   have:D'*(rowv M q c*l c)=rowv M q c*(l c*D'):=by grind
   rw[this,h4];grind
  have e3:D'*sm (fun i=>rowv M q i*l i) n=D'*(vec y q*(d.natAbs:Int)):=by
   rw[<- zIE,zAY e2,zIE,e1];grind
  exact Int.eq_of_mul_eq_mul_left (show D'≠0 by omega) e3
 ·rcases Nat.lt_or_ge k n with hk|hk
  ·have hb:=hpv k hk
   rw[hjf k hk]at hb
   rw[hat k hk,zIK hb.1]
   have b3:=sys_le hY k n
   obtain⟨c1,c2,c3,c4,_⟩:=zBY (a:=rowv (pRed (zAF M y) n).1 k n) hb.1
   rw[zAO]
   exact⟨by omega,by omega,by omega,by omega,c4⟩
  ·rw[hout k hk];decide
theorem nrmI_le{l:Nat->Int}{B:Nat}:∀n:Nat,(∀k,k<n->(l k).natAbs<=B)->nrmI l n<=((n*B:Nat):Int)
 |0,_=>by simp[nrmI,sm]
 |n+1,h=>by
  have h1:=nrmI_le n (fun k hk=>h k (by omega))
  have h2:=h n (by omega)
  show nrmI l n+((l n).natAbs:Int)<=_
  rw[Nat.succ_mul];omega
theorem solve_norm{M:List (List Int)}{n:Nat}(h:MaskOk M n){y:List Int}(hy:y.length=M.length)(hmil:∀v∈y,-1000000<=v∧v<=1000000)(he:(zAN (zAF M y) n).2=0):
 0<(zBK (zAN (zAF M y) n).1 n).2∧zAC (zAK (zBK (zAN (zAF M y) n).1 n).1 (zBK (zAN (zAF M y) n).1 n).2)=true:=by
 obtain⟨l,D,hD,hD288,h1,h2,_,hp,hr,_⟩:=zHC h hy hmil he
 obtain⟨p1,p2⟩:=zIM hp n
 refine⟨p1,?_⟩
 have e:=zIL hD hp n h1
 have hn6:n<=6:=by have:=rank_le h;have:=h.le6;omega
 have hl:=nrmI_le n h2
 have hN:=nrmI_pos l n
 have e2:zAK (zBK (zAN (zAF M y) n).1 n).1 (zBK (zAN (zAF M y) n).1 n).2=zAK (nrmI l n) D:=zEH p1 hD (by rw[e,Int.mul_comm])
 rw[e2]
 obtain⟨c1,c2,c3,c4,_⟩:=zBY (a:=nrmI l n) hD
 have:n*720000000<=6*720000000:=Nat.mul_le_mul_right _ hn6
 rw[zAO]
 exact⟨by omega,by omega,by omega,by omega,c4⟩
end
section
open Go.RowKit
def OptV(w:World)(lo:Nat)(S:Nat->Prop)(o:Option (List Int))(v:Value):Prop:=
 (o=none∧v=.slice none 0 0)∨∃x b cap,o=some x∧v=.slice (some ⟨b,0,none⟩) x.length cap∧lo<=b∧S b∧zBE w b x∧1<=x.length∧x.length<=maxLen
theorem OptV.keep{w w':World}{lo:Nat}{S S' K:Nat->Prop}{o:Option (List Int)}{v:Value}(h:OptV w lo S o v)(hk:Keep K w w')(hS:∀b,lo<=b->b<w.heap.size->S b->K b∧S' b):OptV w' lo S' o v:=by
 rcases h with h|⟨x,b,cap,h1,h2,h3,h4,h5,h6,h7⟩
 ·exact .inl h
 ·have:=hS b h3 h5.lt h4
  exact .inr ⟨x,b,cap,h1,h2,h3,this.2,h5.keep (hk.block b h5.lt this.1),h6,h7⟩
theorem OptV.below{w w':World}{lo:Nat}{S:Nat->Prop}{o:Option (List Int)}{v:Value}(h:OptV w lo S o v)(hb:Below w.heap.size w w'):OptV w' lo S o v:=
 h.keep (Keep.of_below hb:Keep (fun _=>True) _ _) (fun _ _ _ h=>⟨trivial,h⟩)
end
section
open Go.RowKit
theorem OptV.mono{w:World}{lo lo':Nat}{S S':Nat->Prop}{o:Option (List Int)}{v:Value}(h:OptV w lo S o v)(hl:lo'<=lo)(hS:∀b,lo<=b->S b->S' b):OptV w lo' S' o v:=by
 rcases h with h|⟨x,b,cap,h1,h2,h3,h4,h5⟩
 ·exact .inl h
 ·exact .inr ⟨x,b,cap,h1,h2,Nat.le_trans hl h3,hS b h3 h4,h5⟩
def DecV(M:Mask)(k:Int)(fs:List Frm)(lo:Nat)(S:Nat->Prop)(j:Nat)(v u:Value)(W:World):Prop:=
 v=.int .i64 j∧OptV W lo (fun b=>¬S b) (decAt M k fs (j+1)) u
end
section
open Go.RowKit
attribute [local go_sem] Oper.semAt_some
theorem DecV.keep{M:Mask}{k:Int}{fs:List Frm}{lo:Nat}{S:Nat->Prop}{j:Nat}{v u:Value}{A B:World}{T:Nat->Prop}(h:DecV M k fs lo S j v u A)(hk:Keep T A B)(hT:∀q,lo<=q->T q):DecV M k fs lo S j v u B:=
 ⟨h.1,h.2.keep hk fun b h1 _ h2=>⟨hT b h1,h2⟩⟩
end
section
open Go.RowKit
def fitsR(M:Mask)(y:List Int)(k:Int):List FitT:=(allF M y).filter (fun f=>decide ((f.1.length:Int)<=k))
end
section
open Go.RowKit
theorem zJY{M:Mask}{y:List Int}{f:FitT}(h:f∈allF M y):zDP (zAL M) f.1∧f.2.length=f.1.length∧f.1.length<=zAL M:=by
 unfold allF at h
 obtain⟨S,hS,e⟩:=List.mem_filterMap.1 h
 obtain⟨h1,h2⟩:=fitF_len e
 rw[h1]
 exact⟨(allS_ok hS).2,h2,(allS_ok hS).1⟩
end
section
theorem lvls_fits(M:Mask)(y:List Int)(n:Nat):∀k,(lvls n k).filterMap (fitF M y)=zBG M y n (k+1)
 |0=>by
  rw[zBT]
  show(comb n 0 0).filterMap (fitF M y)=zBG M y n 0++_
  simp[zBG]
 |k+1=>by
  rw[zBT,<- lvls_fits M y n k]
  show(lvls n k++comb n (k+1) 0).filterMap (fitF M y)=_
  rw[List.filterMap_append]
theorem allF_to(M:Mask)(y:List Int):allF M y=zBG M y (zAL M) (zAL M+1):=lvls_fits M y _ _
theorem fits_size{M:Mask}{y:List Int}{W j:Nat}{f:FitT}(h:f∈(comb W j 0).filterMap (fitF M y)):f.1.length=j:=by
 obtain⟨S,hS,e⟩:=List.mem_filterMap.1 h
 rw[(fitF_len e).1]
 exact zCK _ _ _ _ hS
theorem fits_cut(M:Mask)(y:List Int)(W k:Nat):∀t,(zBG M y W t).filter (fun f=>decide ((f.1.length:Int)<=(k:Int)))=zBG M y W (min t (k+1))
 |0=>by simp[zBG]
 |t+1=>by
  rw[zBT,List.filter_append,fits_cut M y W k t]
  rcases Nat.lt_or_ge k t with h|h
  ·have h1:((comb W t 0).filterMap (fitF M y)).filter (fun f=>decide ((f.1.length:Int)<=(k:Int)))=[]:=by
    rw[List.filter_eq_nil_iff]
    intro f hf
    have:=fits_size hf
    simp;omega
   rw[h1,List.append_nil,show min t (k+1)=k+1 by omega,show min (t+1) (k+1)=k+1 by omega]
  ·have h1:((comb W t 0).filterMap (fitF M y)).filter (fun f=>decide ((f.1.length:Int)<=(k:Int)))=(comb W t 0).filterMap (fitF M y):=by
    rw[List.filter_eq_self]
    intro f hf
    have:=fits_size hf
    simp;omega
   rw[h1,show min t (k+1)=t by omega,show min (t+1) (k+1)=t+1 by omega,zBT]
theorem fit_long{M:Mask}{y S:List Int}(h:M.length<S.length):fitF M y S=none:=by
 unfold fitF
 rw[if_neg]
 rintro⟨h0,_⟩
 unfold zCB at h0
 split at h0
 ·rename_i hc
  obtain⟨hM,hy,hyB,hS⟩:=zGA hc
  have hmo:=(zFA hM).1
  have hY:=(hmo.cols S).addY (y:=y) (by rw[zBX];exact hy) (Y:=1000000) (by decide) (fun v hv=>by
   unfold milB at hyB
   have:=List.all_eq_true.1 hyB v hv
   unfold inB at this
   simp at this;omega)
  have hi:=zBQ (zAF (zDO M S) y) hY.wid S.length (fun j hj q=>zBN (by decide) (fun r hr=>hY.one r hr j hj) q)
  have hk:=hi.K_le
  rw[zCY (by rw[zBX];exact hy),zBX]at hk
  unfold zAN at h0
  simp only[]at h0
  split at h0
  ·simp at h0
  ·split at h0
   ·simp at h0
   ·omega
 ·rename_i hc;exact hc h0
theorem fits_long(M:Mask)(y:List Int)(W:Nat):∀d,zBG M y W (M.length+1+d)=zBG M y W (M.length+1)
 |0=>rfl
 |d+1=>by
  rw[show M.length+1+(d+1)=(M.length+1+d)+1 by omega,zBT,fits_long M y W d]
  have h1:(comb W (M.length+1+d) 0).filterMap (fitF M y)=[]:=by
   rw[List.filterMap_eq_nil_iff]
   intro S hS
   refine fit_long ?_
   rw[zCK _ _ _ _ hS];omega
  rw[h1,List.append_nil]
theorem fits_same(M:Mask)(y:List Int)(k:Nat):fitsR M y (k:Int)=zBV M y k:=by
 unfold fitsR zBV
 rw[allF_to,fits_cut]
 rcases Nat.lt_or_ge M.length (min k (zAL M))with h|h
 ·obtain⟨d,hd⟩:∃d,min (zAL M+1) (k+1)=M.length+1+d:=⟨min (zAL M+1) (k+1)-(M.length+1),by omega⟩
  rw[hd,fits_long,show min (min k (zAL M)) M.length+1=M.length+1 by omega]
 ·rw[show min (zAL M+1) (k+1)=min (min k (zAL M)) M.length+1 by omega]
end
section
open Go.RowKit
attribute [local go_sem] Oper.semAt_some
structure MissI (w w3:World) (ob:Nat) (fp:Nat->Prop) (S:Nat->Prop) (L:List Int) (Z:World):Prop where
 b:Below w.heap.size w Z
 f:Keep fp w3 Z
 o:∃v,Boxed Z ob 24 v∧Z.ownsRow (w3.heap.size+2) 3 1 v L.length (L.map (Value.int .i64))∧∀k,v.ownBlock=some k->¬S k∧k≠ob∧k≠w3.heap.size∧k≠w3.heap.size+1
 z:w3.heap.size+2<=Z.heap.size
theorem own_keep2{W W':World}{base:Nat}{T:TypeId}{k n:Nat}{v:Value}{xs:List Value}(h:W.ownsRow base T k v n xs){K:Nat->Prop}(hk:Keep K W W')(hK:∀g,v.ownBlock=some g->K g):W'.ownsRow base T k v n xs:=by
 refine⟨h.1,?_⟩
 rcases h.2 with hn|⟨g,cap,cur,rfl,hbg,hgg,rest⟩
 ·exact .inl hn
 ·exact .inr ⟨g,cap,cur,rfl,hbg,(hk.block g (Array.getElem?_eq_some_iff.1 hgg).1 (hK g rfl)).trans hgg,rest⟩
theorem MissI.keep{w w3:World}{ob:Nat}{fp S S':Nat->Prop}{L:List Int}{A B:World}(h:MissI w w3 ob fp S L A)(h1:∀k,S k->S' k)(h2:∀k,S' k->S k∨A.heap.size<=k)(h3:∀k,S' k->w3.heap.size+2<=k)
 (hob:ob<w3.heap.size)(hfp:∀k,fp k->k<w3.heap.size)(hw:w.heap.size<=w3.heap.size)(hk:Keep (fun k=>k≠w3.heap.size∧k≠w3.heap.size+1∧¬S' k) A B):MissI w w3 ob fp S' L B where
 b:=by
  have hz:=h.z
  exact hk.below h.b (Nat.le_trans hw (by omega)) (fun k hlt=>⟨by omega,by omega,fun hs=>by have:=h3 k hs;omega⟩)
 f:=h.f.trans (hk.mono fun k hlt=>by have:=hfp k hlt;exact⟨by omega,by omega,fun hs=>by have:=h3 k hs;omega⟩)
 o:=by
  obtain⟨v,hv,ho,hg⟩:=h.o
  have hg':∀k,v.ownBlock=some k->¬S' k∧k≠ob∧k≠w3.heap.size∧k≠w3.heap.size+1:=fun k hk'=>by
   obtain⟨g1,g2⟩:=hg k hk'
   refine⟨fun hs=>?_,g2⟩
   rcases h2 k hs with g|g
   ·exact g1 g
   ·have:=(ho.lt k hk').2;omega
  exact⟨v,(hk.block ob hv.lt ⟨by omega,by omega,fun hs=>by have:=h3 _ hs;omega⟩).trans hv,own_keep2 ho hk (fun g hgk=>⟨(hg' g hgk).2.2.1,(hg' g hgk).2.2.2,(hg' g hgk).1⟩),hg'⟩
 z:=Nat.le_trans h.z hk.size
end
section
open Go.RowKit
theorem OptV.slice{W:World}{base:Nat}{S:Nat->Prop}{o:Option (List Int)}{u:Value}(h:OptV W base S o u):∃a c,u=.slice a (o.getD []).length c∧(o.getD []).length<=maxLen∧zAJ W a (o.getD [])∧(a=none↔o=none):=by
 rcases h with⟨rfl,rfl⟩|⟨x,b,c,rfl,rfl,_,_,h,_,h2⟩
 ·exact⟨none,0,rfl,by simp,fun j hj=>by simp at hj,by simp⟩
 ·exact⟨_,c,rfl,h2,h.ints,by simp⟩
def zHM(W:World)(base:Nat)(S:Nat->Prop)(v:Value)(os:List (Option (List Int))):Prop:=
 ∃vs,W.ownsRow base 24 1 v os.length vs∧(∀k,v.ownBlock=some k->S k)∧∀j (hj:j<os.length),∃u,vs[j]? =some u∧OptV W base S os[j] u
theorem zHM.nil(W:World)(base:Nat)(S:Nat->Prop):zHM W base S (.slice none 0 0) []:=
 ⟨[],World.ownsRow_nil _ _ _ _,fun k hk=>by simp[Value.ownBlock]at hk,fun j hj=>by simp at hj⟩
theorem zHM.slice{W:World}{base:Nat}{S:Nat->Prop}{v:Value}{T:List (Option (List Int))}(h:zHM W base S v T):∃a c,v=.slice a T.length c:=by
 obtain⟨xs,ho,_⟩:=h;exact zAH ho
theorem zHM.keep{W W':World}{base:Nat}{S S' K:Nat->Prop}{v:Value}{ls:List (Option (List Int))}(h:zHM W base S v ls)(hk:Keep K W W')(hS:∀b,S b->b<W.heap.size->K b∧S' b):zHM W' base S' v ls:=by
 obtain⟨vs,ho,hg,he⟩:=h
 refine⟨vs,⟨ho.1,?_⟩,fun k hk'=>?_,fun j hj=>?_⟩
 ·rcases ho.2 with hn|⟨g,cap,cur,rfl,hb,hgg,rest⟩
  ·exact .inl hn
  ·have hlt:=(Array.getElem?_eq_some_iff.1 hgg).1
   exact .inr ⟨g,cap,cur,rfl,hb,(hk.block g hlt (hS g (hg g rfl) hlt).1).trans hgg,rest⟩
 ·rcases ho.2 with⟨rfl,_⟩|⟨g,cap,cur,rfl,hb,hgg,rest⟩
  ·simp[Value.ownBlock]at hk'
  ·obtain rfl:g=k:=by simpa[Value.ownBlock]using hk'
   exact(hS g (hg g rfl) (Array.getElem?_eq_some_iff.1 hgg).1).2
 ·obtain⟨u,hu,hel⟩:=he j hj
  exact⟨u,hu,hel.keep hk (fun b _ hb hs=>hS b hs hb)⟩
theorem zHM.below{W W':World}{base:Nat}{S:Nat->Prop}{v:Value}{ls:List (Option (List Int))}(h:zHM W base S v ls)(hb:Below W.heap.size W W'):zHM W' base S v ls:=
 h.keep (Keep.of_below hb:Keep (fun _=>True) _ _) (fun _ h _=>⟨trivial,h⟩)
theorem OptV.grown{W w1 w2:World}{base n:Nat}{S:Nat->Prop}{v u:Value}{l:Option (List Int)}{vs:List Value}(ho:W.ownsRow base 24 1 v n vs)(h:OptV W base S l u)(hW1:Below W.heap.size W w1)(hg:w1.grownBy w2 v.ownBlock):OptV w2 base S l u:=by
 rcases h with (h|⟨x,b,cap,e,e2,h1,h2,h3,h4⟩)
 ·exact .inl h
 refine .inr ⟨x,b,cap,e,e2,h1,h2,h3.keep ((hg.block b (Nat.lt_of_lt_of_le h3.lt hW1.size) ?_).trans (hW1.block b h3.lt)),h4⟩
 rcases ho.2 with⟨rfl,_⟩|⟨g,cap,cur,rfl,hbg,hgg,_⟩
 ·simp[Value.ownBlock]
 ·intro e
  obtain rfl:b=g:=by simpa[Value.ownBlock]using e
  obtain⟨sp,h3⟩:=h3
  rw[h3]at hgg;cases hgg
theorem zHM.snoc{W w1 w2:World}{base:Nat}{S:Nat->Prop}{v v' u:Value}{ls:List (Option (List Int))}{l:Option (List Int)}{vs:List Value}
 (ho:W.ownsRow base 24 1 v ls.length vs)(he:∀j (hj:j<ls.length),∃u,vs[j]? =some u∧OptV W base S ls[j] u)(hu:OptV W base S l u)
 (hW1:Below W.heap.size W w1)(hg:w1.grownBy w2 v.ownBlock)(ho':w2.ownsRow base 24 1 v' (ls.length+1) (vs++[u]))(hS':∀k,v'.ownBlock=some k->S k):zHM w2 base S v' (ls++[l]):=by
 have hlen:vs.length=ls.length:=by have:=ho.1;omega
 have hel:∀u l,OptV W base S l u->OptV w2 base S l u:=fun u l h=>h.grown ho hW1 hg
 refine⟨vs++[u],by simpa using ho',hS',fun j hj=>?_⟩
 by_cases e:j<ls.length
 ·obtain⟨u',hu',hel'⟩:=he j e
  refine⟨u',by rw[List.getElem?_append_left (by omega)];exact hu',?_⟩
  rw[List.getElem_append_left e]
  exact hel _ _ hel'
 ·have:j=ls.length:=by simp at hj;omega
  subst this
  refine⟨u,by rw[List.getElem?_append_right (by omega),hlen];simp,?_⟩
  simp only[List.getElem_append_right (Nat.le_refl _),Nat.sub_self,List.getElem_cons_zero]
  exact hel _ _ hu
def OptsAt(W:World)(a:Option Addr)(os:List (Option (List Int))):Prop:=
 ∀j (hj:j<os.length),∃b off ra rn rc,a=some ⟨b,off,none⟩∧b<W.heap.size∧W.cell? ⟨b,off+j,none⟩=some (.slice ra rn rc)∧(os[j].getD []).length=rn∧rn<=maxLen∧zAJ W ra (os[j].getD [])∧(ra=none↔os[j]=none)
theorem OptsAt.below{w w':World}{a:Option Addr}{l:List (Option (List Int))}(h:OptsAt w a l)(hb:Below w.heap.size w w'):OptsAt w' a l:=by
 intro j hj
 obtain⟨b,off,ra,n,cap,e,hlt,h0,hn,hm,hi,hnn⟩:=h j hj
 exact⟨b,off,ra,n,cap,e,Nat.lt_of_lt_of_le hlt hb.size,(hb.cell (p:=⟨b,_,none⟩) hlt).trans h0,hn,hm,hi.below hb,hnn⟩
end
section
open Go.RowKit
theorem named_of{W:Nat}{l:List Int}(h:zDP W l):zDX W l=0:=by
 have h1:ascB l=true:=by
  unfold ascB
  rw[decide_eq_true_eq]
  intro i hi
  rw[List.getElem?_eq_getElem (by omega),List.getElem?_eq_getElem (by omega)]
  exact List.pairwise_iff_getElem.1 h.1 i (i+1) (by omega) (by omega) (by omega)
 unfold zDX
 rw[if_pos h1,if_pos]
 rw[List.all_eq_true]
 intro p hp
 have:=h.2 p hp
 unfold inB;simp;omega
theorem pix_of{M:Mask}{S:List Int}(hM:okM M=true)(h:zDP (zAL M) S):pixE M S=0:=by unfold pixE;rw[if_pos hM,named_of h]
theorem check_of{M:Mask}{y S:List Int}(hM:okM M=true)(hy:y.length=M.length)(hmil:milB y=true)(h:zDP (zAL M) S):zBH M y S=0:=by
 unfold zBH;rw[if_pos hM,if_pos hy,if_pos hmil,pix_of hM h]
end
section
theorem fits_mem{M:Mask}{y:List Int}(hM:okM M=true)(hy:y.length=M.length)(hmil:milB y=true){f:FitT}:f∈zBV M y 10↔∃S,zDP (zAL M) S∧fitF M y S=some f:=by
 obtain⟨hO,hm1,_,hc1,hc10⟩:=zFA hM
 have hmil':∀v∈y,-1000000<=v∧v<=1000000:=fun v hv=>by have:=zKM hmil v hv;omega
 unfold zBV zBG
 rw[List.mem_flatMap]
 constructor
 ·rintro⟨j,_,hj⟩
  obtain⟨S,hS,hf⟩:=List.mem_filterMap.1 hj
  exact⟨S,comb_ok hS,hf⟩
 ·rintro⟨S,hS,hf⟩
  obtain⟨_,h1,_⟩:=zHS hf
  have hsv:zCB M S y=zAN (zAF (zDO M S) y) S.length:=by unfold zCB;rw[if_pos (check_of hM hy hmil hS)]
  rw[hsv]at h1
  obtain⟨hr,_⟩:=solve_to (hO.cols S) (by rw[zBX];exact hy) hmil' h1
  have hrk:=rank_le (hO.cols S)
  rw[hr,zBX]at hrk
  have hW:=set_le hS
  refine⟨S.length,List.mem_range.2 (by omega),List.mem_filterMap.2 ⟨S,zKR (zAL M) 0 S hS.1 (fun y hy=>by have:=hS.2 y hy;omega),hf⟩⟩
theorem sol_of_fit{M:Mask}{y:List Int}(hM:okM M=true)(hy:y.length=M.length)(hmil:milB y=true){f:FitT}(hf:f∈zBV M y 10):
 zDP (zAL M) f.1∧f.2.length=f.1.length∧f.2.all zAC=true∧(∀r∈f.2,r.1≠0)∧0<(nrmQ f.2).2∧zAC (zAK (nrmQ f.2).1 (nrmQ f.2).2)=true∧rankF (zDO M f.1) f.1.length=f.1.length∧
  ∃(l:Nat->Int) (D:Int),SolM M (zAL M) y l D∧D<=288∧(∀c,c<zAL M->(c:Int)∉f.1->l c=0)∧(∀i (hi:i<f.1.length),(zAD f.2 i).1*D=l (f.1[i]).toNat*(zAD f.2 i).2)∧(nrmQ f.2).1*D=(nrmQ f.2).2*nrmI l (zAL M):=by
 obtain⟨hO,hm1,_,hc1,hc10⟩:=zFA hM
 have hmil':∀v∈y,-1000000<=v∧v<=1000000:=fun v hv=>by have:=zKM hmil v hv;omega
 obtain⟨S,hS,hfit⟩:=(fits_mem hM hy hmil).1 hf
 obtain⟨rfl,h1,h2⟩:=zHS hfit
 have hsv:zCB M S y=zAN (zAF (zDO M S) y) S.length:=by unfold zCB;rw[if_pos (check_of hM hy hmil hS)]
 rw[hsv]at h1 h2⊢
 have hy':y.length=(zDO M S).length:=by rw[zBX];exact hy
 obtain⟨l,D,hD,hD288,k1,_,k3,hpos,hr,hv⟩:=zHC (hO.cols S) hy' hmil' h1
 obtain⟨n1,n2⟩:=solve_norm (hO.cols S) hy' hmil' h1
 have hlen:=zJG h1
 obtain⟨P,hP⟩:=exq ((zAN (zAF (zDO M S) y) S.length).1)
 rw[<- hP]at h2 k1 hpos hv n1 n2 hlen⊢
 have hq:nrmQ P=zBK P S.length:=by unfold nrmQ;rw[hlen]
 -- spread
 have hL:((List.range S.length).map l).length=S.length:=by simp
 have hvL:∀i,i<S.length->vec ((List.range S.length).map l) i=l i:=fun i hi=>by unfold vec;rw[List.getElem?_map,List.getElem?_range hi];rfl
 have hin:∀i (hi:i<S.length),vec (zBR (zAL M) S ((List.range S.length).map l) S.length) (S[i]).toNat=l i:=fun i hi=>by
  rw[spread_in hS S.length (Nat.le_refl _) i hi hi]
  exact hvL i hi
 have hsum:∀r:Nat->Int,sm (fun i=>zHL S r i*l i) S.length=sm (fun c=>r c*vec (zBR (zAL M) S ((List.range S.length).map l) S.length) c) (zAL M):=fun r=>by
  have:=zJT (l:=(List.range S.length).map l) hS r S.length (Nat.le_refl _)
  unfold dotS at this
  rw[this]
  exact zAY fun i hi=>by rw[hvL i hi]
 refine⟨hS,hlen,List.all_eq_true.2 fun r hr=>?_,h2,by rw[hq];exact n1,by rw[hq];exact n2,hr,vec (zBR (zAL M) S ((List.range S.length).map l) S.length),D,⟨hD,fun q hq=>?_⟩,hD288,fun c hc hn=>zJF hS hn S.length (Nat.le_refl _),fun i hi=>by rw[hin i hi];exact k1 i hi,?_⟩
 ·obtain⟨i,hi,rfl⟩:=List.mem_iff_getElem.1 hr
  have:=hv i
  unfold zAD at this
  rw[List.getElem?_eq_getElem hi]at this
  exact this
 ·have:=k3.2 q (by rw[zBX];exact hq)
  rw[colsF_rowv,hsum]at this
  exact this
 ·rw[hq,zIL hD hpos S.length k1]
  congr 1
  have h:=hsum (fun c=>sgnI (vec (zBR (zAL M) S ((List.range S.length).map l) S.length) c))
  have e1:sm (fun c=>sgnI (vec (zBR (zAL M) S ((List.range S.length).map l) S.length) c)*vec (zBR (zAL M) S ((List.range S.length).map l) S.length) c) (zAL M)=nrmI (vec (zBR (zAL M) S ((List.range S.length).map l) S.length)) (zAL M):=zAY fun c _=>sgnI_abs _
  rw[e1]at h
  rw[<- h]
  refine zAY fun i hi=>?_
  have e3:zHL S (fun c=>sgnI (vec (zBR (zAL M) S ((List.range S.length).map l) S.length) c)) i=sgnI (l i):=by
   unfold zHL;rw[List.getElem?_eq_getElem hi]
   simp only[]
   rw[hin i hi]
  rw[e3,sgnI_abs]
end
section
def zAP:List Int->List Int->Bool
 | [],[]=>false
 | [],_::_=>true
 |_::_,[]=>false
 |x::a,y::b=>if x=y then zAP a b else decide (x<y)
theorem zIW:∀a,zAP a a=false
 | []=>rfl
 |x::a=>by unfold zAP;rw[if_pos rfl];exact zIW a
theorem zDC:∀a b,a=b∨zAP a b=true∨zAP b a=true
 | [],[]=>.inl rfl
 | [],_::_=>.inr (.inl rfl)
 |_::_,[]=>.inr (.inr rfl)
 |x::a,y::b=>by
  by_cases e:x=y
  ·subst e
   rcases zDC a b with h|h|h
   ·exact .inl (by rw[h])
   ·exact .inr (.inl (by unfold zAP;rw[if_pos rfl];exact h))
   ·exact .inr (.inr (by unfold zAP;rw[if_pos rfl];exact h))
  ·rcases Int.lt_or_gt_of_ne e with h|h
   ·exact .inr (.inl (by unfold zAP;rw[if_neg e];simpa using h))
   ·exact .inr (.inr (by unfold zAP;rw[if_neg (fun h=>e h.symm)];simpa using h))
theorem zEQ:∀{a b},zAP a b=true->zAP b a=false
 | [],[],h=>by cases h
 | [],_::_,_=>rfl
 |_::_,[],h=>by cases h
 |x::a,y::b,h=>by
  unfold zAP at h⊢
  by_cases e:x=y
  ·subst e;rw[if_pos rfl]at h⊢;exact zEQ h
  ·rw[if_neg e]at h
   rw[if_neg (fun h=>e h.symm)]
   have:x<y:=by simpa using h
   rw[decide_eq_false_iff_not];omega
theorem zCW:∀{a b c},zAP a b=true->zAP b c=true->zAP a c=true
 | [],_,[],_,h=>by rename_i b _;cases b<;>cases h
 | [],_,_::_,_,_=>rfl
 |_::_,[],_,h,_=>by cases h
 |_::_,_::_,[],_,h=>by cases h
 |x::a,y::b,z::c,h1,h2=>by
  unfold zAP at h1 h2⊢
  by_cases e:x=y
  ·subst e
   rw[if_pos rfl]at h1
   by_cases e2:x=z
   ·subst e2;rw[if_pos rfl]at h2⊢;exact zCW h1 h2
   ·rw[if_neg e2]at h2⊢;exact h2
  ·rw[if_neg e]at h1
   have h1':x<y:=by simpa using h1
   by_cases e2:y=z
   ·subst e2;rw[if_neg e];exact h1
   ·rw[if_neg e2]at h2
    have h2':y<z:=by simpa using h2
    rw[if_neg (by omega)];simp;omega
def zBA(f:FitT):Rt:=zAK (nrmQ f.2).1 (nrmQ f.2).2
def cmpF(r s:Rt):Int:=cmpR r.1 r.2 s.1 s.2
def stepC(s:Rt×List FitT)(f:FitT):Rt×List FitT:=
 if s.2=[]∨cmpF (zBA f) s.1<0 then(zBA f,[f])else if cmpF (zBA f) s.1=0 then(s.1,s.2++[f])else s
def zAW(l:List FitT):Rt×List FitT:=l.foldl stepC ((0,0),[])
theorem zGL(l:List FitT)(f:FitT):zAW (l++[f])=stepC (zAW l) f:=by unfold zAW;rw[List.foldl_append];rfl
theorem cmpF_pos{r s:Rt}(hr:0<r.2)(hs:0<s.2):cmpF r s=cmpI (r.1*s.2) (s.1*r.2):=by
 unfold cmpF cmpR dF;rw[if_neg (by omega),if_neg (by omega)]
theorem cmpF_neg{r s:Rt}(hr:0<r.2)(hs:0<s.2):cmpF r s<0↔r.1*s.2<s.1*r.2:=by
 rw[cmpF_pos hr hs];unfold cmpI;split<;>(try split)<;>omega
theorem cmpF_zero{r s:Rt}(hr:0<r.2)(hs:0<s.2):cmpF r s=0↔r.1*s.2=s.1*r.2:=by
 rw[cmpF_pos hr hs];unfold cmpI;split<;>(try split)<;>omega
theorem low_eq{r s:Rt}(hr:zAC r=true)(hs:zAC s=true)(h:r.1*s.2=s.1*r.2):r=s:=by
 obtain⟨r1,r2⟩:=r
 obtain⟨s1,s2⟩:=s
 obtain⟨a1,_,_,_,a5⟩:=zAO.1 hr
 obtain⟨b1,_,_,_,b5⟩:=zAO.1 hs
 simp only[]at*
 rw[<- zDH a5,<- zDH b5]
 exact zEH (by omega) (by omega) h
theorem zJH:∀(l:List FitT),(∀f∈l,zAC (zBA f)=true)->(l=[]->zAW l=((0,0),[]))∧(l≠[]->(zAW l).2≠[]∧(∃f∈l,(zAW l).1=zBA f)∧
 (∀f∈l,(zAW l).1.1*(zBA f).2<=(zBA f).1*(zAW l).1.2)∧(zAW l).2=l.filter (fun f=>decide (zBA f=(zAW l).1))):=by
 intro l
 induction hn:l.length generalizing l with
 |zero=>
  intro _
  have:l=[]:=List.length_eq_zero_iff.1 hn
  subst this
  exact⟨fun _=>rfl,fun h=>absurd rfl h⟩
 |succ n ih=>
  intro hv
  obtain⟨m,f,rfl⟩:∃m f,l=m++[f]:=⟨l.dropLast,l.getLast (by intro e;rw[e]at hn;simp at hn),(List.dropLast_concat_getLast _).symm⟩
  have hml:m.length=n:=by simpa using hn
  have hvm:∀g∈m,zAC (zBA g)=true:=fun g hg=>hv g (List.mem_append_left _ hg)
  have hvf:zAC (zBA f)=true:=hv f (by simp)
  have pf:0<(zBA f).2:=by have:=(zAO.1 hvf).1;omega
  obtain⟨i1,i2⟩:=ih m hml hvm
  refine⟨fun h=>by simp at h,fun _=>?_⟩
  rw[zGL]
  by_cases hm:m=[]
  ·subst hm
   have e:stepC (zAW []) f=(zBA f,[f]):=by unfold stepC;rw[if_pos (.inl rfl)]
   rw[List.nil_append,e]
   exact⟨by simp,⟨f,by simp,rfl⟩,fun g hg=>by rw[List.mem_singleton.1 hg];exact Int.le_refl _,by simp⟩
  ·obtain⟨j1,⟨g0,hg0,j2⟩,j3,j4⟩:=i2 hm
   have ps:0<(zAW m).1.2:=by rw[j2];have:=(zAO.1 (hvm g0 hg0)).1;omega
   have vs:zAC (zAW m).1=true:=by rw[j2];exact hvm g0 hg0
   unfold stepC
   by_cases c1:(zAW m).2=[]∨cmpF (zBA f) (zAW m).1<0
   ·rw[if_pos c1]
    have c2:(zBA f).1*(zAW m).1.2<(zAW m).1.1*(zBA f).2:=by
     rcases c1 with c|c
     ·exact absurd c j1
     ·exact(cmpF_neg pf ps).1 c
    have hlt:∀g∈m,(zBA f).1*(zBA g).2<(zBA g).1*(zBA f).2:=fun g hg=>by
     have h1:=j3 g hg
     have pg:0<(zBA g).2:=by have:=(zAO.1 (hvm g hg)).1;omega
     have e1:(zBA f).1*(zAW m).1.2*(zBA g).2<(zAW m).1.1*(zBA f).2*(zBA g).2:=Int.mul_lt_mul_of_pos_right c2 pg
     have e2:(zAW m).1.1*(zBA g).2*(zBA f).2<=(zBA g).1*(zAW m).1.2*(zBA f).2:=Int.mul_le_mul_of_nonneg_right h1 (by omega)
     have e3:(zBA f).1*(zBA g).2*(zAW m).1.2<(zBA g).1*(zBA f).2*(zAW m).1.2:=by
      have x1:(zBA f).1*(zBA g).2*(zAW m).1.2=(zBA f).1*(zAW m).1.2*(zBA g).2:=by grind
      have x2:(zAW m).1.1*(zBA f).2*(zBA g).2=(zAW m).1.1*(zBA g).2*(zBA f).2:=by grind
      have x3:(zBA g).1*(zBA f).2*(zAW m).1.2=(zBA g).1*(zAW m).1.2*(zBA f).2:=by grind
      omega
     exact Int.lt_of_mul_lt_mul_right e3 (by omega)
    refine⟨by simp,⟨f,by simp,rfl⟩,fun g hg=>?_,?_⟩
    ·rcases List.mem_append.1 hg with h|h
     ·exact Int.le_of_lt (hlt g h)
     ·rw[List.mem_singleton.1 h];exact Int.le_refl _
    ·rw[List.filter_append]
     have:m.filter (fun g=>decide (zBA g=zBA f))=[]:=by
      rw[List.filter_eq_nil_iff]
      intro g hg
      rw[decide_eq_true_eq]
      intro e
      have:=hlt g hg
      rw[e]at this
      omega
     show [f]=_
     rw[this];simp
   ·rw[if_neg c1]
    have c1':¬cmpF (zBA f) (zAW m).1<0:=fun h=>c1 (.inr h)
    have c3:(zAW m).1.1*(zBA f).2<=(zBA f).1*(zAW m).1.2:=by
     rcases Int.lt_or_le ((zBA f).1*(zAW m).1.2) ((zAW m).1.1*(zBA f).2)with h|h
     ·exact absurd ((cmpF_neg pf ps).2 h) c1'
     ·exact h
    have hle:∀g∈m++[f],(zAW m).1.1*(zBA g).2<=(zBA g).1*(zAW m).1.2:=fun g hg=>by
     rcases List.mem_append.1 hg with h|h
     ·exact j3 g h
     ·rw[List.mem_singleton.1 h];exact c3
    by_cases c2:cmpF (zBA f) (zAW m).1=0
    ·rw[if_pos c2]
     have e:zBA f=(zAW m).1:=low_eq hvf vs ((cmpF_zero pf ps).1 c2)
     refine⟨by simp,⟨g0,List.mem_append_left _ hg0,j2⟩,hle,?_⟩
     rw[List.filter_append,<- j4]
     simp[e]
    ·rw[if_neg c2]
     refine⟨j1,⟨g0,List.mem_append_left _ hg0,j2⟩,hle,?_⟩
     rw[List.filter_append,<- j4]
     have:¬zBA f=(zAW m).1:=fun e=>c2 ((cmpF_zero pf ps).2 (by rw[e]))
     simp[this]
def AscF(l:List FitT):Prop:=l.Pairwise (fun f g=>zAP f.1 g.1=true)
theorem asc_uniq{l m:List FitT}(hl:AscF l)(hm:AscF m)(h:l.Perm m):l=m:=
 List.Perm.eq_of_pairwise (fun a b _ _ h1 h2=>by rw[zEQ h1]at h2;cases h2) hl hm h
def insC(f:FitT):List FitT->List FitT
 | []=>[f]
 |g::l=>if zAP f.1 g.1=true then f::g::l else g::insC f l
def zJC(l:List FitT):List FitT:=l.foldl (fun o f=>insC f o) []
theorem zIT(f:FitT):∀l,(insC f l).Perm (f::l)
 | []=>List.Perm.refl _
 |g::l=>by
  unfold insC
  split
  ·exact List.Perm.refl _
  ·exact((zIT f l).cons g).trans (List.Perm.swap f g l)
theorem insC_asc{f:FitT}:∀{l:List FitT},AscF l->(∀g∈l,g.1≠f.1)->AscF (insC f l)
 | [],_,_=>by unfold insC AscF;simp
 |g::l,h,hn=>by
  unfold AscF at h
  rw[List.pairwise_cons]at h
  unfold insC
  split
  ·rename_i c
   unfold AscF
   rw[List.pairwise_cons]
   refine⟨fun x hx=>?_,List.pairwise_cons.2 h⟩
   rcases List.mem_cons.1 hx with rfl|hx
   ·exact c
   ·exact zCW c (h.1 x hx)
  ·rename_i c
   have ih:=insC_asc (f:=f) h.2 (fun x hx=>hn x (by simp[hx]))
   unfold AscF
   rw[List.pairwise_cons]
   refine⟨fun x hx=>?_,ih⟩
   rcases List.mem_cons.1 ((zIT f l).mem_iff.1 hx)with rfl|hx
   ·rcases zDC x.1 g.1 with e|e|e
    ·exact absurd e.symm (hn g (by simp))
    ·exact absurd e c
    ·exact e
   ·exact h.1 x hx
theorem zGI:∀{l:List FitT},(l.map (·.1)).Nodup->AscF (zJC l)∧(zJC l).Perm l:=by
 intro l
 induction hn:l.length generalizing l with
 |zero=>
  intro _
  have:l=[]:=List.length_eq_zero_iff.1 hn
  subst this
  exact⟨List.Pairwise.nil,List.Perm.refl _⟩
 |succ n ih=>
  intro hd
  obtain⟨m,f,rfl⟩:∃m f,l=m++[f]:=⟨l.dropLast,l.getLast (by intro e;rw[e]at hn;simp at hn),(List.dropLast_concat_getLast _).symm⟩
  rw[List.map_append,List.nodup_append]at hd
  obtain⟨h1,h2⟩:=ih (by simpa using hn) hd.1
  have e:zJC (m++[f])=insC f (zJC m):=by unfold zJC;rw[List.foldl_append];rfl
  rw[e]
  refine⟨insC_asc h1 fun g hg e=>?_,(zIT f _).trans ((h2.cons f).trans (List.perm_append_singleton f m).symm)⟩
  have hg':=h2.mem_iff.1 hg
  exact hd.2.2 g.1 (List.mem_map.2 ⟨g,hg',rfl⟩) f.1 (by simp) e
def cornF(M:Mask)(y:List Int):List FitT:=zJC (zAW (zBV M y 10)).2
end
section
open Go.RowKit
theorem AnyT.weak{P:Program}{md:Region.Mode}{ops:Array Oper}{Q:Exit->Act->World->Prop}{T T':Nat->World->Prop}(hT:∀j w,T' j w->T j w):∀(fuel:Nat) (listed:Array Bool) (a:Act) (w:World),AnyT P md ops Q T' fuel listed a w->AnyT P md ops Q T fuel listed a w
 |0,_,_,_,h=>h
 |fuel+1,listed,a,w,h=>⟨h.1,fun i hi=>wpOp_mono (fun a' w' h'=>⟨hT _ _ h'.1,AnyT.weak hT fuel _ _ _ h'.2⟩) (h.2 i hi)⟩
theorem AnyT.takeG{P:Program}{md:Region.Mode}{ops:Array Oper}{Q:Exit->Act->World->Prop}{S:World->Prop}{T:Nat->World->Prop}{i d:Nat}{oi:Oper}{v:Value}{fuel:Nat}{listed:Array Bool}{a:Act}{w:World}{Wf:Nat->Bool}(hT:∀j w,T j w->Wf j=true->S w)(hTi:∀w,S w->T i w)(hi:ops[i]? =some oi)(hd:oi.dst=some d)
 (hs:Region.noSelect ops=true)(hf:Region.free md ops listed i=true)(hr:(Region.ready md ops listed).contains i=true)
 (hQ:∀c a w,Q (.panic c) (a.put (some d) v) w->Q (.panic c) a w)
 (hW:(List.range ops.size).all (fun j=>waits md ops i j||Wf j)=true)(hw:Region.wanted oi (yielded ops a.tmps)=true)(hy:∀w,S w->(execOp a.eval oi).run P w=.ok (.value v) w)(hS:S w)
 (h:AnyT P md ops Q T fuel (listed.setIfInBounds i true) (a.put (some d) v) w):AnyT P md ops Q T (fuel+1) listed a w:=
 AnyT.take hi hs hf hr (by rw[hd];exact hQ) (fun j hj w hT'=>hT j w hT' (by
  by_cases e:j<ops.size
  ·have:=List.all_eq_true.1 hW j (List.mem_range.2 e)
   rw[hj]at this;simpa using this
  ·unfold waits at hj;rw[Array.getElem?_eq_none (by omega)]at hj;cases hj)) hTi (.inl ⟨hw,hy⟩) hS (by rw[hd];exact h)
end
end Go.Proofs.YtlffndehhhpgjaaGreat
