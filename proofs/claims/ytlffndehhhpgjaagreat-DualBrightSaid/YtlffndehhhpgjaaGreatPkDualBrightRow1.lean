/- Walks and plain laws for DualBrightRow, part 1. -/

namespace Go.Proofs.YtlffndehhhpgjaaGreat
set_option linter.unusedVariables false
set_option linter.unusedSimpArgs false
set_option maxRecDepth 100000
set_option maxHeartbeats 4000000
open _root_.List renaming getElem?_eq_getElem → yAA, getElem?_cons_zero → yAD, getElem_mem → yAH, mem_iff_getElem → yAM, length_append → yAN, getElem?_append_left → yAO, getElem?_append_right → yAQ, length_map → yAS, length_take → yAU, getElem?_eq_none → yAY, getElem?_map → yAZ, length_cons → yBB, pairwise_iff_getElem → yBI, mem_map → yBJ, mem_of_getElem? → yBM, mem_cons → yBP, range_succ → yBQ, append_assoc → yBZ, ext_getElem → yCC, mem_range → yCH, getElem?_set_ne → yCI, getElem?_take_of_lt → yCN, foldl_append → yCO, pairwise_cons → yCQ, mem_append → yCU, length_singleton → yDB, length_drop → yDF, getElem?_set_self → yDK, mem_filter → yDM, getElem?_replicate → yDV, nodup_cons → yET, getElem_drop → yFF, map_cons → yFS, getElem?_set → yFT, mem_drop_iff_getElem → yGD, map_congr_left → yGJ, findIdx?_eq_some_iff_getElem → yGT
open _root_.Nat renaming le_refl → yAC, le_trans → yAF, zero_le → yAK, lt_or_ge → yAP, mul_le_mul → yAV, zero_add → yAW, eq_zero_or_pos → yBR, add_zero → yDS, le_mul_of_pos_left → yEB, add_sub_cancel → yEY, mul_le_mul_right → yFB, lt_trichotomy → yFQ, eq_of_mul_eq_mul_left → yGC, div_mul_cancel → yGQ
open _root_.Int renaming natAbs_mul → yAR, eq_of_mul_eq_mul_left → yBE, mul_pos → yBN, lt_trichotomy → yBS, mul_comm → yBV, mul_nonneg → yBY, mul_ne_zero → yCE, mul_neg_of_pos_of_neg → yCM, natCast_mul → yCP, le_refl → yDE, natAbs_dvd_natAbs → yDT, mul_eq_zero → yDW, toNat_natCast → yEG, mul_assoc → yER, gcd_pos_of_ne_zero_left → yEV, mul_tdiv_cancel' → yFC, gcd_dvd_right → yFG, dvd_refl → yFI, gcd_dvd_left → yFK, ofNat_dvd_left → yFO, dvd_trans → yFW, eq_of_mul_eq_mul_right → yGA, mul_neg → yGL
open _root_.Option renaming getD_some → yBA, map_some → yFD
section
theorem exq{α:Sort _}(a:α):∃x,x=a:=⟨a,rfl⟩
end
section
section
def ex{α:Type}(c:α->Int)(f:List α->Int):List α->Int
 | []=>0
 |r::rs=>c r*f rs-ex c (fun l=>f (r::l)) rs
theorem ex_zero{α:Type}(c:α->Int):∀l:List α,ex c (fun _=>0) l=0
 | []=>rfl
 |r::rs=>by unfold ex;rw[ex_zero c rs];simp
theorem ex_sub{α:Type}(c:α->Int):∀(l:List α) (f g:List α->Int),ex c (fun m=>f m-g m) l=ex c f l-ex c g l
 | [],_,_=>by simp[ex]
 |r::rs,f,g=>by
  unfold ex
  rw[ex_sub c rs (fun l=>f (r::l)) (fun l=>g (r::l))]
  grind
theorem ex_mul{α:Type}(c:α->Int)(k:Int):∀(l:List α) (f:List α->Int),ex c (fun m=>k*f m) l=k*ex c f l
 | [],_=>by simp[ex]
 |r::rs,f=>by
  unfold ex
  rw[ex_mul c k rs (fun l=>f (r::l))]
  grind
theorem zRJ{α:Type}(c d:α->Int):∀(l:List α) (f:List α->Int),ex c (ex d f) l= -ex d (ex c f) l
 | [],_=>by simp[ex]
 |r::rs,f=>by
  have h1:ex c (fun l=>ex d f (r::l)) rs=d r*ex c f rs-ex c (ex d (fun m=>f (r::m))) rs:=by
   have:(fun l=>ex d f (r::l))=fun l=>d r*f l-ex d (fun m=>f (r::m)) l:=by funext l;rfl
   rw[this,ex_sub c rs (fun l=>d r*f l) (fun l=>ex d (fun m=>f (r::m)) l),ex_mul]
  have h2:ex d (fun l=>ex c f (r::l)) rs=c r*ex d f rs-ex d (ex c (fun m=>f (r::m))) rs:=by
   have:(fun l=>ex c f (r::l))=fun l=>c r*f l-ex c (fun m=>f (r::m)) l:=by funext l;rfl
   rw[this,ex_sub d rs (fun l=>c r*f l) (fun l=>ex c (fun m=>f (r::m)) l),ex_mul]
  have ih:=zRJ c d rs (fun m=>f (r::m))
  show c r*ex d f rs-ex c (fun l=>ex d f (r::l)) rs= -(d r*ex c f rs-ex d (fun l=>ex c f (r::l)) rs)
  rw[h1,h2,ih]
  omega
theorem ex_same{α:Type}(c:α->Int)(f:List α->Int)(l:List α):ex c (ex c f) l=0:=by
 have:=zRJ c c l f;omega
def det{α:Type}:List (α->Int)->List α->Int
 | [],_=>1
 |c::cs,l=>ex c (det cs) l
theorem det_rep{α:Type}{c:α->Int}:∀{cs:List (α->Int)},c∈cs->∀l:List α,det (c::cs) l=0
 |d::ds,h,l=>by
  rcases yBP.1 h with rfl|h
  ·exact ex_same _ _ _
  ·show ex c (ex d (det ds)) l=0
   rw[zRJ]
   have:ex c (det ds)=fun _=>0:=by funext m;exact det_rep h m
   rw[this,ex_zero];rfl
def dotL{α:Type}:List Int->(α->Int)->List α->Int
 |k::ks,c,r::rs=>k*c r+dotL ks c rs
 |_,_,_=>0
theorem dotL_neg{α:Type}(c:α->Int):∀(ks:List Int) (l:List α),dotL (ks.map (- ·)) c l= -dotL ks c l
 | [],l=>by cases l<;>simp[dotL]
 |k::ks,[]=>by simp[dotL]
 |k::ks,r::rs=>by simp only[yFS,dotL];rw[dotL_neg c ks rs];grind
theorem ex_sum{α:Type}:∀(l:List α) (f:List α->Int),∃ks:List Int,ks.length=l.length∧(∀r rs,l=r::rs->ks.head? =some (f rs))∧∀c,ex c f l=dotL ks c l
 | [],f=>⟨[],rfl,(fun _ _ h=>by cases h),fun c=>rfl⟩
 |r::rs,f=>by
  obtain⟨ks,h1,_,h3⟩:=ex_sum rs (fun l=>f (r::l))
  refine⟨f rs::ks.map (- ·),by simp[h1],(fun r' rs' e=>by cases e;rfl),fun c=>?_⟩
  unfold ex dotL
  rw[h3 c,dotL_neg]
  grind
def fact:Nat->Nat
 |0=>1
 |n+1=>(n+1)*fact n
theorem zLE{a b A B:Int}(h1: -A<=a∧a<=A)(h2: -B<=b∧b<=B): -(A*B)<=a*b∧a*b<=A*B:=by
 have ha:a.natAbs<=A.toNat:=by omega
 have hb:b.natAbs<=B.toNat:=by omega
 have h:=yAV ha hb
 rw[<- yAR]at h
 have e:((A.toNat*B.toNat:Nat):Int)=A*B:=by
  rw[yCP,Int.toNat_of_nonneg (by omega),Int.toNat_of_nonneg (by omega)]
 omega
theorem ex_le{α:Type}{c:α->Int}{C:Int}(hc:∀r,-C<=c r∧c r<=C):∀(n:Nat) (F:Int) (f:List α->Int) (l:List α),l.length=n+1->(∀m:List α,m.length=n-> -F<=f m∧f m<=F)->
 -((n+1:Nat)*(C*F))<=ex c f l∧ex c f l<=(n+1:Nat)*(C*F)
 |0,F,f,[r],_,hf=>by
  have:=zLE (hc r) (hf [] rfl)
  simp[ex];omega
 |n+1,F,f,r::rs,hl,hf=>by
  have hl':rs.length=n+1:=by simpa using hl
  have h1:=zLE (hc r) (hf rs hl')
  have h2:=ex_le hc n F (fun l=>f (r::l)) rs hl' (fun m hm=>hf (r::m) (by simp[hm]))
  unfold ex
  have e:((n+1+1:Nat):Int)*(C*F)=(n+1:Nat)*(C*F)+C*F:=by
   generalize C*F=K
   push_cast
   grind
  rw[e]
  omega
theorem det_le{α:Type}:∀(cs:List (α->Int)),(∀c∈cs,∀r,-1<=c r∧c r<=1)->∀l:List α,l.length=cs.length-> -(fact cs.length:Int)<=det cs l∧det cs l<=fact cs.length
 | [],_,l,_=>by simp[det,fact]
 |c::cs,hc,l,hl=>by
  have h:=ex_le (hc c (by simp)) cs.length (fact cs.length) (det cs) l (by simpa using hl) (fun m hm=>det_le cs (fun d hd=>hc d (by simp[hd])) m hm)
  show _<=ex c (det cs) l∧ex c (det cs) l<=_
  simp only[yBB,fact]
  rw[yCP]
  simpa using h
theorem det_le2{α:Type}{c:α->Int}{Y:Int}(hY:∀r,-Y<=c r∧c r<=Y)(cs:List (α->Int))(hc:∀c∈cs,∀r,-1<=c r∧c r<=1)(l:List α)(hl:l.length=cs.length+1):
 -((cs.length+1:Nat)*(Y*fact cs.length))<=det (c::cs) l∧det (c::cs) l<=(cs.length+1:Nat)*(Y*fact cs.length):=
 ex_le hY cs.length (fact cs.length) (det cs) l hl (fun m hm=>det_le cs hc m hm)
end
section
abbrev Vec:=Nat->Int
inductive Sp (B:Vec->Prop):Vec->Prop
 |of {v:Vec}:B v->Sp B v
 |zero:Sp B (fun _=>0)
 |add {u v:Vec}:Sp B u->Sp B v->Sp B (fun c=>u c+v c)
 |mul (k:Int) {u:Vec}:Sp B u->Sp B (fun c=>k*u c)
 |div {k:Int} {u:Vec}:k≠0->Sp B (fun c=>k*u c)->Sp B u
theorem Sp.congr{B:Vec->Prop}{u v:Vec}(h:Sp B u)(e:∀c,v c=u c):Sp B v:=by
 have:v=u:=funext e
 rw[this];exact h
theorem Sp.trans{B B':Vec->Prop}(hB:∀v,B v->Sp B' v){v:Vec}(h:Sp B v):Sp B' v:=by
 induction h with
 |of h=>exact hB _ h
 |zero=>exact .zero
 |add _ _ h1 h2=>exact .add h1 h2
 |mul k _ h=>exact .mul k h
 |div hk _ h=>exact .div hk h
theorem Sp.lin{B:Vec->Prop}{u v:Vec}(x y:Int)(hu:Sp B u)(hv:Sp B v):Sp B (fun c=>x*u c+y*v c):=.add (.mul x hu) (.mul y hv)
theorem Sp.of_eq{B:Vec->Prop}{u v w:Vec}{n x y:Int}(hn:n≠0)(hu:Sp B u)(hw:Sp B w)(e:∀c,n*v c=x*u c+y*w c):Sp B v:=
 .div hn ((Sp.lin x y hu hw).congr e)
def sm(f:Nat->Int):Nat->Int
 |0=>0
 |n+1=>sm f n+f n
theorem zAS{f g:Nat->Int}:∀{n:Nat},(∀k,k<n->f k=g k)->sm f n=sm g n
 |0,_=>rfl
 |n+1,h=>by unfold sm;rw[zAS (fun k hk=>h k (by omega)),h n (by omega)]
theorem zGK:∀n,sm (fun _=>0) n=0
 |0=>rfl
 |n+1=>by unfold sm;rw[zGK n];rfl
theorem zLK(f g:Nat->Int):∀n,sm (fun k=>f k+g k) n=sm f n+sm g n
 |0=>rfl
 |n+1=>by unfold sm;rw[zLK f g n];omega
theorem zED(x:Int)(f:Nat->Int):∀n,sm (fun k=>x*f k) n=x*sm f n
 |0=>by simp[sm]
 |n+1=>by unfold sm;rw[zED x f n];grind
theorem zEA{f:Nat->Int}{q:Nat}:∀{n:Nat},q<n->(∀k,k<n->k≠q->f k=0)->sm f n=f q
 |n+1,hq,h=>by
  unfold sm
  by_cases e:q=n
  ·subst e
   rw[zAS (g:=fun _=>0) (fun k hk=>h k (by omega) (by omega)),zGK];omega
  ·rw[zEA (show q<n by omega) (fun k hk hne=>h k (by omega) hne),h n (by omega) (by omega)];omega
theorem zQB:∀(K:Nat) (x:Nat->Int),(∀k,k<K->x k≠0)->∃D:Int,D≠0∧∃e:Nat->Int,∀k,k<K->e k*x k=D
 |0,_,_=>⟨1,by decide,fun _=>0,fun k hk=>by omega⟩
 |K+1,x,h=>by
  obtain⟨D,hD,e,he⟩:=zQB K x (fun k hk=>h k (by omega))
  refine⟨D*x K,yCE hD (h K (by omega)),fun k=>if k=K then D else e k*x K,fun k hk=>?_⟩
  by_cases c:k=K
  ·subst c;simp
  ·simp only[if_neg c];rw[<- he k (by omega)];grind
def RB(K:Nat)(R:Nat->Vec)(v:Vec):Prop:=∃k,k<K∧v=R k
structure Red (K:Nat) (J:Nat->Nat) (R:Nat->Vec):Prop where
 piv:∀k,k<K->R k (J k)≠0
 off:∀k,k<K->∀q,q<K->k≠q->R k (J q)=0
theorem Red.repr{K:Nat}{J:Nat->Nat}{R:Nat->Vec}(h:Red K J R):∃D:Int,D≠0∧∃e:Nat->Int,∀v,Sp (RB K R) v->∀c,D*v c=sm (fun k=>v (J k)*e k*R k c) K:=by
 obtain⟨D,hD,e,he⟩:=zQB K (fun k=>R k (J k)) h.piv
 refine⟨D,hD,e,fun v hv=>?_⟩
 induction hv with
 |of hb=>
  obtain⟨q,hq,rfl⟩:=hb
  intro c
  rw[zEA hq (fun k hk hne=>by rw[h.off q hq k hk (Ne.symm hne)];simp),<- he q hq]
  grind
 |zero=>intro c;rw[zAS (g:=fun _=>0) (fun k _=>by simp),zGK];simp
 |add _ _ h1 h2=>intro c;rw[Int.mul_add,h1,h2,<- zLK];exact zAS fun k _=>by grind
 |mul x _ h1=>
  intro c
  rw[Int.mul_left_comm,h1,<- zED]
  exact zAS fun k _=>by grind
 | @div x u hx _ h1=>
   intro c
   refine yBE hx ?_
   rw[<- zED]
   have:=h1 c
   rw[show x*(D*u c)=D*(x*u c)by grind,this]
   exact zAS fun k _=>by grind
theorem Red.zero{K:Nat}{J:Nat->Nat}{R:Nat->Vec}(h:Red K J R){v:Vec}(hv:Sp (RB K R) v)(h0:∀k,k<K->v (J k)=0)(c:Nat):v c=0:=by
 obtain⟨D,hD,e,hr⟩:=h.repr
 have:=hr v hv c
 rw[zAS (g:=fun _=>0) (fun k hk=>by rw[h0 k hk];simp),zGK]at this
 rcases yDW.1 this with h|h
 ·exact absurd h hD
 ·exact h
theorem RB.sp{K:Nat}{R:Nat->Vec}{k:Nat}(hk:k<K):Sp (RB K R) (R k):=.of ⟨k,hk,rfl⟩
theorem Red.ratio{K:Nat}{J:Nat->Nat}{R:Nat->Vec}(h:Red K J R){v:Vec}(hv:Sp (RB K R) v){p:Nat}(hp:p<K)(h0:∀q,q<K->q≠p->v (J q)=0)(c:Nat):R p (J p)*v c=v (J p)*R p c:=by
 have hd:Sp (RB K R) (fun c=>R p (J p)*v c+ -(v (J p))*R p c):=Sp.lin _ _ hv (RB.sp hp)
 have:=h.zero hd (fun k hk=>by
  by_cases e:k=p
  ·subst e;grind
  ·rw[h0 k hk e,h.off p hp k hk (Ne.symm e)];simp) c
 grind
def zDB:Nat->List Nat
 |0=>[]
 |k+1=>k::zDB k
theorem zFK:∀K,(zDB K).length=K
 |0=>rfl
 |K+1=>by simp[zDB,zFK K]
theorem zJO:∀{K k:Nat},k∈zDB K↔k<K
 |0,k=>by simp[zDB]
 |K+1,k=>by simp only[zDB,yBP,zJO];omega
def zDH(J:Nat->Nat)(A:Nat->Vec):Nat->List (Nat->Int)
 |0=>[]
 |k+1=>(fun r=>A r (J k))::zDH J A k
theorem zDP(J:Nat->Nat)(A:Nat->Vec):∀K,(zDH J A K).length=K
 |0=>rfl
 |K+1=>by simp[zDH,zDP J A K]
theorem zGF{J:Nat->Nat}{A:Nat->Vec}:∀{K:Nat} {x:Nat->Int},x∈zDH J A K↔∃k,k<K∧x=fun r=>A r (J k)
 |0,x=>by simp[zDH]
 |K+1,x=>by
  simp only[zDH,yBP,zGF]
  constructor
  ·rintro (rfl|⟨k,hk,rfl⟩)
   ·exact⟨K,by omega,rfl⟩
   ·exact⟨k,by omega,rfl⟩
  ·rintro⟨k,hk,rfl⟩
   by_cases e:k=K
   ·subst e;exact .inl rfl
   ·exact .inr ⟨k,by omega,rfl⟩
theorem det_map{α β:Type}(f:α->β):∀(cs:List (β->Int)) (l:List α),det (cs.map (fun c a=>c (f a))) l=det cs (l.map f)
 | [],l=>rfl
 |c::cs,l=>by
  have key:∀(l:List α) (F:List α->Int) (G:List β->Int),(∀m,F m=G (m.map f))->ex (fun a=>c (f a)) F l=ex c G (l.map f):=by
   intro l
   induction l with
   |nil=>intro F G h;rfl
   |cons r rs ih=>
    intro F G h
    show c (f r)*F rs-ex (fun a=>c (f a)) (fun l=>F (r::l)) rs=c (f r)*G (rs.map f)-ex c (fun l=>G (f r::l)) (rs.map f)
    rw[h rs,ih (fun l=>F (r::l)) (fun l=>G (f r::l)) (fun m=>h (r::m))]
  exact key l _ _ (fun m=>det_map f cs m)
theorem dotL_sp{B:Vec->Prop}{A:Nat->Vec}:∀(l:List Nat) (ks:List Int),(∀r∈l,Sp B (A r))->Sp B (fun c=>dotL ks (fun r=>A r c) l)
 | [],ks,_=>by cases ks<;>exact .zero
 |r::rs,[],_=>.zero
 |r::rs,k::ks,h=>by
  refine Sp.congr (.add (.mul k (h r (by simp))) (dotL_sp rs ks (fun x hx=>h x (by simp[hx])))) fun c=>?_
  rfl
structure Stage (K N:Nat) (J:Nat->Nat) (R A:Nat->Vec):Prop where
 le:K<=N
 d0:det (zDH J A K) (zDB K)≠0
 low:∀i,K<=i->i<N->(∀k,k<K->R i (J k)=0)∧∃t s:Int,t≠0∧s≠0∧Sp (RB K A) (fun c=>t*R i c+s*A i c)
 up:∀p,p<K->Sp (RB K A) (R p)
 red:Red K J R
 org:∀p,p<K->Sp (RB K R) (A p)
theorem Stage.start(N:Nat)(J:Nat->Nat)(A:Nat->Vec):Stage 0 N J A A:=
 ⟨yAK _,by simp[zDH,det],fun i _ _=>⟨fun k hk=>by omega,1,-1,by decide,by decide,Sp.zero.congr fun c=>by grind⟩,fun p hp=>by omega,⟨fun k hk=>by omega,fun k hk=>by omega⟩,fun p hp=>by omega⟩
def minorL(K:Nat)(J:Nat->Nat)(A:Nat->Vec)(i:Nat)(c:Nat):Int:=det ((fun r=>A r c)::zDH J A K) (i::zDB K)
theorem Stage.minor{K N:Nat}{J:Nat->Nat}{R A:Nat->Vec}(h:Stage K N J R A){i:Nat}(h1:K<=i)(h2:i<N):
 ∃x y:Int,x≠0∧y≠0∧∀c,x*R i c=y*minorL K J A i c:=by
 obtain⟨hz,t,s,ht,hs,hsp⟩:=h.low i h1 h2
 obtain⟨ks,hl,hh,hk⟩:=ex_sum (i::zDB K) (det (zDH J A K))
 have hh0:=hh i (zDB K) rfl
 match ks,hl,hh0,hk with
 |k0::ks,hl,hh0,hk=>
  have hk0:k0=det (zDH J A K) (zDB K):=by simpa using hh0
  have hd:k0≠0:=by rw[hk0];exact h.d0
  have hm:∀c,minorL K J A i c=k0*A i c+dotL ks (fun r=>A r c) (zDB K):=fun c=>hk (fun r=>A r c)
  -- k0 t R i+s D i
  have hv:Sp (RB K A) (fun c=>k0*(t*R i c+s*A i c)+s*dotL ks (fun r=>A r c) (zDB K)):=
   Sp.lin k0 s hsp (dotL_sp (zDB K) ks fun r hr=>RB.sp (zJO.1 hr))
  have hv':=hv.trans (B':=RB K R) (fun v ⟨p,hp,e⟩=>e▸h.org p hp)
  have h0:=h.red.zero hv' (fun k hk'=>by
   have e1:=hz k hk'
   have e2:minorL K J A i (J k)=0:=det_rep (zGF.2 ⟨k,hk',rfl⟩) _
   have e3:=hm (J k)
   rw[e2]at e3
   rw[e1]
   grind)
  refine⟨k0*t,-s,yCE hd ht,by omega,fun c=>?_⟩
  have:=h0 c
  rw[hm c]
  grind
 | [],hl,_,_=>simp at hl
def zBV(J:Nat->Nat)(A:Nat->Vec)(p:Nat):Nat->List (Nat->Int)
 |0=>[]
 |k+1=>if k=p then zBV J A p k else(fun r=>A r (J k))::zBV J A p k
theorem zHL{J:Nat->Nat}{A:Nat->Vec}{p:Nat}:∀{K k:Nat},k<K->k≠p->(fun r=>A r (J k))∈zBV J A p K
 |K+1,k,hk,hne=>by
  unfold zBV
  by_cases e:K=p
  ·rw[if_pos e];exact zHL (by omega) hne
  ·rw[if_neg e]
   by_cases e2:k=K
   ·subst e2;simp
   ·exact List.mem_cons_of_mem _ (zHL (by omega) hne)
theorem zEB{J:Nat->Nat}{A:Nat->Vec}{p:Nat}:∀{K:Nat} {x:Nat->Int},x∈zBV J A p K->∃k,k<K∧x=fun r=>A r (J k)
 |0,x,h=>by simp[zBV]at h
 |K+1,x,h=>by
  unfold zBV at h
  by_cases e:K=p
  ·rw[if_pos e]at h
   obtain⟨k,hk,rfl⟩:=zEB h;exact⟨k,by omega,rfl⟩
  ·rw[if_neg e]at h
   rcases yBP.1 h with rfl|h
   ·exact⟨K,by omega,rfl⟩
   ·obtain⟨k,hk,rfl⟩:=zEB h;exact⟨k,by omega,rfl⟩
theorem zNF{J:Nat->Nat}{A:Nat->Vec}{p:Nat}:∀{K:Nat},K<=p->zBV J A p K=zDH J A K
 |0,_=>rfl
 |K+1,h=>by unfold zBV zDH;rw[if_neg (by omega),zNF (by omega)]
theorem zGO{J:Nat->Nat}{A:Nat->Vec}{p:Nat}:∀{K:Nat},p<K->(∃s:Int,(s=1∨s= -1)∧∀l,det (zDH J A K) l=s*det ((fun r=>A r (J p))::zBV J A p K) l)∧(zBV J A p K).length+1=K
 |K+1,h=>by
  by_cases e:p=K
  ·subst e
   unfold zBV
   rw[if_pos rfl,zNF (yAC _)]
   exact⟨⟨1,.inl rfl,fun l=>by rw[Int.one_mul];rfl⟩,by rw[zDP]⟩
  ·obtain⟨⟨s,hs,hl⟩,hn⟩:=zGO (K:=K) (A:=A) (J:=J) (show p<K by omega)
   unfold zBV
   rw[if_neg (by omega)]
   refine⟨⟨-s,by omega,fun l=>?_⟩,by simp;omega⟩
   show ex (fun r=>A r (J K)) (det (zDH J A K)) l= -s*ex (fun r=>A r (J p)) (ex (fun r=>A r (J K)) (det (zBV J A p K))) l
   have:det (zDH J A K)=fun m=>s*det ((fun r=>A r (J p))::zBV J A p K) m:=funext hl
   rw[this,ex_mul,zRJ (fun r=>A r (J p))]
   show s*ex (fun r=>A r (J K)) (ex (fun r=>A r (J p)) (det (zBV J A p K))) l=_
   grind
def minorU(K:Nat)(J:Nat->Nat)(A:Nat->Vec)(p:Nat)(c:Nat):Int:=det ((fun r=>A r c)::zBV J A p K) (zDB K)
theorem Stage.minorU{K N:Nat}{J:Nat->Nat}{R A:Nat->Vec}(h:Stage K N J R A){p:Nat}(hp:p<K):
 (∃s:Int,(s=1∨s= -1)∧minorU K J A p (J p)=s*det (zDH J A K) (zDB K))∧∀c,R p (J p)*Go.Proofs.YtlffndehhhpgjaaGreat.minorU K J A p c=Go.Proofs.YtlffndehhhpgjaaGreat.minorU K J A p (J p)*R p c:=by
 obtain⟨⟨s,hs,hl⟩,hn⟩:=zGO (J:=J) (A:=A) hp
 refine⟨⟨s,hs,?_⟩,?_⟩
 ·have:=hl (zDB K)
  show det ((fun r=>A r (J p))::zBV J A p K) (zDB K)=_
  rw[this]
  rcases hs with rfl|rfl<;>grind
 ·obtain⟨ks,_,_,hk⟩:=ex_sum (zDB K) (det (zBV J A p K))
  have hv:Sp (RB K A) (Go.Proofs.YtlffndehhhpgjaaGreat.minorU K J A p):=(dotL_sp (zDB K) ks fun r hr=>RB.sp (zJO.1 hr)).congr fun c=>hk _
  have hv':=hv.trans (B':=RB K R) (fun v ⟨q,hq,e⟩=>e▸h.org q hq)
  exact h.red.ratio hv' hp (fun q hq hne=>det_rep (zHL hq hne) _)
structure Step (K N i j:Nat) (pi:Nat->Nat) (R R' A A':Nat->Vec):Prop where
 lo:K<=i
 hi:i<N
 ne:R i j≠0
 orgs:∀q,A' q=A (pi q)
 fix:∀q,q<K->pi q=q
 at':pi K=i
 rest:∀q,K<q->q<N->K<=pi q∧pi q<N
 surj:∀m,m<N->∃q,q<N∧pi q=m
 pivot:∃z:Int,z≠0∧∀c,R' K c=z*R i c
 other:∀q,q<N->q≠K->R' q j=0∧∃x y g:Int,x≠0∧g≠0∧∀c,g*R' q c=x*R (pi q) c+y*R i c
theorem zAU{g x:Int}(hg:g≠0)(h:g*x=0):x=0:=(yDW.1 h).resolve_left hg
theorem Stage.step{K N i j:Nat}{J:Nat->Nat}{pi:Nat->Nat}{R R' A A':Nat->Vec}(h:Stage K N J R A)(s:Step K N i j pi R R' A A')(J':Nat->Nat)(hJ:∀k,k<K->J' k=J k)(hJK:J' K=j):Stage (K+1) N J' R' A':=by
 obtain⟨hzi,ti,si,hti,hsi,hspi⟩:=h.low i s.lo s.hi
 obtain⟨z,hz,hzR⟩:=s.pivot
 have hiK:K<N:=Nat.lt_of_le_of_lt s.lo s.hi
 have hpiv:∀q,q<N->q≠K->∀k,k<K->R (pi q) (J k)=0->R' q (J k)=0:=by
  intro q hq hne k hk h0
  obtain⟨_,x,y,g,hx,hg,e⟩:=s.other q hq hne
  refine zAU hg ?_
  rw[e,h0,hzi k hk];simp
 have subA:∀v,RB K A v->Sp (RB (K+1) A') v:=by
  rintro v ⟨p,hp,rfl⟩
  have:A p=A' p:=by rw[s.orgs,s.fix p hp]
  rw[this];exact RB.sp (by omega)
 have hAi:Sp (RB (K+1) A') (A i):=by
  have:A i=A' K:=by rw[s.orgs,s.at']
  rw[this];exact RB.sp (by omega)
 -- R i lies in the span of the new first rows
 have hRi:Sp (RB (K+1) A') (R i):=by
  refine Sp.of_eq (n:=ti) (x:=1) (y:= -si) hti (hspi.trans subA) hAi fun c=>?_
  grind
 have hRi':Sp (RB (K+1) R') (R i):=Sp.div hz ((RB.sp (by omega:K<K+1)).congr fun c=>(hzR c).symm)
 have hRk':∀v,RB K R v->Sp (RB (K+1) R') v:=by
  rintro v ⟨k,hk,rfl⟩
  obtain⟨_,x,y,g,hx,hg,e⟩:=s.other k (by omega) (by omega)
  rw[s.fix k hk]at e
  refine Sp.of_eq (n:=x) (x:=g) (y:= -y) hx (RB.sp (by omega:k<K+1)) hRi' fun c=>?_
  have:=e c
  grind
 refine⟨by omega,?_,?_,?_,⟨?_,?_⟩,?_⟩
 ·-- the determinant
  obtain⟨x,y,hx,hy,hm⟩:=h.minor s.lo s.hi
  have hmj:=hm j
  have hpc:∀k,k<=K->zDH J' A' k=(zDH J A k).map (fun c a=>c (pi a)):=by
   intro k
   induction k with
   |zero=>intro _;rfl
   |succ k ih=>
    intro hk
    show(fun r=>A' r (J' k))::zDH J' A' k=(fun a=>A (pi a) (J k))::(zDH J A k).map (fun c a=>c (pi a))
    rw[ih (by omega),hJ k (by omega)]
    congr 1
    funext r
    rw[s.orgs]
  have e:det (zDH J' A' (K+1)) (zDB (K+1))=minorL K J A i j:=by
   show det ((fun r=>A' r (J' K))::zDH J' A' K) (K::zDB K)=det ((fun r=>A r j)::zDH J A K) (i::zDB K)
   have e1:(fun r=>A' r (J' K))::zDH J' A' K=((fun r=>A r j)::zDH J A K).map (fun c a=>c (pi a)):=by
    rw[hpc K (yAC _),hJK]
    show _=(fun a=>A (pi a) j)::_
    congr 1
    funext r
    rw[s.orgs]
   have e2:i::zDB K=(K::zDB K).map pi:=by
    have:(zDB K).map pi=zDB K:=by
     conv=>rhs;rw[<- List.map_id (zDB K)]
     exact yGJ fun q hq=>s.fix q (zJO.1 hq)
    rw[yFS,s.at',this]
   rw[e1,e2,det_map]
  rw[e]
  intro h0
  rw[h0]at hmj
  exact s.ne (zAU hx (by rw[hmj];simp))
 ·intro q h1 h2
  obtain⟨hj0,x,y,g,hx,hg,e⟩:=s.other q h2 (by omega)
  obtain⟨r1,r2⟩:=s.rest q (by omega) h2
  obtain⟨hzq,t,sq,ht,hsq,hspq⟩:=h.low (pi q) r1 r2
  refine⟨fun k hk=>?_,g*t*ti,ti*x*sq,yCE (yCE hg ht) hti,yCE (yCE hti hx) hsq,?_⟩
  ·by_cases c:k=K
   ·subst c;rw[hJK];exact hj0
   ·rw[hJ k (by omega)];exact hpiv q h2 (by omega) k (by omega) (hzq k (by omega))
  ·have h3:=Sp.add (Sp.mul (ti*x) (hspq.trans subA)) (Sp.mul (t*ti*y) hRi)
   refine h3.congr fun c=>?_
   have:=e c
   rw[s.orgs q]
   grind
 ·intro p hp
  by_cases c:p=K
  ·subst c
   exact(Sp.mul z hRi).congr hzR
  ·obtain⟨_,x,y,g,hx,hg,e⟩:=s.other p (by omega) c
   rw[s.fix p (by omega)]at e
   exact Sp.of_eq (n:=g) (x:=x) (y:=y) hg ((h.up p (by omega)).trans subA) hRi e
 ·intro k hk
  by_cases c:k=K
  ·subst c
   rw[hJK,hzR]
   exact yCE hz s.ne
  ·obtain⟨_,x,y,g,hx,hg,e⟩:=s.other k (by omega) c
   rw[s.fix k (by omega)]at e
   rw[hJ k (by omega)]
   intro h0
   have:=e (J k)
   rw[h0,hzi k (by omega)]at this
   have h1:=h.red.piv k (by omega)
   have:x*R k (J k)=0:=by grind
   exact h1 (zAU hx this)
 ·intro k hk q hq hne
  by_cases c:k=K
  ·subst c
   rw[hzR,hJ q (by omega),hzi q (by omega)];simp
  ·by_cases c2:q=K
   ·subst c2
    rw[hJK];exact(s.other k (by omega) c).1
   ·rw[hJ q (by omega)]
    exact hpiv k (by omega) c q (by omega) (by rw[s.fix k (by omega)];exact h.red.off k (by omega) q (by omega) hne)
 ·intro p hp
  by_cases c:p=K
  ·subst c
   rw[s.orgs,s.at']
   have h1:Sp (RB (p+1) R') (fun c=>ti*R i c+si*A i c):=(hspi.trans (B':=RB p R) (fun v ⟨q,hq,e⟩=>e▸h.org q hq)).trans hRk'
   refine Sp.of_eq (n:=si) (x:=1) (y:= -ti) hsi h1 hRi' fun c=>?_
   grind
  ·rw[s.orgs,s.fix p (by omega)]
   exact(h.org p (by omega)).trans hRk'
end
section
def Prim(V:Vec):Prop:=∀g:Int,(∀c,g∣V c)->g∣1
theorem zMD{V W:Vec}{x y:Int}(hx:x≠0)(h:∀c,x*V c=y*W c)(hp:Prim V)(c:Nat):(V c).natAbs<=(W c).natAbs:=by
 have hg:0<Nat.gcd x.natAbs y.natAbs:=Nat.gcd_pos_of_pos_left _ (by omega)
 obtain⟨g,hge⟩:=exq (Nat.gcd x.natAbs y.natAbs)
 have e1:x.natAbs/g*g=x.natAbs:=by rw[hge];exact yGQ (Nat.gcd_dvd_left _ _)
 have e2:y.natAbs/g*g=y.natAbs:=by rw[hge];exact yGQ (Nat.gcd_dvd_right _ _)
 have hco:Nat.Coprime (x.natAbs/g) (y.natAbs/g):=by rw[hge]at*;exact Nat.coprime_div_gcd_div_gcd hg
 rw[<- hge]at hg
 have hn:∀c,x.natAbs/g*(V c).natAbs=y.natAbs/g*(W c).natAbs:=by
  intro c
  have h1:x.natAbs*(V c).natAbs=y.natAbs*(W c).natAbs:=by rw[<- yAR,<- yAR,h c]
  rw[<- e1,<- e2]at h1
  refine yGC hg ?_
  rw[<- Nat.mul_assoc,<- Nat.mul_assoc,Nat.mul_comm g,Nat.mul_comm g]
  exact h1
 have hd:∀c,((y.natAbs/g:Nat):Int)∣V c:=by
  intro c
  refine yFO.2 ?_
  refine Nat.Coprime.dvd_of_dvd_mul_left hco.symm (m:=x.natAbs/g) ?_
  rw[hn c];exact Nat.dvd_mul_right _ _
 have h1:y.natAbs/g=1:=by
  have:=hp _ hd
  have:=yFO.1 this
  exact Nat.dvd_one.1 this
 have h2:=hn c
 rw[h1,Nat.one_mul]at h2
 have h3:0<x.natAbs/g:=by
  rcases yBR (x.natAbs/g)with h|h
  ·rw[h]at e1;omega
  ·exact h
 rw[<- h2]
 exact yEB _ h3
theorem zLN{a B:Int}(h: -B<=a∧a<=B):a.natAbs<=B.toNat:=by omega
theorem Stage.low_le{K N:Nat}{J:Nat->Nat}{R A:Nat->Vec}(h:Stage K N J R A)(h1:∀k,k<K->∀r,-1<=A r (J k)∧A r (J k)<=1){i:Nat}(hi1:K<=i)(hi2:i<N)(hp:Prim (R i))
 {c:Nat}{Y:Int}(hY:∀r,-Y<=A r c∧A r c<=Y):(R i c).natAbs<=((K+1:Nat)*(Y*fact K)).toNat:=by
 obtain⟨x,y,hx,_,e⟩:=h.minor hi1 hi2
 refine yAF (zMD hx e hp c) (zLN ?_)
 have:=det_le2 (c:=fun r=>A r c) hY (zDH J A K) (fun d hd r=>by obtain⟨k,hk,rfl⟩:=zGF.1 hd;exact h1 k hk r) (i::zDB K) (by simp[zDP,zFK])
 rw[zDP]at this
 exact this
theorem Stage.up_le{K N:Nat}{J:Nat->Nat}{R A:Nat->Vec}(h:Stage K N J R A)(h1:∀k,k<K->∀r,-1<=A r (J k)∧A r (J k)<=1){p:Nat}(hp:p<K)(hpr:Prim (R p))
 {c:Nat}{Y:Int}(hY:∀r,-Y<=A r c∧A r c<=Y):(R p c).natAbs<=((K:Nat)*(Y*fact (K-1))).toNat:=by
 obtain⟨⟨s,hs,e0⟩,e⟩:=h.minorU hp
 have hx:Go.Proofs.YtlffndehhhpgjaaGreat.minorU K J A p (J p)≠0:=by
  rw[e0];have:=h.d0
  rcases hs with rfl|rfl<;>omega
 refine yAF (zMD hx (fun c=>(e c).symm) hpr c) (zLN ?_)
 have hl:=(zGO (J:=J) (A:=A) hp).2
 have:=det_le2 (c:=fun r=>A r c) hY (zBV J A p K) (fun d hd r=>by obtain⟨k,hk,rfl⟩:=zEB hd;exact h1 k hk r) (zDB K) (by rw[zFK];exact hl.symm)
 rw[hl,show(zBV J A p K).length=K-1 by omega]at this
 exact this
theorem Stage.piv_dvd{K N:Nat}{J:Nat->Nat}{R A:Nat->Vec}(h:Stage K N J R A){p:Nat}(hp:p<K)(hpr:Prim (R p)):R p (J p)∣det (zDH J A K) (zDB K):=by
 obtain⟨⟨s,hs,e0⟩,e⟩:=h.minorU hp
 obtain⟨d,hd⟩:=exq (det (zDH J A K) (zDB K))
 rw[<- hd]at e0⊢
 -- R p (J p)*E c=(s d)*R p c;the row has no common divisor
 rw[e0]at e
 obtain⟨x,hx⟩:=exq (R p (J p))
 rw[<- hx]at e⊢
 have hx0:x≠0:=by rw[hx];exact h.red.piv p hp
 have hg:0<Nat.gcd x.natAbs d.natAbs:=Nat.gcd_pos_of_pos_left _ (by omega)
 obtain⟨g,hge⟩:=exq (Nat.gcd x.natAbs d.natAbs)
 have e1:x.natAbs/g*g=x.natAbs:=by rw[hge];exact yGQ (Nat.gcd_dvd_left _ _)
 have e2:d.natAbs/g*g=d.natAbs:=by rw[hge];exact yGQ (Nat.gcd_dvd_right _ _)
 have hco:Nat.Coprime (x.natAbs/g) (d.natAbs/g):=by rw[hge]at*;exact Nat.coprime_div_gcd_div_gcd hg
 rw[<- hge]at hg
 have hsd:(s*d).natAbs=d.natAbs:=by rcases hs with rfl|rfl<;>simp
 have hdv:∀c,((x.natAbs/g:Nat):Int)∣R p c:=by
  intro c
  refine yFO.2 ?_
  refine Nat.Coprime.dvd_of_dvd_mul_left hco (m:=d.natAbs/g) ?_
  have h1:x.natAbs*(Go.Proofs.YtlffndehhhpgjaaGreat.minorU K J A p c).natAbs=d.natAbs*(R p c).natAbs:=by rw[<- yAR,e c,yAR,hsd]
  rw[<- e1,<- e2]at h1
  have h2:x.natAbs/g*(Go.Proofs.YtlffndehhhpgjaaGreat.minorU K J A p c).natAbs=d.natAbs/g*(R p c).natAbs:=by
   refine yGC hg ?_
   rw[<- Nat.mul_assoc,<- Nat.mul_assoc,Nat.mul_comm g,Nat.mul_comm g]
   exact h1
  rw[<- h2];exact Nat.dvd_mul_right _ _
 have h1:x.natAbs/g=1:=Nat.dvd_one.1 (yFO.1 (hpr _ hdv))
 rw[h1,Nat.one_mul]at e1
 rw[<- yDT,<- e1,<- e2]
 exact Nat.dvd_mul_left _ _
structure Ech (K:Nat) (J:Nat->Nat) (R:Nat->Vec):Prop where
 red:Red K J R
 lead:∀k,k<K->∀c,c<J k->R k c=0
 asc:∀k q,k<q->q<K->J k<J q
theorem Ech.pivot_iff{K:Nat}{J:Nat->Nat}{R:Nat->Vec}(h:Ech K J R)(j:Nat):(∃k,k<K∧J k=j)↔∃v,Sp (RB K R) v∧v j≠0∧∀c,c<j->v c=0:=by
 constructor
 ·rintro⟨k,hk,rfl⟩
  exact⟨R k,RB.sp hk,h.red.piv k hk,h.lead k hk⟩
 ·rintro⟨v,hv,hj,h0⟩
  rcases Classical.em (∃k,k<K∧J k=j)with c|c
  ·exact c
  ·exfalso
   obtain⟨D,hD,e,hr⟩:=h.red.repr
   have:=hr v hv j
   rw[zAS (g:=fun _=>0) (fun k hk=>?_),zGK]at this
   ·rcases yDW.1 this with h|h
    ·exact hD h
    ·exact hj h
   ·rcases yFQ (J k) j with h1|h1|h1
    ·simp[h0 _ h1]
    ·exact absurd ⟨k,hk,h1⟩ c
    ·rw[h.lead k hk j h1];simp
theorem asc_eq:∀{l m:List Nat},l.Pairwise (· < ·)->m.Pairwise (· < ·)->(∀x,x∈l↔x∈m)->l=m
 | [],[],_,_,_=>rfl
 | [],b::m,_,_,h=>by have:=(h b).2 (by simp);simp at this
 |a::l,[],_,_,h=>by have:=(h a).1 (by simp);simp at this
 |a::l,b::m,hl,hm,h=>by
  rw[yCQ]at hl hm
  have e:a=b:=by
   rcases yBP.1 ((h a).1 (by simp))with e|e
   ·exact e
   ·have h1:=hm.1 a e
    rcases yBP.1 ((h b).2 (by simp))with e'|e'
    ·omega
    ·have:=hl.1 b e';omega
  subst e
  rw[asc_eq hl.2 hm.2 fun x=>?_]
  constructor
  ·intro hx
   have h1:=hl.1 x hx
   rcases yBP.1 ((h x).1 (by simp[hx]))with e|e
   ·omega
   ·exact e
  ·intro hx
   have h1:=hm.1 x hx
   rcases yBP.1 ((h x).2 (by simp[hx]))with e|e
   ·omega
   ·exact e
theorem Ech.asc_list{K:Nat}{J:Nat->Nat}{R:Nat->Vec}(h:Ech K J R):((List.range K).map J).Pairwise (· < ·):=by
 rw[List.pairwise_map]
 refine(List.pairwise_lt_range (n:=K)).imp_of_mem fun {a b} ha hb hab=>?_
 exact h.asc a b hab (by simpa using hb)
theorem Ech.unique{K K':Nat}{J J':Nat->Nat}{R R':Nat->Vec}(h:Ech K J R)(h':Ech K' J' R')(h1:∀k,k<K->Sp (RB K' R') (R k))(h2:∀k,k<K'->Sp (RB K R) (R' k)):
 K=K'∧(∀k,k<K->J k=J' k)∧∀k,k<K->∀c,R' k (J k)*R k c=R k (J k)*R' k c:=by
 have hs:∀v,Sp (RB K R) v↔Sp (RB K' R') v:=fun v=>⟨fun hv=>hv.trans fun u ⟨k,hk,e⟩=>e▸h1 k hk,fun hv=>hv.trans fun u ⟨k,hk,e⟩=>e▸h2 k hk⟩
 have hl:(List.range K).map J=(List.range K').map J':=by
  refine asc_eq h.asc_list h'.asc_list fun x=>?_
  simp only[yBJ,yCH]
  rw[h.pivot_iff,h'.pivot_iff]
  constructor
  ·rintro⟨v,hv,r⟩;exact⟨v,(hs v).1 hv,r⟩
  ·rintro⟨v,hv,r⟩;exact⟨v,(hs v).2 hv,r⟩
 have hK:K=K':=by have:=congrArg List.length hl;simpa using this
 subst hK
 have hJ:∀k,k<K->J k=J' k:=by
  intro k hk
  have:=congrArg (fun l=>l[k]?) hl
  simpa[hk]using this
 refine⟨rfl,hJ,fun k hk c=>?_⟩
 have hv:=h1 k hk
 have:=h'.red.ratio hv hk (fun q hq hne=>by rw[<- hJ q hq];exact h.red.off k hk q hq (Ne.symm hne)) c
 rw[<- hJ k hk]at this
 exact this
theorem prim_eq{V W:Vec}{x y:Int}(hx:0<x)(hy:0<y)(h:∀c,x*V c=y*W c)(hV:Prim V)(hW:Prim W)(c:Nat):V c=W c:=by
 have h1:=zMD (by omega) h hV c
 have h2:=zMD (by omega) (fun c=>(h c).symm) hW c
 have h3:=h c
 rcases yBS (V c) 0 with a|a|a
 ·have:x*V c<0:=yCM hx a
  rcases Classical.em (W c<0)with b|b
  ·omega
  ·have:=yBY (Int.le_of_lt hy) (show 0<=W c by omega);omega
 ·omega
 ·have:0<x*V c:=yBN hx a
  rcases Classical.em (0<W c)with b|b
  ·omega
  ·have:=yBY (Int.le_of_lt hy) (show 0<= -W c by omega)
   rw[yGL]at this;omega
end
section
def vec(l:List Int):Vec:=fun c=>l[c]?.getD 0
theorem zCV{l:List Int}{c:Nat}(h:c<l.length):vec l c=l[c]:=by simp[vec,h]
theorem zFP{l:List Int}{c:Nat}(h:l.length<=c):vec l c=0:=by simp[vec,h]
theorem zDY{l:List Int}{P:Int->Prop}(h0:P 0)(h:∀x∈l,P x)(c:Nat):P (vec l c):=by
 rcases yAP c l.length with hc|hc
 ·rw[zCV hc];exact h _ (yAH hc)
 ·rw[zFP hc];exact h0
theorem zFE{l:List Int}{P:Int->Prop}(h:∀c,P (vec l c)):∀x∈l,P x:=by
 intro x hx
 obtain⟨c,hc,rfl⟩:=yAM.1 hx
 rw[<- zCV hc];exact h c
theorem vec_map{f:Int->Int}(h0:f 0=0)(l:List Int)(c:Nat):vec (l.map f) c=f (vec l c):=by
 rcases yAP c l.length with hc|hc
 ·rw[zCV (by simpa using hc),zCV hc];simp
 ·rw[zFP (by simpa using hc),zFP hc,h0]
theorem vec_zip{f:Int->Int->Int}(h0:f 0 0=0){l m:List Int}(hl:l.length=m.length)(c:Nat):vec (List.zipWith f l m) c=f (vec l c) (vec m c):=by
 rcases yAP c l.length with hc|hc
 ·rw[zCV (by simp;omega),zCV hc,zCV (by omega)];simp
 ·rw[zFP (by simp;omega),zFP hc,zFP (by omega),h0]
def gcdL(l:List Int):Int:=l.foldl (fun g n=>((Int.gcd g n:Nat):Int)) 0
theorem zOB(l:List Int):∀g:Int,0<=g->0<=l.foldl (fun g n=>((Int.gcd g n:Nat):Int)) g∧(l.foldl (fun g n=>((Int.gcd g n:Nat):Int)) g∣g)∧(∀x∈l,l.foldl (fun g n=>((Int.gcd g n:Nat):Int)) g∣x)∧∀d,d∣g->(∀x∈l,d∣x)->d∣l.foldl (fun g n=>((Int.gcd g n:Nat):Int)) g:=by
 induction l with
 |nil=>intro g hg;exact⟨hg,yFI _,by simp,fun d h _=>h⟩
 |cons n l ih=>
  intro g hg
  obtain⟨h1,h2,h3,h4⟩:=ih ((Int.gcd g n:Nat):Int) (Int.natCast_nonneg _)
  refine⟨h1,yFW h2 (yFK ..),fun x hx=>?_,fun d hd hl=>?_⟩
  ·rcases yBP.1 hx with rfl|hx
   ·exact yFW h2 (yFG ..)
   ·exact h3 x hx
  ·exact h4 d (Int.dvd_coe_gcd hd (hl n (by simp))) (fun x hx=>hl x (by simp[hx]))
theorem zGS(l:List Int):0<=gcdL l:=(zOB l 0 (yDE _)).1
theorem zJR{l:List Int}{x:Int}(h:x∈l):gcdL l∣x:=(zOB l 0 (yDE _)).2.2.1 x h
theorem zRK{l:List Int}{d:Int}(h:∀x∈l,d∣x):d∣gcdL l:=(zOB l 0 (yDE _)).2.2.2 d (Int.dvd_zero _) h
theorem gcdL_zero{l:List Int}(h:gcdL l=0):∀x∈l,x=0:=fun x hx=>by have:=zJR hx;rw[h]at this;exact Int.zero_dvd.1 this
def zBI(l:List Int):List Int:=if 1<gcdL l then l.map (fun x=>x.tdiv (gcdL l))else l
theorem zCM(l:List Int):(zBI l).length=l.length:=by unfold zBI;split<;>simp
theorem zCD(l:List Int):∃g:Int,0<g∧∀c,g*vec (zBI l) c=vec l c:=by
 unfold zBI
 by_cases h:1<gcdL l
 ·rw[if_pos h]
  refine⟨gcdL l,by omega,fun c=>?_⟩
  rw[vec_map (by simp)]
  exact yFC (zDY (P:=fun x=>gcdL l∣x) (Int.dvd_zero _) (fun x hx=>zJR hx) c)
 ·rw[if_neg h];exact⟨1,by decide,fun c=>by simp⟩
theorem zDQ(l:List Int):Prim (vec (zBI l))∨∀c,vec (zBI l) c=0:=by
 by_cases h0:gcdL l=0
 ·right
  have hz:=gcdL_zero h0
  unfold zBI
  rw[if_neg (by omega)]
  exact fun c=>zDY (P:=fun x=>x=0) rfl hz c
 ·left
  have hn:=zGS l
  intro d hd
  unfold zBI at hd
  by_cases h:1<gcdL l
  ·rw[if_pos h]at hd
   have:gcdL l*d∣gcdL l:=by
    refine zRK fun x hx=>?_
    obtain⟨c,hc,rfl⟩:=yAM.1 hx
    have h1:=hd c
    rw[vec_map (by simp),zCV hc]at h1
    obtain⟨k,hk⟩:=h1
    have h2:=yFC (zJR hx)
    refine⟨k,?_⟩
    rw[hk]at h2
    rw[<- h2];grind
   obtain⟨k,hk⟩:=this
   have h3:d*k=1:=by
    refine yBE (show gcdL l≠0 by omega) ?_
    rw[Int.mul_one,<- yER];exact hk.symm
   exact⟨k,h3.symm⟩
  ·rw[if_neg h]at hd
   have h1:gcdL l=1:=by omega
   rw[<- h1]
   exact zRK (zFE hd)
def zGW(row by':List Int)(j:Nat):List Int:=
 let a:=vec row j
 let b:=vec by' j
 let g:Int:=(Int.gcd a b:Nat)
 zBI (List.zipWith (fun x y=>x*(b.tdiv g)-y*(a.tdiv g)) row by')
theorem zQE{row by':List Int}(h:row.length=by'.length)(j:Nat):(zGW row by' j).length=row.length:=by
 unfold zGW;rw[zCM];simp;omega
theorem clearF_prim(row by':List Int)(j:Nat):Prim (vec (zGW row by' j))∨∀c,vec (zGW row by' j) c=0:=zDQ _
theorem clearF_mul{row by':List Int}(h:row.length=by'.length){j:Nat}(hb:0<vec by' j):
 vec (zGW row by' j) j=0∧∃x y g:Int,x≠0∧0<x∧0<g∧∀c,g*vec (zGW row by' j) c=x*vec row c+y*vec by' c:=by
 obtain⟨g,hg,e⟩:=zCD (List.zipWith (fun x y=>x*((vec by' j).tdiv (Int.gcd (vec row j) (vec by' j):Nat))-y*((vec row j).tdiv (Int.gcd (vec row j) (vec by' j):Nat))) row by')
 have e':∀c,g*vec (zGW row by' j) c=vec row c*((vec by' j).tdiv (Int.gcd (vec row j) (vec by' j):Nat))-vec by' c*((vec row j).tdiv (Int.gcd (vec row j) (vec by' j):Nat)):=by
  intro c
  have:=e c
  rw[vec_zip (by simp) h]at this
  exact this
 obtain⟨a,ha⟩:=exq (vec row j)
 obtain⟨b,hbb⟩:=exq (vec by' j)
 rw[<- ha,<- hbb]at e'
 rw[<- hbb]at hb
 obtain⟨d,hd⟩:∃d:Int,d=(Int.gcd a b:Nat):=⟨_,rfl⟩
 rw[<- hd]at e'
 have hd0:0<d:=by
  rw[hd]
  have:0<Int.gcd a b:=Int.gcd_pos_of_ne_zero_right _ (by omega)
  omega
 have d1:d*a.tdiv d=a:=yFC (by rw[hd];exact yFK ..)
 have d2:d*b.tdiv d=b:=yFC (by rw[hd];exact yFG ..)
 obtain⟨a1,ha1⟩:=exq (a.tdiv d)
 obtain⟨b1,hb1⟩:=exq (b.tdiv d)
 rw[<- ha1]at d1 e'
 rw[<- hb1]at d2 e'
 have hb1p:0<b1:=by
  rcases yBS b1 0 with h|h|h
  ·have:=yCM hd0 h;omega
  ·subst h;simp at d2;omega
  ·exact h
 refine⟨?_,b1,-a1,g,by omega,hb1p,hg,fun c=>by rw[e' c];grind⟩
 have:=e' j
 rw[<- ha,<- hbb,<- d1,<- d2]at this
 exact zAU (g:=g) (by omega) (by rw[this];grind)
def negF(l:List Int):List Int:=l.map (fun x=> -x)
theorem zMF(l:List Int)(c:Nat):vec (negF l) c= -vec l c:=vec_map (by simp) l c
def posF(l:List Int)(j:Nat):List Int:=if vec l j<0 then negF l else l
theorem zJI(l:List Int)(j:Nat):(posF l j).length=l.length:=by unfold posF negF;split<;>simp
theorem zJH(l:List Int)(j:Nat):∃z:Int,(z=1∨z= -1)∧∀c,vec (posF l j) c=z*vec l c:=by
 unfold posF
 split
 ·exact⟨-1,.inr rfl,fun c=>by rw[zMF];omega⟩
 ·exact⟨1,.inl rfl,fun c=>by omega⟩
theorem zJG{l:List Int}{j:Nat}(h:vec l j≠0):0<vec (posF l j) j:=by
 unfold posF
 split
 ·rw[zMF];omega
 ·omega
theorem zQZ{V W:Vec}{z:Int}(hz:z=1∨z= -1)(h:∀c,W c=z*V c)(hp:Prim V):Prim W:=by
 intro g hg
 refine hp g fun c=>?_
 have:=hg c
 rw[h]at this
 rcases hz with rfl|rfl
 ·simpa using this
 ·obtain⟨k,hk⟩:=this
  exact⟨-k,by grind⟩
end
end
section
section
def jf(J:List Nat)(k:Nat):Nat:=J[k]?.getD 0
def rowv(L:List (List Int))(i:Nat):Vec:=vec (L[i]?.getD [])
theorem zGL{L:List (List Int)}{i:Nat}(h:i<L.length):rowv L i=vec L[i]:=by unfold rowv;rw[yAA h];rfl
structure RInv (W N:Nat) (A0:Nat->Vec) (j:Nat) (L:List (List Int)) (J:List Nat):Prop where
 len:L.length=N
 wid:∀r∈L,r.length=W
 st:∃A:Nat->Vec,Stage J.length N (jf J) (rowv L) A∧∀q,∃q0,A q=A0 q0
 sp1:∀q,q<N->Sp (RB N A0) (rowv L q)
 sp2:∀q,q<N->Sp (RB N (rowv L)) (A0 q)
 pr:∀q,q<N->Prim (rowv L q)∨(∀c,rowv L q c=0)∨∃q0,∀c,rowv L q c=A0 q0 c
 pp:∀k,k<J.length->Prim (rowv L k)∧0<rowv L k (jf J k)
 asc:J.Pairwise (· < ·)
 lt:∀x∈J,x<j
 lead:∀k,k<J.length->∀c,c<jf J k->rowv L k c=0
 zero:∀q,J.length<=q->q<N->∀c,c<j->rowv L q c=0
theorem RInv.start{W:Nat}(L:List (List Int))(hw:∀r∈L,r.length=W):RInv W L.length (rowv L) 0 L []:=
 ⟨rfl,hw,⟨rowv L,Stage.start _ _ _,fun q=>⟨q,rfl⟩⟩,fun q hq=>RB.sp hq,fun q hq=>RB.sp hq,fun q hq=>.inr (.inr ⟨q,fun c=>rfl⟩),fun k hk=>by simp at hk,List.Pairwise.nil,fun x hx=>by simp at hx,fun k hk=>by simp at hk,fun q _ _ c hc=>by omega⟩
theorem RInv.skip{W N:Nat}{A0:Nat->Vec}{j:Nat}{L:List (List Int)}{J:List Nat}(h:RInv W N A0 j L J)(h0:∀q,J.length<=q->q<N->rowv L q j=0):RInv W N A0 (j+1) L J:=
 ⟨h.len,h.wid,h.st,h.sp1,h.sp2,h.pr,h.pp,h.asc,fun x hx=>by have:=h.lt x hx;omega,h.lead,fun q h1 h2 c hc=>by
   by_cases e:c=j
   ·subst e;exact h0 q h1 h2
   ·exact h.zero q h1 h2 c (by omega)⟩
theorem RInv.K_le{W N:Nat}{A0:Nat->Vec}{j:Nat}{L:List (List Int)}{J:List Nat}(h:RInv W N A0 j L J):J.length<=N:=by
 obtain⟨A,hs,_⟩:=h.st;exact hs.le
theorem RInv.step{W N:Nat}{A0:Nat->Vec}{j:Nat}{L L':List (List Int)}{J:List Nat}(h:RInv W N A0 j L J){i:Nat}{pi:Nat->Nat}
 (lo:J.length<=i)(hi:i<N)(ne:rowv L i j≠0)(hpr:Prim (rowv L i))(hlen:L'.length=N)(hwid:∀r∈L',r.length=W)
 (fix:∀q,q<J.length->pi q=q)(at':pi J.length=i)(rest:∀q,J.length<q->q<N->J.length<=pi q∧pi q<N)(surj:∀m,m<N->∃q,q<N∧pi q=m)
 (pivot:∃z:Int,(z=1∨z= -1)∧∀c,rowv L' J.length c=z*rowv L i c)(ppos:0<rowv L' J.length j)
 (other:∀q,q<N->q≠J.length->rowv L' q j=0∧(Prim (rowv L' q)∨(∀c,rowv L' q c=0)∨∀c,rowv L' q c=rowv L (pi q) c)∧∃x y g:Int,0<x∧0<g∧∀c,g*rowv L' q c=x*rowv L (pi q) c+y*rowv L i c):
 RInv W N A0 (j+1) L' (J++[j]):=by
 obtain⟨A,hs,hA⟩:=h.st
 obtain⟨z,hz,hzR⟩:=pivot
 have hz0:z≠0:=by rcases hz with rfl|rfl<;>decide
 have hKN:J.length<N:=Nat.lt_of_le_of_lt lo hi
 have jlt:∀k,k<J.length->jf (J++[j]) k=jf J k:=fun k hk=>by unfold jf;rw[yAO hk]
 have jat:jf (J++[j]) J.length=j:=by unfold jf;simp
 have jmem:∀k,k<J.length->jf J k∈J:=fun k hk=>by unfold jf;rw[yAA hk];exact yAH hk
 have step:Step J.length N i j pi (rowv L) (rowv L') A (fun q=>A (pi q)):=⟨lo,hi,ne,fun q=>rfl,fix,at',rest,surj,⟨z,hz0,hzR⟩,fun q hq hne=>by
  obtain⟨h1,_,x,y,g,hx,hg,e⟩:=other q hq hne
  exact⟨h1,x,y,g,by omega,by omega,e⟩⟩
 have hst:=hs.step step (jf (J++[j])) jlt jat
 have hiz:∀c,c<j->rowv L i c=0:=h.zero i lo hi
 have pib:∀q,q<N->pi q<N:=fun q hq=>by
  rcases yFQ q J.length with h1|h1|h1
  ·rw[fix q h1];exact hq
  ·subst h1;rw[at'];exact hi
  ·exact(rest q h1 hq).2
 have hlow:∀q,q<N->q≠J.length->∀c,rowv L (pi q) c=0->rowv L i c=0->rowv L' q c=0:=by
  intro q hq hne c h1 h2
  obtain⟨_,_,x,y,g,hx,hg,e⟩:=other q hq hne
  have:=e c
  rw[h1,h2]at this
  exact zAU (g:=g) (by omega) (by simpa using this)
 refine⟨hlen,hwid,⟨_,by rw[yAN];exact hst,fun q=>hA (pi q)⟩,?_,?_,?_,?_,?_,?_,?_,?_⟩
 ·intro q hq
  by_cases e:q=J.length
  ·subst e;exact(Sp.mul z (h.sp1 i hi)).congr hzR
  ·obtain⟨_,_,x,y,g,hx,hg,e⟩:=other q hq e
   exact Sp.of_eq (n:=g) (by omega) (h.sp1 (pi q) (pib q hq)) (h.sp1 i hi) e
 ·have hRi:Sp (RB N (rowv L')) (rowv L i):=Sp.div hz0 ((RB.sp hKN).congr fun c=>(hzR c).symm)
  intro q hq
  refine(h.sp2 q hq).trans ?_
  rintro v ⟨m,hm,rfl⟩
  by_cases e:m=i
  ·subst e;exact hRi
  ·obtain⟨q',hq',e'⟩:=surj m hm
   have hne:q'≠J.length:=fun h=>by subst h;rw[at']at e';exact e e'.symm
   obtain⟨_,_,x,y,g,hx,hg,e2⟩:=other q' hq' hne
   rw[e']at e2
   refine Sp.of_eq (n:=x) (x:=g) (y:= -y) (by omega) (RB.sp hq') hRi fun c=>?_
   have:=e2 c
   grind
 ·intro q hq
  by_cases e:q=J.length
  ·subst e;exact .inl (zQZ hz hzR hpr)
  ·obtain⟨_,h2,_⟩:=other q hq e
   rcases h2 with h2|h2|h2
   ·exact .inl h2
   ·exact .inr (.inl h2)
   ·rcases h.pr (pi q) (pib q hq)with h3|h3|⟨q0,h3⟩
    ·exact .inl (fun g hg=>h3 g fun c=>by rw[<- h2];exact hg c)
    ·exact .inr (.inl fun c=>by rw[h2,h3])
    ·exact .inr (.inr ⟨q0,fun c=>by rw[h2,h3]⟩)
 ·intro k hk
  rw[yAN]at hk
  simp only[yDB]at hk
  by_cases e:k=J.length
  ·subst e;rw[jat];exact⟨zQZ hz hzR hpr,ppos⟩
  ·have hk':k<J.length:=by omega
   rw[jlt k hk']
   obtain⟨p1,p2⟩:=h.pp k hk'
   obtain⟨_,h2,x,y,g,hx,hg,e2⟩:=other k (by omega) e
   rw[fix k hk']at h2 e2
   have hpos:0<rowv L' k (jf J k):=by
    have:=e2 (jf J k)
    rw[hiz _ (h.lt _ (jmem k hk'))]at this
    have h3:0<x*rowv L k (jf J k):=yBN hx p2
    rcases yBS (rowv L' k (jf J k)) 0 with h4|h4|h4
    ·have:=yCM hg h4;omega
    ·rw[h4]at this;omega
    ·exact h4
   refine⟨?_,hpos⟩
   rcases h2 with h2|h2|h2
   ·exact h2
   ·rw[h2]at hpos;omega
   ·exact fun g hg=>p1 g fun c=>by rw[<- h2];exact hg c
 ·rw[List.pairwise_append]
  exact⟨h.asc,by simp,fun a ha b hb=>by simp at hb;subst hb;exact h.lt a ha⟩
 ·intro x hx
  rcases yCU.1 hx with hx|hx
  ·have:=h.lt x hx;omega
  ·simp at hx;omega
 ·intro k hk c hc
  rw[yAN]at hk
  simp only[yDB]at hk
  by_cases e:k=J.length
  ·subst e;rw[jat]at hc;rw[hzR,hiz c hc];simp
  ·have hk':k<J.length:=by omega
   rw[jlt k hk']at hc
   have:=h.lt _ (jmem k hk')
   exact hlow k (by omega) e c (by rw[fix k hk'];exact h.lead k hk' c hc) (hiz c (by omega))
 ·intro q h1 h2 c hc
  rw[yAN]at h1
  simp only[yDB]at h1
  by_cases e:c=j
  ·subst e;exact(other q h2 (by omega)).1
  ·obtain⟨r1,r2⟩:=rest q (by omega) h2
   exact hlow q h2 (by omega) c (h.zero _ r1 r2 c (by omega)) (hiz c (by omega))
theorem fact_6{n:Nat}(h:n<=6):fact n<=720:=by
 match n,h with
 |0,_=>decide
 |1,_=>decide
 |2,_=>decide
 |3,_=>decide
 |4,_=>decide
 |5,_=>decide
 |6,_=>decide
theorem RInv.le{W N:Nat}{A0:Nat->Vec}{j:Nat}{L:List (List Int)}{J:List Nat}(h:RInv W N A0 j L J)(hN:N<=6)(h1:∀x∈J,∀r,-1<=A0 r x∧A0 r x<=1)
 {c Y:Nat}(hY:∀r,-(Y:Int)<=A0 r c∧A0 r c<=Y){q:Nat}(hq:q<N):(rowv L q c).natAbs<=720*Y:=by
 obtain⟨A,hs,hA⟩:=h.st
 have hA1:∀k,k<J.length->∀r,-1<=A r (jf J k)∧A r (jf J k)<=1:=by
  intro k hk r
  obtain⟨q0,e⟩:=hA r
  rw[e]
  exact h1 _ (by unfold jf;rw[yAA hk];exact yAH hk) q0
 have hAY:∀r,-(Y:Int)<=A r c∧A r c<=Y:=fun r=>by obtain⟨q0,e⟩:=hA r;rw[e];exact hY q0
 have key:∀n:Nat,1<=n->n<=6->((n:Nat)*((Y:Int)*(fact (n-1):Int))).toNat<=720*Y:=by
  intro n hn1 hn6
  have e:(n:Nat)*((Y:Int)*(fact (n-1):Int))=((fact n*Y:Nat):Int):=by
   obtain⟨m,rfl⟩:∃m,n=m+1:=⟨n-1,by omega⟩
   simp only[yEY,fact]
   push_cast
   grind
  rw[e,yEG]
  exact yFB _ (fact_6 hn6)
 rcases h.pr q hq with hp|hz|⟨q0,e⟩
 ·rcases yAP q J.length with hk|hk
  ·exact yAF (hs.up_le hA1 hk hp hAY) (key J.length (by omega) (yAF hs.le hN))
  ·have:=hs.low_le hA1 hk hq hp hAY
   have h2:=key (J.length+1) (by omega) (by omega)
   rw[yEY]at h2
   exact yAF this h2
 ·rw[hz];simp
 ·rw[e c]
  have:=hY q0
  have h3:(A0 q0 c).natAbs<=Y:=by omega
  exact yAF h3 (yEB _ (by decide))
theorem RInv.piv_dvd{W N:Nat}{A0:Nat->Vec}{j:Nat}{L:List (List Int)}{J:List Nat}(h:RInv W N A0 j L J)(hN:N<=6)(h1:∀x∈J,∀r,-1<=A0 r x∧A0 r x<=1):
 ∃d:Nat,0<d∧d<=720∧∀k,k<J.length->rowv L k (jf J k)∣(d:Int):=by
 obtain⟨A,hs,hA⟩:=h.st
 have hd:=det_le (zDH (jf J) A J.length) (fun x hx r=>by
  obtain⟨k,hk,rfl⟩:=zGF.1 hx
  obtain⟨q0,e⟩:=hA r
  simp only[e]
  exact h1 _ (by unfold jf;rw[yAA hk];exact yAH hk) q0) (zDB J.length) (by rw[zFK,zDP])
 rw[zDP]at hd
 have h6:=fact_6 (yAF hs.le hN)
 have h0:=hs.d0
 refine⟨(det (zDH (jf J) A J.length) (zDB J.length)).natAbs,by omega,by omega,fun k hk=>?_⟩
 exact Int.dvd_natAbs.2 (hs.piv_dvd hk (h.pp k hk).1)
theorem RInv.jf_lt{W N:Nat}{A0:Nat->Vec}{j:Nat}{L:List (List Int)}{J:List Nat}(h:RInv W N A0 j L J){k:Nat}(hk:k<J.length):jf J k<j:=by
 have:jf J k=J[k]:=by unfold jf;rw[yAA hk];rfl
 rw[this];exact h.lt _ (yAH hk)
theorem RInv.ech{W N:Nat}{A0:Nat->Vec}{j:Nat}{L:List (List Int)}{J:List Nat}(h:RInv W N A0 j L J):Ech J.length (jf J) (rowv L):=by
 obtain⟨A,hs,_⟩:=h.st
 refine⟨hs.red,h.lead,fun k q hkq hq=>?_⟩
 have h1:jf J k=J[k]'(by omega):=by unfold jf;rw[yAA (by omega)];rfl
 have h2:jf J q=J[q]:=by unfold jf;rw[yAA hq];rfl
 rw[h1,h2]
 exact yBI.1 h.asc k q (by omega) hq hkq
theorem RInv.span{W N:Nat}{A0:Nat->Vec}{j:Nat}{L:List (List Int)}{J:List Nat}(h:RInv W N A0 j L J)(h0:∀q,J.length<=q->q<N->∀c,rowv L q c=0){v:Vec}:
 Sp (RB J.length (rowv L)) v↔Sp (RB N A0) v:=by
 have hK:=h.K_le
 constructor
 ·intro hv
  refine hv.trans ?_
  rintro u ⟨k,hk,rfl⟩
  exact h.sp1 k (by omega)
 ·intro hv
  refine hv.trans ?_
  rintro u ⟨k,hk,rfl⟩
  refine(h.sp2 k hk).trans ?_
  rintro u ⟨q,hq,rfl⟩
  rcases yAP q J.length with h1|h1
  ·exact RB.sp h1
  ·exact Sp.zero.congr (h0 q h1 hq)
theorem RInv.unique{W N N':Nat}{A0 A0':Nat->Vec}{j j':Nat}{L L':List (List Int)}{J J':List Nat}(h:RInv W N A0 j L J)(h':RInv W N' A0' j' L' J')
 (h0:∀q,J.length<=q->q<N->∀c,rowv L q c=0)(h0':∀q,J'.length<=q->q<N'->∀c,rowv L' q c=0)(hs:∀v,Sp (RB N A0) v↔Sp (RB N' A0') v):
 J=J'∧∀k,k<J.length->L[k]? =L'[k]? :=by
 obtain⟨hK,hJ,hR⟩:=h.ech.unique h'.ech
  (fun k hk=>(h'.span h0').2 ((hs _).1 ((h.span h0).1 (RB.sp hk))))
  (fun k hk=>(h.span h0).2 ((hs _).2 ((h'.span h0').1 (RB.sp hk))))
 refine⟨yCC hK fun k h1 h2=>?_,fun k hk=>?_⟩
 ·have:=hJ k h1
  unfold jf at this
  rw[yAA h1,yAA h2]at this
  simpa using this
 ·have hk':k<J'.length:=by omega
  have hKN:=h.K_le
  have hKN':=h'.K_le
  have hl:k<L.length:=by rw[h.len];omega
  have hl':k<L'.length:=by rw[h'.len];omega
  obtain⟨p1,p2⟩:=h.pp k hk
  obtain⟨q1,q2⟩:=h'.pp k hk'
  rw[<- hJ k hk]at q2
  have e:=prim_eq q2 p2 (hR k hk) p1 q1
  rw[yAA hl,yAA hl']
  rw[zGL hl,zGL hl']at e
  have w1:=h.wid _ (yAH hl)
  have w2:=h'.wid _ (yAH hl')
  refine congrArg some (yCC (by omega) fun c c1 c2=>?_)
  rw[<- zCV c1,<- zCV c2];exact e c
end
section
def nz(j:Nat)(r:List Int):Bool:=decide (vec r j≠0)
def zGY(L:List (List Int))(a b:Nat):List (List Int):=(L.set a (L[b]?.getD [])).set b (L[a]?.getD [])
def zFU(p:List Int)(k j i:Nat)(row:List Int):List Int:=if i≠k∧vec row j≠0 then zGW row p j else row
def zDK(L:List (List Int))(k j:Nat):List (List Int):=(L.set k (posF (L[k]?.getD []) j)).mapIdx (zFU (posF (L[k]?.getD []) j) k j)
def zNG(s:List (List Int)×List Nat)(j:Nat):List (List Int)×List Nat:=
 match (s.1.drop s.2.length).findIdx? (nz j)with
 |none=>s
 |some a=>(zDK (zGY s.1 s.2.length (s.2.length+a)) s.2.length j,s.2++[j])
def pRed(L:List (List Int))(n:Nat):List (List Int)×List Nat:=(List.range n).foldl zNG (L,[])
theorem zJJ(L:List (List Int))(n:Nat):pRed L (n+1)=zNG (pRed L n) n:=by
 unfold pRed;rw[yBQ,yCO];rfl
theorem zHD(L:List (List Int))(a b:Nat):(zGY L a b).length=L.length:=by simp[zGY]
theorem zHS(L:List (List Int))(k j:Nat):(zDK L k j).length=L.length:=by simp[zDK]
theorem zMS{L:List (List Int)}{a b:Nat}(ha:a<L.length)(hb:b<L.length)(q:Nat):(zGY L a b)[q]?.getD []=L[if q=a then b else if q=b then a else q]?.getD []:=by
 unfold zGY
 rw[yFT,yFT]
 by_cases e1:q=b
 ·subst e1
  by_cases e2:q=a
  ·subst e2;simp[ha]
  ·simp[e2,hb]
 ·by_cases e2:q=a
  ·subst e2;simp[Ne.symm e1,ha]
  ·simp[Ne.symm e1,Ne.symm e2,e1,e2]
theorem clearAll_at{L:List (List Int)}{k:Nat}(hk:k<L.length)(j:Nat):(zDK L k j)[k]?.getD []=posF (L[k]?.getD []) j:=by
 unfold zDK
 rw[List.getElem?_mapIdx,yDK hk]
 simp[zFU]
theorem clearAll_ne{L:List (List Int)}{k q:Nat}(hq:q<L.length)(hne:q≠k)(j:Nat):(zDK L k j)[q]?.getD []=zFU (posF (L[k]?.getD []) j) k j q (L[q]?.getD []):=by
 unfold zDK
 rw[List.getElem?_mapIdx,yCI (Ne.symm hne),yAA hq]
 simp
theorem unit_prim{V:Vec}{j:Nat}(h: -1<=V j∧V j<=1)(h0:V j≠0):Prim V:=by
 intro g hg
 have:=hg j
 rcases(show V j=1∨V j= -1 by omega)with e|e
 ·rw[e]at this;exact this
 ·rw[e]at this;exact(Int.dvd_neg).1 this
theorem wid_of{L:List (List Int)}{W N:Nat}(hl:L.length=N)(h:∀q,q<N->(L[q]?.getD []).length=W):∀r∈L,r.length=W:=by
 intro r hr
 obtain⟨q,hq,rfl⟩:=yAM.1 hr
 have:=h q (by omega)
 rw[yAA hq]at this
 exact this
theorem zKH{L:List (List Int)}{W:Nat}(h:∀r∈L,r.length=W){q:Nat}(hq:q<L.length):(L[q]?.getD []).length=W:=by
 rw[yAA hq];exact h _ (yAH hq)
theorem zHO{α:Type}{p:α->Bool}{l:List α}{a:Nat}(h:l.findIdx? p=some a):∃ha:a<l.length,p l[a]=true:=by
 obtain⟨ha,h1,_⟩:=yGT.1 h
 exact⟨ha,h1⟩
theorem pStep_inv{W N:Nat}{A0:Nat->Vec}{j:Nat}{L:List (List Int)}{J:List Nat}(h:RInv W N A0 j L J)(hA:∀q,-1<=A0 q j∧A0 q j<=1):
 RInv W N A0 (j+1) (zNG (L,J) j).1 (zNG (L,J) j).2:=by
 unfold zNG
 simp only[]
 have hlen:=h.len
 split
 ·rename_i hn
  refine h.skip fun q h1 h2=>?_
  rw[List.findIdx?_eq_none_iff]at hn
  have:=hn L[q] (by rw[yGD];exact⟨q-J.length,by omega,by congr 1;omega⟩)
  rw[zGL (by omega)]
  simpa[nz]using this
 ·rename_i a ha
  obtain⟨ha1,ha2⟩:=zHO ha
  rw[yDF]at ha1
  rw[yFF]at ha2
  have hi:J.length+a<N:=by omega
  have hK:J.length<L.length:=by omega
  have hrow:∀q,(zGY L J.length (J.length+a))[q]?.getD []=L[if q=J.length then J.length+a else if q=J.length+a then J.length else q]?.getD []:=zMS (by omega) (by omega)
  have hne:rowv L (J.length+a) j≠0:=by rw[zGL (by omega)];simpa[nz]using ha2
  have hsl:=zHD L J.length (J.length+a)
  have hp0:(zGY L J.length (J.length+a))[J.length]?.getD []=L[J.length+a]?.getD []:=by rw[hrow,if_pos rfl]
  have hpv:(zDK (zGY L J.length (J.length+a)) J.length j)[J.length]?.getD []=posF (L[J.length+a]?.getD []) j:=by
   rw[clearAll_at (by omega),hp0]
  have hpw:(posF (L[J.length+a]?.getD []) j).length=W:=by rw[zJI];exact zKH h.wid (by omega)
  have hoth:∀q,q<N->q≠J.length->(zDK (zGY L J.length (J.length+a)) J.length j)[q]?.getD []=zFU (posF (L[J.length+a]?.getD []) j) J.length j q (L[if q=J.length then J.length+a else if q=J.length+a then J.length else q]?.getD []):=by
   intro q hq hn
   rw[clearAll_ne (by omega) hn,hp0,hrow]
  have hpib:∀q,q<N->(if q=J.length then J.length+a else if q=J.length+a then J.length else q)<N:=by
   intro q hq;split
   ·omega
   ·split<;>omega
  refine RInv.step (pi:=fun q=>if q=J.length then J.length+a else if q=J.length+a then J.length else q) h (i:=J.length+a) (by omega) hi hne ?_ (by rw[zHS,hsl,hlen]) ?_ (fun q hq=>?_) ?_ (fun q h1 h2=>?_) (fun m hm=>?_) ?_ ?_ (fun q hq hn=>?_)
  ·rcases h.pr _ hi with h1|h1|⟨q0,h1⟩
   ·exact h1
   ·exact absurd (h1 j) hne
   ·have: -1<=rowv L (J.length+a) j∧rowv L (J.length+a) j<=1:=by rw[h1];exact hA q0
    exact unit_prim this hne
  ·refine wid_of (N:=N) (by rw[zHS,hsl,hlen]) fun q hq=>?_
   by_cases e:q=J.length
   ·subst e;rw[hpv];exact hpw
   ·rw[hoth q hq e]
    have:=zKH h.wid (q:=if q=J.length then J.length+a else if q=J.length+a then J.length else q) (by rw[hlen];exact hpib q hq)
    generalize L[if q=J.length then J.length+a else if q=J.length+a then J.length else q]?.getD []=row at this
    unfold zFU
    split
    ·rw[zQE (by omega)];exact this
    ·exact this
  ·rw[if_neg (by omega),if_neg (by omega)]
  ·simp
  ·split
   ·omega
   ·split<;>omega
  ·refine⟨if m=J.length then J.length+a else if m=J.length+a then J.length else m,hpib m hm,?_⟩
   by_cases e1:m=J.length
   ·subst e1
    rw[if_pos rfl]
    by_cases e3:J.length+a=J.length
    ·rw[if_pos e3];exact e3
    ·rw[if_neg e3,if_pos rfl]
   ·rw[if_neg e1]
    by_cases e2:m=J.length+a
    ·rw[if_pos e2,if_pos rfl];exact e2.symm
    ·rw[if_neg e2,if_neg e1,if_neg e2]
  ·obtain⟨z,hz,e⟩:=zJH (L[J.length+a]?.getD []) j
   exact⟨z,hz,fun c=>by unfold rowv;rw[hpv];exact e c⟩
  ·unfold rowv;rw[hpv];exact zJG hne
  ·have hpos:0<vec (posF (L[J.length+a]?.getD []) j) j:=zJG hne
   obtain⟨z,hz,e⟩:=zJH (L[J.length+a]?.getD []) j
   simp only[]
   obtain⟨row,hr⟩:=exq (L[if q=J.length then J.length+a else if q=J.length+a then J.length else q]?.getD [])
   have hrw:row.length=W:=by rw[hr];exact zKH h.wid (by rw[hlen];exact hpib q hq)
   unfold rowv
   rw[hoth q hq hn,<- hr]
   unfold zFU
   by_cases c0:vec row j≠0
   ·rw[if_pos ⟨hn,c0⟩]
    obtain⟨k1,x,y,g,_,hx,hg,e2⟩:=clearF_mul (row:=row) (by':=posF (L[J.length+a]?.getD []) j) (by omega) hpos
    refine⟨k1,?_,x,y*z,g,hx,hg,fun c=>?_⟩
    ·rcases clearF_prim row (posF (L[J.length+a]?.getD []) j) j with h1|h1
     ·exact .inl h1
     ·exact .inr (.inl h1)
    ·rw[e2 c,e c];grind
   ·rw[if_neg (fun h=>c0 h.2)]
    refine⟨by omega,.inr (.inr fun c=>rfl),1,0,1,by decide,by decide,fun c=>by simp⟩
theorem zCO{W:Nat}(L:List (List Int))(hw:∀r∈L,r.length=W):∀n,(∀j,j<n->∀q,-1<=rowv L q j∧rowv L q j<=1)->RInv W L.length (rowv L) n (pRed L n).1 (pRed L n).2
 |0,_=>RInv.start L hw
 |n+1,h=>by
  rw[zJJ]
  exact pStep_inv (zCO L hw n (fun j hj=>h j (by omega))) (h n (by omega))
def zDV(l:List Int):List Int:=l.map (fun x=>x.tdiv (max (gcdL l) 1))
theorem zFR(l:List Int):zDV l=zBI l:=by
 unfold zDV zBI
 by_cases h:1<gcdL l
 ·rw[if_pos h,show max (gcdL l) 1=gcdL l by omega]
 ·rw[if_neg h,show max (gcdL l) 1=1 by omega];simp
def zBE(p:List Int)(j:Nat)(r:List Int):List Int:=zDV (List.zipWith (fun x y=>x*vec p j-y*vec r j) r p)
def zFG{α:Type}(p:α->Bool):List α->Option Nat
 | []=>none
 |x::l=>match zFG p l with|some i=>some (i+1)|none=>if p x then some 0 else none
theorem zNP{α:Type}{p:α->Bool}:∀{l:List α},zFG p l=none->∀x∈l,p x=false
 | [],_,x,hx=>by simp at hx
 |y::l,h,x,hx=>by
  unfold zFG at h
  split at h
  ·cases h
  ·rename_i h1
   rcases yBP.1 hx with rfl|hx
   ·cases hp:p x
    ·rfl
    ·rw[if_pos hp]at h;cases h
   ·exact zNP h1 x hx
theorem zGQ{α:Type}{p:α->Bool}:∀{l:List α} {a:Nat},zFG p l=some a->∃ha:a<l.length,p l[a]=true
 |y::l,a,h=>by
  unfold zFG at h
  split at h
  ·rename_i i h1
   obtain⟨h2,h3⟩:=zGQ h1
   cases h
   exact⟨by simp;omega,by simpa using h3⟩
  ·by_cases hp:p y=true
   ·rw[if_pos hp]at h;cases h;exact⟨by simp,by simpa using hp⟩
   ·rw[if_neg hp]at h;cases h
theorem zNO{α:Type}(p:α->Bool)(y:α):∀l:List α,zFG p (l++[y])=if p y=true then some l.length else zFG p l
 | []=>by simp[zFG]
 |x::l=>by
  show(match zFG p (l++[y])with|some i=>some (i+1)|none=>if p x then some 0 else none)=_
  rw[zNO p y l]
  by_cases h:p y=true
  ·rw[if_pos h,if_pos h];simp
  ·rw[if_neg h,if_neg h];rfl
structure RS where
 left:List (List Int)
 done:List (List Int)
 piv:List Nat
def zMZ(s:RS)(j:Nat):RS:=
 match zFG (nz j) s.left with
 |none=>s
 |some a=>⟨(s.left.eraseIdx a).map (zBE (posF (s.left[a]?.getD []) j) j),s.done.map (zBE (posF (s.left[a]?.getD []) j) j)++[posF (s.left[a]?.getD []) j],s.piv++[j]⟩
def rRed(L:List (List Int))(n:Nat):RS:=(List.range n).foldl zMZ ⟨L.map zDV,[],[]⟩
theorem zJE(L:List (List Int))(n:Nat):rRed L (n+1)=zMZ (rRed L n) n:=by
 unfold rRed;rw[yBQ,yCO];rfl
theorem zGZ{r p:List Int}(h:r.length=p.length)(j:Nat):(zBE p j r).length=r.length:=by unfold zBE zDV;simp;omega
theorem withoutF_mul{r p:List Int}(h:r.length=p.length){j:Nat}(hb:0<vec p j):
 vec (zBE p j r) j=0∧(Prim (vec (zBE p j r))∨∀c,vec (zBE p j r) c=0)∧∃x y g:Int,0<x∧0<g∧∀c,g*vec (zBE p j r) c=x*vec r c+y*vec p c:=by
 unfold zBE
 rw[zFR]
 obtain⟨g,hg,e⟩:=zCD (List.zipWith (fun x y=>x*vec p j-y*vec r j) r p)
 have e':∀c,g*vec (zBI (List.zipWith (fun x y=>x*vec p j-y*vec r j) r p)) c=vec r c*vec p j-vec p c*vec r j:=by
  intro c;rw[e c,vec_zip (by simp) h]
 refine⟨zAU (g:=g) (by omega) (by rw[e' j];grind),zDQ _,vec p j,-vec r j,g,hb,hg,fun c=>by rw[e' c];grind⟩
def RI(W N:Nat)(A0:Nat->Vec)(j:Nat)(s:RS):Prop:=RInv W N A0 j (s.done++s.left) s.piv∧s.done.length=s.piv.length
theorem rStep_inv{W N:Nat}{A0:Nat->Vec}{j:Nat}{s:RS}(h0:RI W N A0 j s)(hA:∀q,Prim (A0 q)∨∀c,A0 q c=0):RI W N A0 (j+1) (zMZ s j):=by
 obtain⟨h,hd⟩:=h0
 obtain⟨left,done,J⟩:=s
 simp only[]at h hd
 unfold zMZ
 simp only[]
 have hlen:=h.len
 rw[yAN]at hlen
 have hget:∀i,i<left.length->(done++left)[J.length+i]?.getD []=left[i]?.getD []:=fun i hi=>by
  rw[yAQ (by omega),hd];congr 2;omega
 split
 ·rename_i hn
  refine⟨h.skip fun q h1 h2=>?_,hd⟩
  have h3:=zNP hn (left[q-J.length]'(by omega)) (yAH _)
  have h4:=hget (q-J.length) (by omega)
  rw[show J.length+(q-J.length)=q by omega,yAA (l:=left) (i:=q-J.length) (by omega)]at h4
  unfold rowv
  rw[h4]
  simpa[nz]using h3
 ·rename_i a ha
  obtain⟨ha1,ha2⟩:=zGQ ha
  obtain⟨p,hp⟩:=exq (posF (left[a]?.getD []) j)
  rw[<- hp]
  have hrow:(done++left)[J.length+a]?.getD []=left[a]?.getD []:=hget a ha1
  have hne:rowv (done++left) (J.length+a) j≠0:=by
   unfold rowv;rw[hrow,yAA ha1];simpa[nz]using ha2
  have hne':vec (left[a]?.getD []) j≠0:=by rw[<- hrow];exact hne
  have hpw:p.length=W:=by
   rw[hp,zJI,<- hrow];exact zKH h.wid (by rw[yAN];omega)
  obtain⟨z,hz,ez⟩:=zJH (left[a]?.getD []) j
  have hpos:0<vec p j:=by rw[hp];exact zJG hne'
  have hel:(left.eraseIdx a).length+1=left.length:=by rw[List.length_eraseIdx];simp[ha1];omega
  have hL':(done.map (zBE p j)++[p]++(left.eraseIdx a).map (zBE p j)).length=N:=by simp;omega
  -- the new rows
  have hat:(done.map (zBE p j)++[p]++(left.eraseIdx a).map (zBE p j))[J.length]?.getD []=p:=by
   rw[yBZ,yAQ (by simp;omega)];simp[hd]
  have hoth:∀q,q<N->q≠J.length->(done.map (zBE p j)++[p]++(left.eraseIdx a).map (zBE p j))[q]?.getD []=zBE p j ((done++left)[if q<J.length then q else if q=J.length then J.length+a else if q<=J.length+a then q-1 else q]?.getD []):=by
   intro q hq hn
   rcases yAP q J.length with h1|h1
   ·rw[if_pos h1,yBZ,yAO (by simp;omega),yAO (by omega),yAZ,yAA (by omega)]
    simp
   ·rw[if_neg (by omega),if_neg hn]
    have hq2:q-(J.length+1)<(left.eraseIdx a).length:=by omega
    rw[yAQ (by simp;omega)]
    simp only[yAN,yAS,yDB]
    rw[hd,yAZ,yAA hq2]
    simp only[yFD,yBA]
    congr 1
    rw[List.getElem_eraseIdx]
    split
    ·rename_i h2
     rw[if_pos (by omega)]
     have:=hget (q-(J.length+1)) (by omega)
     rw[show J.length+(q-(J.length+1))=q-1 by omega]at this
     rw[this,yAA (by omega)];rfl
    ·rename_i h2
     rw[if_neg (by omega)]
     have:=hget (q-(J.length+1)+1) (by omega)
     rw[show J.length+(q-(J.length+1)+1)=q by omega]at this
     rw[this,yAA (by omega)];rfl
  have hpib:∀q,q<N->(if q<J.length then q else if q=J.length then J.length+a else if q<=J.length+a then q-1 else q)<N:=by
   intro q hq
   split
   ·omega
   ·split
    ·omega
    ·split<;>omega
  refine⟨RInv.step (pi:=fun q=>if q<J.length then q else if q=J.length then J.length+a else if q<=J.length+a then q-1 else q) h (i:=J.length+a) (by omega) (by omega) hne ?_ hL' ?_ (fun q hq=>?_) ?_ (fun q h1 h2=>?_) (fun m hm=>?_) ?_ ?_ (fun q hq hn=>?_),by simp[hd]⟩
  ·rcases h.pr (J.length+a) (by omega)with h1|h1|⟨q0,h1⟩
   ·exact h1
   ·exact absurd (h1 j) hne
   ·rcases hA q0 with h2|h2
    ·exact fun g hg=>h2 g fun c=>by rw[<- h1];exact hg c
    ·exact absurd (by rw[h1];exact h2 j) hne
  ·refine wid_of hL' fun q hq=>?_
   by_cases e:q=J.length
   ·subst e;rw[hat];exact hpw
   ·rw[hoth q hq e]
    have:=zKH h.wid (q:=if q<J.length then q else if q=J.length then J.length+a else if q<=J.length+a then q-1 else q) (by rw[yAN];have:=hpib q hq;omega)
    rw[zGZ (by omega)];exact this
  ·rw[if_pos hq]
  ·simp
  ·rw[if_neg (by omega),if_neg (by omega)]
   split<;>omega
  ·rcases yAP m J.length with h1|h1
   ·exact⟨m,hm,if_pos h1⟩
   ·by_cases e:m=J.length+a
    ·exact⟨J.length,by omega,by rw[if_neg (by omega),if_pos rfl];exact e.symm⟩
    ·rcases yAP m (J.length+a)with h2|h2
     ·exact⟨m+1,by omega,by rw[if_neg (by omega),if_neg (by omega),if_pos (by omega)];omega⟩
     ·exact⟨m,hm,by rw[if_neg (by omega),if_neg (by omega),if_neg (by omega)]⟩
  ·refine⟨z,hz,fun c=>?_⟩
   unfold rowv
   rw[hat,hrow,hp];exact ez c
  ·unfold rowv;rw[hat];exact hpos
  ·unfold rowv
   rw[hoth q hq hn]
   have hw:=zKH h.wid (q:=if q<J.length then q else if q=J.length then J.length+a else if q<=J.length+a then q-1 else q) (by rw[yAN];have:=hpib q hq;omega)
   obtain⟨k1,k2,x,y,g,hx,hg,e⟩:=withoutF_mul (r:=(done++left)[if q<J.length then q else if q=J.length then J.length+a else if q<=J.length+a then q-1 else q]?.getD []) (p:=p) (by omega) hpos
   refine⟨k1,?_,x,y*z,g,hx,hg,fun c=>?_⟩
   ·rcases k2 with k2|k2
    ·exact .inl k2
    ·exact .inr (.inl k2)
   ·rw[e c,hrow,hp,ez c];grind
theorem rowv_prim(L:List (List Int))(q:Nat):Prim (rowv (L.map zDV) q)∨∀c,rowv (L.map zDV) q c=0:=by
 unfold rowv
 rw[yAZ]
 cases L[q]? with
 |none=>exact .inr fun c=>rfl
 |some r=>simp only[yFD,yBA];rw[zFR];exact zDQ r
theorem zEU{W:Nat}(L:List (List Int))(hw:∀r∈L,r.length=W):∀n,RI W L.length (rowv (L.map zDV)) n (rRed L n)
 |0=>by
  have:=RInv.start (W:=W) (L.map zDV) (fun r hr=>by
   obtain⟨r',hr',rfl⟩:=yBJ.1 hr
   unfold zDV;rw[yAS];exact hw r' hr')
  rw[yAS]at this
  exact⟨this,rfl⟩
 |n+1=>by
  rw[zJE]
  exact rStep_inv (zEU L hw n) (rowv_prim L)
theorem zPP(L:List (List Int))(v:Vec):Sp (RB L.length (rowv (L.map zDV))) v↔Sp (RB L.length (rowv L)) v:=by
 have key:∀q,∃g:Int,0<g∧∀c,g*rowv (L.map zDV) q c=rowv L q c:=by
  intro q
  unfold rowv
  rw[yAZ]
  cases L[q]? with
  |none=>exact⟨1,by decide,fun c=>by simp[vec]⟩
  |some r=>simp only[yFD,yBA];rw[zFR];exact zCD r
 constructor
 ·intro h
  refine h.trans ?_
  rintro u ⟨q,hq,rfl⟩
  obtain⟨g,hg,e⟩:=key q
  exact Sp.div (k:=g) (by omega) ((RB.sp hq).congr e)
 ·intro h
  refine h.trans ?_
  rintro u ⟨q,hq,rfl⟩
  obtain⟨g,hg,e⟩:=key q
  exact(Sp.mul g (RB.sp hq)).congr fun c=>(e c).symm
end
section
theorem zCF{L:List (List Int)}{c:Nat}{Y:Int}(h0:0<=Y)(h:∀r∈L,-Y<=vec r c∧vec r c<=Y)(q:Nat): -Y<=rowv L q c∧rowv L q c<=Y:=by
 unfold rowv
 cases hq:L[q]? with
 |none=>simp[vec];omega
 |some r=>exact h r (yBM hq)
theorem vec_le{r:List Int}{Y:Int}(h0:0<=Y)(h:∀x∈r,-Y<=x∧x<=Y)(c:Nat): -Y<=vec r c∧vec r c<=Y:=
 zDY (P:=fun x=> -Y<=x∧x<=Y) (by omega) h c
theorem zEJ(L:List (List Int)):∀n,(pRed L n).1.length=L.length
 |0=>rfl
 |n+1=>by
  rw[zJJ]
  have:=zEJ L n
  unfold zNG
  split
  ·exact this
  ·rw[zHS,zHD];exact this
theorem zRA{W n Y:Nat}{L:List (List Int)}(hw:∀r∈L,r.length=W)(hN:L.length<=6)(h1:∀r∈L,∀c,c<n-> -1<=vec r c∧vec r c<=1)(hY:∀r∈L,∀x∈r,-(Y:Int)<=x∧x<=Y)
 {t:Nat}(ht:t<=n):∀r∈(pRed L t).1,r.length=W∧∀x∈r,-((720*Y:Nat):Int)<=x∧x<=((720*Y:Nat):Int):=by
 have h:=zCO L hw t (fun j hj q=>zCF (by decide) (fun r hr=>h1 r hr j (by omega)) q)
 intro r hr
 refine⟨h.wid r hr,?_⟩
 obtain⟨q,hq,rfl⟩:=yAM.1 hr
 refine zFE (P:=fun x=> -((720*Y:Nat):Int)<=x∧x<=((720*Y:Nat):Int)) fun c=>?_
 have hq':q<L.length:=by rw[<- zEJ L t];exact hq
 have:=h.le hN (fun x hx r=>zCF (by decide) (fun r hr=>h1 r hr x (by have:=h.lt x hx;omega)) r) (c:=c) (Y:=Y) (fun r=>zCF (by omega) (fun r hr=>vec_le (by omega) (hY r hr) c) r) hq'
 rw[zGL hq]at this
 omega
theorem primF_le{r:List Int}{c:Nat}{Y:Int}(h: -Y<=vec r c∧vec r c<=Y): -Y<=vec (zDV r) c∧vec (zDV r) c<=Y:=by
 rw[zFR]
 obtain⟨g,hg,e⟩:=zCD r
 have:=e c
 rw[<- this]at h
 have h2:(vec (zBI r) c).natAbs<=(g*vec (zBI r) c).natAbs:=by rw[yAR];exact yEB _ (by omega)
 omega
theorem primF_row{L:List (List Int)}{c:Nat}{Y:Int}(h:∀r∈L,-Y<=vec r c∧vec r c<=Y):∀r∈L.map zDV,-Y<=vec r c∧vec r c<=Y:=by
 intro r hr
 obtain⟨r',hr',rfl⟩:=yBJ.1 hr
 exact primF_le (h r' hr')
theorem rRed_len(L:List (List Int)){W:Nat}(hw:∀r∈L,r.length=W)(n:Nat):(rRed L n).done.length+(rRed L n).left.length=L.length:=by
 have:=(zEU L hw n).1.len
 rwa [yAN]at this
theorem rRed_le{W n Y:Nat}{L:List (List Int)}(hw:∀r∈L,r.length=W)(hN:L.length<=6)(h1:∀r∈L,∀c,c<n-> -1<=vec r c∧vec r c<=1)(hY:∀r∈L,∀x∈r,-(Y:Int)<=x∧x<=Y)
 {t:Nat}(ht:t<=n):∀r∈(rRed L t).done++(rRed L t).left,r.length=W∧∀x∈r,-((720*Y:Nat):Int)<=x∧x<=((720*Y:Nat):Int):=by
 have h:=(zEU L hw t).1
 intro r hr
 refine⟨h.wid r hr,?_⟩
 obtain⟨q,hq,rfl⟩:=yAM.1 hr
 refine zFE (P:=fun x=> -((720*Y:Nat):Int)<=x∧x<=((720*Y:Nat):Int)) fun c=>?_
 have hq':q<L.length:=by rw[<- h.len];exact hq
 have:=h.le hN (fun x hx r=>zCF (by decide) (primF_row fun r hr=>h1 r hr x (by have:=h.lt x hx;omega)) r) (c:=c) (Y:=Y) (fun r=>zCF (by omega) (primF_row fun r hr=>vec_le (by omega) (hY r hr) c) r) hq'
 rw[zGL hq]at this
 omega
theorem zHV{W:Nat}{L:List (List Int)}(hw:∀r∈L,r.length=W)(q:Nat){c:Nat}(hc:W<=c):rowv L q c=0:=by
 unfold rowv
 cases hq:L[q]? with
 |none=>simp[vec]
 |some r=>exact zFP (by rw[yBA,hw r (yBM hq)];exact hc)
theorem zMC{W n m:Nat}{L:List (List Int)}(hw:∀r∈L,r.length=W)(h1:∀r∈L,∀c,c<n-> -1<=vec r c∧vec r c<=1)(hm:W<=m)
 (h0:∀q,(pRed L n).2.length<=q->q<L.length->∀c,n<=c->c<W->rowv (pRed L n).1 q c=0):
 (pRed L n).2=(rRed L m).piv∧(rRed L m).done=(pRed L n).1.take (pRed L n).2.length:=by
 have h:=zCO L hw n (fun j hj q=>zCF (by decide) (fun r hr=>h1 r hr j hj) q)
 obtain⟨k,hk⟩:=zEU L hw m
 have hN:=h.K_le
 have hN':=k.K_le
 obtain⟨e1,e2⟩:=h.unique k (fun q h1 h2 c=>by
  rcases yAP c n with hc|hc
  ·exact h.zero q h1 h2 c hc
  ·rcases yAP c W with hc2|hc2
   ·exact h0 q h1 h2 c hc hc2
   ·exact zHV h.wid q hc2)
  (fun q h1 h2 c=>by
    rcases yAP c m with hc|hc
    ·exact k.zero q h1 h2 c hc
    ·exact zHV k.wid q (by omega))
  (fun v=>(zPP L v).symm)
 refine⟨e1,List.ext_getElem? fun i=>?_⟩
 rw[e1]at e2⊢
 rcases yAP i (rRed L m).piv.length with hi|hi
 ·rw[yCN hi,e2 i hi,yAO (by omega)]
 ·rw[yAY (by omega),yAY (by rw[yAU];omega)]
theorem red_more{W n m:Nat}{L:List (List Int)}(hw:∀r∈L,r.length=W)(h1:∀r∈L,∀c,c<n-> -1<=vec r c∧vec r c<=1)(hm:W<=m)
 {q:Nat}(hq1:(pRed L n).2.length<=q)(hq2:q<L.length)(hq3:rowv (pRed L n).1 q n≠0):n∈(rRed L m).piv:=by
 have h:=zCO L hw n (fun j hj q=>zCF (by decide) (fun r hr=>h1 r hr j hj) q)
 obtain⟨k,hk⟩:=zEU L hw m
 obtain⟨i,hi,e⟩:=(k.ech.pivot_iff n).2 ⟨rowv (pRed L n).1 q,(k.span (fun q h1 h2 c=>by
  rcases yAP c m with hc|hc
  ·exact k.zero q h1 h2 c hc
  ·exact zHV k.wid q (by omega))).2 ((zPP L _).2 (h.sp1 q hq2)),hq3,h.zero q hq1 hq2⟩
 rw[<- e];unfold jf;rw[yAA hi];exact yAH hi
def zDL(R:List (List Int))(f:Nat):List Nat->Nat->Int->Int
 | [],_,t=>t
 |p::J,k,t=>
  let x:=vec (R[k]?.getD []) p
  let n:=x.tdiv (Int.gcd x (vec (R[k]?.getD []) f):Nat)
  zDL R f J (k+1) (t*n.tdiv (Int.gcd t n:Nat))
def zDD(R:List (List Int)):List Nat->Nat->Int->Int
 | [],_,t=>t
 |p::J,k,t=>
  let x:=vec (R[k]?.getD []) p
  zDD R J (k+1) (t.tdiv (Int.gcd t x:Nat)*x)
end
section
theorem lcm_mul{t n:Int}(ht:0<t)(hn:0<n):t*n.tdiv (Int.gcd t n:Nat)=((Nat.lcm t.natAbs n.natAbs:Nat):Int):=by
 obtain⟨a,rfl⟩:∃a:Nat,t=a:=⟨t.toNat,by omega⟩
 obtain⟨b,rfl⟩:∃b:Nat,n=b:=⟨n.toNat,by omega⟩
 show(a:Int)*(b:Int).tdiv ((Nat.gcd a b:Nat):Int)=((Nat.lcm a b:Nat):Int)
 rw[<- Int.ofNat_tdiv,<- yCP]
 unfold Nat.lcm
 rw[Nat.mul_div_assoc _ (Nat.gcd_dvd_right _ _)]
theorem lcm_mul'{t n:Int}(ht:0<t)(hn:0<n):t.tdiv (Int.gcd t n:Nat)*n=((Nat.lcm t.natAbs n.natAbs:Nat):Int):=by
 obtain⟨a,rfl⟩:∃a:Nat,t=a:=⟨t.toNat,by omega⟩
 obtain⟨b,rfl⟩:∃b:Nat,n=b:=⟨n.toNat,by omega⟩
 show(a:Int).tdiv ((Nat.gcd a b:Nat):Int)*(b:Int)=((Nat.lcm a b:Nat):Int)
 rw[<- Int.ofNat_tdiv,<- yCP]
 unfold Nat.lcm
 rw[Nat.div_mul_right_comm (Nat.gcd_dvd_left _ _)]
theorem lcm_facts{t n d:Int}(ht:0<t)(hn:0<n)(htd:t∣d)(hnd:n∣d):
 0<((Nat.lcm t.natAbs n.natAbs:Nat):Int)∧((Nat.lcm t.natAbs n.natAbs:Nat):Int)∣d∧t∣((Nat.lcm t.natAbs n.natAbs:Nat):Int)∧n∣((Nat.lcm t.natAbs n.natAbs:Nat):Int):=by
 refine⟨?_,?_,?_,?_⟩
 ·have:=Nat.lcm_pos (m:=t.natAbs) (n:=n.natAbs) (by omega) (by omega);omega
 ·exact yFO.2 (Nat.lcm_dvd (yDT.2 htd) (yDT.2 hnd))
 ·exact Int.ofNat_dvd_right.2 (Nat.dvd_lcm_left _ _)
 ·exact Int.ofNat_dvd_right.2 (Nat.dvd_lcm_right _ _)
def nP(x e:Int):Int:=x.tdiv (Int.gcd x e:Nat)
theorem zRE{x e d:Int}(hx:0<x)(hd:x∣d):0<nP x e∧nP x e∣d∧∀t,nP x e∣t->x∣e*t:=by
 unfold nP
 obtain⟨g,hg⟩:∃g:Int,g=(Int.gcd x e:Nat):=⟨_,rfl⟩
 rw[<- hg]
 have hg0:0<g:=by
  rw[hg]
  have:0<Int.gcd x e:=yEV _ (by omega)
  omega
 have h1:g*x.tdiv g=x:=yFC (by rw[hg];exact yFK ..)
 obtain⟨k,hk⟩:g∣e:=by rw[hg];exact yFG ..
 obtain⟨m,hm⟩:=exq (x.tdiv g)
 rw[<- hm]at h1⊢
 refine⟨?_,?_,fun t ⟨q,hq⟩=>⟨k*q,?_⟩⟩
 ·rcases yBS m 0 with h|h|h
  ·have:=yCM hg0 h;omega
  ·subst h;simp at h1;omega
  ·exact h
 ·exact yFW ⟨g,by rw[<- h1];grind⟩ hd
 ·rw[hq,hk,<- h1];grind
theorem zHC{R:List (List Int)}{f:Nat}{d:Int}:∀(J:List Nat) (k:Nat) (t:Int),0<t->t∣d->(∀i,i<J.length->0<vec (R[k+i]?.getD []) (jf J i)∧vec (R[k+i]?.getD []) (jf J i)∣d)->
 0<zDL R f J k t∧zDL R f J k t∣d∧t∣zDL R f J k t∧∀i,i<J.length->nP (vec (R[k+i]?.getD []) (jf J i)) (vec (R[k+i]?.getD []) f)∣zDL R f J k t
 | [],k,t,ht,htd,_=>⟨ht,htd,yFI _,fun i hi=>by simp at hi⟩
 |p::J,k,t,ht,htd,h=>by
  have h0:=h 0 (by simp)
  simp only[jf,yDS,yAD,yBA]at h0
  obtain⟨n1,n2,n3⟩:=zRE (e:=vec (R[k]?.getD []) f) h0.1 h0.2
  obtain⟨l1,l2,l3,l4⟩:=lcm_facts ht n1 htd n2
  rw[<- lcm_mul ht n1]at l1 l2 l3 l4
  obtain⟨a,b,c,e⟩:=zHC (R:=R) (f:=f) J (k+1) _ l1 l2 (fun i hi=>by
   have:=h (i+1) (by simp;omega)
   rw[show k+1+i=k+(i+1)by omega]
   simpa[jf]using this)
  refine⟨a,b,yFW l3 c,fun i hi=>?_⟩
  match i,hi with
  |0,_=>exact yFW l4 c
  |i+1,hi=>
   have:=e i (by simpa using hi)
   rw[show k+1+i=k+(i+1)by omega]at this
   have e2:jf (p::J) (i+1)=jf J i:=by simp[jf]
   rw[e2]
   exact this
theorem zHB{R:List (List Int)}{d:Int}:∀(J:List Nat) (k:Nat) (t:Int),0<t->t∣d->(∀i,i<J.length->0<vec (R[k+i]?.getD []) (jf J i)∧vec (R[k+i]?.getD []) (jf J i)∣d)->
 0<zDD R J k t∧zDD R J k t∣d∧t∣zDD R J k t∧∀i,i<J.length->vec (R[k+i]?.getD []) (jf J i)∣zDD R J k t
 | [],k,t,ht,htd,_=>⟨ht,htd,yFI _,fun i hi=>by simp at hi⟩
 |p::J,k,t,ht,htd,h=>by
  have h0:=h 0 (by simp)
  simp only[jf,yDS,yAD,yBA]at h0
  obtain⟨l1,l2,l3,l4⟩:=lcm_facts ht h0.1 htd h0.2
  rw[<- lcm_mul' ht h0.1]at l1 l2 l3 l4
  obtain⟨a,b,c,e⟩:=zHB (R:=R) J (k+1) _ l1 l2 (fun i hi=>by
   have:=h (i+1) (by simp;omega)
   rw[show k+1+i=k+(i+1)by omega]
   simpa[jf]using this)
  refine⟨a,b,yFW l3 c,fun i hi=>?_⟩
  match i,hi with
  |0,_=>exact yFW l4 c
  |i+1,hi=>
   have:=e i (by simpa using hi)
   rw[show k+1+i=k+(i+1)by omega]at this
   have e2:jf (p::J) (i+1)=jf J i:=by simp[jf]
   rw[e2]
   exact this
def zEM(v:Nat->Nat->Int):List Nat->Nat->List Int->List Int
 | [],_,h=>h
 |p::J,k,h=>zEM v J (k+1) (h.set p (v k p))
theorem zDG(v:Nat->Nat->Int):∀(J:List Nat) (k:Nat) (h:List Int),(zEM v J k h).length=h.length
 | [],_,_=>rfl
 |p::J,k,h=>by unfold zEM;rw[zDG v J];simp
theorem zOC(v:Nat->Nat->Int):∀(J:List Nat) (k:Nat) (h:List Int) (c:Nat),c∉J->vec (zEM v J k h) c=vec h c
 | [],_,_,_,_=>rfl
 |p::J,k,h,c,hc=>by
  unfold zEM
  rw[zOC v J (k+1) _ c (fun h=>hc (by simp[h]))]
  unfold vec
  rw[yCI (fun e=>hc (by simp[e]))]
theorem zRI(v:Nat->Nat->Int):∀(J:List Nat) (k:Nat) (h:List Int) (i:Nat),J.Nodup->i<J.length->jf J i<h.length->vec (zEM v J k h) (jf J i)=v (k+i) (jf J i)
 |p::J,k,h,0,hn,_,hl=>by
  simp only[jf,yAD,yBA]at hl⊢
  unfold zEM
  rw[zOC v J (k+1) _ p (by simpa using (yET.1 hn).1)]
  unfold vec
  rw[yDK hl];rfl
 |p::J,k,h,i+1,hn,hi,hl=>by
  have e:jf (p::J) (i+1)=jf J i:=by simp[jf]
  rw[e]at hl⊢
  unfold zEM
  rw[zRI v J (k+1) _ i (yET.1 hn).2 (by simpa using hi) (by simpa using hl),show k+1+i=k+(i+1)by omega]
def valP(R:List (List Int))(f:Nat)(t:Int)(k p:Nat):Int:=(-(vec (R[k]?.getD []) f)*t).tdiv (vec (R[k]?.getD []) p)
def valR(R:List (List Int))(f:Nat)(t:Int)(k p:Nat):Int:= -(vec (R[k]?.getD []) f)*t.tdiv (vec (R[k]?.getD []) p)
def rawP(R:List (List Int))(J:List Nat)(n f:Nat):List Int:=zEM (valP R f (zDL R f J 0 1)) J 0 ((List.replicate n 0).set f (zDL R f J 0 1))
def rawR(R:List (List Int))(J:List Nat)(n f:Nat):List Int:=zEM (valR R f (zDD R J 0 1)) J 0 ((List.replicate n 0).set f (zDD R J 0 1))
def kerP(R:List (List Int))(J:List Nat)(n f:Nat):List Int:=zBI (rawP R J n f)
def kerR(R:List (List Int))(J:List Nat)(n f:Nat):List Int:=zDV (rawR R J n f)
def zFW(J:List Nat)(n:Nat):List Nat:=(List.range n).filter (fun f=>!J.contains f)
def zII(R:List (List Int))(J:List Nat)(n:Nat):List (List Int):=(zFW J n).map (kerP R J n)
def zNR(R:List (List Int))(J:List Nat)(n:Nat):List (List Int):=(zFW J n).map (kerR R J n)
structure KOk (R:List (List Int)) (J:List Nat) (n:Nat) (d:Int):Prop where
 nodup:J.Nodup
 lt:∀x∈J,x<n
 piv:∀i,i<J.length->0<vec (R[i]?.getD []) (jf J i)∧vec (R[i]?.getD []) (jf J i)∣d
theorem raw_zero{v:Nat->Nat->Int}{J:List Nat}{n f c:Nat}{t:Int}(hc:c∉J)(hf:f<n):vec (zEM v J 0 ((List.replicate n 0).set f t)) c=if c=f then t else 0:=by
 rw[zOC _ _ _ _ _ hc]
 unfold vec
 by_cases e:c=f
 ·subst e;rw[if_pos rfl,yDK (by simpa using hf)];rfl
 ·rw[if_neg e,yCI (Ne.symm e),yDV];split<;>rfl
theorem zPR{J:List Nat}{c:Nat}(h:c∈J):∃i,i<J.length∧jf J i=c:=by
 obtain⟨i,hi,rfl⟩:=yAM.1 h
 exact⟨i,hi,by simp[jf,hi]⟩
theorem jf_mem{J:List Nat}{i:Nat}(h:i<J.length):jf J i∈J:=by simp[jf,h]
theorem rawP_vals{R:List (List Int)}{J:List Nat}{n f:Nat}{d:Int}(h:KOk R J n d)(hf:f<n)(hfJ:f∉J):0<zDL R f J 0 1∧zDL R f J 0 1∣d∧(rawP R J n f).length=n∧
 (∀c,c∉J->vec (rawP R J n f) c=if c=f then zDL R f J 0 1 else 0)∧∀i,i<J.length->vec (rawP R J n f) (jf J i)*vec (R[i]?.getD []) (jf J i)= -(vec (R[i]?.getD []) f)*zDL R f J 0 1:=by
 obtain⟨a,b,_,e⟩:=zHC (R:=R) (f:=f) (d:=d) J 0 1 (by decide) (Int.one_dvd d) (fun i hi=>by rw[yAW];exact h.piv i hi)
 refine⟨a,b,by unfold rawP;rw[zDG];simp,fun c hc=>raw_zero hc hf,fun i hi=>?_⟩
 unfold rawP
 rw[zRI _ J 0 _ i h.nodup hi (by simpa using h.lt _ (jf_mem hi)),yAW]
 have:=e i hi
 rw[yAW]at this
 obtain⟨_,_,k⟩:=zRE (e:=vec (R[i]?.getD []) f) (h.piv i hi).1 (h.piv i hi).2
 have hd:=k _ this
 unfold valP
 exact Int.tdiv_mul_cancel (by obtain⟨q,hq⟩:=hd;exact⟨-q,by grind⟩)
theorem rawR_vals{R:List (List Int)}{J:List Nat}{n f:Nat}{d:Int}(h:KOk R J n d)(hf:f<n)(hfJ:f∉J):0<zDD R J 0 1∧zDD R J 0 1∣d∧(rawR R J n f).length=n∧
 (∀c,c∉J->vec (rawR R J n f) c=if c=f then zDD R J 0 1 else 0)∧∀i,i<J.length->vec (rawR R J n f) (jf J i)*vec (R[i]?.getD []) (jf J i)= -(vec (R[i]?.getD []) f)*zDD R J 0 1:=by
 obtain⟨a,b,_,e⟩:=zHB (R:=R) (d:=d) J 0 1 (by decide) (Int.one_dvd d) (fun i hi=>by rw[yAW];exact h.piv i hi)
 refine⟨a,b,by unfold rawR;rw[zDG];simp,fun c hc=>raw_zero hc hf,fun i hi=>?_⟩
 unfold rawR
 rw[zRI _ J 0 _ i h.nodup hi (by simpa using h.lt _ (jf_mem hi)),yAW]
 have:=e i hi
 rw[yAW]at this
 unfold valR
 rw[yER,Int.tdiv_mul_cancel this]
theorem short_pos{l:List Int}{c:Nat}(h:0<vec l c):0<vec (zBI l) c:=by
 obtain⟨g,hg,e⟩:=zCD l
 have:=e c
 rcases yBS (vec (zBI l) c) 0 with h1|h1|h1
 ·have:=yCM hg h1;omega
 ·rw[h1]at this;omega
 ·exact h1
theorem short_eq{l m:List Int}{x y:Int}(hx:0<x)(hy:0<y)(hl:l.length=m.length)(h:∀c,x*vec l c=y*vec m c):zBI l=zBI m:=by
 refine yCC (by rw[zCM,zCM,hl]) fun c c1 c2=>?_
 rw[<- zCV c1,<- zCV c2]
 obtain⟨g,hg,e⟩:=zCD l
 obtain⟨g',hg',e'⟩:=zCD m
 have h':∀c,(x*g)*vec (zBI l) c=(y*g')*vec (zBI m) c:=fun c=>by rw[yER,e,yER,e',h]
 have p1:=yBN hx hg
 have p2:=yBN hy hg'
 rcases zDQ l with a|a
 ·rcases zDQ m with b|b
  ·exact prim_eq p1 p2 h' a b c
  ·have h2:=h' c
   rw[b c,Int.mul_zero]at h2
   rw[b c]
   exact zAU (g:=x*g) (by omega) h2
 ·have h2:=h' c
  rw[a c,Int.mul_zero]at h2
  rw[a c]
  exact(zAU (g:=y*g') (by omega) h2.symm).symm
theorem ker_same{R:List (List Int)}{J:List Nat}{n f:Nat}{d:Int}(h:KOk R J n d)(hf:f<n)(hfJ:f∉J):kerP R J n f=kerR R J n f:=by
 obtain⟨a1,a2,a3,a4,a5⟩:=rawP_vals h hf hfJ
 obtain⟨b1,b2,b3,b4,b5⟩:=rawR_vals h hf hfJ
 unfold kerP kerR
 rw[zFR]
 refine short_eq b1 a1 (by omega) fun c=>?_
 by_cases hc:c∈J
 ·obtain⟨i,hi,rfl⟩:=zPR hc
  have h1:=a5 i hi
  have h2:=b5 i hi
  have h3:=(h.piv i hi).1
  refine yGA (show vec (R[i]?.getD []) (jf J i)≠0 by omega) ?_
  rw[yER,h1,yER,h2];grind
 ·rw[a4 c hc,b4 c hc]
  split
  ·exact yBV _ _
  ·simp
theorem kern_same{R:List (List Int)}{J:List Nat}{n:Nat}{d:Int}(h:KOk R J n d):zII R J n=zNR R J n:=by
 unfold zII zNR zFW
 refine yGJ fun f hf=>?_
 obtain⟨h1,h2⟩:=yDM.1 hf
 exact ker_same h (by simpa using h1) (by simpa using h2)
theorem zLG{R R':List (List Int)}:∀(J:List Nat) (k:Nat) (t:Int),(∀i,i<J.length->R[k+i]? =R'[k+i]?)->zDD R J k t=zDD R' J k t
 | [],_,_,_=>rfl
 |p::J,k,t,h=>by
  unfold zDD
  have:=h 0 (by simp)
  rw[yDS]at this
  simp only[this]
  exact zLG J (k+1) _ (fun i hi=>by rw[show k+1+i=k+(i+1)by omega];exact h (i+1) (by simp;omega))
theorem zOD{v v':Nat->Nat->Int}:∀(J:List Nat) (k:Nat) (h:List Int),(∀i,i<J.length->∀p,v (k+i) p=v' (k+i) p)->zEM v J k h=zEM v' J k h
 | [],_,_,_=>rfl
 |p::J,k,h,e=>by
  unfold zEM
  have:=e 0 (by simp) p
  rw[yDS]at this
  rw[this]
  exact zOD J (k+1) _ (fun i hi=>by rw[show k+1+i=k+(i+1)by omega];exact e (i+1) (by simp;omega))
theorem kernR_congr{R R':List (List Int)}{J:List Nat}(n:Nat)(h:∀i,i<J.length->R[i]? =R'[i]?):zNR R J n=zNR R' J n:=by
 unfold zNR
 refine yGJ fun f _=>?_
 unfold kerR rawR
 rw[zLG (R:=R) (R':=R') J 0 1 (fun i hi=>by rw[yAW];exact h i hi)]
 rw[zOD (v:=valR R f _) (v':=valR R' f (zDD R' J 0 1)) J 0 _ (fun i hi p=>by unfold valR;rw[yAW,h i hi])]
theorem zNH{W n:Nat}{L:List (List Int)}(hw:∀r∈L,r.length=W)(hN:L.length<=6)(h1:∀r∈L,∀c,c<n-> -1<=vec r c∧vec r c<=1):
 ∃d:Nat,0<d∧d<=720∧KOk (pRed L n).1 (pRed L n).2 n d:=by
 have h:=zCO L hw n (fun j hj q=>zCF (by decide) (fun r hr=>h1 r hr j hj) q)
 obtain⟨d,d1,d2,d3⟩:=h.piv_dvd hN (fun x hx r=>zCF (by decide) (fun r hr=>h1 r hr x (h.lt x hx)) r)
 exact⟨d,d1,d2,h.asc.imp (fun h=>by omega),h.lt,fun i hi=>⟨(h.pp i hi).2,d3 i hi⟩⟩
theorem zIV{n:Nat}{L:List (List Int)}(hw:∀r∈L,r.length=n)(hN:L.length<=6)(h1:∀r∈L,∀c,c<n-> -1<=vec r c∧vec r c<=1):
 zII (pRed L n).1 (pRed L n).2 n=zNR (rRed L n).done (rRed L n).piv n:=by
 obtain⟨d,_,_,hk⟩:=zNH hw hN h1
 obtain⟨e1,e2⟩:=zMC hw h1 (yAC n) (fun q _ _ c h1 h2=>by omega)
 rw[kern_same hk,<- e1,e2]
 exact kernR_congr n fun i hi=>(yCN hi).symm
end
end
end Go.Proofs.YtlffndehhhpgjaaGreat
