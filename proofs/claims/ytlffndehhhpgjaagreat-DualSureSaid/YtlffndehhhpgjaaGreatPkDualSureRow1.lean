/- Walks and plain laws for DualSureRow, part 1. -/

namespace Go.Proofs.YtlffndehhhpgjaaGreat
set_option linter.unusedVariables false
set_option linter.unusedSimpArgs false
set_option maxRecDepth 100000
set_option maxHeartbeats 4000000
section
theorem exq{α:Sort _}(a:α):∃x,x=a:=⟨a,rfl⟩
end
section
section
def ex{α:Type}(c:α->Int)(f:List α->Int):List α->Int
 | []=>0
 |r::rs=>c r*f rs-ex c (fun l=>f (r::l)) rs
theorem ex_zero{α:Type}(c:α->Int):∀l:List α,ex c (fun _=>0) l=0
 | []=>rfl
 |r::rs=>by unfold ex;rw[ex_zero c rs];simp
theorem ex_sub{α:Type}(c:α->Int):∀(l:List α) (f g:List α->Int),ex c (fun m=>f m-g m) l=ex c f l-ex c g l
 | [],_,_=>by simp[ex]
 |r::rs,f,g=>by
  unfold ex
  rw[ex_sub c rs (fun l=>f (r::l)) (fun l=>g (r::l))]
  grind
theorem ex_mul{α:Type}(c:α->Int)(k:Int):∀(l:List α) (f:List α->Int),ex c (fun m=>k*f m) l=k*ex c f l
 | [],_=>by simp[ex]
 |r::rs,f=>by
  unfold ex
  rw[ex_mul c k rs (fun l=>f (r::l))]
  grind
theorem zNL{α:Type}(c d:α->Int):∀(l:List α) (f:List α->Int),ex c (ex d f) l= -ex d (ex c f) l
 | [],_=>by simp[ex]
 |r::rs,f=>by
  have h1:ex c (fun l=>ex d f (r::l)) rs=d r*ex c f rs-ex c (ex d (fun m=>f (r::m))) rs:=by
   have:(fun l=>ex d f (r::l))=fun l=>d r*f l-ex d (fun m=>f (r::m)) l:=by funext l;rfl
   rw[this,ex_sub c rs (fun l=>d r*f l) (fun l=>ex d (fun m=>f (r::m)) l),ex_mul]
  have h2:ex d (fun l=>ex c f (r::l)) rs=c r*ex d f rs-ex d (ex c (fun m=>f (r::m))) rs:=by
   have:(fun l=>ex c f (r::l))=fun l=>c r*f l-ex c (fun m=>f (r::m)) l:=by funext l;rfl
   rw[this,ex_sub d rs (fun l=>c r*f l) (fun l=>ex c (fun m=>f (r::m)) l),ex_mul]
  have ih:=zNL c d rs (fun m=>f (r::m))
  show c r*ex d f rs-ex c (fun l=>ex d f (r::l)) rs= -(d r*ex c f rs-ex d (fun l=>ex c f (r::l)) rs)
  rw[h1,h2,ih]
  omega
theorem ex_same{α:Type}(c:α->Int)(f:List α->Int)(l:List α):ex c (ex c f) l=0:=by
 have:=zNL c c l f;omega
def det{α:Type}:List (α->Int)->List α->Int
 | [],_=>1
 |c::cs,l=>ex c (det cs) l
theorem det_rep{α:Type}{c:α->Int}:∀{cs:List (α->Int)},c∈cs->∀l:List α,det (c::cs) l=0
 |d::ds,h,l=>by
  rcases List.mem_cons.1 h with rfl|h
  ·exact ex_same _ _ _
  ·show ex c (ex d (det ds)) l=0
   rw[zNL]
   have:ex c (det ds)=fun _=>0:=by funext m;exact det_rep h m
   rw[this,ex_zero];rfl
def dotL{α:Type}:List Int->(α->Int)->List α->Int
 |k::ks,c,r::rs=>k*c r+dotL ks c rs
 |_,_,_=>0
theorem dotL_neg{α:Type}(c:α->Int):∀(ks:List Int) (l:List α),dotL (ks.map (- ·)) c l= -dotL ks c l
 | [],l=>by cases l<;>simp[dotL]
 |k::ks,[]=>by simp[dotL]
 |k::ks,r::rs=>by simp only[List.map_cons,dotL];rw[dotL_neg c ks rs];grind
theorem ex_sum{α:Type}:∀(l:List α) (f:List α->Int),∃ks:List Int,ks.length=l.length∧(∀r rs,l=r::rs->ks.head? =some (f rs))∧∀c,ex c f l=dotL ks c l
 | [],f=>⟨[],rfl,(fun _ _ h=>by cases h),fun c=>rfl⟩
 |r::rs,f=>by
  obtain⟨ks,h1,_,h3⟩:=ex_sum rs (fun l=>f (r::l))
  refine⟨f rs::ks.map (- ·),by simp[h1],(fun r' rs' e=>by cases e;rfl),fun c=>?_⟩
  unfold ex dotL
  rw[h3 c,dotL_neg]
  grind
def fact:Nat->Nat
 |0=>1
 |n+1=>(n+1)*fact n
theorem zJC{a b A B:Int}(h1: -A<=a∧a<=A)(h2: -B<=b∧b<=B): -(A*B)<=a*b∧a*b<=A*B:=by
 have ha:a.natAbs<=A.toNat:=by omega
 have hb:b.natAbs<=B.toNat:=by omega
 have h:=Nat.mul_le_mul ha hb
 rw[<- Int.natAbs_mul]at h
 have e:((A.toNat*B.toNat:Nat):Int)=A*B:=by
  rw[Int.natCast_mul,Int.toNat_of_nonneg (by omega),Int.toNat_of_nonneg (by omega)]
 omega
theorem ex_le{α:Type}{c:α->Int}{C:Int}(hc:∀r,-C<=c r∧c r<=C):∀(n:Nat) (F:Int) (f:List α->Int) (l:List α),l.length=n+1->(∀m:List α,m.length=n-> -F<=f m∧f m<=F)->
 -((n+1:Nat)*(C*F))<=ex c f l∧ex c f l<=(n+1:Nat)*(C*F)
 |0,F,f,[r],_,hf=>by
  have:=zJC (hc r) (hf [] rfl)
  simp[ex];omega
 |n+1,F,f,r::rs,hl,hf=>by
  have hl':rs.length=n+1:=by simpa using hl
  have h1:=zJC (hc r) (hf rs hl')
  have h2:=ex_le hc n F (fun l=>f (r::l)) rs hl' (fun m hm=>hf (r::m) (by simp[hm]))
  unfold ex
  have e:((n+1+1:Nat):Int)*(C*F)=(n+1:Nat)*(C*F)+C*F:=by
   generalize C*F=K
   push_cast
   grind
  rw[e]
  omega
theorem det_le{α:Type}:∀(cs:List (α->Int)),(∀c∈cs,∀r,-1<=c r∧c r<=1)->∀l:List α,l.length=cs.length-> -(fact cs.length:Int)<=det cs l∧det cs l<=fact cs.length
 | [],_,l,_=>by simp[det,fact]
 |c::cs,hc,l,hl=>by
  have h:=ex_le (hc c (by simp)) cs.length (fact cs.length) (det cs) l (by simpa using hl) (fun m hm=>det_le cs (fun d hd=>hc d (by simp[hd])) m hm)
  show _<=ex c (det cs) l∧ex c (det cs) l<=_
  simp only[List.length_cons,fact]
  rw[Int.natCast_mul]
  simpa using h
theorem det_le2{α:Type}{c:α->Int}{Y:Int}(hY:∀r,-Y<=c r∧c r<=Y)(cs:List (α->Int))(hc:∀c∈cs,∀r,-1<=c r∧c r<=1)(l:List α)(hl:l.length=cs.length+1):
 -((cs.length+1:Nat)*(Y*fact cs.length))<=det (c::cs) l∧det (c::cs) l<=(cs.length+1:Nat)*(Y*fact cs.length):=
 ex_le hY cs.length (fact cs.length) (det cs) l hl (fun m hm=>det_le cs hc m hm)
end
section
abbrev Vec:=Nat->Int
inductive Sp (B:Vec->Prop):Vec->Prop
 |of {v:Vec}:B v->Sp B v
 |zero:Sp B (fun _=>0)
 |add {u v:Vec}:Sp B u->Sp B v->Sp B (fun c=>u c+v c)
 |mul (k:Int) {u:Vec}:Sp B u->Sp B (fun c=>k*u c)
 |div {k:Int} {u:Vec}:k≠0->Sp B (fun c=>k*u c)->Sp B u
theorem Sp.congr{B:Vec->Prop}{u v:Vec}(h:Sp B u)(e:∀c,v c=u c):Sp B v:=by
 have:v=u:=funext e
 rw[this];exact h
theorem Sp.trans{B B':Vec->Prop}(hB:∀v,B v->Sp B' v){v:Vec}(h:Sp B v):Sp B' v:=by
 induction h with
 |of h=>exact hB _ h
 |zero=>exact .zero
 |add _ _ h1 h2=>exact .add h1 h2
 |mul k _ h=>exact .mul k h
 |div hk _ h=>exact .div hk h
theorem Sp.lin{B:Vec->Prop}{u v:Vec}(x y:Int)(hu:Sp B u)(hv:Sp B v):Sp B (fun c=>x*u c+y*v c):=.add (.mul x hu) (.mul y hv)
theorem Sp.of_eq{B:Vec->Prop}{u v w:Vec}{n x y:Int}(hn:n≠0)(hu:Sp B u)(hw:Sp B w)(e:∀c,n*v c=x*u c+y*w c):Sp B v:=
 .div hn ((Sp.lin x y hu hw).congr e)
def sm(f:Nat->Int):Nat->Int
 |0=>0
 |n+1=>sm f n+f n
theorem zAG{f g:Nat->Int}:∀{n:Nat},(∀k,k<n->f k=g k)->sm f n=sm g n
 |0,_=>rfl
 |n+1,h=>by unfold sm;rw[zAG (fun k hk=>h k (by omega)),h n (by omega)]
theorem zCR:∀n,sm (fun _=>0) n=0
 |0=>rfl
 |n+1=>by unfold sm;rw[zCR n];rfl
theorem zEN(f g:Nat->Int):∀n,sm (fun k=>f k+g k) n=sm f n+sm g n
 |0=>rfl
 |n+1=>by unfold sm;rw[zEN f g n];omega
theorem zCC(x:Int)(f:Nat->Int):∀n,sm (fun k=>x*f k) n=x*sm f n
 |0=>by simp[sm]
 |n+1=>by unfold sm;rw[zCC x f n];grind
theorem zDS{f:Nat->Int}{q:Nat}:∀{n:Nat},q<n->(∀k,k<n->k≠q->f k=0)->sm f n=f q
 |n+1,hq,h=>by
  unfold sm
  by_cases e:q=n
  ·subst e
   rw[zAG (g:=fun _=>0) (fun k hk=>h k (by omega) (by omega)),zCR];omega
  ·rw[zDS (show q<n by omega) (fun k hk hne=>h k (by omega) hne),h n (by omega) (by omega)];omega
theorem zMI:∀(K:Nat) (x:Nat->Int),(∀k,k<K->x k≠0)->∃D:Int,D≠0∧∃e:Nat->Int,∀k,k<K->e k*x k=D
 |0,_,_=>⟨1,by decide,fun _=>0,fun k hk=>by omega⟩
 |K+1,x,h=>by
  obtain⟨D,hD,e,he⟩:=zMI K x (fun k hk=>h k (by omega))
  refine⟨D*x K,Int.mul_ne_zero hD (h K (by omega)),fun k=>if k=K then D else e k*x K,fun k hk=>?_⟩
  by_cases c:k=K
  ·subst c;simp
  ·simp only[if_neg c];rw[<- he k (by omega)];grind
def RB(K:Nat)(R:Nat->Vec)(v:Vec):Prop:=∃k,k<K∧v=R k
structure Red (K:Nat) (J:Nat->Nat) (R:Nat->Vec):Prop where
 piv:∀k,k<K->R k (J k)≠0
 off:∀k,k<K->∀q,q<K->k≠q->R k (J q)=0
theorem Red.repr{K:Nat}{J:Nat->Nat}{R:Nat->Vec}(h:Red K J R):∃D:Int,D≠0∧∃e:Nat->Int,∀v,Sp (RB K R) v->∀c,D*v c=sm (fun k=>v (J k)*e k*R k c) K:=by
 obtain⟨D,hD,e,he⟩:=zMI K (fun k=>R k (J k)) h.piv
 refine⟨D,hD,e,fun v hv=>?_⟩
 induction hv with
 |of hb=>
  obtain⟨q,hq,rfl⟩:=hb
  intro c
  rw[zDS hq (fun k hk hne=>by rw[h.off q hq k hk (Ne.symm hne)];simp),<- he q hq]
  grind
 |zero=>intro c;rw[zAG (g:=fun _=>0) (fun k _=>by simp),zCR];simp
 |add _ _ h1 h2=>intro c;rw[Int.mul_add,h1,h2,<- zEN];exact zAG fun k _=>by grind
 |mul x _ h1=>
  intro c
  rw[Int.mul_left_comm,h1,<- zCC]
  exact zAG fun k _=>by grind
 | @div x u hx _ h1=>
   intro c
   refine Int.eq_of_mul_eq_mul_left hx ?_
   rw[<- zCC]
   have:=h1 c
   rw[show x*(D*u c)=D*(x*u c)by grind,this]
   exact zAG fun k _=>by grind
theorem Red.zero{K:Nat}{J:Nat->Nat}{R:Nat->Vec}(h:Red K J R){v:Vec}(hv:Sp (RB K R) v)(h0:∀k,k<K->v (J k)=0)(c:Nat):v c=0:=by
 obtain⟨D,hD,e,hr⟩:=h.repr
 have:=hr v hv c
 rw[zAG (g:=fun _=>0) (fun k hk=>by rw[h0 k hk];simp),zCR]at this
 rcases Int.mul_eq_zero.1 this with h|h
 ·exact absurd h hD
 ·exact h
theorem RB.sp{K:Nat}{R:Nat->Vec}{k:Nat}(hk:k<K):Sp (RB K R) (R k):=.of ⟨k,hk,rfl⟩
theorem Red.ratio{K:Nat}{J:Nat->Nat}{R:Nat->Vec}(h:Red K J R){v:Vec}(hv:Sp (RB K R) v){p:Nat}(hp:p<K)(h0:∀q,q<K->q≠p->v (J q)=0)(c:Nat):R p (J p)*v c=v (J p)*R p c:=by
 have hd:Sp (RB K R) (fun c=>R p (J p)*v c+ -(v (J p))*R p c):=Sp.lin _ _ hv (RB.sp hp)
 have:=h.zero hd (fun k hk=>by
  by_cases e:k=p
  ·subst e;grind
  ·rw[h0 k hk e,h.off p hp k hk (Ne.symm e)];simp) c
 grind
def zCK:Nat->List Nat
 |0=>[]
 |k+1=>k::zCK k
theorem zEJ:∀K,(zCK K).length=K
 |0=>rfl
 |K+1=>by simp[zCK,zEJ K]
theorem zHT:∀{K k:Nat},k∈zCK K↔k<K
 |0,k=>by simp[zCK]
 |K+1,k=>by simp only[zCK,List.mem_cons,zHT];omega
def zCO(J:Nat->Nat)(A:Nat->Vec):Nat->List (Nat->Int)
 |0=>[]
 |k+1=>(fun r=>A r (J k))::zCO J A k
theorem zCU(J:Nat->Nat)(A:Nat->Vec):∀K,(zCO J A K).length=K
 |0=>rfl
 |K+1=>by simp[zCO,zCU J A K]
theorem zFD{J:Nat->Nat}{A:Nat->Vec}:∀{K:Nat} {x:Nat->Int},x∈zCO J A K↔∃k,k<K∧x=fun r=>A r (J k)
 |0,x=>by simp[zCO]
 |K+1,x=>by
  simp only[zCO,List.mem_cons,zFD]
  constructor
  ·rintro (rfl|⟨k,hk,rfl⟩)
   ·exact⟨K,by omega,rfl⟩
   ·exact⟨k,by omega,rfl⟩
  ·rintro⟨k,hk,rfl⟩
   by_cases e:k=K
   ·subst e;exact .inl rfl
   ·exact .inr ⟨k,by omega,rfl⟩
theorem det_map{α β:Type}(f:α->β):∀(cs:List (β->Int)) (l:List α),det (cs.map (fun c a=>c (f a))) l=det cs (l.map f)
 | [],l=>rfl
 |c::cs,l=>by
  have key:∀(l:List α) (F:List α->Int) (G:List β->Int),(∀m,F m=G (m.map f))->ex (fun a=>c (f a)) F l=ex c G (l.map f):=by
   intro l
   induction l with
   |nil=>intro F G h;rfl
   |cons r rs ih=>
    intro F G h
    show c (f r)*F rs-ex (fun a=>c (f a)) (fun l=>F (r::l)) rs=c (f r)*G (rs.map f)-ex c (fun l=>G (f r::l)) (rs.map f)
    rw[h rs,ih (fun l=>F (r::l)) (fun l=>G (f r::l)) (fun m=>h (r::m))]
  exact key l _ _ (fun m=>det_map f cs m)
theorem dotL_sp{B:Vec->Prop}{A:Nat->Vec}:∀(l:List Nat) (ks:List Int),(∀r∈l,Sp B (A r))->Sp B (fun c=>dotL ks (fun r=>A r c) l)
 | [],ks,_=>by cases ks<;>exact .zero
 |r::rs,[],_=>.zero
 |r::rs,k::ks,h=>by
  refine Sp.congr (.add (.mul k (h r (by simp))) (dotL_sp rs ks (fun x hx=>h x (by simp[hx])))) fun c=>?_
  rfl
structure Stage (K N:Nat) (J:Nat->Nat) (R A:Nat->Vec):Prop where
 le:K<=N
 d0:det (zCO J A K) (zCK K)≠0
 low:∀i,K<=i->i<N->(∀k,k<K->R i (J k)=0)∧∃t s:Int,t≠0∧s≠0∧Sp (RB K A) (fun c=>t*R i c+s*A i c)
 up:∀p,p<K->Sp (RB K A) (R p)
 red:Red K J R
 org:∀p,p<K->Sp (RB K R) (A p)
theorem Stage.start(N:Nat)(J:Nat->Nat)(A:Nat->Vec):Stage 0 N J A A:=
 ⟨Nat.zero_le _,by simp[zCO,det],fun i _ _=>⟨fun k hk=>by omega,1,-1,by decide,by decide,Sp.zero.congr fun c=>by grind⟩,fun p hp=>by omega,⟨fun k hk=>by omega,fun k hk=>by omega⟩,fun p hp=>by omega⟩
def minorL(K:Nat)(J:Nat->Nat)(A:Nat->Vec)(i:Nat)(c:Nat):Int:=det ((fun r=>A r c)::zCO J A K) (i::zCK K)
theorem Stage.minor{K N:Nat}{J:Nat->Nat}{R A:Nat->Vec}(h:Stage K N J R A){i:Nat}(h1:K<=i)(h2:i<N):
 ∃x y:Int,x≠0∧y≠0∧∀c,x*R i c=y*minorL K J A i c:=by
 obtain⟨hz,t,s,ht,hs,hsp⟩:=h.low i h1 h2
 obtain⟨ks,hl,hh,hk⟩:=ex_sum (i::zCK K) (det (zCO J A K))
 have hh0:=hh i (zCK K) rfl
 match ks,hl,hh0,hk with
 |k0::ks,hl,hh0,hk=>
  have hk0:k0=det (zCO J A K) (zCK K):=by simpa using hh0
  have hd:k0≠0:=by rw[hk0];exact h.d0
  have hm:∀c,minorL K J A i c=k0*A i c+dotL ks (fun r=>A r c) (zCK K):=fun c=>hk (fun r=>A r c)
  -- k0 t R i+s D i
  have hv:Sp (RB K A) (fun c=>k0*(t*R i c+s*A i c)+s*dotL ks (fun r=>A r c) (zCK K)):=
   Sp.lin k0 s hsp (dotL_sp (zCK K) ks fun r hr=>RB.sp (zHT.1 hr))
  have hv':=hv.trans (B':=RB K R) (fun v ⟨p,hp,e⟩=>e▸h.org p hp)
  have h0:=h.red.zero hv' (fun k hk'=>by
   have e1:=hz k hk'
   have e2:minorL K J A i (J k)=0:=det_rep (zFD.2 ⟨k,hk',rfl⟩) _
   have e3:=hm (J k)
   rw[e2]at e3
   rw[e1]
   grind)
  refine⟨k0*t,-s,Int.mul_ne_zero hd ht,by omega,fun c=>?_⟩
  have:=h0 c
  rw[hm c]
  grind
 | [],hl,_,_=>simp at hl
def zBG(J:Nat->Nat)(A:Nat->Vec)(p:Nat):Nat->List (Nat->Int)
 |0=>[]
 |k+1=>if k=p then zBG J A p k else(fun r=>A r (J k))::zBG J A p k
theorem zFX{J:Nat->Nat}{A:Nat->Vec}{p:Nat}:∀{K k:Nat},k<K->k≠p->(fun r=>A r (J k))∈zBG J A p K
 |K+1,k,hk,hne=>by
  unfold zBG
  by_cases e:K=p
  ·rw[if_pos e];exact zFX (by omega) hne
  ·rw[if_neg e]
   by_cases e2:k=K
   ·subst e2;simp
   ·exact List.mem_cons_of_mem _ (zFX (by omega) hne)
theorem zDH{J:Nat->Nat}{A:Nat->Vec}{p:Nat}:∀{K:Nat} {x:Nat->Int},x∈zBG J A p K->∃k,k<K∧x=fun r=>A r (J k)
 |0,x,h=>by simp[zBG]at h
 |K+1,x,h=>by
  unfold zBG at h
  by_cases e:K=p
  ·rw[if_pos e]at h
   obtain⟨k,hk,rfl⟩:=zDH h;exact⟨k,by omega,rfl⟩
  ·rw[if_neg e]at h
   rcases List.mem_cons.1 h with rfl|h
   ·exact⟨K,by omega,rfl⟩
   ·obtain⟨k,hk,rfl⟩:=zDH h;exact⟨k,by omega,rfl⟩
theorem zKR{J:Nat->Nat}{A:Nat->Vec}{p:Nat}:∀{K:Nat},K<=p->zBG J A p K=zCO J A K
 |0,_=>rfl
 |K+1,h=>by unfold zBG zCO;rw[if_neg (by omega),zKR (by omega)]
theorem zFH{J:Nat->Nat}{A:Nat->Vec}{p:Nat}:∀{K:Nat},p<K->(∃s:Int,(s=1∨s= -1)∧∀l,det (zCO J A K) l=s*det ((fun r=>A r (J p))::zBG J A p K) l)∧(zBG J A p K).length+1=K
 |K+1,h=>by
  by_cases e:p=K
  ·subst e
   unfold zBG
   rw[if_pos rfl,zKR (Nat.le_refl _)]
   exact⟨⟨1,.inl rfl,fun l=>by rw[Int.one_mul];rfl⟩,by rw[zCU]⟩
  ·obtain⟨⟨s,hs,hl⟩,hn⟩:=zFH (K:=K) (A:=A) (J:=J) (show p<K by omega)
   unfold zBG
   rw[if_neg (by omega)]
   refine⟨⟨-s,by omega,fun l=>?_⟩,by simp;omega⟩
   show ex (fun r=>A r (J K)) (det (zCO J A K)) l= -s*ex (fun r=>A r (J p)) (ex (fun r=>A r (J K)) (det (zBG J A p K))) l
   have:det (zCO J A K)=fun m=>s*det ((fun r=>A r (J p))::zBG J A p K) m:=funext hl
   rw[this,ex_mul,zNL (fun r=>A r (J p))]
   show s*ex (fun r=>A r (J K)) (ex (fun r=>A r (J p)) (det (zBG J A p K))) l=_
   grind
def minorU(K:Nat)(J:Nat->Nat)(A:Nat->Vec)(p:Nat)(c:Nat):Int:=det ((fun r=>A r c)::zBG J A p K) (zCK K)
theorem Stage.minorU{K N:Nat}{J:Nat->Nat}{R A:Nat->Vec}(h:Stage K N J R A){p:Nat}(hp:p<K):
 (∃s:Int,(s=1∨s= -1)∧minorU K J A p (J p)=s*det (zCO J A K) (zCK K))∧∀c,R p (J p)*Go.Proofs.YtlffndehhhpgjaaGreat.minorU K J A p c=Go.Proofs.YtlffndehhhpgjaaGreat.minorU K J A p (J p)*R p c:=by
 obtain⟨⟨s,hs,hl⟩,hn⟩:=zFH (J:=J) (A:=A) hp
 refine⟨⟨s,hs,?_⟩,?_⟩
 ·have:=hl (zCK K)
  show det ((fun r=>A r (J p))::zBG J A p K) (zCK K)=_
  rw[this]
  rcases hs with rfl|rfl<;>grind
 ·obtain⟨ks,_,_,hk⟩:=ex_sum (zCK K) (det (zBG J A p K))
  have hv:Sp (RB K A) (Go.Proofs.YtlffndehhhpgjaaGreat.minorU K J A p):=(dotL_sp (zCK K) ks fun r hr=>RB.sp (zHT.1 hr)).congr fun c=>hk _
  have hv':=hv.trans (B':=RB K R) (fun v ⟨q,hq,e⟩=>e▸h.org q hq)
  exact h.red.ratio hv' hp (fun q hq hne=>det_rep (zFX hq hne) _)
structure Step (K N i j:Nat) (pi:Nat->Nat) (R R' A A':Nat->Vec):Prop where
 lo:K<=i
 hi:i<N
 ne:R i j≠0
 orgs:∀q,A' q=A (pi q)
 fix:∀q,q<K->pi q=q
 at':pi K=i
 rest:∀q,K<q->q<N->K<=pi q∧pi q<N
 surj:∀m,m<N->∃q,q<N∧pi q=m
 pivot:∃z:Int,z≠0∧∀c,R' K c=z*R i c
 other:∀q,q<N->q≠K->R' q j=0∧∃x y g:Int,x≠0∧g≠0∧∀c,g*R' q c=x*R (pi q) c+y*R i c
theorem zAN{g x:Int}(hg:g≠0)(h:g*x=0):x=0:=(Int.mul_eq_zero.1 h).resolve_left hg
theorem Stage.step{K N i j:Nat}{J:Nat->Nat}{pi:Nat->Nat}{R R' A A':Nat->Vec}(h:Stage K N J R A)(s:Step K N i j pi R R' A A')(J':Nat->Nat)(hJ:∀k,k<K->J' k=J k)(hJK:J' K=j):Stage (K+1) N J' R' A':=by
 obtain⟨hzi,ti,si,hti,hsi,hspi⟩:=h.low i s.lo s.hi
 obtain⟨z,hz,hzR⟩:=s.pivot
 have hiK:K<N:=Nat.lt_of_le_of_lt s.lo s.hi
 have hpiv:∀q,q<N->q≠K->∀k,k<K->R (pi q) (J k)=0->R' q (J k)=0:=by
  intro q hq hne k hk h0
  obtain⟨_,x,y,g,hx,hg,e⟩:=s.other q hq hne
  refine zAN hg ?_
  rw[e,h0,hzi k hk];simp
 have subA:∀v,RB K A v->Sp (RB (K+1) A') v:=by
  rintro v ⟨p,hp,rfl⟩
  have:A p=A' p:=by rw[s.orgs,s.fix p hp]
  rw[this];exact RB.sp (by omega)
 have hAi:Sp (RB (K+1) A') (A i):=by
  have:A i=A' K:=by rw[s.orgs,s.at']
  rw[this];exact RB.sp (by omega)
 -- R i lies in the span of the new first rows
 have hRi:Sp (RB (K+1) A') (R i):=by
  refine Sp.of_eq (n:=ti) (x:=1) (y:= -si) hti (hspi.trans subA) hAi fun c=>?_
  grind
 have hRi':Sp (RB (K+1) R') (R i):=Sp.div hz ((RB.sp (by omega:K<K+1)).congr fun c=>(hzR c).symm)
 have hRk':∀v,RB K R v->Sp (RB (K+1) R') v:=by
  rintro v ⟨k,hk,rfl⟩
  obtain⟨_,x,y,g,hx,hg,e⟩:=s.other k (by omega) (by omega)
  rw[s.fix k hk]at e
  refine Sp.of_eq (n:=x) (x:=g) (y:= -y) hx (RB.sp (by omega:k<K+1)) hRi' fun c=>?_
  have:=e c
  grind
 refine⟨by omega,?_,?_,?_,⟨?_,?_⟩,?_⟩
 ·-- the determinant
  obtain⟨x,y,hx,hy,hm⟩:=h.minor s.lo s.hi
  have hmj:=hm j
  have hpc:∀k,k<=K->zCO J' A' k=(zCO J A k).map (fun c a=>c (pi a)):=by
   intro k
   induction k with
   |zero=>intro _;rfl
   |succ k ih=>
    intro hk
    show(fun r=>A' r (J' k))::zCO J' A' k=(fun a=>A (pi a) (J k))::(zCO J A k).map (fun c a=>c (pi a))
    rw[ih (by omega),hJ k (by omega)]
    congr 1
    funext r
    rw[s.orgs]
  have e:det (zCO J' A' (K+1)) (zCK (K+1))=minorL K J A i j:=by
   show det ((fun r=>A' r (J' K))::zCO J' A' K) (K::zCK K)=det ((fun r=>A r j)::zCO J A K) (i::zCK K)
   have e1:(fun r=>A' r (J' K))::zCO J' A' K=((fun r=>A r j)::zCO J A K).map (fun c a=>c (pi a)):=by
    rw[hpc K (Nat.le_refl _),hJK]
    show _=(fun a=>A (pi a) j)::_
    congr 1
    funext r
    rw[s.orgs]
   have e2:i::zCK K=(K::zCK K).map pi:=by
    have:(zCK K).map pi=zCK K:=by
     conv=>rhs;rw[<- List.map_id (zCK K)]
     exact List.map_congr_left fun q hq=>s.fix q (zHT.1 hq)
    rw[List.map_cons,s.at',this]
   rw[e1,e2,det_map]
  rw[e]
  intro h0
  rw[h0]at hmj
  exact s.ne (zAN hx (by rw[hmj];simp))
 ·intro q h1 h2
  obtain⟨hj0,x,y,g,hx,hg,e⟩:=s.other q h2 (by omega)
  obtain⟨r1,r2⟩:=s.rest q (by omega) h2
  obtain⟨hzq,t,sq,ht,hsq,hspq⟩:=h.low (pi q) r1 r2
  refine⟨fun k hk=>?_,g*t*ti,ti*x*sq,Int.mul_ne_zero (Int.mul_ne_zero hg ht) hti,Int.mul_ne_zero (Int.mul_ne_zero hti hx) hsq,?_⟩
  ·by_cases c:k=K
   ·subst c;rw[hJK];exact hj0
   ·rw[hJ k (by omega)];exact hpiv q h2 (by omega) k (by omega) (hzq k (by omega))
  ·have h3:=Sp.add (Sp.mul (ti*x) (hspq.trans subA)) (Sp.mul (t*ti*y) hRi)
   refine h3.congr fun c=>?_
   have:=e c
   rw[s.orgs q]
   grind
 ·intro p hp
  by_cases c:p=K
  ·subst c
   exact(Sp.mul z hRi).congr hzR
  ·obtain⟨_,x,y,g,hx,hg,e⟩:=s.other p (by omega) c
   rw[s.fix p (by omega)]at e
   exact Sp.of_eq (n:=g) (x:=x) (y:=y) hg ((h.up p (by omega)).trans subA) hRi e
 ·intro k hk
  by_cases c:k=K
  ·subst c
   rw[hJK,hzR]
   exact Int.mul_ne_zero hz s.ne
  ·obtain⟨_,x,y,g,hx,hg,e⟩:=s.other k (by omega) c
   rw[s.fix k (by omega)]at e
   rw[hJ k (by omega)]
   intro h0
   have:=e (J k)
   rw[h0,hzi k (by omega)]at this
   have h1:=h.red.piv k (by omega)
   have:x*R k (J k)=0:=by grind
   exact h1 (zAN hx this)
 ·intro k hk q hq hne
  by_cases c:k=K
  ·subst c
   rw[hzR,hJ q (by omega),hzi q (by omega)];simp
  ·by_cases c2:q=K
   ·subst c2
    rw[hJK];exact(s.other k (by omega) c).1
   ·rw[hJ q (by omega)]
    exact hpiv k (by omega) c q (by omega) (by rw[s.fix k (by omega)];exact h.red.off k (by omega) q (by omega) hne)
 ·intro p hp
  by_cases c:p=K
  ·subst c
   rw[s.orgs,s.at']
   have h1:Sp (RB (p+1) R') (fun c=>ti*R i c+si*A i c):=(hspi.trans (B':=RB p R) (fun v ⟨q,hq,e⟩=>e▸h.org q hq)).trans hRk'
   refine Sp.of_eq (n:=si) (x:=1) (y:= -ti) hsi h1 hRi' fun c=>?_
   grind
  ·rw[s.orgs,s.fix p (by omega)]
   exact(h.org p (by omega)).trans hRk'
end
section
def Prim(V:Vec):Prop:=∀g:Int,(∀c,g∣V c)->g∣1
theorem zJT{V W:Vec}{x y:Int}(hx:x≠0)(h:∀c,x*V c=y*W c)(hp:Prim V)(c:Nat):(V c).natAbs<=(W c).natAbs:=by
 have hg:0<Nat.gcd x.natAbs y.natAbs:=Nat.gcd_pos_of_pos_left _ (by omega)
 obtain⟨g,hge⟩:=exq (Nat.gcd x.natAbs y.natAbs)
 have e1:x.natAbs/g*g=x.natAbs:=by rw[hge];exact Nat.div_mul_cancel (Nat.gcd_dvd_left _ _)
 have e2:y.natAbs/g*g=y.natAbs:=by rw[hge];exact Nat.div_mul_cancel (Nat.gcd_dvd_right _ _)
 have hco:Nat.Coprime (x.natAbs/g) (y.natAbs/g):=by rw[hge]at*;exact Nat.coprime_div_gcd_div_gcd hg
 rw[<- hge]at hg
 have hn:∀c,x.natAbs/g*(V c).natAbs=y.natAbs/g*(W c).natAbs:=by
  intro c
  have h1:x.natAbs*(V c).natAbs=y.natAbs*(W c).natAbs:=by rw[<- Int.natAbs_mul,<- Int.natAbs_mul,h c]
  rw[<- e1,<- e2]at h1
  refine Nat.eq_of_mul_eq_mul_left hg ?_
  rw[<- Nat.mul_assoc,<- Nat.mul_assoc,Nat.mul_comm g,Nat.mul_comm g]
  exact h1
 have hd:∀c,((y.natAbs/g:Nat):Int)∣V c:=by
  intro c
  refine Int.ofNat_dvd_left.2 ?_
  refine Nat.Coprime.dvd_of_dvd_mul_left hco.symm (m:=x.natAbs/g) ?_
  rw[hn c];exact Nat.dvd_mul_right _ _
 have h1:y.natAbs/g=1:=by
  have:=hp _ hd
  have:=Int.ofNat_dvd_left.1 this
  exact Nat.dvd_one.1 this
 have h2:=hn c
 rw[h1,Nat.one_mul]at h2
 have h3:0<x.natAbs/g:=by
  rcases Nat.eq_zero_or_pos (x.natAbs/g)with h|h
  ·rw[h]at e1;omega
  ·exact h
 rw[<- h2]
 exact Nat.le_mul_of_pos_left _ h3
theorem zJN{a B:Int}(h: -B<=a∧a<=B):a.natAbs<=B.toNat:=by omega
theorem Stage.low_le{K N:Nat}{J:Nat->Nat}{R A:Nat->Vec}(h:Stage K N J R A)(h1:∀k,k<K->∀r,-1<=A r (J k)∧A r (J k)<=1){i:Nat}(hi1:K<=i)(hi2:i<N)(hp:Prim (R i))
 {c:Nat}{Y:Int}(hY:∀r,-Y<=A r c∧A r c<=Y):(R i c).natAbs<=((K+1:Nat)*(Y*fact K)).toNat:=by
 obtain⟨x,y,hx,_,e⟩:=h.minor hi1 hi2
 refine Nat.le_trans (zJT hx e hp c) (zJN ?_)
 have:=det_le2 (c:=fun r=>A r c) hY (zCO J A K) (fun d hd r=>by obtain⟨k,hk,rfl⟩:=zFD.1 hd;exact h1 k hk r) (i::zCK K) (by simp[zCU,zEJ])
 rw[zCU]at this
 exact this
theorem Stage.up_le{K N:Nat}{J:Nat->Nat}{R A:Nat->Vec}(h:Stage K N J R A)(h1:∀k,k<K->∀r,-1<=A r (J k)∧A r (J k)<=1){p:Nat}(hp:p<K)(hpr:Prim (R p))
 {c:Nat}{Y:Int}(hY:∀r,-Y<=A r c∧A r c<=Y):(R p c).natAbs<=((K:Nat)*(Y*fact (K-1))).toNat:=by
 obtain⟨⟨s,hs,e0⟩,e⟩:=h.minorU hp
 have hx:Go.Proofs.YtlffndehhhpgjaaGreat.minorU K J A p (J p)≠0:=by
  rw[e0];have:=h.d0
  rcases hs with rfl|rfl<;>omega
 refine Nat.le_trans (zJT hx (fun c=>(e c).symm) hpr c) (zJN ?_)
 have hl:=(zFH (J:=J) (A:=A) hp).2
 have:=det_le2 (c:=fun r=>A r c) hY (zBG J A p K) (fun d hd r=>by obtain⟨k,hk,rfl⟩:=zDH hd;exact h1 k hk r) (zCK K) (by rw[zEJ];exact hl.symm)
 rw[hl,show(zBG J A p K).length=K-1 by omega]at this
 exact this
theorem Stage.piv_dvd{K N:Nat}{J:Nat->Nat}{R A:Nat->Vec}(h:Stage K N J R A){p:Nat}(hp:p<K)(hpr:Prim (R p)):R p (J p)∣det (zCO J A K) (zCK K):=by
 obtain⟨⟨s,hs,e0⟩,e⟩:=h.minorU hp
 obtain⟨d,hd⟩:=exq (det (zCO J A K) (zCK K))
 rw[<- hd]at e0⊢
 -- R p (J p)*E c=(s d)*R p c;the row has no common divisor
 rw[e0]at e
 obtain⟨x,hx⟩:=exq (R p (J p))
 rw[<- hx]at e⊢
 have hx0:x≠0:=by rw[hx];exact h.red.piv p hp
 have hg:0<Nat.gcd x.natAbs d.natAbs:=Nat.gcd_pos_of_pos_left _ (by omega)
 obtain⟨g,hge⟩:=exq (Nat.gcd x.natAbs d.natAbs)
 have e1:x.natAbs/g*g=x.natAbs:=by rw[hge];exact Nat.div_mul_cancel (Nat.gcd_dvd_left _ _)
 have e2:d.natAbs/g*g=d.natAbs:=by rw[hge];exact Nat.div_mul_cancel (Nat.gcd_dvd_right _ _)
 have hco:Nat.Coprime (x.natAbs/g) (d.natAbs/g):=by rw[hge]at*;exact Nat.coprime_div_gcd_div_gcd hg
 rw[<- hge]at hg
 have hsd:(s*d).natAbs=d.natAbs:=by rcases hs with rfl|rfl<;>simp
 have hdv:∀c,((x.natAbs/g:Nat):Int)∣R p c:=by
  intro c
  refine Int.ofNat_dvd_left.2 ?_
  refine Nat.Coprime.dvd_of_dvd_mul_left hco (m:=d.natAbs/g) ?_
  have h1:x.natAbs*(Go.Proofs.YtlffndehhhpgjaaGreat.minorU K J A p c).natAbs=d.natAbs*(R p c).natAbs:=by rw[<- Int.natAbs_mul,e c,Int.natAbs_mul,hsd]
  rw[<- e1,<- e2]at h1
  have h2:x.natAbs/g*(Go.Proofs.YtlffndehhhpgjaaGreat.minorU K J A p c).natAbs=d.natAbs/g*(R p c).natAbs:=by
   refine Nat.eq_of_mul_eq_mul_left hg ?_
   rw[<- Nat.mul_assoc,<- Nat.mul_assoc,Nat.mul_comm g,Nat.mul_comm g]
   exact h1
  rw[<- h2];exact Nat.dvd_mul_right _ _
 have h1:x.natAbs/g=1:=Nat.dvd_one.1 (Int.ofNat_dvd_left.1 (hpr _ hdv))
 rw[h1,Nat.one_mul]at e1
 rw[<- Int.natAbs_dvd_natAbs,<- e1,<- e2]
 exact Nat.dvd_mul_left _ _
structure Ech (K:Nat) (J:Nat->Nat) (R:Nat->Vec):Prop where
 red:Red K J R
 lead:∀k,k<K->∀c,c<J k->R k c=0
 asc:∀k q,k<q->q<K->J k<J q
theorem Ech.pivot_iff{K:Nat}{J:Nat->Nat}{R:Nat->Vec}(h:Ech K J R)(j:Nat):(∃k,k<K∧J k=j)↔∃v,Sp (RB K R) v∧v j≠0∧∀c,c<j->v c=0:=by
 constructor
 ·rintro⟨k,hk,rfl⟩
  exact⟨R k,RB.sp hk,h.red.piv k hk,h.lead k hk⟩
 ·rintro⟨v,hv,hj,h0⟩
  rcases Classical.em (∃k,k<K∧J k=j)with c|c
  ·exact c
  ·exfalso
   obtain⟨D,hD,e,hr⟩:=h.red.repr
   have:=hr v hv j
   rw[zAG (g:=fun _=>0) (fun k hk=>?_),zCR]at this
   ·rcases Int.mul_eq_zero.1 this with h|h
    ·exact hD h
    ·exact hj h
   ·rcases Nat.lt_trichotomy (J k) j with h1|h1|h1
    ·simp[h0 _ h1]
    ·exact absurd ⟨k,hk,h1⟩ c
    ·rw[h.lead k hk j h1];simp
theorem asc_eq:∀{l m:List Nat},l.Pairwise (· < ·)->m.Pairwise (· < ·)->(∀x,x∈l↔x∈m)->l=m
 | [],[],_,_,_=>rfl
 | [],b::m,_,_,h=>by have:=(h b).2 (by simp);simp at this
 |a::l,[],_,_,h=>by have:=(h a).1 (by simp);simp at this
 |a::l,b::m,hl,hm,h=>by
  rw[List.pairwise_cons]at hl hm
  have e:a=b:=by
   rcases List.mem_cons.1 ((h a).1 (by simp))with e|e
   ·exact e
   ·have h1:=hm.1 a e
    rcases List.mem_cons.1 ((h b).2 (by simp))with e'|e'
    ·omega
    ·have:=hl.1 b e';omega
  subst e
  rw[asc_eq hl.2 hm.2 fun x=>?_]
  constructor
  ·intro hx
   have h1:=hl.1 x hx
   rcases List.mem_cons.1 ((h x).1 (by simp[hx]))with e|e
   ·omega
   ·exact e
  ·intro hx
   have h1:=hm.1 x hx
   rcases List.mem_cons.1 ((h x).2 (by simp[hx]))with e|e
   ·omega
   ·exact e
theorem Ech.asc_list{K:Nat}{J:Nat->Nat}{R:Nat->Vec}(h:Ech K J R):((List.range K).map J).Pairwise (· < ·):=by
 rw[List.pairwise_map]
 refine(List.pairwise_lt_range (n:=K)).imp_of_mem fun {a b} ha hb hab=>?_
 exact h.asc a b hab (by simpa using hb)
theorem Ech.unique{K K':Nat}{J J':Nat->Nat}{R R':Nat->Vec}(h:Ech K J R)(h':Ech K' J' R')(h1:∀k,k<K->Sp (RB K' R') (R k))(h2:∀k,k<K'->Sp (RB K R) (R' k)):
 K=K'∧(∀k,k<K->J k=J' k)∧∀k,k<K->∀c,R' k (J k)*R k c=R k (J k)*R' k c:=by
 have hs:∀v,Sp (RB K R) v↔Sp (RB K' R') v:=fun v=>⟨fun hv=>hv.trans fun u ⟨k,hk,e⟩=>e▸h1 k hk,fun hv=>hv.trans fun u ⟨k,hk,e⟩=>e▸h2 k hk⟩
 have hl:(List.range K).map J=(List.range K').map J':=by
  refine asc_eq h.asc_list h'.asc_list fun x=>?_
  simp only[List.mem_map,List.mem_range]
  rw[h.pivot_iff,h'.pivot_iff]
  constructor
  ·rintro⟨v,hv,r⟩;exact⟨v,(hs v).1 hv,r⟩
  ·rintro⟨v,hv,r⟩;exact⟨v,(hs v).2 hv,r⟩
 have hK:K=K':=by have:=congrArg List.length hl;simpa using this
 subst hK
 have hJ:∀k,k<K->J k=J' k:=by
  intro k hk
  have:=congrArg (fun l=>l[k]?) hl
  simpa[hk]using this
 refine⟨rfl,hJ,fun k hk c=>?_⟩
 have hv:=h1 k hk
 have:=h'.red.ratio hv hk (fun q hq hne=>by rw[<- hJ q hq];exact h.red.off k hk q hq (Ne.symm hne)) c
 rw[<- hJ k hk]at this
 exact this
theorem prim_eq{V W:Vec}{x y:Int}(hx:0<x)(hy:0<y)(h:∀c,x*V c=y*W c)(hV:Prim V)(hW:Prim W)(c:Nat):V c=W c:=by
 have h1:=zJT (by omega) h hV c
 have h2:=zJT (by omega) (fun c=>(h c).symm) hW c
 have h3:=h c
 rcases Int.lt_trichotomy (V c) 0 with a|a|a
 ·have:x*V c<0:=Int.mul_neg_of_pos_of_neg hx a
  rcases Classical.em (W c<0)with b|b
  ·omega
  ·have:=Int.mul_nonneg (Int.le_of_lt hy) (show 0<=W c by omega);omega
 ·omega
 ·have:0<x*V c:=Int.mul_pos hx a
  rcases Classical.em (0<W c)with b|b
  ·omega
  ·have:=Int.mul_nonneg (Int.le_of_lt hy) (show 0<= -W c by omega)
   rw[Int.mul_neg]at this;omega
end
section
def vec(l:List Int):Vec:=fun c=>l[c]?.getD 0
theorem zCS{l:List Int}{c:Nat}(h:c<l.length):vec l c=l[c]:=by simp[vec,h]
theorem zGO{l:List Int}{c:Nat}(h:l.length<=c):vec l c=0:=by simp[vec,h]
theorem zET{l:List Int}{P:Int->Prop}(h0:P 0)(h:∀x∈l,P x)(c:Nat):P (vec l c):=by
 rcases Nat.lt_or_ge c l.length with hc|hc
 ·rw[zCS hc];exact h _ (List.getElem_mem hc)
 ·rw[zGO hc];exact h0
theorem zKW{l:List Int}{P:Int->Prop}(h:∀c,P (vec l c)):∀x∈l,P x:=by
 intro x hx
 obtain⟨c,hc,rfl⟩:=List.mem_iff_getElem.1 hx
 rw[<- zCS hc];exact h c
theorem vec_map{f:Int->Int}(h0:f 0=0)(l:List Int)(c:Nat):vec (l.map f) c=f (vec l c):=by
 rcases Nat.lt_or_ge c l.length with hc|hc
 ·rw[zCS (by simpa using hc),zCS hc];simp
 ·rw[zGO (by simpa using hc),zGO hc,h0]
theorem vec_zip{f:Int->Int->Int}(h0:f 0 0=0){l m:List Int}(hl:l.length=m.length)(c:Nat):vec (List.zipWith f l m) c=f (vec l c) (vec m c):=by
 rcases Nat.lt_or_ge c l.length with hc|hc
 ·rw[zCS (by simp;omega),zCS hc,zCS (by omega)];simp
 ·rw[zGO (by simp;omega),zGO hc,zGO (by omega),h0]
def gcdL(l:List Int):Int:=l.foldl (fun g n=>((Int.gcd g n:Nat):Int)) 0
theorem zLE(l:List Int):∀g:Int,0<=g->0<=l.foldl (fun g n=>((Int.gcd g n:Nat):Int)) g∧(l.foldl (fun g n=>((Int.gcd g n:Nat):Int)) g∣g)∧(∀x∈l,l.foldl (fun g n=>((Int.gcd g n:Nat):Int)) g∣x)∧∀d,d∣g->(∀x∈l,d∣x)->d∣l.foldl (fun g n=>((Int.gcd g n:Nat):Int)) g:=by
 induction l with
 |nil=>intro g hg;exact⟨hg,Int.dvd_refl _,by simp,fun d h _=>h⟩
 |cons n l ih=>
  intro g hg
  obtain⟨h1,h2,h3,h4⟩:=ih ((Int.gcd g n:Nat):Int) (Int.natCast_nonneg _)
  refine⟨h1,Int.dvd_trans h2 (Int.gcd_dvd_left ..),fun x hx=>?_,fun d hd hl=>?_⟩
  ·rcases List.mem_cons.1 hx with rfl|hx
   ·exact Int.dvd_trans h2 (Int.gcd_dvd_right ..)
   ·exact h3 x hx
  ·exact h4 d (Int.dvd_coe_gcd hd (hl n (by simp))) (fun x hx=>hl x (by simp[hx]))
theorem zGV(l:List Int):0<=gcdL l:=(zLE l 0 (Int.le_refl _)).1
theorem zJX{l:List Int}{x:Int}(h:x∈l):gcdL l∣x:=(zLE l 0 (Int.le_refl _)).2.2.1 x h
theorem zNM{l:List Int}{d:Int}(h:∀x∈l,d∣x):d∣gcdL l:=(zLE l 0 (Int.le_refl _)).2.2.2 d (Int.dvd_zero _) h
theorem gcdL_zero{l:List Int}(h:gcdL l=0):∀x∈l,x=0:=fun x hx=>by have:=zJX hx;rw[h]at this;exact Int.zero_dvd.1 this
def zBO(l:List Int):List Int:=if 1<gcdL l then l.map (fun x=>x.tdiv (gcdL l))else l
theorem zDA(l:List Int):(zBO l).length=l.length:=by unfold zBO;split<;>simp
theorem zBU(l:List Int):∃g:Int,0<g∧∀c,g*vec (zBO l) c=vec l c:=by
 unfold zBO
 by_cases h:1<gcdL l
 ·rw[if_pos h]
  refine⟨gcdL l,by omega,fun c=>?_⟩
  rw[vec_map (by simp)]
  exact Int.mul_tdiv_cancel' (zET (P:=fun x=>gcdL l∣x) (Int.dvd_zero _) (fun x hx=>zJX hx) c)
 ·rw[if_neg h];exact⟨1,by decide,fun c=>by simp⟩
theorem zDK(l:List Int):Prim (vec (zBO l))∨∀c,vec (zBO l) c=0:=by
 by_cases h0:gcdL l=0
 ·right
  have hz:=gcdL_zero h0
  unfold zBO
  rw[if_neg (by omega)]
  exact fun c=>zET (P:=fun x=>x=0) rfl hz c
 ·left
  have hn:=zGV l
  intro d hd
  unfold zBO at hd
  by_cases h:1<gcdL l
  ·rw[if_pos h]at hd
   have:gcdL l*d∣gcdL l:=by
    refine zNM fun x hx=>?_
    obtain⟨c,hc,rfl⟩:=List.mem_iff_getElem.1 hx
    have h1:=hd c
    rw[vec_map (by simp),zCS hc]at h1
    obtain⟨k,hk⟩:=h1
    have h2:=Int.mul_tdiv_cancel' (zJX hx)
    refine⟨k,?_⟩
    rw[hk]at h2
    rw[<- h2];grind
   obtain⟨k,hk⟩:=this
   have h3:d*k=1:=by
    refine Int.eq_of_mul_eq_mul_left (show gcdL l≠0 by omega) ?_
    rw[Int.mul_one,<- Int.mul_assoc];exact hk.symm
   exact⟨k,h3.symm⟩
  ·rw[if_neg h]at hd
   have h1:gcdL l=1:=by omega
   rw[<- h1]
   exact zNM (zKW hd)
def zFM(row by':List Int)(j:Nat):List Int:=
 let a:=vec row j
 let b:=vec by' j
 let g:Int:=(Int.gcd a b:Nat)
 zBO (List.zipWith (fun x y=>x*(b.tdiv g)-y*(a.tdiv g)) row by')
theorem zMK{row by':List Int}(h:row.length=by'.length)(j:Nat):(zFM row by' j).length=row.length:=by
 unfold zFM;rw[zDA];simp;omega
theorem clearF_prim(row by':List Int)(j:Nat):Prim (vec (zFM row by' j))∨∀c,vec (zFM row by' j) c=0:=zDK _
theorem clearF_mul{row by':List Int}(h:row.length=by'.length){j:Nat}(hb:0<vec by' j):
 vec (zFM row by' j) j=0∧∃x y g:Int,x≠0∧0<x∧0<g∧∀c,g*vec (zFM row by' j) c=x*vec row c+y*vec by' c:=by
 obtain⟨g,hg,e⟩:=zBU (List.zipWith (fun x y=>x*((vec by' j).tdiv (Int.gcd (vec row j) (vec by' j):Nat))-y*((vec row j).tdiv (Int.gcd (vec row j) (vec by' j):Nat))) row by')
 have e':∀c,g*vec (zFM row by' j) c=vec row c*((vec by' j).tdiv (Int.gcd (vec row j) (vec by' j):Nat))-vec by' c*((vec row j).tdiv (Int.gcd (vec row j) (vec by' j):Nat)):=by
  intro c
  have:=e c
  rw[vec_zip (by simp) h]at this
  exact this
 obtain⟨a,ha⟩:=exq (vec row j)
 obtain⟨b,hbb⟩:=exq (vec by' j)
 rw[<- ha,<- hbb]at e'
 rw[<- hbb]at hb
 obtain⟨d,hd⟩:∃d:Int,d=(Int.gcd a b:Nat):=⟨_,rfl⟩
 rw[<- hd]at e'
 have hd0:0<d:=by
  rw[hd]
  have:0<Int.gcd a b:=Int.gcd_pos_of_ne_zero_right _ (by omega)
  omega
 have d1:d*a.tdiv d=a:=Int.mul_tdiv_cancel' (by rw[hd];exact Int.gcd_dvd_left ..)
 have d2:d*b.tdiv d=b:=Int.mul_tdiv_cancel' (by rw[hd];exact Int.gcd_dvd_right ..)
 obtain⟨a1,ha1⟩:=exq (a.tdiv d)
 obtain⟨b1,hb1⟩:=exq (b.tdiv d)
 rw[<- ha1]at d1 e'
 rw[<- hb1]at d2 e'
 have hb1p:0<b1:=by
  rcases Int.lt_trichotomy b1 0 with h|h|h
  ·have:=Int.mul_neg_of_pos_of_neg hd0 h;omega
  ·subst h;simp at d2;omega
  ·exact h
 refine⟨?_,b1,-a1,g,by omega,hb1p,hg,fun c=>by rw[e' c];grind⟩
 have:=e' j
 rw[<- ha,<- hbb,<- d1,<- d2]at this
 exact zAN (g:=g) (by omega) (by rw[this];grind)
def negF(l:List Int):List Int:=l.map (fun x=> -x)
theorem zJW(l:List Int)(c:Nat):vec (negF l) c= -vec l c:=vec_map (by simp) l c
def posF(l:List Int)(j:Nat):List Int:=if vec l j<0 then negF l else l
theorem zMZ(l:List Int)(j:Nat):(posF l j).length=l.length:=by unfold posF negF;split<;>simp
theorem zJV(l:List Int)(j:Nat):∃z:Int,(z=1∨z= -1)∧∀c,vec (posF l j) c=z*vec l c:=by
 unfold posF
 split
 ·exact⟨-1,.inr rfl,fun c=>by rw[zJW];omega⟩
 ·exact⟨1,.inl rfl,fun c=>by omega⟩
theorem zJU{l:List Int}{j:Nat}(h:vec l j≠0):0<vec (posF l j) j:=by
 unfold posF
 split
 ·rw[zJW];omega
 ·omega
theorem zMY{V W:Vec}{z:Int}(hz:z=1∨z= -1)(h:∀c,W c=z*V c)(hp:Prim V):Prim W:=by
 intro g hg
 refine hp g fun c=>?_
 have:=hg c
 rw[h]at this
 rcases hz with rfl|rfl
 ·simpa using this
 ·obtain⟨k,hk⟩:=this
  exact⟨-k,by grind⟩
end
end
section
section
def jf(J:List Nat)(k:Nat):Nat:=J[k]?.getD 0
def rowv(L:List (List Int))(i:Nat):Vec:=vec (L[i]?.getD [])
theorem zFU{L:List (List Int)}{i:Nat}(h:i<L.length):rowv L i=vec L[i]:=by unfold rowv;rw[List.getElem?_eq_getElem h];rfl
structure RInv (W N:Nat) (A0:Nat->Vec) (j:Nat) (L:List (List Int)) (J:List Nat):Prop where
 len:L.length=N
 wid:∀r∈L,r.length=W
 st:∃A:Nat->Vec,Stage J.length N (jf J) (rowv L) A∧∀q,∃q0,A q=A0 q0
 sp1:∀q,q<N->Sp (RB N A0) (rowv L q)
 sp2:∀q,q<N->Sp (RB N (rowv L)) (A0 q)
 pr:∀q,q<N->Prim (rowv L q)∨(∀c,rowv L q c=0)∨∃q0,∀c,rowv L q c=A0 q0 c
 pp:∀k,k<J.length->Prim (rowv L k)∧0<rowv L k (jf J k)
 asc:J.Pairwise (· < ·)
 lt:∀x∈J,x<j
 lead:∀k,k<J.length->∀c,c<jf J k->rowv L k c=0
 zero:∀q,J.length<=q->q<N->∀c,c<j->rowv L q c=0
theorem RInv.start{W:Nat}(L:List (List Int))(hw:∀r∈L,r.length=W):RInv W L.length (rowv L) 0 L []:=
 ⟨rfl,hw,⟨rowv L,Stage.start _ _ _,fun q=>⟨q,rfl⟩⟩,fun q hq=>RB.sp hq,fun q hq=>RB.sp hq,fun q hq=>.inr (.inr ⟨q,fun c=>rfl⟩),fun k hk=>by simp at hk,List.Pairwise.nil,fun x hx=>by simp at hx,fun k hk=>by simp at hk,fun q _ _ c hc=>by omega⟩
theorem RInv.skip{W N:Nat}{A0:Nat->Vec}{j:Nat}{L:List (List Int)}{J:List Nat}(h:RInv W N A0 j L J)(h0:∀q,J.length<=q->q<N->rowv L q j=0):RInv W N A0 (j+1) L J:=
 ⟨h.len,h.wid,h.st,h.sp1,h.sp2,h.pr,h.pp,h.asc,fun x hx=>by have:=h.lt x hx;omega,h.lead,fun q h1 h2 c hc=>by
   by_cases e:c=j
   ·subst e;exact h0 q h1 h2
   ·exact h.zero q h1 h2 c (by omega)⟩
theorem RInv.K_le{W N:Nat}{A0:Nat->Vec}{j:Nat}{L:List (List Int)}{J:List Nat}(h:RInv W N A0 j L J):J.length<=N:=by
 obtain⟨A,hs,_⟩:=h.st;exact hs.le
theorem RInv.step{W N:Nat}{A0:Nat->Vec}{j:Nat}{L L':List (List Int)}{J:List Nat}(h:RInv W N A0 j L J){i:Nat}{pi:Nat->Nat}
 (lo:J.length<=i)(hi:i<N)(ne:rowv L i j≠0)(hpr:Prim (rowv L i))(hlen:L'.length=N)(hwid:∀r∈L',r.length=W)
 (fix:∀q,q<J.length->pi q=q)(at':pi J.length=i)(rest:∀q,J.length<q->q<N->J.length<=pi q∧pi q<N)(surj:∀m,m<N->∃q,q<N∧pi q=m)
 (pivot:∃z:Int,(z=1∨z= -1)∧∀c,rowv L' J.length c=z*rowv L i c)(ppos:0<rowv L' J.length j)
 (other:∀q,q<N->q≠J.length->rowv L' q j=0∧(Prim (rowv L' q)∨(∀c,rowv L' q c=0)∨∀c,rowv L' q c=rowv L (pi q) c)∧∃x y g:Int,0<x∧0<g∧∀c,g*rowv L' q c=x*rowv L (pi q) c+y*rowv L i c):
 RInv W N A0 (j+1) L' (J++[j]):=by
 obtain⟨A,hs,hA⟩:=h.st
 obtain⟨z,hz,hzR⟩:=pivot
 have hz0:z≠0:=by rcases hz with rfl|rfl<;>decide
 have hKN:J.length<N:=Nat.lt_of_le_of_lt lo hi
 have jlt:∀k,k<J.length->jf (J++[j]) k=jf J k:=fun k hk=>by unfold jf;rw[List.getElem?_append_left hk]
 have jat:jf (J++[j]) J.length=j:=by unfold jf;simp
 have jmem:∀k,k<J.length->jf J k∈J:=fun k hk=>by unfold jf;rw[List.getElem?_eq_getElem hk];exact List.getElem_mem hk
 have step:Step J.length N i j pi (rowv L) (rowv L') A (fun q=>A (pi q)):=⟨lo,hi,ne,fun q=>rfl,fix,at',rest,surj,⟨z,hz0,hzR⟩,fun q hq hne=>by
  obtain⟨h1,_,x,y,g,hx,hg,e⟩:=other q hq hne
  exact⟨h1,x,y,g,by omega,by omega,e⟩⟩
 have hst:=hs.step step (jf (J++[j])) jlt jat
 have hiz:∀c,c<j->rowv L i c=0:=h.zero i lo hi
 have pib:∀q,q<N->pi q<N:=fun q hq=>by
  rcases Nat.lt_trichotomy q J.length with h1|h1|h1
  ·rw[fix q h1];exact hq
  ·subst h1;rw[at'];exact hi
  ·exact(rest q h1 hq).2
 have hlow:∀q,q<N->q≠J.length->∀c,rowv L (pi q) c=0->rowv L i c=0->rowv L' q c=0:=by
  intro q hq hne c h1 h2
  obtain⟨_,_,x,y,g,hx,hg,e⟩:=other q hq hne
  have:=e c
  rw[h1,h2]at this
  exact zAN (g:=g) (by omega) (by simpa using this)
 refine⟨hlen,hwid,⟨_,by rw[List.length_append];exact hst,fun q=>hA (pi q)⟩,?_,?_,?_,?_,?_,?_,?_,?_⟩
 ·intro q hq
  by_cases e:q=J.length
  ·subst e;exact(Sp.mul z (h.sp1 i hi)).congr hzR
  ·obtain⟨_,_,x,y,g,hx,hg,e⟩:=other q hq e
   exact Sp.of_eq (n:=g) (by omega) (h.sp1 (pi q) (pib q hq)) (h.sp1 i hi) e
 ·have hRi:Sp (RB N (rowv L')) (rowv L i):=Sp.div hz0 ((RB.sp hKN).congr fun c=>(hzR c).symm)
  intro q hq
  refine(h.sp2 q hq).trans ?_
  rintro v ⟨m,hm,rfl⟩
  by_cases e:m=i
  ·subst e;exact hRi
  ·obtain⟨q',hq',e'⟩:=surj m hm
   have hne:q'≠J.length:=fun h=>by subst h;rw[at']at e';exact e e'.symm
   obtain⟨_,_,x,y,g,hx,hg,e2⟩:=other q' hq' hne
   rw[e']at e2
   refine Sp.of_eq (n:=x) (x:=g) (y:= -y) (by omega) (RB.sp hq') hRi fun c=>?_
   have:=e2 c
   grind
 ·intro q hq
  by_cases e:q=J.length
  ·subst e;exact .inl (zMY hz hzR hpr)
  ·obtain⟨_,h2,_⟩:=other q hq e
   rcases h2 with h2|h2|h2
   ·exact .inl h2
   ·exact .inr (.inl h2)
   ·rcases h.pr (pi q) (pib q hq)with h3|h3|⟨q0,h3⟩
    ·exact .inl (fun g hg=>h3 g fun c=>by rw[<- h2];exact hg c)
    ·exact .inr (.inl fun c=>by rw[h2,h3])
    ·exact .inr (.inr ⟨q0,fun c=>by rw[h2,h3]⟩)
 ·intro k hk
  rw[List.length_append]at hk
  simp only[List.length_singleton]at hk
  by_cases e:k=J.length
  ·subst e;rw[jat];exact⟨zMY hz hzR hpr,ppos⟩
  ·have hk':k<J.length:=by omega
   rw[jlt k hk']
   obtain⟨p1,p2⟩:=h.pp k hk'
   obtain⟨_,h2,x,y,g,hx,hg,e2⟩:=other k (by omega) e
   rw[fix k hk']at h2 e2
   have hpos:0<rowv L' k (jf J k):=by
    have:=e2 (jf J k)
    rw[hiz _ (h.lt _ (jmem k hk'))]at this
    have h3:0<x*rowv L k (jf J k):=Int.mul_pos hx p2
    rcases Int.lt_trichotomy (rowv L' k (jf J k)) 0 with h4|h4|h4
    ·have:=Int.mul_neg_of_pos_of_neg hg h4;omega
    ·rw[h4]at this;omega
    ·exact h4
   refine⟨?_,hpos⟩
   rcases h2 with h2|h2|h2
   ·exact h2
   ·rw[h2]at hpos;omega
   ·exact fun g hg=>p1 g fun c=>by rw[<- h2];exact hg c
 ·rw[List.pairwise_append]
  exact⟨h.asc,by simp,fun a ha b hb=>by simp at hb;subst hb;exact h.lt a ha⟩
 ·intro x hx
  rcases List.mem_append.1 hx with hx|hx
  ·have:=h.lt x hx;omega
  ·simp at hx;omega
 ·intro k hk c hc
  rw[List.length_append]at hk
  simp only[List.length_singleton]at hk
  by_cases e:k=J.length
  ·subst e;rw[jat]at hc;rw[hzR,hiz c hc];simp
  ·have hk':k<J.length:=by omega
   rw[jlt k hk']at hc
   have:=h.lt _ (jmem k hk')
   exact hlow k (by omega) e c (by rw[fix k hk'];exact h.lead k hk' c hc) (hiz c (by omega))
 ·intro q h1 h2 c hc
  rw[List.length_append]at h1
  simp only[List.length_singleton]at h1
  by_cases e:c=j
  ·subst e;exact(other q h2 (by omega)).1
  ·obtain⟨r1,r2⟩:=rest q (by omega) h2
   exact hlow q h2 (by omega) c (h.zero _ r1 r2 c (by omega)) (hiz c (by omega))
theorem fact_6{n:Nat}(h:n<=6):fact n<=720:=by
 match n,h with
 |0,_=>decide
 |1,_=>decide
 |2,_=>decide
 |3,_=>decide
 |4,_=>decide
 |5,_=>decide
 |6,_=>decide
theorem RInv.le{W N:Nat}{A0:Nat->Vec}{j:Nat}{L:List (List Int)}{J:List Nat}(h:RInv W N A0 j L J)(hN:N<=6)(h1:∀x∈J,∀r,-1<=A0 r x∧A0 r x<=1)
 {c Y:Nat}(hY:∀r,-(Y:Int)<=A0 r c∧A0 r c<=Y){q:Nat}(hq:q<N):(rowv L q c).natAbs<=720*Y:=by
 obtain⟨A,hs,hA⟩:=h.st
 have hA1:∀k,k<J.length->∀r,-1<=A r (jf J k)∧A r (jf J k)<=1:=by
  intro k hk r
  obtain⟨q0,e⟩:=hA r
  rw[e]
  exact h1 _ (by unfold jf;rw[List.getElem?_eq_getElem hk];exact List.getElem_mem hk) q0
 have hAY:∀r,-(Y:Int)<=A r c∧A r c<=Y:=fun r=>by obtain⟨q0,e⟩:=hA r;rw[e];exact hY q0
 have key:∀n:Nat,1<=n->n<=6->((n:Nat)*((Y:Int)*(fact (n-1):Int))).toNat<=720*Y:=by
  intro n hn1 hn6
  have e:(n:Nat)*((Y:Int)*(fact (n-1):Int))=((fact n*Y:Nat):Int):=by
   obtain⟨m,rfl⟩:∃m,n=m+1:=⟨n-1,by omega⟩
   simp only[Nat.add_sub_cancel,fact]
   push_cast
   grind
  rw[e,Int.toNat_natCast]
  exact Nat.mul_le_mul_right _ (fact_6 hn6)
 rcases h.pr q hq with hp|hz|⟨q0,e⟩
 ·rcases Nat.lt_or_ge q J.length with hk|hk
  ·exact Nat.le_trans (hs.up_le hA1 hk hp hAY) (key J.length (by omega) (Nat.le_trans hs.le hN))
  ·have:=hs.low_le hA1 hk hq hp hAY
   have h2:=key (J.length+1) (by omega) (by omega)
   rw[Nat.add_sub_cancel]at h2
   exact Nat.le_trans this h2
 ·rw[hz];simp
 ·rw[e c]
  have:=hY q0
  have h3:(A0 q0 c).natAbs<=Y:=by omega
  exact Nat.le_trans h3 (Nat.le_mul_of_pos_left _ (by decide))
theorem RInv.piv_dvd{W N:Nat}{A0:Nat->Vec}{j:Nat}{L:List (List Int)}{J:List Nat}(h:RInv W N A0 j L J)(hN:N<=6)(h1:∀x∈J,∀r,-1<=A0 r x∧A0 r x<=1):
 ∃d:Nat,0<d∧d<=720∧∀k,k<J.length->rowv L k (jf J k)∣(d:Int):=by
 obtain⟨A,hs,hA⟩:=h.st
 have hd:=det_le (zCO (jf J) A J.length) (fun x hx r=>by
  obtain⟨k,hk,rfl⟩:=zFD.1 hx
  obtain⟨q0,e⟩:=hA r
  simp only[e]
  exact h1 _ (by unfold jf;rw[List.getElem?_eq_getElem hk];exact List.getElem_mem hk) q0) (zCK J.length) (by rw[zEJ,zCU])
 rw[zCU]at hd
 have h6:=fact_6 (Nat.le_trans hs.le hN)
 have h0:=hs.d0
 refine⟨(det (zCO (jf J) A J.length) (zCK J.length)).natAbs,by omega,by omega,fun k hk=>?_⟩
 exact Int.dvd_natAbs.2 (hs.piv_dvd hk (h.pp k hk).1)
theorem RInv.jf_lt{W N:Nat}{A0:Nat->Vec}{j:Nat}{L:List (List Int)}{J:List Nat}(h:RInv W N A0 j L J){k:Nat}(hk:k<J.length):jf J k<j:=by
 have:jf J k=J[k]:=by unfold jf;rw[List.getElem?_eq_getElem hk];rfl
 rw[this];exact h.lt _ (List.getElem_mem hk)
theorem RInv.ech{W N:Nat}{A0:Nat->Vec}{j:Nat}{L:List (List Int)}{J:List Nat}(h:RInv W N A0 j L J):Ech J.length (jf J) (rowv L):=by
 obtain⟨A,hs,_⟩:=h.st
 refine⟨hs.red,h.lead,fun k q hkq hq=>?_⟩
 have h1:jf J k=J[k]'(by omega):=by unfold jf;rw[List.getElem?_eq_getElem (by omega)];rfl
 have h2:jf J q=J[q]:=by unfold jf;rw[List.getElem?_eq_getElem hq];rfl
 rw[h1,h2]
 exact List.pairwise_iff_getElem.1 h.asc k q (by omega) hq hkq
theorem RInv.span{W N:Nat}{A0:Nat->Vec}{j:Nat}{L:List (List Int)}{J:List Nat}(h:RInv W N A0 j L J)(h0:∀q,J.length<=q->q<N->∀c,rowv L q c=0){v:Vec}:
 Sp (RB J.length (rowv L)) v↔Sp (RB N A0) v:=by
 have hK:=h.K_le
 constructor
 ·intro hv
  refine hv.trans ?_
  rintro u ⟨k,hk,rfl⟩
  exact h.sp1 k (by omega)
 ·intro hv
  refine hv.trans ?_
  rintro u ⟨k,hk,rfl⟩
  refine(h.sp2 k hk).trans ?_
  rintro u ⟨q,hq,rfl⟩
  rcases Nat.lt_or_ge q J.length with h1|h1
  ·exact RB.sp h1
  ·exact Sp.zero.congr (h0 q h1 hq)
theorem RInv.unique{W N N':Nat}{A0 A0':Nat->Vec}{j j':Nat}{L L':List (List Int)}{J J':List Nat}(h:RInv W N A0 j L J)(h':RInv W N' A0' j' L' J')
 (h0:∀q,J.length<=q->q<N->∀c,rowv L q c=0)(h0':∀q,J'.length<=q->q<N'->∀c,rowv L' q c=0)(hs:∀v,Sp (RB N A0) v↔Sp (RB N' A0') v):
 J=J'∧∀k,k<J.length->L[k]? =L'[k]? :=by
 obtain⟨hK,hJ,hR⟩:=h.ech.unique h'.ech
  (fun k hk=>(h'.span h0').2 ((hs _).1 ((h.span h0).1 (RB.sp hk))))
  (fun k hk=>(h.span h0).2 ((hs _).2 ((h'.span h0').1 (RB.sp hk))))
 refine⟨List.ext_getElem hK fun k h1 h2=>?_,fun k hk=>?_⟩
 ·have:=hJ k h1
  unfold jf at this
  rw[List.getElem?_eq_getElem h1,List.getElem?_eq_getElem h2]at this
  simpa using this
 ·have hk':k<J'.length:=by omega
  have hKN:=h.K_le
  have hKN':=h'.K_le
  have hl:k<L.length:=by rw[h.len];omega
  have hl':k<L'.length:=by rw[h'.len];omega
  obtain⟨p1,p2⟩:=h.pp k hk
  obtain⟨q1,q2⟩:=h'.pp k hk'
  rw[<- hJ k hk]at q2
  have e:=prim_eq q2 p2 (hR k hk) p1 q1
  rw[List.getElem?_eq_getElem hl,List.getElem?_eq_getElem hl']
  rw[zFU hl,zFU hl']at e
  have w1:=h.wid _ (List.getElem_mem hl)
  have w2:=h'.wid _ (List.getElem_mem hl')
  refine congrArg some (List.ext_getElem (by omega) fun c c1 c2=>?_)
  rw[<- zCS c1,<- zCS c2];exact e c
end
section
def nz(j:Nat)(r:List Int):Bool:=decide (vec r j≠0)
def zFO(L:List (List Int))(a b:Nat):List (List Int):=(L.set a (L[b]?.getD [])).set b (L[a]?.getD [])
def zES(p:List Int)(k j i:Nat)(row:List Int):List Int:=if i≠k∧vec row j≠0 then zFM row p j else row
def zCQ(L:List (List Int))(k j:Nat):List (List Int):=(L.set k (posF (L[k]?.getD []) j)).mapIdx (zES (posF (L[k]?.getD []) j) k j)
def zKS(s:List (List Int)×List Nat)(j:Nat):List (List Int)×List Nat:=
 match (s.1.drop s.2.length).findIdx? (nz j)with
 |none=>s
 |some a=>(zCQ (zFO s.1 s.2.length (s.2.length+a)) s.2.length j,s.2++[j])
def pRed(L:List (List Int))(n:Nat):List (List Int)×List Nat:=(List.range n).foldl zKS (L,[])
theorem zHO(L:List (List Int))(n:Nat):pRed L (n+1)=zKS (pRed L n) n:=by
 unfold pRed;rw[List.range_succ,List.foldl_append];rfl
theorem zFR(L:List (List Int))(a b:Nat):(zFO L a b).length=L.length:=by simp[zFO]
theorem zGF(L:List (List Int))(k j:Nat):(zCQ L k j).length=L.length:=by simp[zCQ]
theorem zKJ{L:List (List Int)}{a b:Nat}(ha:a<L.length)(hb:b<L.length)(q:Nat):(zFO L a b)[q]?.getD []=L[if q=a then b else if q=b then a else q]?.getD []:=by
 unfold zFO
 rw[List.getElem?_set,List.getElem?_set]
 by_cases e1:q=b
 ·subst e1
  by_cases e2:q=a
  ·subst e2;simp[ha]
  ·simp[e2,hb]
 ·by_cases e2:q=a
  ·subst e2;simp[Ne.symm e1,ha]
  ·simp[Ne.symm e1,Ne.symm e2,e1,e2]
theorem clearAll_at{L:List (List Int)}{k:Nat}(hk:k<L.length)(j:Nat):(zCQ L k j)[k]?.getD []=posF (L[k]?.getD []) j:=by
 unfold zCQ
 rw[List.getElem?_mapIdx,List.getElem?_set_self hk]
 simp[zES]
theorem clearAll_ne{L:List (List Int)}{k q:Nat}(hq:q<L.length)(hne:q≠k)(j:Nat):(zCQ L k j)[q]?.getD []=zES (posF (L[k]?.getD []) j) k j q (L[q]?.getD []):=by
 unfold zCQ
 rw[List.getElem?_mapIdx,List.getElem?_set_ne (Ne.symm hne),List.getElem?_eq_getElem hq]
 simp
theorem unit_prim{V:Vec}{j:Nat}(h: -1<=V j∧V j<=1)(h0:V j≠0):Prim V:=by
 intro g hg
 have:=hg j
 rcases(show V j=1∨V j= -1 by omega)with e|e
 ·rw[e]at this;exact this
 ·rw[e]at this;exact(Int.dvd_neg).1 this
theorem wid_of{L:List (List Int)}{W N:Nat}(hl:L.length=N)(h:∀q,q<N->(L[q]?.getD []).length=W):∀r∈L,r.length=W:=by
 intro r hr
 obtain⟨q,hq,rfl⟩:=List.mem_iff_getElem.1 hr
 have:=h q (by omega)
 rw[List.getElem?_eq_getElem hq]at this
 exact this
theorem zIL{L:List (List Int)}{W:Nat}(h:∀r∈L,r.length=W){q:Nat}(hq:q<L.length):(L[q]?.getD []).length=W:=by
 rw[List.getElem?_eq_getElem hq];exact h _ (List.getElem_mem hq)
theorem zGA{α:Type}{p:α->Bool}{l:List α}{a:Nat}(h:l.findIdx? p=some a):∃ha:a<l.length,p l[a]=true:=by
 obtain⟨ha,h1,_⟩:=List.findIdx?_eq_some_iff_getElem.1 h
 exact⟨ha,h1⟩
theorem pStep_inv{W N:Nat}{A0:Nat->Vec}{j:Nat}{L:List (List Int)}{J:List Nat}(h:RInv W N A0 j L J)(hA:∀q,-1<=A0 q j∧A0 q j<=1):
 RInv W N A0 (j+1) (zKS (L,J) j).1 (zKS (L,J) j).2:=by
 unfold zKS
 simp only[]
 have hlen:=h.len
 split
 ·rename_i hn
  refine h.skip fun q h1 h2=>?_
  rw[List.findIdx?_eq_none_iff]at hn
  have:=hn L[q] (by rw[List.mem_drop_iff_getElem];exact⟨q-J.length,by omega,by congr 1;omega⟩)
  rw[zFU (by omega)]
  simpa[nz]using this
 ·rename_i a ha
  obtain⟨ha1,ha2⟩:=zGA ha
  rw[List.length_drop]at ha1
  rw[List.getElem_drop]at ha2
  have hi:J.length+a<N:=by omega
  have hK:J.length<L.length:=by omega
  have hrow:∀q,(zFO L J.length (J.length+a))[q]?.getD []=L[if q=J.length then J.length+a else if q=J.length+a then J.length else q]?.getD []:=zKJ (by omega) (by omega)
  have hne:rowv L (J.length+a) j≠0:=by rw[zFU (by omega)];simpa[nz]using ha2
  have hsl:=zFR L J.length (J.length+a)
  have hp0:(zFO L J.length (J.length+a))[J.length]?.getD []=L[J.length+a]?.getD []:=by rw[hrow,if_pos rfl]
  have hpv:(zCQ (zFO L J.length (J.length+a)) J.length j)[J.length]?.getD []=posF (L[J.length+a]?.getD []) j:=by
   rw[clearAll_at (by omega),hp0]
  have hpw:(posF (L[J.length+a]?.getD []) j).length=W:=by rw[zMZ];exact zIL h.wid (by omega)
  have hoth:∀q,q<N->q≠J.length->(zCQ (zFO L J.length (J.length+a)) J.length j)[q]?.getD []=zES (posF (L[J.length+a]?.getD []) j) J.length j q (L[if q=J.length then J.length+a else if q=J.length+a then J.length else q]?.getD []):=by
   intro q hq hn
   rw[clearAll_ne (by omega) hn,hp0,hrow]
  have hpib:∀q,q<N->(if q=J.length then J.length+a else if q=J.length+a then J.length else q)<N:=by
   intro q hq;split
   ·omega
   ·split<;>omega
  refine RInv.step (pi:=fun q=>if q=J.length then J.length+a else if q=J.length+a then J.length else q) h (i:=J.length+a) (by omega) hi hne ?_ (by rw[zGF,hsl,hlen]) ?_ (fun q hq=>?_) ?_ (fun q h1 h2=>?_) (fun m hm=>?_) ?_ ?_ (fun q hq hn=>?_)
  ·rcases h.pr _ hi with h1|h1|⟨q0,h1⟩
   ·exact h1
   ·exact absurd (h1 j) hne
   ·have: -1<=rowv L (J.length+a) j∧rowv L (J.length+a) j<=1:=by rw[h1];exact hA q0
    exact unit_prim this hne
  ·refine wid_of (N:=N) (by rw[zGF,hsl,hlen]) fun q hq=>?_
   by_cases e:q=J.length
   ·subst e;rw[hpv];exact hpw
   ·rw[hoth q hq e]
    have:=zIL h.wid (q:=if q=J.length then J.length+a else if q=J.length+a then J.length else q) (by rw[hlen];exact hpib q hq)
    generalize L[if q=J.length then J.length+a else if q=J.length+a then J.length else q]?.getD []=row at this
    unfold zES
    split
    ·rw[zMK (by omega)];exact this
    ·exact this
  ·rw[if_neg (by omega),if_neg (by omega)]
  ·simp
  ·split
   ·omega
   ·split<;>omega
  ·refine⟨if m=J.length then J.length+a else if m=J.length+a then J.length else m,hpib m hm,?_⟩
   by_cases e1:m=J.length
   ·subst e1
    rw[if_pos rfl]
    by_cases e3:J.length+a=J.length
    ·rw[if_pos e3];exact e3
    ·rw[if_neg e3,if_pos rfl]
   ·rw[if_neg e1]
    by_cases e2:m=J.length+a
    ·rw[if_pos e2,if_pos rfl];exact e2.symm
    ·rw[if_neg e2,if_neg e1,if_neg e2]
  ·obtain⟨z,hz,e⟩:=zJV (L[J.length+a]?.getD []) j
   exact⟨z,hz,fun c=>by unfold rowv;rw[hpv];exact e c⟩
  ·unfold rowv;rw[hpv];exact zJU hne
  ·have hpos:0<vec (posF (L[J.length+a]?.getD []) j) j:=zJU hne
   obtain⟨z,hz,e⟩:=zJV (L[J.length+a]?.getD []) j
   simp only[]
   obtain⟨row,hr⟩:=exq (L[if q=J.length then J.length+a else if q=J.length+a then J.length else q]?.getD [])
   have hrw:row.length=W:=by rw[hr];exact zIL h.wid (by rw[hlen];exact hpib q hq)
   unfold rowv
   rw[hoth q hq hn,<- hr]
   unfold zES
   by_cases c0:vec row j≠0
   ·rw[if_pos ⟨hn,c0⟩]
    obtain⟨k1,x,y,g,_,hx,hg,e2⟩:=clearF_mul (row:=row) (by':=posF (L[J.length+a]?.getD []) j) (by omega) hpos
    refine⟨k1,?_,x,y*z,g,hx,hg,fun c=>?_⟩
    ·rcases clearF_prim row (posF (L[J.length+a]?.getD []) j) j with h1|h1
     ·exact .inl h1
     ·exact .inr (.inl h1)
    ·rw[e2 c,e c];grind
   ·rw[if_neg (fun h=>c0 h.2)]
    refine⟨by omega,.inr (.inr fun c=>rfl),1,0,1,by decide,by decide,fun c=>by simp⟩
theorem zCA{W:Nat}(L:List (List Int))(hw:∀r∈L,r.length=W):∀n,(∀j,j<n->∀q,-1<=rowv L q j∧rowv L q j<=1)->RInv W L.length (rowv L) n (pRed L n).1 (pRed L n).2
 |0,_=>RInv.start L hw
 |n+1,h=>by
  rw[zHO]
  exact pStep_inv (zCA L hw n (fun j hj=>h j (by omega))) (h n (by omega))
def zIS(l:List Int):List Int:=l.map (fun x=>x.tdiv (max (gcdL l) 1))
theorem zHN(l:List Int):zIS l=zBO l:=by
 unfold zIS zBO
 by_cases h:1<gcdL l
 ·rw[if_pos h,show max (gcdL l) 1=gcdL l by omega]
 ·rw[if_neg h,show max (gcdL l) 1=1 by omega];simp
def zCF(p:List Int)(j:Nat)(r:List Int):List Int:=zIS (List.zipWith (fun x y=>x*vec p j-y*vec r j) r p)
def zMB{α:Type}(p:α->Bool):List α->Option Nat
 | []=>none
 |x::l=>match zMB p l with|some i=>some (i+1)|none=>if p x then some 0 else none
theorem zKZ{α:Type}{p:α->Bool}:∀{l:List α},zMB p l=none->∀x∈l,p x=false
 | [],_,x,hx=>by simp at hx
 |y::l,h,x,hx=>by
  unfold zMB at h
  split at h
  ·cases h
  ·rename_i h1
   rcases List.mem_cons.1 hx with rfl|hx
   ·cases hp:p x
    ·rfl
    ·rw[if_pos hp]at h;cases h
   ·exact zKZ h1 x hx
theorem zKY{α:Type}{p:α->Bool}:∀{l:List α} {a:Nat},zMB p l=some a->∃ha:a<l.length,p l[a]=true
 |y::l,a,h=>by
  unfold zMB at h
  split at h
  ·rename_i i h1
   obtain⟨h2,h3⟩:=zKY h1
   cases h
   exact⟨by simp;omega,by simpa using h3⟩
  ·by_cases hp:p y=true
   ·rw[if_pos hp]at h;cases h;exact⟨by simp,by simpa using hp⟩
   ·rw[if_neg hp]at h;cases h
structure RS where
 left:List (List Int)
 done:List (List Int)
 piv:List Nat
def rStep(s:RS)(j:Nat):RS:=
 match zMB (nz j) s.left with
 |none=>s
 |some a=>⟨(s.left.eraseIdx a).map (zCF (posF (s.left[a]?.getD []) j) j),s.done.map (zCF (posF (s.left[a]?.getD []) j) j)++[posF (s.left[a]?.getD []) j],s.piv++[j]⟩
def rRed(L:List (List Int))(n:Nat):RS:=(List.range n).foldl rStep ⟨L.map zIS,[],[]⟩
theorem rRed_succ(L:List (List Int))(n:Nat):rRed L (n+1)=rStep (rRed L n) n:=by
 unfold rRed;rw[List.range_succ,List.foldl_append];rfl
theorem withoutF_len{r p:List Int}(h:r.length=p.length)(j:Nat):(zCF p j r).length=r.length:=by unfold zCF zIS;simp;omega
theorem withoutF_mul{r p:List Int}(h:r.length=p.length){j:Nat}(hb:0<vec p j):
 vec (zCF p j r) j=0∧(Prim (vec (zCF p j r))∨∀c,vec (zCF p j r) c=0)∧∃x y g:Int,0<x∧0<g∧∀c,g*vec (zCF p j r) c=x*vec r c+y*vec p c:=by
 unfold zCF
 rw[zHN]
 obtain⟨g,hg,e⟩:=zBU (List.zipWith (fun x y=>x*vec p j-y*vec r j) r p)
 have e':∀c,g*vec (zBO (List.zipWith (fun x y=>x*vec p j-y*vec r j) r p)) c=vec r c*vec p j-vec p c*vec r j:=by
  intro c;rw[e c,vec_zip (by simp) h]
 refine⟨zAN (g:=g) (by omega) (by rw[e' j];grind),zDK _,vec p j,-vec r j,g,hb,hg,fun c=>by rw[e' c];grind⟩
def RI(W N:Nat)(A0:Nat->Vec)(j:Nat)(s:RS):Prop:=RInv W N A0 j (s.done++s.left) s.piv∧s.done.length=s.piv.length
theorem rStep_inv{W N:Nat}{A0:Nat->Vec}{j:Nat}{s:RS}(h0:RI W N A0 j s)(hA:∀q,Prim (A0 q)∨∀c,A0 q c=0):RI W N A0 (j+1) (rStep s j):=by
 obtain⟨h,hd⟩:=h0
 obtain⟨left,done,J⟩:=s
 simp only[]at h hd
 unfold rStep
 simp only[]
 have hlen:=h.len
 rw[List.length_append]at hlen
 have hget:∀i,i<left.length->(done++left)[J.length+i]?.getD []=left[i]?.getD []:=fun i hi=>by
  rw[List.getElem?_append_right (by omega),hd];congr 2;omega
 split
 ·rename_i hn
  refine⟨h.skip fun q h1 h2=>?_,hd⟩
  have h3:=zKZ hn (left[q-J.length]'(by omega)) (List.getElem_mem _)
  have h4:=hget (q-J.length) (by omega)
  rw[show J.length+(q-J.length)=q by omega,List.getElem?_eq_getElem (l:=left) (i:=q-J.length) (by omega)]at h4
  unfold rowv
  rw[h4]
  simpa[nz]using h3
 ·rename_i a ha
  obtain⟨ha1,ha2⟩:=zKY ha
  obtain⟨p,hp⟩:=exq (posF (left[a]?.getD []) j)
  rw[<- hp]
  have hrow:(done++left)[J.length+a]?.getD []=left[a]?.getD []:=hget a ha1
  have hne:rowv (done++left) (J.length+a) j≠0:=by
   unfold rowv;rw[hrow,List.getElem?_eq_getElem ha1];simpa[nz]using ha2
  have hne':vec (left[a]?.getD []) j≠0:=by rw[<- hrow];exact hne
  have hpw:p.length=W:=by
   rw[hp,zMZ,<- hrow];exact zIL h.wid (by rw[List.length_append];omega)
  obtain⟨z,hz,ez⟩:=zJV (left[a]?.getD []) j
  have hpos:0<vec p j:=by rw[hp];exact zJU hne'
  have hel:(left.eraseIdx a).length+1=left.length:=by rw[List.length_eraseIdx];simp[ha1];omega
  have hL':(done.map (zCF p j)++[p]++(left.eraseIdx a).map (zCF p j)).length=N:=by simp;omega
  -- the new rows
  have hat:(done.map (zCF p j)++[p]++(left.eraseIdx a).map (zCF p j))[J.length]?.getD []=p:=by
   rw[List.append_assoc,List.getElem?_append_right (by simp;omega)];simp[hd]
  have hoth:∀q,q<N->q≠J.length->(done.map (zCF p j)++[p]++(left.eraseIdx a).map (zCF p j))[q]?.getD []=zCF p j ((done++left)[if q<J.length then q else if q=J.length then J.length+a else if q<=J.length+a then q-1 else q]?.getD []):=by
   intro q hq hn
   rcases Nat.lt_or_ge q J.length with h1|h1
   ·rw[if_pos h1,List.append_assoc,List.getElem?_append_left (by simp;omega),List.getElem?_append_left (by omega),List.getElem?_map,List.getElem?_eq_getElem (by omega)]
    simp
   ·rw[if_neg (by omega),if_neg hn]
    have hq2:q-(J.length+1)<(left.eraseIdx a).length:=by omega
    rw[List.getElem?_append_right (by simp;omega)]
    simp only[List.length_append,List.length_map,List.length_singleton]
    rw[hd,List.getElem?_map,List.getElem?_eq_getElem hq2]
    simp only[Option.map_some,Option.getD_some]
    congr 1
    rw[List.getElem_eraseIdx]
    split
    ·rename_i h2
     rw[if_pos (by omega)]
     have:=hget (q-(J.length+1)) (by omega)
     rw[show J.length+(q-(J.length+1))=q-1 by omega]at this
     rw[this,List.getElem?_eq_getElem (by omega)];rfl
    ·rename_i h2
     rw[if_neg (by omega)]
     have:=hget (q-(J.length+1)+1) (by omega)
     rw[show J.length+(q-(J.length+1)+1)=q by omega]at this
     rw[this,List.getElem?_eq_getElem (by omega)];rfl
  have hpib:∀q,q<N->(if q<J.length then q else if q=J.length then J.length+a else if q<=J.length+a then q-1 else q)<N:=by
   intro q hq
   split
   ·omega
   ·split
    ·omega
    ·split<;>omega
  refine⟨RInv.step (pi:=fun q=>if q<J.length then q else if q=J.length then J.length+a else if q<=J.length+a then q-1 else q) h (i:=J.length+a) (by omega) (by omega) hne ?_ hL' ?_ (fun q hq=>?_) ?_ (fun q h1 h2=>?_) (fun m hm=>?_) ?_ ?_ (fun q hq hn=>?_),by simp[hd]⟩
  ·rcases h.pr (J.length+a) (by omega)with h1|h1|⟨q0,h1⟩
   ·exact h1
   ·exact absurd (h1 j) hne
   ·rcases hA q0 with h2|h2
    ·exact fun g hg=>h2 g fun c=>by rw[<- h1];exact hg c
    ·exact absurd (by rw[h1];exact h2 j) hne
  ·refine wid_of hL' fun q hq=>?_
   by_cases e:q=J.length
   ·subst e;rw[hat];exact hpw
   ·rw[hoth q hq e]
    have:=zIL h.wid (q:=if q<J.length then q else if q=J.length then J.length+a else if q<=J.length+a then q-1 else q) (by rw[List.length_append];have:=hpib q hq;omega)
    rw[withoutF_len (by omega)];exact this
  ·rw[if_pos hq]
  ·simp
  ·rw[if_neg (by omega),if_neg (by omega)]
   split<;>omega
  ·rcases Nat.lt_or_ge m J.length with h1|h1
   ·exact⟨m,hm,if_pos h1⟩
   ·by_cases e:m=J.length+a
    ·exact⟨J.length,by omega,by rw[if_neg (by omega),if_pos rfl];exact e.symm⟩
    ·rcases Nat.lt_or_ge m (J.length+a)with h2|h2
     ·exact⟨m+1,by omega,by rw[if_neg (by omega),if_neg (by omega),if_pos (by omega)];omega⟩
     ·exact⟨m,hm,by rw[if_neg (by omega),if_neg (by omega),if_neg (by omega)]⟩
  ·refine⟨z,hz,fun c=>?_⟩
   unfold rowv
   rw[hat,hrow,hp];exact ez c
  ·unfold rowv;rw[hat];exact hpos
  ·unfold rowv
   rw[hoth q hq hn]
   have hw:=zIL h.wid (q:=if q<J.length then q else if q=J.length then J.length+a else if q<=J.length+a then q-1 else q) (by rw[List.length_append];have:=hpib q hq;omega)
   obtain⟨k1,k2,x,y,g,hx,hg,e⟩:=withoutF_mul (r:=(done++left)[if q<J.length then q else if q=J.length then J.length+a else if q<=J.length+a then q-1 else q]?.getD []) (p:=p) (by omega) hpos
   refine⟨k1,?_,x,y*z,g,hx,hg,fun c=>?_⟩
   ·rcases k2 with k2|k2
    ·exact .inl k2
    ·exact .inr (.inl k2)
   ·rw[e c,hrow,hp,ez c];grind
theorem rowv_prim(L:List (List Int))(q:Nat):Prim (rowv (L.map zIS) q)∨∀c,rowv (L.map zIS) q c=0:=by
 unfold rowv
 rw[List.getElem?_map]
 cases L[q]? with
 |none=>exact .inr fun c=>rfl
 |some r=>simp only[Option.map_some,Option.getD_some];rw[zHN];exact zDK r
theorem zMX{W:Nat}(L:List (List Int))(hw:∀r∈L,r.length=W):∀n,RI W L.length (rowv (L.map zIS)) n (rRed L n)
 |0=>by
  have:=RInv.start (W:=W) (L.map zIS) (fun r hr=>by
   obtain⟨r',hr',rfl⟩:=List.mem_map.1 hr
   unfold zIS;rw[List.length_map];exact hw r' hr')
  rw[List.length_map]at this
  exact⟨this,rfl⟩
 |n+1=>by
  rw[rRed_succ]
  exact rStep_inv (zMX L hw n) (rowv_prim L)
theorem zLY(L:List (List Int))(v:Vec):Sp (RB L.length (rowv (L.map zIS))) v↔Sp (RB L.length (rowv L)) v:=by
 have key:∀q,∃g:Int,0<g∧∀c,g*rowv (L.map zIS) q c=rowv L q c:=by
  intro q
  unfold rowv
  rw[List.getElem?_map]
  cases L[q]? with
  |none=>exact⟨1,by decide,fun c=>by simp[vec]⟩
  |some r=>simp only[Option.map_some,Option.getD_some];rw[zHN];exact zBU r
 constructor
 ·intro h
  refine h.trans ?_
  rintro u ⟨q,hq,rfl⟩
  obtain⟨g,hg,e⟩:=key q
  exact Sp.div (k:=g) (by omega) ((RB.sp hq).congr e)
 ·intro h
  refine h.trans ?_
  rintro u ⟨q,hq,rfl⟩
  obtain⟨g,hg,e⟩:=key q
  exact(Sp.mul g (RB.sp hq)).congr fun c=>(e c).symm
end
section
theorem zBT{L:List (List Int)}{c:Nat}{Y:Int}(h0:0<=Y)(h:∀r∈L,-Y<=vec r c∧vec r c<=Y)(q:Nat): -Y<=rowv L q c∧rowv L q c<=Y:=by
 unfold rowv
 cases hq:L[q]? with
 |none=>simp[vec];omega
 |some r=>exact h r (List.mem_of_getElem? hq)
theorem vec_le{r:List Int}{Y:Int}(h0:0<=Y)(h:∀x∈r,-Y<=x∧x<=Y)(c:Nat): -Y<=vec r c∧vec r c<=Y:=
 zET (P:=fun x=> -Y<=x∧x<=Y) (by omega) h c
theorem zEP(L:List (List Int)):∀n,(pRed L n).1.length=L.length
 |0=>rfl
 |n+1=>by
  rw[zHO]
  have:=zEP L n
  unfold zKS
  split
  ·exact this
  ·rw[zGF,zFR];exact this
theorem zNA{W n Y:Nat}{L:List (List Int)}(hw:∀r∈L,r.length=W)(hN:L.length<=6)(h1:∀r∈L,∀c,c<n-> -1<=vec r c∧vec r c<=1)(hY:∀r∈L,∀x∈r,-(Y:Int)<=x∧x<=Y)
 {t:Nat}(ht:t<=n):∀r∈(pRed L t).1,r.length=W∧∀x∈r,-((720*Y:Nat):Int)<=x∧x<=((720*Y:Nat):Int):=by
 have h:=zCA L hw t (fun j hj q=>zBT (by decide) (fun r hr=>h1 r hr j (by omega)) q)
 intro r hr
 refine⟨h.wid r hr,?_⟩
 obtain⟨q,hq,rfl⟩:=List.mem_iff_getElem.1 hr
 refine zKW (P:=fun x=> -((720*Y:Nat):Int)<=x∧x<=((720*Y:Nat):Int)) fun c=>?_
 have hq':q<L.length:=by rw[<- zEP L t];exact hq
 have:=h.le hN (fun x hx r=>zBT (by decide) (fun r hr=>h1 r hr x (by have:=h.lt x hx;omega)) r) (c:=c) (Y:=Y) (fun r=>zBT (by omega) (fun r hr=>vec_le (by omega) (hY r hr) c) r) hq'
 rw[zFU hq]at this
 omega
theorem zGH{W:Nat}{L:List (List Int)}(hw:∀r∈L,r.length=W)(q:Nat){c:Nat}(hc:W<=c):rowv L q c=0:=by
 unfold rowv
 cases hq:L[q]? with
 |none=>simp[vec]
 |some r=>exact zGO (by rw[Option.getD_some,hw r (List.mem_of_getElem? hq)];exact hc)
theorem zMV{W n m:Nat}{L:List (List Int)}(hw:∀r∈L,r.length=W)(h1:∀r∈L,∀c,c<n-> -1<=vec r c∧vec r c<=1)(hm:W<=m)
 (h0:∀q,(pRed L n).2.length<=q->q<L.length->∀c,n<=c->c<W->rowv (pRed L n).1 q c=0):
 (pRed L n).2=(rRed L m).piv∧(rRed L m).done=(pRed L n).1.take (pRed L n).2.length:=by
 have h:=zCA L hw n (fun j hj q=>zBT (by decide) (fun r hr=>h1 r hr j hj) q)
 obtain⟨k,hk⟩:=zMX L hw m
 have hN:=h.K_le
 have hN':=k.K_le
 obtain⟨e1,e2⟩:=h.unique k (fun q h1 h2 c=>by
  rcases Nat.lt_or_ge c n with hc|hc
  ·exact h.zero q h1 h2 c hc
  ·rcases Nat.lt_or_ge c W with hc2|hc2
   ·exact h0 q h1 h2 c hc hc2
   ·exact zGH h.wid q hc2)
  (fun q h1 h2 c=>by
    rcases Nat.lt_or_ge c m with hc|hc
    ·exact k.zero q h1 h2 c hc
    ·exact zGH k.wid q (by omega))
  (fun v=>(zLY L v).symm)
 refine⟨e1,List.ext_getElem? fun i=>?_⟩
 rw[e1]at e2⊢
 rcases Nat.lt_or_ge i (rRed L m).piv.length with hi|hi
 ·rw[List.getElem?_take_of_lt hi,e2 i hi,List.getElem?_append_left (by omega)]
 ·rw[List.getElem?_eq_none (by omega),List.getElem?_eq_none (by rw[List.length_take];omega)]
theorem red_more{W n m:Nat}{L:List (List Int)}(hw:∀r∈L,r.length=W)(h1:∀r∈L,∀c,c<n-> -1<=vec r c∧vec r c<=1)(hm:W<=m)
 {q:Nat}(hq1:(pRed L n).2.length<=q)(hq2:q<L.length)(hq3:rowv (pRed L n).1 q n≠0):n∈(rRed L m).piv:=by
 have h:=zCA L hw n (fun j hj q=>zBT (by decide) (fun r hr=>h1 r hr j hj) q)
 obtain⟨k,hk⟩:=zMX L hw m
 obtain⟨i,hi,e⟩:=(k.ech.pivot_iff n).2 ⟨rowv (pRed L n).1 q,(k.span (fun q h1 h2 c=>by
  rcases Nat.lt_or_ge c m with hc|hc
  ·exact k.zero q h1 h2 c hc
  ·exact zGH k.wid q (by omega))).2 ((zLY L _).2 (h.sp1 q hq2)),hq3,h.zero q hq1 hq2⟩
 rw[<- e];unfold jf;rw[List.getElem?_eq_getElem hi];exact List.getElem_mem hi
def zEX(R:List (List Int))(f:Nat):List Nat->Nat->Int->Int
 | [],_,t=>t
 |p::J,k,t=>
  let x:=vec (R[k]?.getD []) p
  let n:=x.tdiv (Int.gcd x (vec (R[k]?.getD []) f):Nat)
  zEX R f J (k+1) (t*n.tdiv (Int.gcd t n:Nat))
def zEF(R:List (List Int)):List Nat->Nat->Int->Int
 | [],_,t=>t
 |p::J,k,t=>
  let x:=vec (R[k]?.getD []) p
  zEF R J (k+1) (t.tdiv (Int.gcd t x:Nat)*x)
end
section
theorem lcm_mul{t n:Int}(ht:0<t)(hn:0<n):t*n.tdiv (Int.gcd t n:Nat)=((Nat.lcm t.natAbs n.natAbs:Nat):Int):=by
 obtain⟨a,rfl⟩:∃a:Nat,t=a:=⟨t.toNat,by omega⟩
 obtain⟨b,rfl⟩:∃b:Nat,n=b:=⟨n.toNat,by omega⟩
 show(a:Int)*(b:Int).tdiv ((Nat.gcd a b:Nat):Int)=((Nat.lcm a b:Nat):Int)
 rw[<- Int.ofNat_tdiv,<- Int.natCast_mul]
 unfold Nat.lcm
 rw[Nat.mul_div_assoc _ (Nat.gcd_dvd_right _ _)]
theorem lcm_mul'{t n:Int}(ht:0<t)(hn:0<n):t.tdiv (Int.gcd t n:Nat)*n=((Nat.lcm t.natAbs n.natAbs:Nat):Int):=by
 obtain⟨a,rfl⟩:∃a:Nat,t=a:=⟨t.toNat,by omega⟩
 obtain⟨b,rfl⟩:∃b:Nat,n=b:=⟨n.toNat,by omega⟩
 show(a:Int).tdiv ((Nat.gcd a b:Nat):Int)*(b:Int)=((Nat.lcm a b:Nat):Int)
 rw[<- Int.ofNat_tdiv,<- Int.natCast_mul]
 unfold Nat.lcm
 rw[Nat.div_mul_right_comm (Nat.gcd_dvd_left _ _)]
theorem lcm_facts{t n d:Int}(ht:0<t)(hn:0<n)(htd:t∣d)(hnd:n∣d):
 0<((Nat.lcm t.natAbs n.natAbs:Nat):Int)∧((Nat.lcm t.natAbs n.natAbs:Nat):Int)∣d∧t∣((Nat.lcm t.natAbs n.natAbs:Nat):Int)∧n∣((Nat.lcm t.natAbs n.natAbs:Nat):Int):=by
 refine⟨?_,?_,?_,?_⟩
 ·have:=Nat.lcm_pos (m:=t.natAbs) (n:=n.natAbs) (by omega) (by omega);omega
 ·exact Int.ofNat_dvd_left.2 (Nat.lcm_dvd (Int.natAbs_dvd_natAbs.2 htd) (Int.natAbs_dvd_natAbs.2 hnd))
 ·exact Int.ofNat_dvd_right.2 (Nat.dvd_lcm_left _ _)
 ·exact Int.ofNat_dvd_right.2 (Nat.dvd_lcm_right _ _)
def nP(x e:Int):Int:=x.tdiv (Int.gcd x e:Nat)
theorem nP_facts{x e d:Int}(hx:0<x)(hd:x∣d):0<nP x e∧nP x e∣d∧∀t,nP x e∣t->x∣e*t:=by
 unfold nP
 obtain⟨g,hg⟩:∃g:Int,g=(Int.gcd x e:Nat):=⟨_,rfl⟩
 rw[<- hg]
 have hg0:0<g:=by
  rw[hg]
  have:0<Int.gcd x e:=Int.gcd_pos_of_ne_zero_left _ (by omega)
  omega
 have h1:g*x.tdiv g=x:=Int.mul_tdiv_cancel' (by rw[hg];exact Int.gcd_dvd_left ..)
 obtain⟨k,hk⟩:g∣e:=by rw[hg];exact Int.gcd_dvd_right ..
 obtain⟨m,hm⟩:=exq (x.tdiv g)
 rw[<- hm]at h1⊢
 refine⟨?_,?_,fun t ⟨q,hq⟩=>⟨k*q,?_⟩⟩
 ·rcases Int.lt_trichotomy m 0 with h|h|h
  ·have:=Int.mul_neg_of_pos_of_neg hg0 h;omega
  ·subst h;simp at h1;omega
  ·exact h
 ·exact Int.dvd_trans ⟨g,by rw[<- h1];grind⟩ hd
 ·rw[hq,hk,<- h1];grind
theorem zJH{R:List (List Int)}{f:Nat}{d:Int}:∀(J:List Nat) (k:Nat) (t:Int),0<t->t∣d->(∀i,i<J.length->0<vec (R[k+i]?.getD []) (jf J i)∧vec (R[k+i]?.getD []) (jf J i)∣d)->
 0<zEX R f J k t∧zEX R f J k t∣d∧t∣zEX R f J k t∧∀i,i<J.length->nP (vec (R[k+i]?.getD []) (jf J i)) (vec (R[k+i]?.getD []) f)∣zEX R f J k t
 | [],k,t,ht,htd,_=>⟨ht,htd,Int.dvd_refl _,fun i hi=>by simp at hi⟩
 |p::J,k,t,ht,htd,h=>by
  have h0:=h 0 (by simp)
  simp only[jf,Nat.add_zero,List.getElem?_cons_zero,Option.getD_some]at h0
  obtain⟨n1,n2,n3⟩:=nP_facts (e:=vec (R[k]?.getD []) f) h0.1 h0.2
  obtain⟨l1,l2,l3,l4⟩:=lcm_facts ht n1 htd n2
  rw[<- lcm_mul ht n1]at l1 l2 l3 l4
  obtain⟨a,b,c,e⟩:=zJH (R:=R) (f:=f) J (k+1) _ l1 l2 (fun i hi=>by
   have:=h (i+1) (by simp;omega)
   rw[show k+1+i=k+(i+1)by omega]
   simpa[jf]using this)
  refine⟨a,b,Int.dvd_trans l3 c,fun i hi=>?_⟩
  match i,hi with
  |0,_=>exact Int.dvd_trans l4 c
  |i+1,hi=>
   have:=e i (by simpa using hi)
   rw[show k+1+i=k+(i+1)by omega]at this
   have e2:jf (p::J) (i+1)=jf J i:=by simp[jf]
   rw[e2]
   exact this
theorem zJF{R:List (List Int)}{d:Int}:∀(J:List Nat) (k:Nat) (t:Int),0<t->t∣d->(∀i,i<J.length->0<vec (R[k+i]?.getD []) (jf J i)∧vec (R[k+i]?.getD []) (jf J i)∣d)->
 0<zEF R J k t∧zEF R J k t∣d∧t∣zEF R J k t∧∀i,i<J.length->vec (R[k+i]?.getD []) (jf J i)∣zEF R J k t
 | [],k,t,ht,htd,_=>⟨ht,htd,Int.dvd_refl _,fun i hi=>by simp at hi⟩
 |p::J,k,t,ht,htd,h=>by
  have h0:=h 0 (by simp)
  simp only[jf,Nat.add_zero,List.getElem?_cons_zero,Option.getD_some]at h0
  obtain⟨l1,l2,l3,l4⟩:=lcm_facts ht h0.1 htd h0.2
  rw[<- lcm_mul' ht h0.1]at l1 l2 l3 l4
  obtain⟨a,b,c,e⟩:=zJF (R:=R) J (k+1) _ l1 l2 (fun i hi=>by
   have:=h (i+1) (by simp;omega)
   rw[show k+1+i=k+(i+1)by omega]
   simpa[jf]using this)
  refine⟨a,b,Int.dvd_trans l3 c,fun i hi=>?_⟩
  match i,hi with
  |0,_=>exact Int.dvd_trans l4 c
  |i+1,hi=>
   have:=e i (by simpa using hi)
   rw[show k+1+i=k+(i+1)by omega]at this
   have e2:jf (p::J) (i+1)=jf J i:=by simp[jf]
   rw[e2]
   exact this
def zIA(v:Nat->Nat->Int):List Nat->Nat->List Int->List Int
 | [],_,h=>h
 |p::J,k,h=>zIA v J (k+1) (h.set p (v k p))
theorem zEH(v:Nat->Nat->Int):∀(J:List Nat) (k:Nat) (h:List Int),(zIA v J k h).length=h.length
 | [],_,_=>rfl
 |p::J,k,h=>by unfold zIA;rw[zEH v J];simp
theorem zLF(v:Nat->Nat->Int):∀(J:List Nat) (k:Nat) (h:List Int) (c:Nat),c∉J->vec (zIA v J k h) c=vec h c
 | [],_,_,_,_=>rfl
 |p::J,k,h,c,hc=>by
  unfold zIA
  rw[zLF v J (k+1) _ c (fun h=>hc (by simp[h]))]
  unfold vec
  rw[List.getElem?_set_ne (fun e=>hc (by simp[e]))]
theorem zNK(v:Nat->Nat->Int):∀(J:List Nat) (k:Nat) (h:List Int) (i:Nat),J.Nodup->i<J.length->jf J i<h.length->vec (zIA v J k h) (jf J i)=v (k+i) (jf J i)
 |p::J,k,h,0,hn,_,hl=>by
  simp only[jf,List.getElem?_cons_zero,Option.getD_some]at hl⊢
  unfold zIA
  rw[zLF v J (k+1) _ p (by simpa using (List.nodup_cons.1 hn).1)]
  unfold vec
  rw[List.getElem?_set_self hl];rfl
 |p::J,k,h,i+1,hn,hi,hl=>by
  have e:jf (p::J) (i+1)=jf J i:=by simp[jf]
  rw[e]at hl⊢
  unfold zIA
  rw[zNK v J (k+1) _ i (List.nodup_cons.1 hn).2 (by simpa using hi) (by simpa using hl),show k+1+i=k+(i+1)by omega]
def valP(R:List (List Int))(f:Nat)(t:Int)(k p:Nat):Int:=(-(vec (R[k]?.getD []) f)*t).tdiv (vec (R[k]?.getD []) p)
def valR(R:List (List Int))(f:Nat)(t:Int)(k p:Nat):Int:= -(vec (R[k]?.getD []) f)*t.tdiv (vec (R[k]?.getD []) p)
def rawP(R:List (List Int))(J:List Nat)(n f:Nat):List Int:=zIA (valP R f (zEX R f J 0 1)) J 0 ((List.replicate n 0).set f (zEX R f J 0 1))
def rawR(R:List (List Int))(J:List Nat)(n f:Nat):List Int:=zIA (valR R f (zEF R J 0 1)) J 0 ((List.replicate n 0).set f (zEF R J 0 1))
def kerP(R:List (List Int))(J:List Nat)(n f:Nat):List Int:=zBO (rawP R J n f)
def kerR(R:List (List Int))(J:List Nat)(n f:Nat):List Int:=zIS (rawR R J n f)
def zEV(J:List Nat)(n:Nat):List Nat:=(List.range n).filter (fun f=>!J.contains f)
def zLA(R:List (List Int))(J:List Nat)(n:Nat):List (List Int):=(zEV J n).map (kerP R J n)
def kernR(R:List (List Int))(J:List Nat)(n:Nat):List (List Int):=(zEV J n).map (kerR R J n)
structure KOk (R:List (List Int)) (J:List Nat) (n:Nat) (d:Int):Prop where
 nodup:J.Nodup
 lt:∀x∈J,x<n
 piv:∀i,i<J.length->0<vec (R[i]?.getD []) (jf J i)∧vec (R[i]?.getD []) (jf J i)∣d
theorem raw_zero{v:Nat->Nat->Int}{J:List Nat}{n f c:Nat}{t:Int}(hc:c∉J)(hf:f<n):vec (zIA v J 0 ((List.replicate n 0).set f t)) c=if c=f then t else 0:=by
 rw[zLF _ _ _ _ _ hc]
 unfold vec
 by_cases e:c=f
 ·subst e;rw[if_pos rfl,List.getElem?_set_self (by simpa using hf)];rfl
 ·rw[if_neg e,List.getElem?_set_ne (Ne.symm e),List.getElem?_replicate];split<;>rfl
theorem mem_jf{J:List Nat}{c:Nat}(h:c∈J):∃i,i<J.length∧jf J i=c:=by
 obtain⟨i,hi,rfl⟩:=List.mem_iff_getElem.1 h
 exact⟨i,hi,by simp[jf,hi]⟩
theorem jf_mem{J:List Nat}{i:Nat}(h:i<J.length):jf J i∈J:=by simp[jf,h]
theorem rawP_vals{R:List (List Int)}{J:List Nat}{n f:Nat}{d:Int}(h:KOk R J n d)(hf:f<n)(hfJ:f∉J):0<zEX R f J 0 1∧zEX R f J 0 1∣d∧(rawP R J n f).length=n∧
 (∀c,c∉J->vec (rawP R J n f) c=if c=f then zEX R f J 0 1 else 0)∧∀i,i<J.length->vec (rawP R J n f) (jf J i)*vec (R[i]?.getD []) (jf J i)= -(vec (R[i]?.getD []) f)*zEX R f J 0 1:=by
 obtain⟨a,b,_,e⟩:=zJH (R:=R) (f:=f) (d:=d) J 0 1 (by decide) (Int.one_dvd d) (fun i hi=>by rw[Nat.zero_add];exact h.piv i hi)
 refine⟨a,b,by unfold rawP;rw[zEH];simp,fun c hc=>raw_zero hc hf,fun i hi=>?_⟩
 unfold rawP
 rw[zNK _ J 0 _ i h.nodup hi (by simpa using h.lt _ (jf_mem hi)),Nat.zero_add]
 have:=e i hi
 rw[Nat.zero_add]at this
 obtain⟨_,_,k⟩:=nP_facts (e:=vec (R[i]?.getD []) f) (h.piv i hi).1 (h.piv i hi).2
 have hd:=k _ this
 unfold valP
 exact Int.tdiv_mul_cancel (by obtain⟨q,hq⟩:=hd;exact⟨-q,by grind⟩)
theorem rawR_vals{R:List (List Int)}{J:List Nat}{n f:Nat}{d:Int}(h:KOk R J n d)(hf:f<n)(hfJ:f∉J):0<zEF R J 0 1∧zEF R J 0 1∣d∧(rawR R J n f).length=n∧
 (∀c,c∉J->vec (rawR R J n f) c=if c=f then zEF R J 0 1 else 0)∧∀i,i<J.length->vec (rawR R J n f) (jf J i)*vec (R[i]?.getD []) (jf J i)= -(vec (R[i]?.getD []) f)*zEF R J 0 1:=by
 obtain⟨a,b,_,e⟩:=zJF (R:=R) (d:=d) J 0 1 (by decide) (Int.one_dvd d) (fun i hi=>by rw[Nat.zero_add];exact h.piv i hi)
 refine⟨a,b,by unfold rawR;rw[zEH];simp,fun c hc=>raw_zero hc hf,fun i hi=>?_⟩
 unfold rawR
 rw[zNK _ J 0 _ i h.nodup hi (by simpa using h.lt _ (jf_mem hi)),Nat.zero_add]
 have:=e i hi
 rw[Nat.zero_add]at this
 unfold valR
 rw[Int.mul_assoc,Int.tdiv_mul_cancel this]
theorem short_pos{l:List Int}{c:Nat}(h:0<vec l c):0<vec (zBO l) c:=by
 obtain⟨g,hg,e⟩:=zBU l
 have:=e c
 rcases Int.lt_trichotomy (vec (zBO l) c) 0 with h1|h1|h1
 ·have:=Int.mul_neg_of_pos_of_neg hg h1;omega
 ·rw[h1]at this;omega
 ·exact h1
theorem short_eq{l m:List Int}{x y:Int}(hx:0<x)(hy:0<y)(hl:l.length=m.length)(h:∀c,x*vec l c=y*vec m c):zBO l=zBO m:=by
 refine List.ext_getElem (by rw[zDA,zDA,hl]) fun c c1 c2=>?_
 rw[<- zCS c1,<- zCS c2]
 obtain⟨g,hg,e⟩:=zBU l
 obtain⟨g',hg',e'⟩:=zBU m
 have h':∀c,(x*g)*vec (zBO l) c=(y*g')*vec (zBO m) c:=fun c=>by rw[Int.mul_assoc,e,Int.mul_assoc,e',h]
 have p1:=Int.mul_pos hx hg
 have p2:=Int.mul_pos hy hg'
 rcases zDK l with a|a
 ·rcases zDK m with b|b
  ·exact prim_eq p1 p2 h' a b c
  ·have h2:=h' c
   rw[b c,Int.mul_zero]at h2
   rw[b c]
   exact zAN (g:=x*g) (by omega) h2
 ·have h2:=h' c
  rw[a c,Int.mul_zero]at h2
  rw[a c]
  exact(zAN (g:=y*g') (by omega) h2.symm).symm
theorem ker_same{R:List (List Int)}{J:List Nat}{n f:Nat}{d:Int}(h:KOk R J n d)(hf:f<n)(hfJ:f∉J):kerP R J n f=kerR R J n f:=by
 obtain⟨a1,a2,a3,a4,a5⟩:=rawP_vals h hf hfJ
 obtain⟨b1,b2,b3,b4,b5⟩:=rawR_vals h hf hfJ
 unfold kerP kerR
 rw[zHN]
 refine short_eq b1 a1 (by omega) fun c=>?_
 by_cases hc:c∈J
 ·obtain⟨i,hi,rfl⟩:=mem_jf hc
  have h1:=a5 i hi
  have h2:=b5 i hi
  have h3:=(h.piv i hi).1
  refine Int.eq_of_mul_eq_mul_right (show vec (R[i]?.getD []) (jf J i)≠0 by omega) ?_
  rw[Int.mul_assoc,h1,Int.mul_assoc,h2];grind
 ·rw[a4 c hc,b4 c hc]
  split
  ·exact Int.mul_comm _ _
  ·simp
theorem kern_same{R:List (List Int)}{J:List Nat}{n:Nat}{d:Int}(h:KOk R J n d):zLA R J n=kernR R J n:=by
 unfold zLA kernR zEV
 refine List.map_congr_left fun f hf=>?_
 obtain⟨h1,h2⟩:=List.mem_filter.1 hf
 exact ker_same h (by simpa using h1) (by simpa using h2)
theorem zJG{R R':List (List Int)}:∀(J:List Nat) (k:Nat) (t:Int),(∀i,i<J.length->R[k+i]? =R'[k+i]?)->zEF R J k t=zEF R' J k t
 | [],_,_,_=>rfl
 |p::J,k,t,h=>by
  unfold zEF
  have:=h 0 (by simp)
  rw[Nat.add_zero]at this
  simp only[this]
  exact zJG J (k+1) _ (fun i hi=>by rw[show k+1+i=k+(i+1)by omega];exact h (i+1) (by simp;omega))
theorem zLG{v v':Nat->Nat->Int}:∀(J:List Nat) (k:Nat) (h:List Int),(∀i,i<J.length->∀p,v (k+i) p=v' (k+i) p)->zIA v J k h=zIA v' J k h
 | [],_,_,_=>rfl
 |p::J,k,h,e=>by
  unfold zIA
  have:=e 0 (by simp) p
  rw[Nat.add_zero]at this
  rw[this]
  exact zLG J (k+1) _ (fun i hi=>by rw[show k+1+i=k+(i+1)by omega];exact e (i+1) (by simp;omega))
theorem kernR_congr{R R':List (List Int)}{J:List Nat}(n:Nat)(h:∀i,i<J.length->R[i]? =R'[i]?):kernR R J n=kernR R' J n:=by
 unfold kernR
 refine List.map_congr_left fun f _=>?_
 unfold kerR rawR
 rw[zJG (R:=R) (R':=R') J 0 1 (fun i hi=>by rw[Nat.zero_add];exact h i hi)]
 rw[zLG (v:=valR R f _) (v':=valR R' f (zEF R' J 0 1)) J 0 _ (fun i hi p=>by unfold valR;rw[Nat.zero_add,h i hi])]
theorem pRed_ok{W n:Nat}{L:List (List Int)}(hw:∀r∈L,r.length=W)(hN:L.length<=6)(h1:∀r∈L,∀c,c<n-> -1<=vec r c∧vec r c<=1):
 ∃d:Nat,0<d∧d<=720∧KOk (pRed L n).1 (pRed L n).2 n d:=by
 have h:=zCA L hw n (fun j hj q=>zBT (by decide) (fun r hr=>h1 r hr j hj) q)
 obtain⟨d,d1,d2,d3⟩:=h.piv_dvd hN (fun x hx r=>zBT (by decide) (fun r hr=>h1 r hr x (h.lt x hx)) r)
 exact⟨d,d1,d2,h.asc.imp (fun h=>by omega),h.lt,fun i hi=>⟨(h.pp i hi).2,d3 i hi⟩⟩
theorem kernel_same{n:Nat}{L:List (List Int)}(hw:∀r∈L,r.length=n)(hN:L.length<=6)(h1:∀r∈L,∀c,c<n-> -1<=vec r c∧vec r c<=1):
 zLA (pRed L n).1 (pRed L n).2 n=kernR (rRed L n).done (rRed L n).piv n:=by
 obtain⟨d,_,_,hk⟩:=pRed_ok hw hN h1
 obtain⟨e1,e2⟩:=zMV hw h1 (Nat.le_refl n) (fun q _ _ c h1 h2=>by omega)
 rw[kern_same hk,<- e1,e2]
 exact kernR_congr n fun i hi=>(List.getElem?_take_of_lt hi).symm
end
end
section
def upF(a:Int):Nat->List Int
 |0=>[]
 |m+1=>a::upF (a+1) m
theorem zGR:∀(m:Nat) (a:Int),(upF a m).length=m
 |0,_=>rfl
 |m+1,a=>by simp[upF,zGR m]
def comb:Nat->Nat->Int->List (List Int)
 |_,0,_=>[[]]
 |0,_+1,_=>[]
 |m+1,k+1,a=>(comb m k (a+1)).map (a:: ·)++comb m (k+1) (a+1)
def zGT(n:Int):List Int->Option (List Int)
 | []=>none
 |a::r=>match zGT n r with
  |some s=>some (a::s)
  |none=>if a+r.length+1<n then some (upF (a+1) (r.length+1))else none
theorem zGE:∀(m k:Nat) (a:Int),m<k->comb m k a=[]
 |0,k+1,a,_=>rfl
 |m+1,k+1,a,h=>by simp[comb,zGE m k (a+1) (by omega),zGE m (k+1) (a+1) (by omega)]
theorem zLH:∀(m k:Nat) (a:Int),k<=m->∃t,comb m k a=upF a k::t
 |m,0,a,_=>by cases m<;>exact⟨[],rfl⟩
 |m+1,k+1,a,h=>by
  obtain⟨t,ht⟩:=zLH m k (a+1) (by omega)
  exact⟨t.map (a:: ·)++comb m (k+1) (a+1),by simp[comb,ht,upF]⟩
theorem zCW:∀(m k:Nat) (a:Int),∀x∈comb m k a,x.length=k
 |m,0,a,x,h=>by cases m<;>(simp[comb]at h;simp[h])
 |0,k+1,a,x,h=>by simp[comb]at h
 |m+1,k+1,a,x,h=>by
  simp only[comb,List.mem_append,List.mem_map]at h
  rcases h with⟨y,hy,rfl⟩|h
  ·simp[zCW m k (a+1) y hy]
  ·exact zCW m (k+1) (a+1) x h
theorem zID:∀(m k:Nat) (a:Int),∀x∈comb m k a,x.Pairwise (· < ·)∧∀y∈x,a<=y∧y<a+m
 |m,0,a,x,h=>by cases m<;>(simp[comb]at h;simp[h])
 |0,k+1,a,x,h=>by simp[comb]at h
 |m+1,k+1,a,x,h=>by
  simp only[comb,List.mem_append,List.mem_map]at h
  rcases h with⟨y,hy,rfl⟩|h
  ·obtain⟨h1,h2⟩:=zID m k (a+1) y hy
   refine⟨List.pairwise_cons.2 ⟨fun z hz=>by have:=h2 z hz;omega,h1⟩,fun z hz=>?_⟩
   rcases List.mem_cons.1 hz with rfl|hz
   ·omega
   ·have:=h2 z hz;omega
  ·obtain⟨h1,h2⟩:=zID m (k+1) (a+1) x h
   exact⟨h1,fun z hz=>by have:=h2 z hz;omega⟩
theorem zIC:∀(m:Nat) (a:Int) (x:List Int),x.Pairwise (· < ·)->(∀y∈x,a<=y∧y<a+m)->x∈comb m x.length a
 |m,a,[],_,_=>by cases m<;>simp[comb]
 |0,a,y::x,_,h=>by have:=h y (by simp);omega
 |m+1,a,y::x,hp,h=>by
  rw[List.pairwise_cons]at hp
  simp only[List.length_cons,comb,List.mem_append,List.mem_map]
  by_cases e:y=a
  ·subst e
   exact .inl ⟨x,zIC m (y+1) x hp.2 (fun z hz=>by have:=hp.1 z hz;have:=h z (by simp[hz]);omega),rfl⟩
  ·right
   have:=h y (by simp)
   exact zIC m (a+1) (y::x) (List.pairwise_cons.2 hp) (fun z hz=>by
    rcases List.mem_cons.1 hz with rfl|hz'
    ·omega
    ·have h1:=hp.1 z hz';have:=h z hz;omega)
def Chn(n:Int)(e:Option (List Int)):List (List Int)->Prop
 | []=>True
 | [x]=>zGT n x=e
 |x::y::t=>zGT n x=some y∧Chn n e (y::t)
theorem Chn.append{n:Int}{e:Option (List Int)}{y:List Int}{t:List (List Int)}:∀{l:List (List Int)},Chn n (some y) l->Chn n e (y::t)->Chn n e (l++y::t)
 | [],_,h=>h
 | [x],h,h2=>⟨h,h2⟩
 |x::z::l,h,h2=>⟨h.1,Chn.append (l:=z::l) h.2 h2⟩
theorem Chn.cons{n a:Int}{k:Nat}:∀{l:List (List Int)},(∀x∈l,x.length=k)->Chn n none l->Chn n (if a+k+1<n then some (upF (a+1) (k+1))else none) (l.map (a:: ·))
 | [],_,_=>trivial
 | [x],hl,h=>by
   show(match zGT n x with|some s=>some (a::s)|none=>if a+x.length+1<n then some (upF (a+1) (x.length+1))else none)=_
   have h':zGT n x=none:=h
   rw[h',hl x (by simp)]
 |x::y::l,hl,h=>by
  refine⟨?_,Chn.cons (l:=y::l) (fun z hz=>hl z (by simp[List.mem_cons.1 hz])) h.2⟩
  show(match zGT n x with|some s=>some (a::s)|none=>_)=_
  rw[h.1]
theorem zNO:∀(m k:Nat) (a:Int),Chn (a+m) none (comb m k a)
 |m,0,a=>by cases m<;>exact rfl
 |0,k+1,a=>trivial
 |m+1,k+1,a=>by
  have h1:=Chn.cons (n:=a+(m+1:Nat)) (a:=a) (zCW m k (a+1)) (by have:=zNO m k (a+1);rwa [show a+1+(m:Int)=a+(m+1:Nat)by omega]at this)
  have h2:=zNO m (k+1) (a+1)
  rw[show a+1+(m:Int)=a+(m+1:Nat)by omega]at h2
  show Chn _ _ ((comb m k (a+1)).map (a:: ·)++comb m (k+1) (a+1))
  by_cases h:k+1<=m
  ·obtain⟨t,ht⟩:=zLH m (k+1) (a+1) h
   rw[if_pos (by omega)]at h1
   rw[ht]at h2⊢
   exact h1.append h2
  ·rw[if_neg (by omega)]at h1
   rw[zGE m (k+1) (a+1) (by omega),List.append_nil]
   exact h1
theorem Chn.at{n:Int}:∀{l:List (List Int)} {i:Nat} {x:List Int},Chn n none l->l[i]? =some x->l[i+1]? =zGT n x
 | [],i,x,_,h=>by simp at h
 | [y],0,x,h,hi=>by
   simp at hi;subst hi
   have h':zGT n y=none:=h
   rw[h'];rfl
 | [y],i+1,x,h,hi=>by simp at hi
 |y::z::l,0,x,h,hi=>by simp at hi;subst hi;rw[h.1];rfl
 |y::z::l,i+1,x,h,hi=>Chn.at (l:=z::l) h.2 (by simpa using hi)
theorem zNF{n:Int}:∀(m:Nat) (a:Int),a+m=n->zGT n (upF a m)=none
 |0,_,_=>rfl
 |m+1,a,h=>by
  show(match zGT n (upF (a+1) m)with|some s=>some (a::s)|none=>if a+(upF (a+1) m).length+1<n then _ else none)=_
  rw[zNF m (a+1) (by omega),zGR]
  simp only[]
  rw[if_neg (by omega)]
theorem nextS_at{n:Int}{m:Nat}{d:Int}(hd:d+m+1<n):∀u:List Int,zGT n (u++d::upF (n-m) m)=some (u++upF (d+1) (m+1))
 | []=>by
   show(match zGT n (upF (n-m) m)with|some s=>some (d::s)|none=>if d+(upF (n-m) m).length+1<n then some (upF (d+1) ((upF (n-m) m).length+1))else none)=_
   rw[zNF m (n-m) (by omega),zGR]
   simp only[]
   rw[if_pos hd];rfl
 |a::u=>by
  show(match zGT n (u++d::upF (n-m) m)with|some s=>some (a::s)|none=>_)=_
  rw[nextS_at hd u];rfl
def nextFrom(a:Int)(s:List Int):Int:=match s.getLast? with|some x=>x+1|none=>a
def extS(a n:Int)(s:List Int):List (List Int):=(upF (nextFrom a s) (n-nextFrom a s).toNat).map (fun j=>s++[j])
def lvls(n:Nat):Nat->List (List Int)
 |0=>comb n 0 0
 |k+1=>lvls n k++comb n (k+1) 0
def allS(n:Nat):List (List Int):=lvls n n
def grown(n at':Nat):List (List Int):=[[]]++((allS n).take at').flatMap (extS 0 n)
end
end Go.Proofs.YtlffndehhhpgjaaGreat
