/- Walks and plain laws for DualCornersRow, part 10. -/
import Derived.WalkSmall
import Derived.Test.YtlffndehhhpgjaaGreatPkDualCornersRow9
namespace Go.Proofs.YtlffndehhhpgjaaGreat
set_option linter.unusedVariables false
set_option linter.unusedSimpArgs false
set_option maxRecDepth 100000
set_option maxHeartbeats 4000000
section
theorem cop_dvd{b a d:Int}(h:Int.gcd a b=1)(h1:b∣a*d):b∣d:=by
 have h2:b.natAbs∣a.natAbs*d.natAbs:=by rw[<- Int.natAbs_mul];exact Int.natAbs_dvd_natAbs.2 h1
 have h3:Nat.Coprime b.natAbs a.natAbs:=by rw[Nat.coprime_comm];exact h
 exact Int.natAbs_dvd_natAbs.1 (h3.dvd_of_dvd_mul_left h2)
def lowV(n d:Int):Option Rt:=if zAH (zAR n d)=true then some (zAR n d)else none
theorem zFB{a b:Int}(h:Int.gcd a b=1):zAR a b=(a,b):=by unfold zAR;rw[h];simp
theorem lowV_congr{n d m e:Int}(hd:0<d)(he:0<e)(h:n*e=m*d):lowV n d=lowV m e:=by
 unfold lowV;rw[zIK hd he h]
theorem zFV{n d:Int}(hd:0<d):∃g a b:Int,zAR n d=(a,b)∧0<g∧0<b∧n=a*g∧d=b*g∧Int.gcd a b=1:=by
 obtain⟨c1,_,_,c4,c5⟩:=zDI (a:=n) hd
 obtain⟨⟨a,b⟩,hab⟩:∃p,p=zAR n d:=⟨_,rfl⟩
 rw[<- hab]at c1 c4 c5
 simp only[]at c1 c4 c5
 -- b divides n*b,so b|a*d,so b|d
 have h1:b∣a*d:=⟨n,by rw[c5];exact Int.mul_comm _ _⟩
 have h2:b∣d:=cop_dvd c4 h1
 obtain⟨g,hg⟩:=h2
 have hg0:0<g:=by
  rcases Int.lt_or_le 0 g with h|h
  ·exact h
  ·have:b*g<=0:=Int.mul_nonpos_of_nonneg_of_nonpos (by omega) h
   omega
 refine⟨g,a,b,hab.symm,hg0,c1,?_,hg,c4⟩
 have:b*n=b*(a*g):=by rw[Int.mul_comm b n,<- c5,hg];grind
 exact Int.eq_of_mul_eq_mul_left (by omega) this
theorem low_div{n d a b g:Int}(hd:0<d)(hg:0<g)(hb:0<b)(hn:n=a*g)(he:d=b*g)(hc:Int.gcd a b=1)(k:Int):n%d*k%d=0↔b∣k:=by
 have h1:n%d*k%d=n*k%d:=by rw[Int.mul_emod,Int.emod_emod_of_dvd _ (Int.dvd_refl d),<- Int.mul_emod]
 rw[h1]
 constructor
 ·intro h
  obtain⟨c,hc2⟩:=Int.dvd_of_emod_eq_zero h
  rw[hn,he]at hc2
  have:g*(a*k)=g*(b*c):=by grind
  have h3:=Int.eq_of_mul_eq_mul_left (by omega) this
  exact cop_dvd hc ⟨c,h3⟩
 ·rintro⟨c,rfl⟩
  rw[hn,he]
  refine Int.emod_eq_zero_of_dvd ⟨a*c,by grind⟩
theorem low_val{n d a b g:Int}(hn0:0<=n)(hd:0<d)(hg:0<g)(hn:n=a*g)(he:d=b*g):n/d*b+n%d*b/d=a:=by
 have h1:n%d*b=d*(a-n/d*b):=by
  have h2:=Int.emod_add_mul_ediv n d -- n%d+d*(n/d)=n
  have h3:n%d=n-d*(n/d):=by omega
  rw[h3,Int.sub_mul,Int.mul_sub]
  have:n*b=d*a:=by rw[hn,he];grind
  rw[this];grind
 rw[h1,Int.mul_ediv_cancel_left _ (by omega)]
 omega
theorem low_nonneg{n d a b g:Int}(hn0:0<=n)(hg:0<g)(hn:n=a*g):0<=a:=by
 rcases Int.lt_or_le a 0 with h|h
 ·have:=Int.mul_neg_of_neg_of_pos h hg;omega
 ·exact h
theorem low_neg{n d:Int}(hd:0<d):zAR (-n) d=(-(zAR n d).1,(zAR n d).2):=by
 obtain⟨g,a,b,e,hg,hb,hn,he,hc⟩:=zFV (n:=n) hd
 rw[e]
 have h2:zAR (-n) d=zAR (-a) b:=zIK hd hb (by rw[hn,he];grind)
 rw[h2,zFB (by rw[Int.neg_gcd];exact hc)]
theorem zNQ{a b:Int}:zAH (-a,b)=zAH (a,b):=by
 rw[Bool.eq_iff_iff,zAW,zAW]
 simp only[Int.neg_gcd]
 constructor<;>(rintro⟨h1,h2,h3,h4,h5⟩;exact⟨h1,h2,by omega,by omega,h5⟩)
theorem low_big{n d:Int}(hn0:0<=n)(hd:0<d)(h:10000000000<n/d):zAH (zAR n d)=false:=by
 obtain⟨g,a,b,e,hg,hb,hn,he,hc⟩:=zFV (n:=n) hd
 rw[e]
 cases hv:zAH (a,b)
 ·rfl
 ·have h1:=(zAW.1 hv).2.2.2.1
  simp only[]at h1
  have h2:n/d<=a:=by
   have h3:n/d*d<=n:=by rw[Int.mul_comm];exact Int.mul_ediv_self_le (by omega)
   have h4:n/d*(b*g)<=a*g:=by rw[<- he,<- hn];exact h3
   have h5:n/d*b*g<=a*g:=by rw[Int.mul_assoc];exact h4
   have h6:=Int.le_of_mul_le_mul_right h5 hg
   have h7:n/d*1<=n/d*b:=Int.mul_le_mul_of_nonneg_left (by omega) (Int.ediv_nonneg hn0 (by omega))
   omega
  omega
structure CfI (N D n d p q P Q:Int):Prop where
 n0:0<=n
 d0:0<=d
 p0:0<=p
 q0:0<=q
 P0:0<=P
 Q0:0<=Q
 pm:p<=10000000000
 qm:q<=400
 Pm:P<=10000000000
 Qm:Q<=400
 eN:N=p*n+P*d
 eD:D=q*n+Q*d
 det:p*Q-q*P=1∨p*Q-q*P= -1
theorem CfI.step{N D n d p q P Q:Int}(h:CfI N D n d p q P Q)(hd:0<d)(h1:n/d*p+P<=10000000000)(h2:n/d*q+Q<=400):CfI N D d (n%d) (n/d*p+P) (n/d*q+Q) p q:=by
 have hk:=Int.ediv_nonneg h.n0 (show 0<=d by omega)
 have hm:=Int.emod_nonneg n (show d≠0 by omega)
 have he:=Int.emod_add_mul_ediv n d
 refine⟨by omega,hm,?_,?_,h.p0,h.q0,h1,h2,h.pm,h.qm,?_,?_,?_⟩
 ·have:=Int.mul_nonneg hk h.p0;have:=h.P0;omega
 ·have:=Int.mul_nonneg hk h.q0;have:=h.Q0;omega
 ·rw[h.eN]
  generalize n/d=k at*
  generalize n%d=r at*
  rw[<- he];grind
 ·rw[h.eD]
  generalize n/d=k at*
  generalize n%d=r at*
  rw[<- he];grind
 ·have:=h.det
  generalize n/d=k at*
  have e:(k*p+P)*q-(k*q+Q)*p= -(p*Q-q*P):=by grind
  omega
end
section
open Go.RowKit
theorem rtimes_c(w:World)(k:Int)(v:Value)(L:Nat)(s:Bool)(N D:Int)(hk: -4611686018427387904<=k∧k<=4611686018427387904)(h:RatQ w v L s N D)(hL:L<=100):
 Calls Tryz.prog 23 #[.int .i64 k,v] w fun e w'=>∃x,e=.returned x∧RatQ w' x (3+L) (s !=decide (k<0)) ((k.natAbs:Nat)*N) D∧Below w.heap.size w w':=by
 obtain⟨na,nn,nc,da,dn,dc,rfl,hN,hD⟩:=h
 obtain⟨s0,hs⟩:=exq (w.heap.size)
 obtain⟨wa,hwa⟩:=exq ((w.alloc (.cells #[.bool s,.slice na nn nc,.slice da dn dc] 37)).alloc (.cells #[.bool false,.slice none 0 0,.slice none 0 0] 37))
 have hba:Below w.heap.size w wa:=by rw[hwa];exact((Below.refl _ _).alloc (Nat.le_refl _) _).alloc (by simp) _
 have q0:wa.heap[s0+1]? =some (.cells #[.bool false,.slice none 0 0,.slice none 0 0] 37 (0,0)):=by
  have:=World.alloc_heap_new (w.alloc (.cells #[.bool s,.slice na nn nc,.slice da dn dc] 37)) (.cells #[.bool false,.slice none 0 0,.slice none 0 0] 37)
  rw[hwa,hs]
  simpa using this
 have hs1:s0+1<wa.heap.size:=(Array.getElem?_eq_some_iff.1 q0).1
 have hc:∀o v,(#[Value.bool s,.slice na nn nc,.slice da dn dc]:Array Value)[o]? =some v->wa.cell? ⟨s0,o,none⟩=some v:=fun o v h=>by
  rw[hwa,hs,World.cell?_alloc_past _ _ _ (by simp),World.cell?_alloc_at _ _ _ _ rfl];exact h
 have HS:=hid (fun(Y:World) (hY:Below wa.heap.size wa Y)=>show Y.cell? ⟨s0,0,none⟩=some (.bool s)∧Y.cell? ⟨s0,1,none⟩=some (.slice na nn nc)∧Y.cell? ⟨s0,2,none⟩=some (.slice da dn dc)from by
  have k0:∀o,Y.cell? ⟨s0,o,none⟩=wa.cell? ⟨s0,o,none⟩:=fun o=>hY.cell (p:=⟨s0,o,none⟩) (by show s0<_;omega)
  exact⟨(k0 0).trans (hc 0 _ rfl),(k0 1).trans (hc 1 _ rfl),(k0 2).trans (hc 2 _ rfl)⟩)
 have HR:=hid (fun(Y:World) (hY:Below wa.heap.size wa Y)=>show Y.cell? ⟨s0+1,0,none⟩=some (.bool false)∧Y.cell? ⟨s0+1,1,none⟩=some (.slice none 0 0)∧Y.cell? ⟨s0+1,2,none⟩=some (.slice none 0 0)∧(∀o,Y.frozen? ⟨s0+1,o,none⟩=false)∧s0+1<Y.heap.size from by
  have h1:=(hY.block (s0+1) hs1).trans q0
  exact⟨by simp[World.cell?,h1],by simp[World.cell?,h1],by simp[World.cell?,h1],fun o=>by simp[World.frozen?,h1],(Array.getElem?_eq_some_iff.1 h1).1⟩)
 have HFIN:=hid (fun(Y:World) (hY:Below wa.heap.size wa Y) (x y z:Value)=>show Below w.heap.size w (((Y.setCell ⟨s0+1,0,none⟩ x).setCell ⟨s0+1,1,none⟩ y).setCell ⟨s0+1,2,none⟩ z)from
  zAG (zAG (zAG (zAA hba hY) (by omega) 0 x) (by omega) 1 y) (by omega) 2 z)
 have HNG:=hid (fun(Y:World) (hY:Below wa.heap.size wa Y)=>show ∃c,Y.heap[s0+1]? =some (.cells c 37 (0,0))∧∀x:Int,∀o:Nat,c[o]? ≠some (.int .i64 x)from
  ⟨_,(hY.block (s0+1) hs1).trans q0,fun x o=>by match o with|0=>simp|1=>simp|2=>simp|o+3=>simp⟩)
 have HNN:=hid (fun(Y:World) (hY:Below wa.heap.size wa Y)=>And.intro (hN.below (zAA hba hY)) (hD.below (zAA hba hY)))
 obtain⟨b,hb⟩:=exq (decide (k<0))
 obtain⟨m,hm⟩:∃m:Int,m=(k.natAbs:Nat):=⟨_,rfl⟩
 rw[<- hb,<- hm]
 have hb2:=hb.symm
 have HM1:=hid (fun X=>natOf_c X m (by omega) (by omega))
 have hng:IntKind.i64.wrap (-k)= -k:=IntWalk.i64_in _ (by omega)
 have hmx:(if-k<=k then k else-k)=m:=by split<;>omega
 have hmx2:(if k<= -k then-k else k)=m:=by split<;>omega
 have hmx3:(if k< -k then-k else k)=m:=by split<;>omega
 clear hba q0 hs1 hc hb hm hN hD
 go_enter Tryz.func23,Tryz.ntmps23
 go_wp2_with fail
 rw[<- hs,<- hwa]
 clear hs hwa
 refine zAF (fun j' X=>decide (j'<=15)=true->X.cell? ⟨s0,0,none⟩=some (.bool s)∧X.cell? ⟨s0,1,none⟩=some (.slice na nn nc)∧X.cell? ⟨s0,2,none⟩=some (.slice da dn dc)) (by kernel_rfl) ?_
 have hbd:Below wa.heap.size wa wa.drew:=(Below.refl _ _).drew
 generalize wa.drew=wd at hbd⊢
 refine AnyT.tD (i:=0) (v:=.pointer (some ⟨s0,0,none⟩)) rfl rfl (by rintro w' ⟨y1,y2,y3⟩;go_simp) (HS.out _ hbd) ?_;go_frame
 refine AnyT.tD (i:=1) (v:=.bool s) rfl rfl (by rintro w' ⟨y1,y2,y3⟩;go_simp) (HS.out _ hbd) ?_;go_frame
 refine AnyT.tD (i:=2) (v:=.int .i64 k) rfl rfl (by rintro w' ⟨y1,y2,y3⟩;go_simp) (HS.out _ hbd) ?_;go_frame
 refine AnyT.tD (i:=3) (v:=.bool b) rfl rfl (by rintro w' ⟨y1,y2,y3⟩;go_simp) (HS.out _ hbd) ?_;go_frame
 refine AnyT.tD (i:=4) (v:=.bool (!(s==b))) rfl rfl (by rintro w' ⟨y1,y2,y3⟩;go_simp) (HS.out _ hbd) ?_;go_frame
 refine AnyT.tD (i:=5) (v:=.int .i64 k) rfl rfl (by rintro w' ⟨y1,y2,y3⟩;go_simp) (HS.out _ hbd) ?_;go_frame
 refine AnyT.tD (i:=6) (v:=.int .i64 k) rfl rfl (by rintro w' ⟨y1,y2,y3⟩;go_simp) (HS.out _ hbd) ?_;go_frame
 refine AnyT.tD (i:=7) (v:=.int .i64 (-k)) rfl rfl (by rintro w' ⟨y1,y2,y3⟩;go_simp) (HS.out _ hbd) ?_;go_frame
 refine AnyT.tD (i:=10) (v:=.pointer (some ⟨s0,1,none⟩)) rfl rfl (by rintro w' ⟨y1,y2,y3⟩;go_simp) (HS.out _ hbd) ?_;go_frame
 refine AnyT.tD (i:=11) (v:=.slice na nn nc) rfl rfl (by rintro w' ⟨y1,y2,y3⟩;go_simp) (HS.out _ hbd) ?_;go_frame
 refine AnyT.tD (i:=13) (v:=.pointer (some ⟨s0,2,none⟩)) rfl rfl (by rintro w' ⟨y1,y2,y3⟩;go_simp) (HS.out _ hbd) ?_;go_frame
 refine AnyT.tD (i:=14) (v:=.slice da dn dc) rfl rfl (by rintro w' ⟨y1,y2,y3⟩;go_simp) (HS.out _ hbd) ?_;go_frame
 refine AnyT.nx (i:=8) rfl ?_
 go_wp2
 refine⟨fun _=>HS.out _ hbd,?_⟩
 refine AnyT.nx (i:=9) rfl ?_
 go_wp2_with (go_at_call 74;refine(HM1.out _).mono ?_;rintro e w1 ⟨v1,rfl,hv1,hb1⟩;refine Stop.of ?_)
 refine Stop.go ?_
 obtain⟨a1,n1,c1,rfl⟩:=hv1.slice
 have HV1:=hid hv1
 have HB1:=hid (zAA hbd hb1)
 clear hv1 hb1 hmx hmx2 hmx3 hng
 go_wp2
 refine⟨fun _=>HS.out _ HB1.out,?_⟩
 refine AnyT.nx (i:=12) rfl ?_
 go_wp2_with (go_at_call 75;refine(zLM _ _ _ 3 L _ _ HV1.out (HNN.out _ HB1.out).1 (by omega) (by omega)).mono ?_;rintro e w2 ⟨v2,rfl,hv2,hb2'⟩;refine Stop.of ?_)
 refine Stop.go ?_
 obtain⟨a2,n2,c2,rfl⟩:=hv2.slice
 have HB2:=hid (zAA HB1.out hb2')
 have hd2:=(HNN.out _ HB2.out).2
 have HK1:=hid (hv2.keeps3 (g:=s0+1) (u:=.bool (!(s==b))) (v:=.slice a2 n2 c2) (z:=.slice da dn dc) (HNG.out _ HB2.out))
 have HK2:=hid ((hd2.keeps3 (g:=s0+1) (u:=.bool (!(s==b))) (v:=.slice a2 n2 c2) (z:=.slice da dn dc) (HNG.out _ HB2.out)).le (show L<=3+L by omega))
 obtain⟨x0,x1,x2,hfz,hlt⟩:=HR.out _ HB2.out
 have f0:=hfz 0
 have f1:=hfz 1
 have f2:=hfz 2
 have HFI:=hid (HFIN.out _ HB2.out (.bool (!(s==b))) (.slice a2 n2 c2) (.slice da dn dc))
 clear hv2 hd2 hb2' hfz HV1
 go_wp2
 refine⟨fun _=>HS.out _ HB2.out,?_⟩
 refine AnyT.tD (i:=15) (v:=.agg #[.bool (!(s==b)),.slice a2 n2 c2,.slice da dn dc]) rfl rfl (by rintro w' ⟨y1,y2,y3⟩;go_simp) (HS.out _ HB2.out) ?_;go_frame
 refine AnyT.nx (i:=16) rfl ?_
 go_wp2
 refine⟨fun h=>absurd h (by decide),?_⟩
 refine AnyT.done (by kernel_rfl) ?_ _
 go_wp2
 refine bodyPost_ret (v:=.agg #[.bool (!(s==b)),.slice a2 n2 c2,.slice da dn dc]) ?_ rfl ⟨_,rfl,⟨_,_,_,_,_,_,rfl,HK1.out,HK2.out⟩,HFI.out⟩
 simp[results,Tryz.results23,go_sem,x0,x1,x2,f0,f1,f2,hlt]
end
section
open Go.RowKit
def sgn(s:Bool)(N:Int):Int:=if s=true then-N else N
theorem plusQ_val{s t:Bool}{N D M E:Int}:sgn (zFS (s,N,D) (t,M,E)).1 (zFS (s,N,D) (t,M,E)).2.1=sgn s N*E+sgn t M*D:=by
 unfold zFS sgn
 cases s<;>cases t<;>simp<;>(try split)<;>(try simp)<;>grind
theorem plusQ_den{s t:Bool}{N D M E:Int}:(zFS (s,N,D) (t,M,E)).2.2=D*E:=by
 unfold zFS
 simp only[]
 split
 ·rfl
 ·split<;>rfl
theorem rat_new{Y:World}{g:Nat}(h:Y.heap[g]? =some (.cells #[.bool false,.slice none 0 0,.slice none 0 0] 37 (0,0))):
 Y.cell? ⟨g,0,none⟩=some (.bool false)∧Y.cell? ⟨g,1,none⟩=some (.slice none 0 0)∧Y.cell? ⟨g,2,none⟩=some (.slice none 0 0)∧Y.frozen? ⟨g,0,none⟩=false∧Y.frozen? ⟨g,1,none⟩=false∧Y.frozen? ⟨g,2,none⟩=false∧g<Y.heap.size:=
 ⟨by simp[World.cell?,h],by simp[World.cell?,h],by simp[World.cell?,h],by simp[World.frozen?,h],by simp[World.frozen?,h],by simp[World.frozen?,h],(Array.getElem?_eq_some_iff.1 h).1⟩
theorem zJW{Y:World}{g:Nat}{c:Array Value}{T:TypeId}{fz:Nat×Nat}(h:Y.heap[g]? =some (.cells c T fz))(o:Nat)(v:Value):(Y.setCell ⟨g,o,none⟩ v).heap[g]? =some (.cells (c.setIfInBounds o v) T fz):=by
 obtain⟨hlt,hk⟩:=Array.getElem?_eq_some_iff.1 h
 show(Y.heap.modify g _)[g]? =_
 rw[Array.getElem?_eq_getElem (by rw[Array.size_modify];exact hlt),Array.getElem_modify_self,hk]
 rfl
theorem rat_set{wa Y:World}{g N:Nat}(h:Y.heap[g]? =some (.cells #[.bool false,.slice none 0 0,.slice none 0 0] 37 (0,0)))(hg:N<=g)(hb:Below N wa Y)(u v z:Value):
 (((Y.setCell ⟨g,0,none⟩ u).setCell ⟨g,1,none⟩ v).setCell ⟨g,2,none⟩ z).cell? ⟨g,0,none⟩=some u∧(((Y.setCell ⟨g,0,none⟩ u).setCell ⟨g,1,none⟩ v).setCell ⟨g,2,none⟩ z).cell? ⟨g,1,none⟩=some v∧
 (((Y.setCell ⟨g,0,none⟩ u).setCell ⟨g,1,none⟩ v).setCell ⟨g,2,none⟩ z).cell? ⟨g,2,none⟩=some z∧Below N wa (((Y.setCell ⟨g,0,none⟩ u).setCell ⟨g,1,none⟩ v).setCell ⟨g,2,none⟩ z):=by
 have e:(((Y.setCell ⟨g,0,none⟩ u).setCell ⟨g,1,none⟩ v).setCell ⟨g,2,none⟩ z).heap[g]? =some (.cells #[u,v,z] 37 (0,0)):=by
  have h1:=zJW h 0 u
  have h2:=zJW h1 1 v
  have h3:=zJW h2 2 z
  exact h3
 exact⟨by simp[World.cell?,e],by simp[World.cell?,e],by simp[World.cell?,e],zAG (zAG (zAG hb hg 0 u) hg 1 v) hg 2 z⟩
def OrdMid(wa:World)(P1:Bool)(P2:Int)(fr fr':Act)(W:World):Prop:=
 ∃g pa pn pc qa qn qc r6 r7 r8 r9,fr'=(((((fr.put (some 6) r6).put (some 7) r7).put (some 8) r8).put (some 9) r9).put (some 5) (.pointer (some ⟨g,0,none⟩)))∧
  W.cell? ⟨g,0,none⟩=some (.bool P1)∧W.cell? ⟨g,1,none⟩=some (.slice pa pn pc)∧W.cell? ⟨g,2,none⟩=some (.slice qa qn qc)∧(pn=0↔P2=0)∧0<=P2∧Below wa.heap.size wa W
theorem rorder_c(w:World)(v u:Value)(L K:Nat)(s t:Bool)(N D M E:Int)(h:RatQ w v L s N D)(k:RatQ w u K t M E)(hL:L<=100)(hK:K<=97):
 Calls Tryz.prog 21 #[v,u] w fun e w'=>e=.returned (.int .i64 (cmpI (sgn s N*E) (sgn t M*D)))∧Below w.heap.size w w':=by
 obtain⟨na,nn,nc,da,dn,dc,rfl,hN,hD⟩:=h
 obtain⟨ma,mn,mc,ea,en,ec,rfl,hM,hE⟩:=k
 obtain⟨s0,hs⟩:=exq (w.heap.size)
 obtain⟨wa,hwa⟩:=exq ((w.alloc (.cells #[.bool s,.slice na nn nc,.slice da dn dc] 37)).alloc (.cells #[.bool t,.slice ma mn mc,.slice ea en ec] 37))
 have hba:Below w.heap.size w wa:=by rw[hwa];exact((Below.refl _ _).alloc (Nat.le_refl _) _).alloc (by simp) _
 have hs1:s0+1<wa.heap.size:=by rw[hwa,hs];simp
 have hc:∀o v,(#[Value.bool s,.slice na nn nc,.slice da dn dc]:Array Value)[o]? =some v->wa.cell? ⟨s0,o,none⟩=some v:=fun o v h=>by
  rw[hwa,hs,World.cell?_alloc_past _ _ _ (by simp),World.cell?_alloc_at _ _ _ _ rfl];exact h
 have hc2:∀o v,(#[Value.bool t,.slice ma mn mc,.slice ea en ec]:Array Value)[o]? =some v->wa.cell? ⟨s0+1,o,none⟩=some v:=fun o v h=>by
  rw[hwa,hs,World.cell?_alloc_at _ _ _ _ (by simp)];exact h
 have HS:=hid (fun(Y:World) (hY:Below wa.heap.size wa Y)=>show Y.cell? ⟨s0,0,none⟩=some (.bool s)∧Y.cell? ⟨s0,1,none⟩=some (.slice na nn nc)∧Y.cell? ⟨s0,2,none⟩=some (.slice da dn dc)∧Y.cell? ⟨s0+1,0,none⟩=some (.bool t)∧Y.cell? ⟨s0+1,1,none⟩=some (.slice ma mn mc)∧Y.cell? ⟨s0+1,2,none⟩=some (.slice ea en ec)from by
  have k0:∀o,Y.cell? ⟨s0,o,none⟩=wa.cell? ⟨s0,o,none⟩:=fun o=>hY.cell (p:=⟨s0,o,none⟩) (by show s0<_;omega)
  have k1:∀o,Y.cell? ⟨s0+1,o,none⟩=wa.cell? ⟨s0+1,o,none⟩:=fun o=>hY.cell (p:=⟨s0+1,o,none⟩) (by show s0+1<_;omega)
  exact⟨(k0 0).trans (hc 0 _ rfl),(k0 1).trans (hc 1 _ rfl),(k0 2).trans (hc 2 _ rfl),(k1 0).trans (hc2 0 _ rfl),(k1 1).trans (hc2 1 _ rfl),(k1 2).trans (hc2 2 _ rfl)⟩)
 have HBA:=hid hba
 have HT:=hid (fun(Y:World) (hY:Below wa.heap.size wa Y)=>show Calls Tryz.prog 23 #[.int .i64 (-1),.agg #[.bool t,.slice ma mn mc,.slice ea en ec]] Y (fun e w'=>∃x,e=.returned x∧RatQ w' x (3+K) (!t) M E∧Below Y.heap.size Y w')from by
  have h0:=rtimes_c Y (-1) (.agg #[.bool t,.slice ma mn mc,.slice ea en ec]) K t M E (by decide) ⟨_,_,_,_,_,_,rfl,hM.below (zAA hba hY),hE.below (zAA hba hY)⟩ (by omega)
  have e1:(t !=decide ((-1:Int)<0))=!t:=by cases t<;>rfl
  have e2:(((-1:Int).natAbs:Nat):Int)*M=M:=by simp
  rwa [e1,e2]at h0)
 have HA:=hid (fun(Y:World) (hY:Below wa.heap.size wa Y)=>show RatQ Y (.agg #[.bool s,.slice na nn nc,.slice da dn dc]) L s N D from⟨_,_,_,_,_,_,rfl,hN.below (zAA hba hY),hD.below (zAA hba hY)⟩)
 obtain⟨⟨P1,P2,P3⟩,hP⟩:∃P,P=zFS (s,N,D) (!t,M,E):=⟨_,rfl⟩
 have HP:=hid hP
 have HVAL:=hid (show sgn P1 P2=sgn s N*E-sgn t M*D from by
  have h1:=plusQ_val (s:=s) (t:=!t) (N:=N) (D:=D) (M:=M) (E:=E)
  rw[<- hP]at h1
  simp only[]at h1
  have h2:sgn (!t) M= -sgn t M:=by cases t<;>simp[sgn]
  rw[h2]at h1
  rw[h1,Int.neg_mul]
  omega)
 clear hP
 obtain⟨C,hC⟩:=exq (cmpI (sgn s N*E) (sgn t M*D))
 rw[<- hC]
 have HVC:=hid (show(P2=0->C=0)∧(P2≠0->0<=P2->P1=false->C=1)∧(P2≠0->0<=P2->P1=true->C= -1)from by
  rw[hC]
  have hval:=HVAL.out
  generalize sgn s N*E=X at hval⊢
  generalize sgn t M*D=Y at hval⊢
  unfold cmpI
  refine⟨fun h=>?_,fun h h0 e=>?_,fun h h0 e=>?_⟩
  ·subst h
   have:X=Y:=by unfold sgn at hval;split at hval<;>omega
   simp[this]
  ·subst e
   have:P2=X-Y:=by simpa[sgn]using hval
   rw[if_neg (by omega),if_neg (by omega)]
  ·subst e
   have: -P2=X-Y:=by simpa[sgn]using hval
   rw[if_pos (by omega)])
 clear hC HVAL
 clear hba hs1 hc hc2 hN hD hM hE
 go_enter Tryz.func21,Tryz.ntmps21
 go_wp2_with fail
 rw[<- hs,<- hwa]
 clear hs hwa
 refine zNX (OrdMid wa P1 P2) ?_ ?_
 ·refine zAF (fun j' X=>wAll j'=true->X.cell? ⟨s0,0,none⟩=some (.bool s)∧X.cell? ⟨s0,1,none⟩=some (.slice na nn nc)∧X.cell? ⟨s0,2,none⟩=some (.slice da dn dc)∧X.cell? ⟨s0+1,0,none⟩=some (.bool t)∧X.cell? ⟨s0+1,1,none⟩=some (.slice ma mn mc)∧X.cell? ⟨s0+1,2,none⟩=some (.slice ea en ec)) (by kernel_rfl) ?_
  have hbd:Below wa.heap.size wa wa.drew:=(Below.refl _ _).drew
  generalize wa.drew=wd at hbd⊢
  refine AnyT.tD (i:=0) (v:=.agg #[.bool s,.slice na nn nc,.slice da dn dc]) rfl rfl (by rintro w' ⟨y1,y2,y3,y4,y5,y6⟩;go_simp) (HS.out _ hbd) ?_;go_frame
  refine AnyT.tD (i:=1) (v:=.agg #[.bool t,.slice ma mn mc,.slice ea en ec]) rfl rfl (by rintro w' ⟨y1,y2,y3,y4,y5,y6⟩;go_simp) (HS.out _ hbd) ?_;go_frame
  refine AnyT.nextB (i:=2) (j:=4) (by kernel_rfl) (wpOp_of_list rfl ?_) (wpOp_of_list rfl ?_)
  ·skip
   go_wp2_with (go_at_call 23;refine(HT.out _ hbd).mono ?_;rintro e w1 ⟨vw1,rfl,⟨ta,tn,tc,tb,tm,te,rfl,ht1,ht2⟩,hbw1⟩;refine Stop.of ?_)
   refine Stop.go ?_
   have HT8:=hid (show RatQ w1 (.agg #[.bool (!t),.slice ta tn tc,.slice tb tm te]) (3+K) (!t) M E from⟨_,_,_,_,_,_,rfl,ht1,ht2⟩)
   have hbT:=zAA hbd hbw1
   clear ht1 ht2
   go_wp2
   refine⟨fun _=>HS.out _ hbT,?_⟩
   refine AnyT.nextB (i:=3) (j:=4) (by kernel_rfl) (wpOp_of_list rfl ?_) (wpOp_of_list rfl ?_)
   ·skip
    go_wp2_with (go_at_call 24;refine(zOW _ _ _ L (3+K) _ _ _ _ _ _ (HA.out _ hbT) HT8.out (by omega) (by omega)).mono ?_;rintro e w2 ⟨vw2,rfl,⟨pa,pn,pc,qa,qn,qc,rfl,hp1,hp2⟩,hbw2⟩;refine Stop.of ?_)
    refine Stop.go ?_
    have hbP:=zAA hbT hbw2
    have HPZ:=hid (show(pn=0↔P2=0)∧0<=P2 from by
     rw[<- HP.out]at hp1
     refine⟨?_,hp1.nonneg⟩
     obtain⟨_,_,_,l,e1,e2,_,_,e4,e5,e6⟩:=hp1
     cases e1
     simp only[]at e6
     rw[<- e6,zMA e4 e5,e2])
    have HPB:=hid (show(zFS (s,N,D) (!t,M,E)).1=P1 from by rw[<- HP.out])
    clear hp1 hp2
    go_wp2
    refine⟨fun _=>HS.out _ hbP,?_⟩
    refine AnyT.nx (i:=4) rfl ?_
    go_wp2
    have hbA:=hbP.alloc hbP.size (.cells #[.bool false,.slice none 0 0,.slice none 0 0] 37)
    obtain⟨x0,x1,x2,f0,f1,f2,hlt⟩:=rat_new (World.alloc_heap_new w2 (.cells #[.bool false,.slice none 0 0,.slice none 0 0] 37))
    have hfin:=hid (fun u v z=>rat_set (World.alloc_heap_new w2 (.cells #[.bool false,.slice none 0 0,.slice none 0 0] 37)) hbP.size hbA u v z)
    refine⟨fun _=>HS.out _ hbA,?_⟩
    generalize w2.alloc (.cells #[.bool false,.slice none 0 0,.slice none 0 0] 37)=wn at*
    generalize w2.heap.size=g at*
    refine AnyT.nx (i:=5) rfl ?_
    go_wp2
    obtain⟨k0,k1,k2,k3⟩:=hfin.out (.bool (zFS (s,N,D) (!t,M,E)).1) (.slice pa pn pc) (.slice qa qn qc)
    refine⟨fun _=>HS.out _ k3,?_⟩
    refine AnyT.done (by kernel_rfl) ?_ _
    exact⟨rfl,g,pa,pn,pc,qa,qn,qc,_,_,_,_,rfl,k0.trans (congrArg (fun q=>some (Value.bool q)) HPB.out),k1,k2,HPZ.out.1,HPZ.out.2,k3⟩
   ·skip
    go_wp2
    have hbA:=hbT.alloc hbT.size (.cells #[.bool false,.slice none 0 0,.slice none 0 0] 37)
    have hnew:=World.alloc_heap_new w1 (.cells #[.bool false,.slice none 0 0,.slice none 0 0] 37)
    have HT9:=hid (show RatQ (w1.alloc (.cells #[.bool false,.slice none 0 0,.slice none 0 0] 37)) (.agg #[.bool (!t),.slice ta tn tc,.slice tb tm te]) (3+K) (!t) M E from by
     obtain⟨_,_,_,_,_,_,e,h1,h2⟩:=HT8.out
     cases e
     exact⟨_,_,_,_,_,_,rfl,h1.below ((Below.refl _ _).alloc (Nat.le_refl _) _),h2.below ((Below.refl _ _).alloc (Nat.le_refl _) _)⟩)
    have hgN:=hbT.size
    generalize w1.alloc (.cells #[.bool false,.slice none 0 0,.slice none 0 0] 37)=wn at hbA hnew HT9⊢
    obtain⟨g,hg⟩:=exq (w1.heap.size)
    rw[<- hg]at hnew hgN⊢
    clear hg HT8
    refine⟨fun _=>HS.out _ hbA,?_⟩
    refine AnyT.nx (i:=3) rfl ?_
    go_wp2_with (go_at_call 24;refine(zOW _ _ _ L (3+K) _ _ _ _ _ _ (HA.out _ hbA) HT9.out (by omega) (by omega)).mono ?_;rintro e w2 ⟨vw2,rfl,⟨pa,pn,pc,qa,qn,qc,rfl,hp1,hp2⟩,hbw2⟩;refine Stop.of ?_)
    refine Stop.go ?_
    have hbP:=zAA hbA hbw2
    have HPZ:=hid (show(pn=0↔P2=0)∧0<=P2 from by
     rw[<- HP.out]at hp1
     refine⟨?_,hp1.nonneg⟩
     obtain⟨_,_,_,l,e1,e2,_,_,e4,e5,e6⟩:=hp1
     cases e1
     simp only[]at e6
     rw[<- e6,zMA e4 e5,e2])
    have HPB:=hid (show(zFS (s,N,D) (!t,M,E)).1=P1 from by rw[<- HP.out])
    clear hp1 hp2
    have hnew2:=(hbw2.block g (Array.getElem?_eq_some_iff.1 hnew).1).trans hnew
    obtain⟨x0,x1,x2,f0,f1,f2,hlt⟩:=rat_new hnew2
    have hfin:=hid (fun u v z=>rat_set hnew2 hgN hbP u v z)
    clear hnew2 hnew
    go_wp2
    refine⟨fun _=>HS.out _ hbP,?_⟩
    refine AnyT.nx (i:=5) rfl ?_
    go_wp2
    obtain⟨k0,k1,k2,k3⟩:=hfin.out (.bool (zFS (s,N,D) (!t,M,E)).1) (.slice pa pn pc) (.slice qa qn qc)
    refine⟨fun _=>HS.out _ k3,?_⟩
    refine AnyT.done (by kernel_rfl) ?_ _
    exact⟨rfl,g,pa,pn,pc,qa,qn,qc,_,_,_,_,rfl,k0.trans (congrArg (fun q=>some (Value.bool q)) HPB.out),k1,k2,HPZ.out.1,HPZ.out.2,k3⟩
  ·skip
   go_wp2
   have HB0:=hbd.alloc hbd.size (.cells #[.bool false,.slice none 0 0,.slice none 0 0] 37)
   have hnew:=World.alloc_heap_new wd (.cells #[.bool false,.slice none 0 0,.slice none 0 0] 37)
   have hgN:=hbd.size
   generalize wd.alloc (.cells #[.bool false,.slice none 0 0,.slice none 0 0] 37)=wn at HB0 hnew⊢
   obtain⟨g,hg⟩:=exq (wd.heap.size)
   rw[<- hg]at hnew hgN⊢
   clear hg
   refine⟨fun _=>HS.out _ HB0,?_⟩
   refine AnyT.nx (i:=2) rfl ?_
   ·skip
    go_wp2_with (go_at_call 23;refine(HT.out _ HB0).mono ?_;rintro e w1 ⟨vw1,rfl,⟨ta,tn,tc,tb,tm,te,rfl,ht1,ht2⟩,hbw1⟩;refine Stop.of ?_)
    refine Stop.go ?_
    have HT8:=hid (show RatQ w1 (.agg #[.bool (!t),.slice ta tn tc,.slice tb tm te]) (3+K) (!t) M E from⟨_,_,_,_,_,_,rfl,ht1,ht2⟩)
    have hbT:=zAA HB0 hbw1
    clear ht1 ht2
    have hnew1:=(hbw1.block g (Array.getElem?_eq_some_iff.1 hnew).1).trans hnew
    clear hnew
    go_wp2
    refine⟨fun _=>HS.out _ hbT,?_⟩
    refine AnyT.nx (i:=3) rfl ?_
    go_wp2_with (go_at_call 24;refine(zOW _ _ _ L (3+K) _ _ _ _ _ _ (HA.out _ hbT) HT8.out (by omega) (by omega)).mono ?_;rintro e w2 ⟨vw2,rfl,⟨pa,pn,pc,qa,qn,qc,rfl,hp1,hp2⟩,hbw2⟩;refine Stop.of ?_)
    refine Stop.go ?_
    have hbP:=zAA hbT hbw2
    have HPZ:=hid (show(pn=0↔P2=0)∧0<=P2 from by
     rw[<- HP.out]at hp1
     refine⟨?_,hp1.nonneg⟩
     obtain⟨_,_,_,l,e1,e2,_,_,e4,e5,e6⟩:=hp1
     cases e1
     simp only[]at e6
     rw[<- e6,zMA e4 e5,e2])
    have HPB:=hid (show(zFS (s,N,D) (!t,M,E)).1=P1 from by rw[<- HP.out])
    clear hp1 hp2
    have hnew2:=(hbw2.block g (Array.getElem?_eq_some_iff.1 hnew1).1).trans hnew1
    obtain⟨x0,x1,x2,f0,f1,f2,hlt⟩:=rat_new hnew2
    have hfin:=hid (fun u v z=>rat_set hnew2 hgN hbP u v z)
    clear hnew2 hnew1
    go_wp2
    refine⟨fun _=>HS.out _ hbP,?_⟩
    refine AnyT.nx (i:=5) rfl ?_
    go_wp2
    obtain⟨k0,k1,k2,k3⟩:=hfin.out (.bool (zFS (s,N,D) (!t,M,E)).1) (.slice pa pn pc) (.slice qa qn qc)
    refine⟨fun _=>HS.out _ k3,?_⟩
    refine AnyT.done (by kernel_rfl) ?_ _
    exact⟨rfl,g,pa,pn,pc,qa,qn,qc,_,_,_,_,rfl,k0.trans (congrArg (fun q=>some (Value.bool q)) HPB.out),k1,k2,HPZ.out.1,HPZ.out.2,k3⟩
 ·rintro fr' W ⟨g,pa,pn,pc,qa,qn,qc,r6,r7,r8,r9,rfl,c0,c1,c2,hz,h0,hbW⟩
  have HBW:=hid (zAA HBA.out hbW)
  have HC:=hid (show(pn=0->C=0)∧(pn≠0->P1=false->C=1)∧(pn≠0->P1=true->C= -1)from
   ⟨fun h=>HVC.out.1 (hz.1 h),fun h e=>HVC.out.2.1 (fun h'=>h (hz.2 h')) h0 e,fun h e=>HVC.out.2.2 (fun h'=>h (hz.2 h')) h0 e⟩)
  clear hz hbW h0 HVC HP
  go_frame
  by_cases hp:pn=0
  ·have hpb:((pn:Int)==0)=true:=by simp[hp]
   obtain rfl:=HC.out.1 hp
   clear HC
   go_wp2
   go_ret
   exact⟨rfl,HBW.out⟩
  ·have hpb:((pn:Int)==0)=false:=by simp[hp]
   cases P1
   ·obtain rfl:=HC.out.2.1 hp rfl
    clear HC
    go_wp2
    go_ret
    exact⟨rfl,HBW.out⟩
   ·obtain rfl:=HC.out.2.2 hp rfl
    clear HC
    go_wp2
    go_ret
    exact⟨rfl,HBW.out⟩
end
section
open Go.RowKit
theorem RatQ.cast_den{w:World}{v:Value}{L:Nat}{s:Bool}{N D E:Int}(h:RatQ w v L s N D)(e:D=E):RatQ w v L s N E:=e▸h
def RatV(w:World)(v:Value)(L:Nat)(n d:Int):Prop:=∃s N,RatQ w v L s N d∧sgn s N=n
theorem RatV.below{w w':World}{v:Value}{L:Nat}{n d:Int}(h:RatV w v L n d)(hb:Below w.heap.size w w'):RatV w' v L n d:=by
 obtain⟨s,N,h,e⟩:=h
 exact⟨s,N,h.below hb,e⟩
theorem RatV.agg{w:World}{v:Value}{L:Nat}{n d:Int}(h:RatV w v L n d):∃s a k c b m e,v=.agg #[.bool s,.slice a k c,.slice b m e]∧True:=by
 obtain⟨s,N,⟨a,k,c,b,m,e,rfl,_,_⟩,_⟩:=h
 exact⟨s,a,k,c,b,m,e,rfl,trivial⟩
theorem RatV.le{w:World}{v:Value}{L K:Nat}{n d:Int}(h:RatV w v L n d)(hk:L<=K):RatV w v K n d:=by
 obtain⟨s,N,h,e⟩:=h
 exact⟨s,N,h.le hk,e⟩
theorem sgn_nat(N:Int):sgn (decide (N<0)) (N.natAbs:Nat)=N:=by
 unfold sgn
 by_cases h:N<0<;>simp[h]<;>omega
theorem sgn_mul(k N:Int)(s:Bool):sgn (s !=decide (k<0)) ((k.natAbs:Nat)*N)=k*sgn s N:=by
 have hk:=sgn_nat k
 obtain⟨m,hm⟩:∃m:Int,m=(k.natAbs:Nat):=⟨_,rfl⟩
 rw[<- hm]at hk⊢
 obtain⟨b,hb⟩:=exq (decide (k<0))
 rw[<- hb]at hk⊢
 subst hk
 unfold sgn
 cases s<;>cases b<;>simp[Int.neg_mul,Int.mul_neg]
theorem rplus_v(w:World)(v u:Value)(L K:Nat)(n d m e:Int)(h:RatV w v L n d)(k:RatV w u K m e)(hL:L<=100)(hK:K<=100):
 Calls Tryz.prog 24 #[v,u] w fun e' w'=>∃x,e'=.returned x∧RatV w' x (L+K+1) (n*e+m*d) (d*e)∧Below w.heap.size w w':=by
 obtain⟨s,N,h,rfl⟩:=h
 obtain⟨t,M,k,rfl⟩:=k
 refine(zOW w v u L K s t N d M e h k hL hK).mono ?_
 rintro e' w' ⟨x,rfl,hx,hb⟩
 refine⟨x,rfl,⟨_,_,hx.cast_den plusQ_den,plusQ_val⟩,hb⟩
theorem rtimes_v(w:World)(k:Int)(v:Value)(L:Nat)(n d:Int)(hk: -4611686018427387904<=k∧k<=4611686018427387904)(h:RatV w v L n d)(hL:L<=100):
 Calls Tryz.prog 23 #[.int .i64 k,v] w fun e w'=>∃x,e=.returned x∧RatV w' x (3+L) (k*n) d∧Below w.heap.size w w':=by
 obtain⟨s,N,h,rfl⟩:=h
 refine(rtimes_c w k v L s N d hk h hL).mono ?_
 rintro e' w' ⟨x,rfl,hx,hb⟩
 exact⟨x,rfl,⟨_,_,hx,sgn_mul k N s⟩,hb⟩
theorem exact_v(w:World)(N D:Int)(hN: -4611686018427387904<=N∧N<=4611686018427387904)(hD:0<=D∧D<=4611686018427387904):
 Calls Tryz.prog 22 #[.agg #[.int .i64 N,.int .i64 D]] w fun e w'=>∃x,e=.returned x∧RatV w' x 3 N D∧Below w.heap.size w w':=by
 refine(exact_c w N D hN hD).mono ?_
 rintro e' w' ⟨x,rfl,hx,hb⟩
 exact⟨x,rfl,⟨_,_,hx,sgn_nat N⟩,hb⟩
theorem whole_v(w:World)(n:Int)(hN: -4611686018427387904<=n∧n<=4611686018427387904):
 Calls Tryz.prog 91 #[.int .i64 n] w fun e w'=>∃x,e=.returned x∧RatV w' x 3 n 1∧Below w.heap.size w w':=by
 refine(nwhole_c w n hN).mono ?_
 rintro e' w' ⟨x,rfl,hx,hb⟩
 exact⟨x,rfl,⟨_,_,hx,sgn_nat n⟩,hb⟩
theorem rorder_v(w:World)(v u:Value)(L K:Nat)(n d m e:Int)(h:RatV w v L n d)(k:RatV w u K m e)(hL:L<=100)(hK:K<=97):
 Calls Tryz.prog 21 #[v,u] w fun e' w'=>e'=.returned (.int .i64 (cmpI (n*e) (m*d)))∧Below w.heap.size w w':=by
 obtain⟨s,N,h,rfl⟩:=h
 obtain⟨t,M,k,rfl⟩:=k
 exact rorder_c w v u L K s t N d M e h k hL hK
def zPZ(w:World)(g L:Nat)(n d:Int):Prop:=∃s a k c b m e,w.heap[g]? =some (.cells #[.bool s,.slice a k c,.slice b m e] 37 (0,0))∧RatV w (.agg #[.bool s,.slice a k c,.slice b m e]) L n d
theorem zPZ.below{w w':World}{g L:Nat}{n d:Int}(h:zPZ w g L n d)(hb:Below w.heap.size w w'):zPZ w' g L n d:=by
 obtain⟨s,a,k,c,b,m,e,h1,h2⟩:=h
 exact⟨s,a,k,c,b,m,e,(hb.block g (Array.getElem?_eq_some_iff.1 h1).1).trans h1,h2.below hb⟩
theorem zPZ.le{w:World}{g L K:Nat}{n d:Int}(h:zPZ w g L n d)(hk:L<=K):zPZ w g K n d:=by
 obtain⟨s,a,k,c,b,m,e,h1,h2⟩:=h
 exact⟨s,a,k,c,b,m,e,h1,h2.le hk⟩
def QBlk(w:World)(g:Nat):Prop:=∃s a k c b m e,w.heap[g]? =some (.cells #[.bool s,.slice a k c,.slice b m e] 37 (0,0))
theorem QBlk.below{w w':World}{g:Nat}(h:QBlk w g)(hb:Below w.heap.size w w'):QBlk w' g:=by
 obtain⟨s,a,k,c,b,m,e,h1⟩:=h
 exact⟨s,a,k,c,b,m,e,(hb.block g (Array.getElem?_eq_some_iff.1 h1).1).trans h1⟩
theorem QBlk.store{w:World}{g:Nat}(h:QBlk w g){v:Value}{L:Nat}{n d:Int}(k:RatV w v L n d):
 ∃s a k c b m e,v=.agg #[.bool s,.slice a k c,.slice b m e]∧(∀o,o<3->∃u,w.cell? ⟨g,o,none⟩=some u)∧(∀o,w.frozen? ⟨g,o,none⟩=false)∧g<w.heap.size∧
  zPZ (((w.setCell ⟨g,0,none⟩ (.bool s)).setCell ⟨g,1,none⟩ (.slice a k c)).setCell ⟨g,2,none⟩ (.slice b m e)) g L n d∧
  RatV (((w.setCell ⟨g,0,none⟩ (.bool s)).setCell ⟨g,1,none⟩ (.slice a k c)).setCell ⟨g,2,none⟩ (.slice b m e)) (.agg #[.bool s,.slice a k c,.slice b m e]) L n d:=by
 obtain⟨s0,a0,k0,c0,b0,m0,e0,h1⟩:=h
 obtain⟨t,N,⟨a,k,c,b,m,e,rfl,hN,hD⟩,hv⟩:=k
 have hng:∃c,w.heap[g]? =some (.cells c 37 (0,0))∧∀x:Int,∀o:Nat,c[o]? ≠some (.int .i64 x):=
  ⟨_,h1,fun x o=>by match o with|0=>simp|1=>simp|2=>simp|o+3=>simp⟩
 have hr:RatV (((w.setCell ⟨g,0,none⟩ (.bool t)).setCell ⟨g,1,none⟩ (.slice a k c)).setCell ⟨g,2,none⟩ (.slice b m e)) (.agg #[.bool t,.slice a k c,.slice b m e]) L n d:=
  ⟨t,N,⟨_,_,_,_,_,_,rfl,hN.keeps3 hng,hD.keeps3 hng⟩,hv⟩
 refine⟨t,a,k,c,b,m,e,rfl,?_,fun o=>by simp[World.frozen?,h1],(Array.getElem?_eq_some_iff.1 h1).1,?_,hr⟩
 ·intro o ho
  match o with
  |0=>exact⟨_,by simp[World.cell?,h1];rfl⟩
  |1=>exact⟨_,by simp[World.cell?,h1];rfl⟩
  |2=>exact⟨_,by simp[World.cell?,h1];rfl⟩
  |o+3=>omega
 ·have h2:=zJW (zJW (zJW h1 0 (.bool t)) 1 (.slice a k c)) 2 (.slice b m e)
  exact⟨t,a,k,c,b,m,e,h2,hr⟩
theorem sees_c(w:World)(a a2:Option Addr)(n cap n2 cap2:Nat)(r:List Int)(x:List Rt)(hn:r.length=n)(hn2:x.length=n2)(hle:n<=n2)(hm:n<=10)(H:zAI w a r)(H2:zBE w a2 x)
 (hr:∀k,-1000000000000<=vec r k∧vec r k<=1000000000000)(hx:∀k,0<=(zAB x k).2∧(zAB x k).2<=1000000000000∧ -1000000000000<=(zAB x k).1∧(zAB x k).1<=1000000000000):
 Calls Tryz.prog 90 #[.slice a n cap,.slice a2 n2 cap2] w fun e w'=>∃v,e=.returned v∧RatV w' v 90 (sumR r x n).1 (sumR r x n).2∧Below w.heap.size w w':=by
 obtain⟨s0,hs⟩:=exq (w.heap.size)
 obtain⟨wa,hwa⟩:=exq (w.alloc (.cells #[.bool false,.slice none 0 0,.slice none 0 0] 37))
 have hba:Below w.heap.size w wa:=by rw[hwa];exact(Below.refl _ _).alloc (Nat.le_refl _) _
 have q0:wa.heap[s0]? =some (.cells #[.bool false,.slice none 0 0,.slice none 0 0] 37 (0,0)):=by
  rw[hwa,hs];exact World.alloc_heap_new w _
 have hs1:s0<wa.heap.size:=(Array.getElem?_eq_some_iff.1 q0).1
 have HQ0:=hid (fun(Y:World) (hY:Below wa.heap.size wa Y)=>show QBlk Y s0 from⟨_,_,_,_,_,_,_,(hY.block s0 hs1).trans q0⟩)
 have HBA:=hid hba
 have HFIN:=hid (fun(Y:World) (hY:Below wa.heap.size wa Y) (x y z:Value)=>show Below w.heap.size w (((Y.setCell ⟨s0,0,none⟩ x).setCell ⟨s0,1,none⟩ y).setCell ⟨s0,2,none⟩ z)from
  zAG (zAG (zAG (zAA hba hY) (by omega) 0 x) (by omega) 1 y) (by omega) 2 z)
 have HRI:=hid (fun(X:World) (hX:Below wa.heap.size wa X)=>H.below (zAA hba hX))
 have HXI:=hid (fun(X:World) (hX:Below wa.heap.size wa X)=>H2.below (zAA hba hX))
 have HR:=hid hr
 have HX:=hid hx
 have HN:=hid hn
 have HN2:=hid hn2
 have HSZ:=hid (show sumR r x 0=(0,1)from rfl)
 have HSR:=hid (fun t=>show sumR r x (t+1)=if vec r t≠0 then((sumR r x t).1*(zAB x t).2+(sumR r x t).2*((zAB x t).1*vec r t),(sumR r x t).2*(zAB x t).2)else sumR r x t from rfl)
 clear hba q0 hs1 H H2 hr hx hn hn2
 go_enter Tryz.func90,Tryz.ntmps90
 go_wp2_with fail
 rw[<- hs,<- hwa]
 clear hs hwa
 go_wp2_with (go_at_call 91;refine(whole_v _ 0 (by decide)).mono ?_;rintro e w1 ⟨v1,rfl,hv1,hb1⟩;refine Stop.of ?_)
 refine Stop.go ?_
 obtain⟨ss,sa,sk,sc,sb,sm',se,rfl,_⟩:=hv1.agg
 have HV1:=hid hv1
 have HB1:=hid hb1
 clear hv1 hb1
 go_wp2_with fail
 obtain⟨wb,hwb⟩:=exq (w1.alloc (.cells #[.bool ss,.slice sa sk sc,.slice sb sm' se] 37))
 obtain⟨g,hg⟩:=exq (w1.heap.size)
 have hrb:zPZ wb g 3 0 1:=by
  rw[hwb,hg]
  exact⟨ss,sa,sk,sc,sb,sm',se,World.alloc_heap_new _ _,HV1.out.below ((Below.refl _ _).alloc (Nat.le_refl _) _)⟩
 have hbb:Below wa.heap.size wa wb:=by rw[hwb];exact HB1.out.alloc HB1.out.size _
 have hgs:wa.heap.size<=g:=by rw[hg];exact HB1.out.size
 rw[<- hwb,<- hg]
 have HRB:=hid hrb
 have HBB:=hid hbb
 clear hwb hg hrb hbb HV1 HB1
 go_loopw [11] (fun i wr=>∃t:Nat,t<=n∧i=.int .i64 t∧zPZ wr g (3+7*t) (sumR r x t).1 (sumR r x t).2∧Below wa.heap.size wa wr) (fun i _=>n-(intOf i).toNat)
 case atStart=>exact⟨0,Nat.zero_le _,rfl,by rw[HSZ.out];exact HRB.out,HBB.out⟩
 case round=>
  obtain⟨t,ht,rfl,hrr,hbr⟩:=hrel
  by_cases htl:t<n
  ·obtain⟨b6,o6,rfl,hb6,hc6⟩:=(HRI.out wr hbr) t (by rw[HN.out];exact htl)
   have hv6:r[t]?.getD 0=vec r t:=rfl
   rw[hv6]at hc6
   have hone:=HR.out t
   have hsr:=HSR.out t
   obtain⟨v,hv⟩:=exq (vec r t)
   rw[<- hv]at hc6 hsr hone
   have i1:(t:Int)<(n:Int):=by omega
   by_cases h0:v=0
   ·rw[if_neg (by simp[h0])]at hsr
    have hvb:(v !=0)=false:=by simp[h0]
    have HSX:=hid hsr
    have HRR:=hid hrr
    have HBR:=hid hbr
    clear hv6 hv hsr hrr hbr
    go_wp2
    refine⟨⟨t+1,by omega,by go_num,by rw[HSX.out];exact HRR.out.le (by omega),HBR.out⟩,by simp[intOf];omega⟩
   ·rw[if_pos h0]at hsr
    have hvb:(v !=0)=true:=by simp[h0]
    obtain⟨x1,x2,x3,x4⟩:=HX.out t
    have htx:t<x.length:=by rw[HN2.out];omega
    obtain⟨bx,ox,rfl,hbx,hx0,hx1⟩:=(HXI.out wr hbr) t htx
    have hxt:zAB x t=x[t]'htx:=by unfold zAB;rw[List.getElem?_eq_getElem htx];rfl
    rw[<- hxt]at hx0 hx1
    have HSX:=hid hsr
    obtain⟨⟨N,D⟩,hND⟩:∃q,q=zAB x t:=⟨_,rfl⟩
    rw[<- hND]at hx0 hx1 x1 x2 x3 x4 HSX
    obtain⟨⟨sn,sd⟩,hS⟩:∃q,q=sumR r x t:=⟨_,rfl⟩
    rw[<- hS]at hrr HSX
    simp only[]at hx0 hx1 x1 x2 x3 x4 HSX hrr
    obtain⟨us,ua,uk,uc,ub,um,ue,hgb,hrv⟩:=hrr
    have hglt:=(Array.getElem?_eq_some_iff.1 hgb).1
    have HQB:=hid (fun(X:World) (hX:Below wr.heap.size wr X)=>show QBlk X g from⟨us,ua,uk,uc,ub,um,ue,(hX.block g hglt).trans hgb⟩)
    have HRV:=hid (fun(X:World) (hX:Below wr.heap.size wr X)=>hrv.below hX)
    have HS:=hid (fun(X:World) (hX:Below wr.heap.size wr X)=>show X.cell? ⟨g,0,none⟩=some (.bool us)∧X.cell? ⟨g,1,none⟩=some (.slice ua uk uc)∧X.cell? ⟨g,2,none⟩=some (.slice ub um ue)∧X.cell? ⟨bx,ox+t*2,none⟩=some (.int .i64 N)∧X.cell? ⟨bx,ox+t*2+1,none⟩=some (.int .i64 D)from by
     have h1:=(hX.block g hglt).trans hgb
     exact⟨by simp[World.cell?,h1],by simp[World.cell?,h1],by simp[World.cell?,h1],(hX.cell (p:=⟨bx,_,none⟩) hbx).trans hx0,(hX.cell (p:=⟨bx,_,none⟩) hbx).trans hx1⟩)
    have htl2:(t:Int)<(n2:Int):=by omega
    have HBR:=hid hbr
    have HV:=hid hone
    have hN1: -4611686018427387904<=N∧N<=4611686018427387904:=by omega
    have hD1:0<=D∧D<=4611686018427387904:=by omega
    have HN1:=hid hN1
    have HD1:=hid hD1
    have htn:t<10:=by omega
    clear hv6 hv hsr hbr x1 x2 x3 x4 hND hS hx0 hx1 hxt hgb hrv hone hN1 hD1
    go_wp2
    refine zAF (fun j' X=>decide (j'<=8)=true->X.cell? ⟨g,0,none⟩=some (.bool us)∧X.cell? ⟨g,1,none⟩=some (.slice ua uk uc)∧X.cell? ⟨g,2,none⟩=some (.slice ub um ue)∧X.cell? ⟨bx,ox+t*2,none⟩=some (.int .i64 N)∧X.cell? ⟨bx,ox+t*2+1,none⟩=some (.int .i64 D)) (by kernel_rfl) ?_
    have hbd:Below wr.heap.size wr wr.drew:=(Below.refl _ _).drew
    generalize wr.drew=wd at hbd⊢
    refine AnyT.tD (i:=0) (v:=.agg #[.bool us,.slice ua uk uc,.slice ub um ue]) rfl rfl (by rintro w' ⟨y1,y2,y3,y4,y5⟩;go_simp) (HS.out _ hbd) ?_;go_frame
    refine AnyT.tD (i:=1) (v:=.int .i64 v) rfl rfl (by rintro w' ⟨y1,y2,y3,y4,y5⟩;go_simp) (HS.out _ hbd) ?_;go_frame
    refine AnyT.tD (i:=2) (v:=.slice (some ⟨bx,ox,none⟩) n2 cap2) rfl rfl (by rintro w' ⟨y1,y2,y3,y4,y5⟩;go_simp) (HS.out _ hbd) ?_;go_frame
    refine AnyT.tD (i:=3) (v:=.int .i64 t) rfl rfl (by rintro w' ⟨y1,y2,y3,y4,y5⟩;go_simp) (HS.out _ hbd) ?_;go_frame
    refine AnyT.tD (i:=4) (v:=.pointer (some ⟨bx,ox+t*2,none⟩)) rfl rfl (by rintro w' ⟨y1,y2,y3,y4,y5⟩;go_simp) (HS.out _ hbd) ?_;go_frame
    refine AnyT.tD (i:=5) (v:=.agg #[.int .i64 N,.int .i64 D]) rfl rfl (by rintro w' ⟨y1,y2,y3,y4,y5⟩;go_simp) (HS.out _ hbd) ?_;go_frame
    refine AnyT.nx (i:=6) rfl ?_
    go_wp2_with (go_at_call 22;refine(exact_v _ N D HN1.out HD1.out).mono ?_;rintro e w4 ⟨v4,rfl,hv4,hb4⟩;refine Stop.of ?_)
    refine Stop.go ?_
    obtain⟨ps,pa,pk,pc,pb,pm,pe,rfl,_⟩:=hv4.agg
    have HB4:=hid (zAA hbd hb4)
    have HV4:=hid hv4
    clear hv4 hb4
    go_wp2
    refine⟨fun _=>HS.out _ HB4.out,?_⟩
    refine AnyT.nx (i:=7) rfl ?_
    go_wp2_with (go_at_call 23;refine(rtimes_v _ v _ 3 N D (by have:=HV.out;omega) HV4.out (by omega)).mono ?_;rintro e w5 ⟨v5,rfl,hv5,hb5⟩;refine Stop.of ?_)
    refine Stop.go ?_
    obtain⟨qs,qa,qk,qc,qb,qm,qe,rfl,_⟩:=hv5.agg
    have HB5:=hid (zAA HB4.out hb5)
    have HV5:=hid hv5
    clear hv5 hb5 HV4
    go_wp2
    refine⟨fun _=>HS.out _ HB5.out,?_⟩
    refine AnyT.nx (i:=8) rfl ?_
    go_wp2_with (go_at_call 24;refine(rplus_v _ _ _ (3+7*t) (3+3) sn sd (v*N) D (HRV.out _ HB5.out) HV5.out (by omega) (by omega)).mono ?_;rintro e w6 ⟨v6,rfl,hv6,hb6⟩;refine Stop.of ?_)
    refine Stop.go ?_
    obtain⟨zs,za,zk,zc,zb,zm,ze,e6,hcl,hfz,hlt,hin,_⟩:=(HQB.out _ (zAA HB5.out hb6)).store hv6
    subst e6
    have HB6:=hid (zAA HBR.out (zAA HB5.out hb6))
    have HB7:=hid (zAA HB5.out hb6)
    obtain⟨u0,x0⟩:=hcl 0 (by omega)
    obtain⟨u1,x1⟩:=hcl 1 (by omega)
    obtain⟨u2,x2⟩:=hcl 2 (by omega)
    have f0:=hfz 0
    have f1:=hfz 1
    have f2:=hfz 2
    have HIN:=hid (hin.le (show 3+7*t+(3+3)+1<=3+7*(t+1)by omega))
    have HBE:=hid (show Below wa.heap.size wa (((w6.setCell ⟨g,0,none⟩ (.bool zs)).setCell ⟨g,1,none⟩ (.slice za zk zc)).setCell ⟨g,2,none⟩ (.slice zb zm ze))from zAG (zAG (zAG HB6.out hgs 0 _) hgs 1 _) hgs 2 _)
    clear hcl hfz hin hv6 hb6 HV5
    go_wp2
    refine⟨fun _=>HS.out _ HB7.out,?_⟩
    refine AnyT.nx (i:=9) rfl ?_
    go_wp2
    refine⟨fun h=>absurd h (by decide),?_⟩
    refine AnyT.done (by kernel_rfl) ?_ _
    go_wp2
    refine⟨⟨t+1,by omega,by go_num,?_,HBE.out⟩,by simp[intOf];omega⟩
    rw[HSX.out]
    have hin:=HIN.out
    have e1:v*N*sd=sd*(N*v):=by rw[Int.mul_comm v N,Int.mul_comm]
    rw[e1]at hin
    exact hin
  ·obtain rfl:t=n:=by omega
   have hni:¬(t:Int)<(t:Int):=by omega
   obtain⟨us,ua,uk,uc,ub,um,ue,hgb,hrv⟩:=hrr
   obtain⟨zs,za,zk,zc,zb,zm,ze,e6,hcl,hfz,hlt,hin,hout⟩:=(HQ0.out _ hbr).store hrv
   cases e6
   obtain⟨u0,x0⟩:=hcl 0 (by omega)
   obtain⟨u1,x1⟩:=hcl 1 (by omega)
   obtain⟨u2,x2⟩:=hcl 2 (by omega)
   have f0:=hfz 0
   have f1:=hfz 1
   have f2:=hfz 2
   have g0:wr.cell? ⟨g,0,none⟩=some (.bool us):=by simp[World.cell?,hgb]
   have g1:wr.cell? ⟨g,1,none⟩=some (.slice ua uk uc):=by simp[World.cell?,hgb]
   have g2:wr.cell? ⟨g,2,none⟩=some (.slice ub um ue):=by simp[World.cell?,hgb]
   have HOUT:=hid (hout.le (show 3+7*t<=90 by omega))
   have HFI:=hid (HFIN.out _ hbr (.bool us) (.slice ua uk uc) (.slice ub um ue))
   clear hcl hfz hin hout hrv hbr hgb
   go_wp2
   refine bodyPost_ret (v:=.agg #[.bool us,.slice ua uk uc,.slice ub um ue]) ?_ rfl ⟨_,rfl,HOUT.out,HFI.out⟩
   simp[results,Tryz.results90,go_sem,x0,x1,x2,f0,f1,f2,hlt]
end
section
open Go.RowKit
theorem AnyT.weak{P:Program}{md:Region.Mode}{ops:Array Oper}{Q:Exit->Act->World->Prop}{T T':Nat->World->Prop}(hT:∀j w,T' j w->T j w):∀(fuel:Nat) (listed:Array Bool) (a:Act) (w:World),AnyT P md ops Q T' fuel listed a w->AnyT P md ops Q T fuel listed a w
 |0,_,_,_,h=>h
 |fuel+1,listed,a,w,h=>⟨h.1,fun i hi=>wpOp_mono (fun a' w' h'=>⟨hT _ _ h'.1,AnyT.weak hT fuel _ _ _ h'.2⟩) (h.2 i hi)⟩
theorem AnyT.takeG{P:Program}{md:Region.Mode}{ops:Array Oper}{Q:Exit->Act->World->Prop}{S:World->Prop}{T:Nat->World->Prop}{i d:Nat}{oi:Oper}{v:Value}{fuel:Nat}{listed:Array Bool}{a:Act}{w:World}{Wf:Nat->Bool}(hT:∀j w,T j w->Wf j=true->S w)(hTi:∀w,S w->T i w)(hi:ops[i]? =some oi)(hd:oi.dst=some d)
 (hs:Region.noSelect ops=true)(hf:Region.free md ops listed i=true)(hr:(Region.ready md ops listed).contains i=true)
 (hQ:∀c a w,Q (.panic c) (a.put (some d) v) w->Q (.panic c) a w)
 (hW:(List.range ops.size).all (fun j=>waits md ops i j||Wf j)=true)(hw:Region.wanted oi (yielded ops a.tmps)=true)(hy:∀w,S w->(execOp a.eval oi).run P w=.ok (.value v) w)(hS:S w)
 (h:AnyT P md ops Q T fuel (listed.setIfInBounds i true) (a.put (some d) v) w):AnyT P md ops Q T (fuel+1) listed a w:=
 AnyT.take hi hs hf hr (by rw[hd];exact hQ) (fun j hj w hT'=>hT j w hT' (by
  by_cases e:j<ops.size
  ·have:=List.all_eq_true.1 hW j (List.mem_range.2 e)
   rw[hj]at this;simpa using this
  ·unfold waits at hj;rw[Array.getElem?_eq_none (by omega)]at hj;cases hj)) hTi (.inl ⟨hw,hy⟩) hS (by rw[hd];exact h)
end
section
open Go.RowKit
def zBV(w:World)(g:Nat)(V:Int):Prop:=w.heap[g]? =some (.cells #[.int .i64 (V/18446744073709551616),.int .u64 (V%18446744073709551616)] 100 (0,0))
theorem zBV.lt{w:World}{g:Nat}{V:Int}(h:zBV w g V):g<w.heap.size:=(Array.getElem?_eq_some_iff.1 h).1
theorem zBV.keep{w w':World}{g:Nat}{V:Int}(h:zBV w g V)(hk:w'.heap[g]? =w.heap[g]?):zBV w' g V:=hk.trans h
theorem zBV.cells{w:World}{g:Nat}{V a b:Int}(h:zBV w g V)(p:WP V a b):w.cell? ⟨g,0,none⟩=some (.int .i64 a)∧w.cell? ⟨g,1,none⟩=some (.int .u64 b)∧w.frozen? ⟨g,0,none⟩=false∧w.frozen? ⟨g,1,none⟩=false∧g<w.heap.size:=by
 have hl:=h.lt
 unfold zBV at h
 rw[p.1,p.2]
 exact⟨by simp[World.cell?,h],by simp[World.cell?,h],by simp[World.frozen?,h],by simp[World.frozen?,h],hl⟩
theorem zBV.set{w:World}{g:Nat}{V U a b:Int}(h:zBV w g V)(p:WP U a b):zBV ((w.setCell ⟨g,0,none⟩ (.int .i64 a)).setCell ⟨g,1,none⟩ (.int .u64 b)) g U:=by
 have h1:=zAP h 0 (v:=.int .i64 a)
 have h2:=zAP h1 1 (v:=.int .u64 b)
 unfold zBV
 rw[h2,p.1,p.2];rfl
theorem zBJ(w:World)(b:Nat)(x y:Value):Keep (fun g=>g≠b) w ((w.setCell ⟨b,0,none⟩ x).setCell ⟨b,1,none⟩ y):=(Keep.set w b 0 x).trans (Keep.set _ b 1 y)
theorem zBV.other{w:World}{g b:Nat}{V:Int}(h:zBV w g V)(hn:g≠b)(x y:Value):zBV ((w.setCell ⟨b,0,none⟩ x).setCell ⟨b,1,none⟩ y) g V:=h.keep ((zBJ w b x y).block g h.lt hn)
theorem zBV.made(w:World){V a b:Int}(p:WP V a b):zBV (w.alloc (.cells #[.int .i64 a,.int .u64 b] 100)) w.heap.size V:=by
 unfold zBV
 rw[World.alloc_heap_new,p.1,p.2]
theorem zJS(j:Nat):(0:Int)<2 ^ j:=Int.pow_pos (by decide)
def OverS(A B:Int)(j:Nat)(q r t:Int):Prop:=0<=q∧0<=r∧r<B∧0<=t∧t<=1∧(r+r+t<B->A/2 ^ j/B=q+q∧A/2 ^ j%B=r+r+t)∧(¬r+r+t<B->A/2 ^ j/B=q+q+1∧A/2 ^ j%B=r+r+t-B)
theorem over_step{A B:Int}(hB:0<B)(hA:0<=A)(j:Nat){q r t:Int}(hq:q=A/2 ^ (j+1)/B)(hr:r=A/2 ^ (j+1)%B)(ht:t=A/2 ^ j%2):
 OverS A B j q r t:=by
 have e:A/2 ^ (j+1)=A/2 ^ j/2:=by rw[Int.pow_succ,Int.ediv_ediv_of_nonneg (by have:=zJS j;omega)]
 obtain⟨T,hT⟩:=exq (A/2 ^ j)
 have hT0:0<=T:=by rw[hT];exact Int.ediv_nonneg hA (by have:=zJS j;omega)
 unfold OverS
 rw[e,<- hT]at hq hr
 rw[<- hT]at ht⊢
 have h1:=Int.emod_add_mul_ediv (T/2) B
 have h2:=Int.emod_nonneg (T/2) (show B≠0 by omega)
 have h3:=Int.emod_lt_of_pos (T/2) hB
 have h4:0<=T/2/B:=Int.ediv_nonneg (by omega) (by omega)
 rw[<- hq,<- hr]at h1
 rw[<- hr]at h2 h3
 rw[<- hq]at h4
 have hTt:T=2*(r+B*q)+t:=by omega
 refine⟨h4,h2,h3,by omega,by omega,fun h=>?_,fun h=>?_⟩
 ·have hx:T=(r+r+t)+(q+q)*B:=by rw[hTt];grind
  rw[hx,Int.add_mul_ediv_right _ _ (by omega),Int.ediv_eq_zero_of_lt (by omega) h,Int.add_mul_emod_self_right,Int.emod_eq_of_lt (by omega) h]
  omega
 ·have hx:T=(r+r+t-B)+(q+q+1)*B:=by rw[hTt];grind
  rw[hx,Int.add_mul_ediv_right _ _ (by omega),Int.ediv_eq_zero_of_lt (by omega) (by omega),Int.add_mul_emod_self_right,Int.emod_eq_of_lt (by omega) (by omega)]
  omega
theorem bit_low{A:Int}(hA:0<=A){j:Nat}(hj:j<64):A%18446744073709551616/2 ^ j%2=A/2 ^ j%2:=by
 have hp:=zJS j
 have e1:(18446744073709551616:Int)=2 ^ j*(2*2 ^ (63-j)):=by
  have:(2:Int) ^ j*(2*2 ^ (63-j))=2 ^ (j+(1+(63-j))):=by rw[Int.pow_add,Int.pow_add];rfl
  rw[this,show j+(1+(63-j))=64 by omega];rfl
 have h1:=Int.emod_add_mul_ediv A 18446744073709551616
 generalize A%18446744073709551616=a at*
 generalize A/18446744073709551616=h at*
 rw[<- h1,e1]
 have e2:a+2 ^ j*(2*2 ^ (63-j))*h=a+2 ^ j*(2*(2 ^ (63-j)*h)):=by grind
 rw[e2,Int.add_mul_ediv_left _ _ (by omega)]
 omega
theorem bit_high{A:Int}(j:Nat)(hj:64<=j):A/18446744073709551616/2 ^ (j-64)=A/2 ^ j:=by
 rw[Int.ediv_ediv_of_nonneg (by decide)]
 congr 1
 have:(18446744073709551616:Int)*2 ^ (j-64)=2 ^ (64+(j-64)):=by rw[Int.pow_add];rfl
 rw[this,show 64+(j-64)=j by omega]
theorem zJO(w:World)(V:Int)(hV: -170141183460469231731687303715884105728<V∧V<170141183460469231731687303715884105728):
 Calls Tryz.prog 148 #[zCJ V] w fun e w'=>e=.returned (.int .i64 (cmpI V 0))∧Below w.heap.size w w':=by
 have HC:=hid (fun X=>zDQ X V 0)
 have hw0:zCJ 0=.agg #[.int .i64 0,.int .u64 0]:=by simp[zCJ]
 rw[hw0]at HC
 obtain⟨a,b,p⟩:=WP.ex V
 rw[p.val]at HC⊢
 obtain⟨C,hC⟩:=exq (cmpI V 0)
 rw[<- hC]at HC⊢
 clear p hC hV hw0
 go_enter Tryz.func148,Tryz.ntmps148
 go_wp2_with (go_at_call 207;refine(HC.out _).mono ?_;rintro e w1 ⟨rfl,hb1⟩)
 go_ret
 exact⟨rfl,zAA ((Below.refl _ _).alloc (Nat.le_refl _) _) hb1⟩
theorem zOR(w:World)(A B:Int)(hA:0<=A∧A<170141183460469231731687303715884105728)(hB:0<B∧B<85070591730234615865843651857942052864):
 Calls Tryz.prog 150 #[zCJ A,zCJ B] w fun e w'=>e=.returned (.tuple #[zCJ (A/B),zCJ (A%B)])∧Below w.heap.size w w':=by
 obtain⟨ah,al,pA⟩:=WP.ex A
 obtain⟨bh,bl,pB⟩:=WP.ex B
 obtain⟨s,hs⟩:=exq (w.heap.size)
 obtain⟨wz,hwz⟩:=exq ((((w.alloc (.cells #[.int .i64 ah,.int .u64 al] 100)).alloc (.cells #[.int .i64 bh,.int .u64 bl] 100)).alloc (.cells #[.int .i64 0,.int .u64 0] 100)).alloc (.cells #[.int .i64 0,.int .u64 0] 100))
 have p0:WP 0 0 0:=⟨by decide,by decide⟩
 have hbz:Below w.heap.size w wz:=by rw[hwz];exact((((Below.refl _ _).alloc (Nat.le_refl _) _).alloc (by simp) _).alloc (by simp;omega) _).alloc (by simp;omega) _
 have hsz:wz.heap.size=s+4:=by rw[hwz,hs];simp
 have qa:zBV wz s A:=by
  rw[hwz,hs]
  exact(((zBV.made w pA).keep (Below.heap_alloc _ _ _ (by simp))).keep (Below.heap_alloc _ _ _ (by simp;omega))).keep (Below.heap_alloc _ _ _ (by simp;omega))
 have qb:zBV wz (s+1) B:=by
  have h:=zBV.made (w.alloc (.cells #[.int .i64 ah,.int .u64 al] 100)) pB
  rw[World.size_alloc]at h
  rw[hwz,hs]
  exact(h.keep (Below.heap_alloc _ _ _ (by simp))).keep (Below.heap_alloc _ _ _ (by simp))
 have qq:zBV wz (s+2) 0:=by
  have h:=zBV.made ((w.alloc (.cells #[.int .i64 ah,.int .u64 al] 100)).alloc (.cells #[.int .i64 bh,.int .u64 bl] 100)) p0
  rw[World.size_alloc,World.size_alloc]at h
  rw[hwz,hs]
  exact h.keep (Below.heap_alloc _ _ _ (by simp))
 have qr:zBV wz (s+3) 0:=by
  have h:=zBV.made (((w.alloc (.cells #[.int .i64 ah,.int .u64 al] 100)).alloc (.cells #[.int .i64 bh,.int .u64 bl] 100)).alloc (.cells #[.int .i64 0,.int .u64 0] 100)) p0
  rw[World.size_alloc,World.size_alloc,World.size_alloc]at h
  rw[hwz,hs]
  exact h
 have HST:=hid (show ∀j:Nat,OverS A B j (A/2 ^ (j+1)/B) (A/2 ^ (j+1)%B) (A/2 ^ j%2)from fun j=>over_step hB.1 hA.1 j (q:=A/2 ^ (j+1)/B) (r:=A/2 ^ (j+1)%B) (t:=A/2 ^ j%2) rfl rfl rfl)
 have HTOP:=hid (show A/2 ^ 128/B=0∧A/2 ^ 128%B=0 from by
  have e:A/2 ^ 128=0:=Int.ediv_eq_zero_of_lt hA.1 (by have:=hA.2;omega)
  rw[e];simp)
 have hQB:=hid (fun(j:Nat)=>show A/2 ^ j/B<=A from by
  have h1:A/2 ^ j<=A:=Int.ediv_le_self _ hA.1
  have h2:A/2 ^ j/B<=A/2 ^ j:=Int.ediv_le_self _ (Int.ediv_nonneg hA.1 (by have:=zJS j;omega))
  omega)
 rw[pA.val,pB.val]
 have HBZ:=hid hbz
 have HSZ:=hid hsz
 have QA:=hid qa
 have QB:=hid qb
 have PA:=hid pA
 have PB:=hid pB
 clear hbz hsz qa qb
 go_enter Tryz.func150,Tryz.ntmps150
 go_wp2_with fail
 rw[<- hs,<- hwz]
 have HSV:=hid hs
 have HP0:=hid p0
 have HAA:=hid hA
 have HBB:=hid hB
 clear hwz hs p0 hA hB pA pB
 go_loopw [6] (fun i wr=>∃k:Nat,k<=128∧i=.int .i64 ((k:Int)-1)∧Keep (fun g=>g≠s+2∧g≠s+3) wz wr∧zBV wr (s+2) (A/2 ^ k/B)∧zBV wr (s+3) (A/2 ^ k%B)) (fun i _=>(intOf i+1).toNat)
 case atStart=>exact⟨128,by omega,rfl,Keep.refl _ _,by rw[HTOP.out.1];exact qq,by rw[HTOP.out.2];exact qr⟩
 case round=>
  obtain⟨k,hk,rfl,hkp,hq,hr⟩:=hrel
  have hsz:=HSZ.out
  cases k with
  |succ j=>
   have hj0:(((j+1:Nat):Int)-1)=(j:Int):=by omega
   rw[hj0]
   obtain⟨q,hqe⟩:=exq (A/2 ^ (j+1)/B)
   obtain⟨r,hre⟩:=exq (A/2 ^ (j+1)%B)
   obtain⟨t,hte⟩:=exq (A/2 ^ j%2)
   have hst:=HST.out j
   unfold OverS at hst
   rw[<- hqe,<- hre,<- hte]at hst
   rw[<- hqe]at hq
   rw[<- hre]at hr
   have hA':=hkp.block s (by omega) (by show s≠s+2∧s≠s+3;omega)
   have qa:=QA.out.keep hA'
   obtain⟨c0,c1,_,_,_⟩:=qa.cells PA.out
   have ht2:0<=t∧t<=1:=by omega
   have hqn:=hst.2.2.2.2.2
   have hst2:0<=r∧r<B:=⟨hst.2.1,hst.2.2.1⟩
   have QBW:=hid (QB.out.keep (hkp.block (s+1) (by omega) (by show s+1≠s+2∧s+1≠s+3;omega)))
   have hqe':=hqe
   have hqq2':q+q<=A:=by
    rcases Int.lt_or_le (r+r+t) B with c|c
    ·have:=(hst.2.2.2.2.2.1 c).1;have:=hQB.out j;omega
    ·have:=(hst.2.2.2.2.2.2 (by omega)).1;have:=hQB.out j;omega
   have HSTP:=hid hst
   have HQ:=hid hq
   have HR:=hid hr
   have HKP:=hid hkp
   have hj127:j<=127:=by omega
   clear hst hq hr hkp qa hA' hj0 hqe hre hk
   obtain⟨r1,r2,pr⟩:=WP.ex r
   obtain⟨k1,k2,pk⟩:=WP.ex q
   obtain⟨x1,x2,px⟩:=WP.ex (r+r)
   obtain⟨y1,y2,py⟩:=WP.ex (r+r+t)
   obtain⟨z1,z2,pz⟩:=WP.ex (q+q)
   have hr0:=HR.out
   obtain⟨d0,d1,d2,d3,d4⟩:=hr0.cells pr
   have hq0:=HQ.out
   obtain⟨e0,e1,e2,e3,e4⟩:=hq0.cells pk
   have hAA:=HAA.out
   have hBB:=HBB.out
   have hst:=HSTP.out
   have hpt:zCJ t=.agg #[.int .i64 0,.int .u64 t]:=by
    unfold zCJ
    rw[show t/18446744073709551616=0 by omega,show t%18446744073709551616=t by omega]
   have hP1:=hid (show ∀X:World,Calls Tryz.prog 161 #[.agg #[.int .i64 r1,.int .u64 r2],.agg #[.int .i64 r1,.int .u64 r2]] X fun e w'=>e=.returned (.agg #[.int .i64 x1,.int .u64 x2])∧Below X.heap.size X w' from fun X=>by
    have:=zJP X r r (by omega) (by omega) (by omega)
    rw[pr.val,px.val]at this;exact this)
   have hP2:=hid (show ∀X:World,Calls Tryz.prog 161 #[.agg #[.int .i64 x1,.int .u64 x2],.agg #[.int .i64 0,.int .u64 t]] X fun e w'=>e=.returned (.agg #[.int .i64 y1,.int .u64 y2])∧Below X.heap.size X w' from fun X=>by
    have:=zJP X (r+r) t (by omega) (by omega) (by omega)
    rw[px.val,hpt,py.val]at this;exact this)
   have hqq:q<=A∧0<=q:=⟨by rw[hqe'];exact hQB.out _,hst.1⟩
   have hqq2:q+q<=A:=hqq2'
   have HQ0:=hid (And.intro hst.1 hqq2')
   have hP3:=hid (show ∀X:World,Calls Tryz.prog 161 #[.agg #[.int .i64 k1,.int .u64 k2],.agg #[.int .i64 k1,.int .u64 k2]] X fun e w'=>e=.returned (.agg #[.int .i64 z1,.int .u64 z2])∧Below X.heap.size X w' from fun X=>by
    have:=zJP X q q (by omega) (by omega) (by omega)
    rw[pk.val,pz.val]at this;exact this)
   have hbit:(j<64->bits BinOp.and IntKind.u64 (al/2 ^ j) 1=t)∧(64<=j->bits BinOp.and IntKind.u64 (ah/2 ^ (j-64)) 1=t)∧IntKind.u64.wrap ah=ah:=by
    have e1:=PA.out.1
    have e2:=PA.out.2
    refine⟨fun h=>?_,fun h=>?_,?_⟩
    ·have h1:0<=al/2 ^ j:=Int.ediv_nonneg (by omega) (by have:=zJS j;omega)
     have h2:al/2 ^ j<=al:=Int.ediv_le_self _ (by omega)
     rw[and_one_u64 _ h1 (by omega),e2,hte]
     exact bit_low hAA.1 h
    ·have h1:0<=ah/2 ^ (j-64):=Int.ediv_nonneg (by omega) (by have:=zJS (j-64);omega)
     have h2:ah/2 ^ (j-64)<=ah:=Int.ediv_le_self _ (by omega)
     rw[and_one_u64 _ h1 (by omega),e1,hte,bit_high j h]
    ·rw[IntKind.wrap_u64];omega
   obtain⟨hb1,hb2,hb3⟩:=hbit
   have HCM:=hid (show ∀X:World,Calls Tryz.prog 207 #[.agg #[.int .i64 y1,.int .u64 y2],.agg #[.int .i64 bh,.int .u64 bl]] X fun e w'=>e=.returned (.int .i64 (cmpI (r+r+t) B))∧Below X.heap.size X w' from fun X=>by
    have:=zDQ X (r+r+t) B
    rw[py.val,PB.out.val]at this;exact this)
   have PR:=hid pr
   have PK:=hid pk
   have PZ:=hid pz
   clear hst hAA hBB hpt hqq hqq2 hqe' hqq2' hte pr pk px pz hr0 hq0
   have PY:=hid py
   clear py
   have HQN:=hid hqn
   have HST2:=hid hst2
   have HK:=hid (fun(X:World) (hX:Below wr.heap.size wr X)=>And.intro (HR.out.keep (hX.block _ HR.out.lt)) (And.intro (HQ.out.keep (hX.block _ HQ.out.lt)) (QBW.out.keep (hX.block _ QBW.out.lt))))
   have HSL:=hid (And.intro HR.out.lt (And.intro HQ.out.lt QBW.out.lt))
   clear hqn hst2
   have h64:(j<64∧bits BinOp.and IntKind.u64 (al/2 ^ j) 1=t)∨(¬j<64∧bits BinOp.and IntKind.u64 (ah/2 ^ (j-64)) 1=t):=by
    by_cases h:j<64
    ·exact .inl ⟨h,hb1 h⟩
    ·exact .inr ⟨h,hb2 (by omega)⟩
   clear hb1 hb2
   rcases h64 with⟨h64,hb1⟩|⟨h64,hb1⟩
   all_goals
    go_upto_region 7 with fail
    clear hb1 hb3
    go_wp2_with (go_at_call 161;refine(hP1.out _).mono ?_;rintro e w1 ⟨rfl,hb1⟩;refine Stop.of ?_)
    refine Stop.go ?_
    have HB1:=hid hb1
    clear hb1
    go_wp2_with (go_at_call 161;refine(hP2.out _).mono ?_;rintro e w2 ⟨rfl,hb2⟩;refine Stop.of ?_)
    refine Stop.go ?_
    have HB2:=hid (zAA HB1.out hb2)
    clear hb2 d0 d1 d2 d3 d4 e0 e1 e2 e3 e4
    obtain⟨m1,m2,m3⟩:=HK.out _ HB2.out
    obtain⟨a0,a1,a2,a3,a4⟩:=m1.cells PR.out
    have M1:=hid (zBV.set m1 PY.out)
    have M2:=hid (m2.other (b:=s+3) (by omega) (.int .i64 y1) (.int .u64 y2))
    have M3:=hid (m3.other (b:=s+3) (by omega) (.int .i64 y1) (.int .u64 y2))
    have KP:=hid (show Keep (fun g=>g≠s+2∧g≠s+3) wr ((w2.setCell ⟨s+3,0,none⟩ (.int .i64 y1)).setCell ⟨s+3,1,none⟩ (.int .u64 y2))from(Keep.of_below HB2.out:Keep (fun g=>g≠s+2∧g≠s+3) _ _).trans ((zBJ w2 (s+3) _ _).mono fun g h=>h.2))
    obtain⟨v0,v1,v2,v3,v4⟩:=M1.out.cells PY.out
    obtain⟨g0,g1,g2,g3,g4⟩:=M2.out.cells PK.out
    clear m1 m2 m3
    go_wp2_with (go_at_call 161;refine(hP3.out _).mono ?_;rintro e w3 ⟨rfl,hb3⟩;refine Stop.of ?_)
    refine Stop.go ?_
    have HB3:=hid hb3
    have L1:=hid (M1.out.keep (hb3.block _ M1.out.lt))
    have L2:=hid (M2.out.keep (hb3.block _ M2.out.lt))
    have L3:=hid (M3.out.keep (hb3.block _ M3.out.lt))
    clear hb3 v0 v1 v2 v3 v4 g0 g1 g2 g3 g4 a0 a1 a2 a3 a4
    obtain⟨g0,g1,g2,g3,g4⟩:=L2.out.cells PK.out
    have N2:=hid (zBV.set L2.out PZ.out)
    have N1:=hid (L1.out.other (b:=s+2) (by omega) (.int .i64 z1) (.int .u64 z2))
    have N3:=hid (L3.out.other (b:=s+2) (by omega) (.int .i64 z1) (.int .u64 z2))
    have KN:=hid (KP.out.trans ((Keep.of_below HB3.out:Keep (fun g=>g≠s+2∧g≠s+3) _ _).trans ((zBJ w3 (s+2) (.int .i64 z1) (.int .u64 z2)).mono fun g h=>h.1)))
    obtain⟨v0,v1,v2,v3,v4⟩:=N1.out.cells PY.out
    obtain⟨i0,i1,i2,i3,i4⟩:=N3.out.cells PB.out
    go_wp2_with (go_at_call 207;refine(HCM.out _).mono ?_;rintro e w4 ⟨rfl,hb4⟩;refine Stop.of ?_)
    refine Stop.go ?_
    have HB4:=hid hb4
    have O1:=hid (N1.out.keep (hb4.block _ N1.out.lt))
    have O2:=hid (N2.out.keep (hb4.block _ N2.out.lt))
    have O3:=hid (N3.out.keep (hb4.block _ N3.out.lt))
    have KO:=hid (KN.out.trans (Keep.of_below hb4:Keep (fun g=>g≠s+2∧g≠s+3) _ _))
    clear hb4 v0 v1 v2 v3 v4 g0 g1 g2 g3 g4 i0 i1 i2 i3 i4
    by_cases hcb:r+r+t<B
    ·have hc1:¬0<=cmpI (r+r+t) B:=by unfold cmpI;rw[if_pos hcb];decide
     go_wp2
     obtain⟨n1,n2⟩:=HQN.out.1 hcb
     exact⟨⟨j,by omega,rfl,HKP.out.trans KO.out,by rw[n1];exact O2.out,by rw[n2];exact O1.out⟩,by simp[intOf]⟩
    ·have hc1:0<=cmpI (r+r+t) B:=by unfold cmpI;rw[if_neg hcb];split<;>decide
     obtain⟨o1,o2,po⟩:=WP.ex (-B)
     obtain⟨f1,f2,pf⟩:=WP.ex (r+r+t-B)
     obtain⟨h1,h2,ph⟩:=WP.ex (q+q+1)
     have hBB:=HBB.out
     have hAA:=HAA.out
     have hst2:=HST2.out
     have hq0:=HQ0.out
     have hw1:zCJ 1=.agg #[.int .i64 0,.int .u64 1]:=by simp[zCJ]
     have HC1:=hid (show ∀X:World,Calls Tryz.prog 149 #[.agg #[.int .i64 bh,.int .u64 bl]] X fun e w'=>e=.returned (.agg #[.int .i64 o1,.int .u64 o2])∧Below X.heap.size X w' from fun X=>by
      have:=zLV X B (by omega)
      rw[PB.out.val,po.val]at this;exact this)
     have HC2:=hid (show ∀X:World,Calls Tryz.prog 161 #[.agg #[.int .i64 y1,.int .u64 y2],.agg #[.int .i64 o1,.int .u64 o2]] X fun e w'=>e=.returned (.agg #[.int .i64 f1,.int .u64 f2])∧Below X.heap.size X w' from fun X=>by
      have:=zJP X (r+r+t) (-B) (by omega) (by omega) (by omega)
      rw[show r+r+t+ -B=r+r+t-B by omega]at this
      rw[PY.out.val,po.val,pf.val]at this;exact this)
     have HC3:=hid (show ∀X:World,Calls Tryz.prog 161 #[.agg #[.int .i64 z1,.int .u64 z2],.agg #[.int .i64 0,.int .u64 1]] X fun e w'=>e=.returned (.agg #[.int .i64 h1,.int .u64 h2])∧Below X.heap.size X w' from fun X=>by
      have:=zJP X (q+q) 1 (by omega) (by omega) (by omega)
      rw[PZ.out.val,hw1,ph.val]at this;exact this)
     have PF:=hid pf
     have PH:=hid ph
     clear po pf ph hBB hAA hst2 hq0 hw1 ht2
     go_wp2
     refine zAF (fun j X=>decide (j<8∧j≠5)=true->X.cell? ⟨s+2,0,none⟩=some (.int .i64 z1)∧X.cell? ⟨s+2,1,none⟩=some (.int .u64 z2)) (by kernel_rfl) ?_
     have HS:=hid (show ∀X:World,Below w4.heap.size w4 X->X.cell? ⟨s+3,0,none⟩=some (.int .i64 y1)∧X.cell? ⟨s+3,1,none⟩=some (.int .u64 y2)∧X.cell? ⟨s+1,0,none⟩=some (.int .i64 bh)∧X.cell? ⟨s+1,1,none⟩=some (.int .u64 bl)∧X.cell? ⟨s+2,0,none⟩=some (.int .i64 z1)∧X.cell? ⟨s+2,1,none⟩=some (.int .u64 z2)from fun X hX=>by
      obtain⟨a0,a1,_⟩:=(O1.out.keep (hX.block _ O1.out.lt)).cells PY.out
      obtain⟨b0,b1,_⟩:=(O3.out.keep (hX.block _ O3.out.lt)).cells PB.out
      obtain⟨c0,c1,_⟩:=(O2.out.keep (hX.block _ O2.out.lt)).cells PZ.out
      exact⟨a0,a1,b0,b1,c0,c1⟩)
     have hbd:Below w4.heap.size w4 w4.drew:=(Below.refl _ _).drew
     generalize w4.drew=wd at hbd⊢
     have hS:=HS.out _ hbd
     refine AnyT.takeG (i:=5) (v:=.agg #[.int .i64 0,.int .u64 1]) (S:=fun X=>True) (Wf:=fun j=>true) (fun j w' h hj=>trivial) (fun w' h h5=>absurd h5 (by decide)) rfl rfl (by kernel_rfl) (by kernel_rfl) (by kernel_rfl) (by first|exact(fun _ _ _ h=>h)|exact(fun _ _ _ h=>absurd h.1 (by simp))) (by kernel_rfl) (by rfl) (by rintro w' _;go_simp) trivial ?_;go_frame
     refine AnyT.weak (T:=fun j X=>decide (j<8∧j≠5)=true->X.cell? ⟨s+2,0,none⟩=some (.int .i64 z1)∧X.cell? ⟨s+2,1,none⟩=some (.int .u64 z2)) (T':=fun j X=>decide (j<8)=true->X.cell? ⟨s+2,0,none⟩=some (.int .i64 z1)∧X.cell? ⟨s+2,1,none⟩=some (.int .u64 z2)) (fun j X h (hj:decide (j<8∧j≠5)=true)=>h (decide_eq_true (of_decide_eq_true hj).1)) _ _ _ _ ?_
     refine AnyT.tD (i:=4) (v:=.agg #[.int .i64 z1,.int .u64 z2]) rfl rfl (by rintro w' ⟨q5,q6⟩;go_simp) hS.2.2.2.2 ?_;go_frame
     refine AnyT.weak (T':=fun j X=>(decide (j<7)=true->X.cell? ⟨s+3,0,none⟩=some (.int .i64 y1)∧X.cell? ⟨s+3,1,none⟩=some (.int .u64 y2)∧X.cell? ⟨s+1,0,none⟩=some (.int .i64 bh)∧X.cell? ⟨s+1,1,none⟩=some (.int .u64 bl)∧X.cell? ⟨s+2,0,none⟩=some (.int .i64 z1)∧X.cell? ⟨s+2,1,none⟩=some (.int .u64 z2))∧(decide (j<8)=true->X.cell? ⟨s+2,0,none⟩=some (.int .i64 z1)∧X.cell? ⟨s+2,1,none⟩=some (.int .u64 z2))) (fun j X h=>h.2) _ _ _ _ ?_
     refine AnyT.takeG (i:=0) (v:=.agg #[.int .i64 y1,.int .u64 y2]) (S:=fun X=>X.cell? ⟨s+3,0,none⟩=some (.int .i64 y1)∧X.cell? ⟨s+3,1,none⟩=some (.int .u64 y2)∧X.cell? ⟨s+1,0,none⟩=some (.int .i64 bh)∧X.cell? ⟨s+1,1,none⟩=some (.int .u64 bl)∧X.cell? ⟨s+2,0,none⟩=some (.int .i64 z1)∧X.cell? ⟨s+2,1,none⟩=some (.int .u64 z2)) (Wf:=fun j=>decide (j<7)) (fun j w' h hj=>h.1 hj) (fun w' h=>⟨fun _=>h,fun _=>h.2.2.2.2⟩) rfl rfl (by kernel_rfl) (by kernel_rfl) (by kernel_rfl) (by first|exact(fun _ _ _ h=>h)|exact(fun _ _ _ h=>absurd h.1 (by simp))) (by kernel_rfl) (by rfl) (by rintro w' ⟨q1,q2,q3,q4,q5,q6⟩;go_simp) hS ?_;go_frame
     refine AnyT.takeG (i:=1) (v:=.agg #[.int .i64 bh,.int .u64 bl]) (S:=fun X=>X.cell? ⟨s+3,0,none⟩=some (.int .i64 y1)∧X.cell? ⟨s+3,1,none⟩=some (.int .u64 y2)∧X.cell? ⟨s+1,0,none⟩=some (.int .i64 bh)∧X.cell? ⟨s+1,1,none⟩=some (.int .u64 bl)∧X.cell? ⟨s+2,0,none⟩=some (.int .i64 z1)∧X.cell? ⟨s+2,1,none⟩=some (.int .u64 z2)) (Wf:=fun j=>decide (j<7)) (fun j w' h hj=>h.1 hj) (fun w' h=>⟨fun _=>h,fun _=>h.2.2.2.2⟩) rfl rfl (by kernel_rfl) (by kernel_rfl) (by kernel_rfl) (by first|exact(fun _ _ _ h=>h)|exact(fun _ _ _ h=>absurd h.1 (by simp))) (by kernel_rfl) (by rfl) (by rintro w' ⟨q1,q2,q3,q4,q5,q6⟩;go_simp) hS ?_;go_frame
     refine AnyT.nx (i:=2) rfl ?_
     go_wp2_with (go_at_call 149;refine(HC1.out _).mono ?_;rintro e w5 ⟨rfl,hb5⟩;refine Stop.of ?_)
     refine Stop.go ?_
     have HB5:=hid (zAA hbd hb5)
     clear hb5 hS
     go_wp2
     refine⟨⟨fun _=>HS.out _ HB5.out,fun _=>(HS.out _ HB5.out).2.2.2.2⟩,?_⟩
     refine AnyT.nx (i:=3) rfl ?_
     go_wp2_with (go_at_call 161;refine(HC2.out _).mono ?_;rintro e w6 ⟨rfl,hb6⟩;refine Stop.of ?_)
     refine Stop.go ?_
     have HB6:=hid (zAA HB5.out hb6)
     clear hb6
     go_wp2
     refine⟨⟨fun _=>HS.out _ HB6.out,fun _=>(HS.out _ HB6.out).2.2.2.2⟩,?_⟩
     refine AnyT.nx (i:=6) rfl ?_
     go_wp2_with (go_at_call 161;refine(HC3.out _).mono ?_;rintro e w7 ⟨rfl,hb7⟩;refine Stop.of ?_)
     refine Stop.go ?_
     have HB7:=hid (zAA HB6.out hb7)
     clear hb7
     have R1:=hid (O1.out.keep (HB7.out.block _ O1.out.lt))
     have R2:=hid (O2.out.keep (HB7.out.block _ O2.out.lt))
     go_wp2
     refine⟨⟨fun _=>HS.out _ HB7.out,fun _=>(HS.out _ HB7.out).2.2.2.2⟩,?_⟩
     obtain⟨v0,v1,v2,v3,v4⟩:=R1.out.cells PY.out
     have V1:=hid (zBV.set R1.out PF.out)
     have V2:=hid (R2.out.other (b:=s+3) (by omega) (.int .i64 f1) (.int .u64 f2))
     refine AnyT.nx (i:=7) rfl ?_
     go_wp2
     clear v0 v1 v2 v3 v4
     obtain⟨g0,g1,g2,g3,g4⟩:=V2.out.cells PZ.out
     refine⟨⟨fun h=>absurd h (by decide),fun _=>⟨g0,g1⟩⟩,?_⟩
     have X2:=hid (zBV.set V2.out PH.out)
     have X1:=hid (V1.out.other (b:=s+2) (by omega) (.int .i64 h1) (.int .u64 h2))
     have KX:=hid (KO.out.trans ((Keep.of_below HB7.out:Keep (fun g=>g≠s+2∧g≠s+3) _ _).trans (((zBJ w7 (s+3) (.int .i64 f1) (.int .u64 f2)).mono fun g h=>h.2).trans ((zBJ _ (s+2) (.int .i64 h1) (.int .u64 h2)).mono fun g h=>h.1))))
     refine AnyT.nx (i:=8) rfl ?_
     go_wp2
     refine⟨⟨fun h=>absurd h (by decide),fun h=>absurd h (by decide)⟩,?_⟩
     refine AnyT.done (by kernel_rfl) ?_ _
     go_wp2
     obtain⟨n1,n2⟩:=HQN.out.2 (by omega)
     exact⟨⟨j,by omega,rfl,HKP.out.trans KX.out,by rw[n1];exact X2.out,by rw[n2];exact X1.out⟩,by simp[intOf]⟩
  |zero=>
   rw[Int.pow_zero,Int.ediv_one]at hq hr
   have HQ:=hid hq
   have HR:=hid hr
   have HKP:=hid hkp
   obtain⟨q1,q2,pq⟩:=WP.ex (A/B)
   obtain⟨r1,r2,pr⟩:=WP.ex (A%B)
   have PQ:=hid pq
   have PR:=hid pr
   have hm1:((0:Nat):Int)-1= -1:=by decide
   rw[hm1]
   have HVQ:=hid pq.val
   have HVR:=hid pr.val
   clear hq hr hkp pq pr hm1
   go_wp2
   refine zAF (fun j X=>wAll j=true->X.cell? ⟨s+2,0,none⟩=some (.int .i64 q1)∧X.cell? ⟨s+2,1,none⟩=some (.int .u64 q2)∧X.cell? ⟨s+3,0,none⟩=some (.int .i64 r1)∧X.cell? ⟨s+3,1,none⟩=some (.int .u64 r2)) (by kernel_rfl) ?_
   have hbd:Below wr.heap.size wr wr.drew:=(Below.refl _ _).drew
   have G2:=hid (HQ.out.keep (hbd.block _ HQ.out.lt))
   have G3:=hid (HR.out.keep (hbd.block _ HR.out.lt))
   have KD:=hid (HKP.out.trans (Keep.of_below hbd:Keep (fun g=>g≠s+2∧g≠s+3) _ _))
   generalize wr.drew=wd at G2 G3 KD⊢
   obtain⟨a0,a1,a2,a3,a4⟩:=G2.out.cells PQ.out
   obtain⟨b0,b1,b2,b3,b4⟩:=G3.out.cells PR.out
   have hS:wd.cell? ⟨s+2,0,none⟩=some (.int .i64 q1)∧wd.cell? ⟨s+2,1,none⟩=some (.int .u64 q2)∧wd.cell? ⟨s+3,0,none⟩=some (.int .i64 r1)∧wd.cell? ⟨s+3,1,none⟩=some (.int .u64 r2):=⟨a0,a1,b0,b1⟩
   refine AnyT.tD (i:=0) (v:=.agg #[.int .i64 q1,.int .u64 q2]) rfl rfl (by rintro w' ⟨x1,x2,x3,x4⟩;go_simp) hS ?_;go_frame
   refine AnyT.tD (i:=1) (v:=.agg #[.int .i64 r1,.int .u64 r2]) rfl rfl (by rintro w' ⟨x1,x2,x3,x4⟩;go_simp) hS ?_;go_frame
   have M2:=hid (zBV.set G2.out PQ.out)
   have M3:=hid (G3.out.other (b:=s+2) (by omega) (.int .i64 q1) (.int .u64 q2))
   refine AnyT.nx (i:=2) rfl ?_
   go_wp2
   clear a0 a1 a2 a3 a4 b0 b1 b2 b3 b4 hS
   obtain⟨a0,a1,a2,a3,a4⟩:=M2.out.cells PQ.out
   obtain⟨b0,b1,b2,b3,b4⟩:=M3.out.cells PR.out
   refine⟨fun _=>⟨a0,a1,b0,b1⟩,?_⟩
   have N3:=hid (zBV.set M3.out PR.out)
   have N2:=hid (M2.out.other (b:=s+3) (by omega) (.int .i64 r1) (.int .u64 r2))
   have KN:=hid (KD.out.trans (((zBJ wd (s+2) (.int .i64 q1) (.int .u64 q2)).mono fun g h=>h.1).trans ((zBJ _ (s+3) (.int .i64 r1) (.int .u64 r2)).mono fun g h=>h.2)))
   refine AnyT.nx (i:=3) rfl ?_
   go_wp2
   clear a0 a1 a2 a3 a4 b0 b1 b2 b3 b4
   obtain⟨a0,a1,a2,a3,a4⟩:=N2.out.cells PQ.out
   obtain⟨b0,b1,b2,b3,b4⟩:=N3.out.cells PR.out
   refine⟨fun _=>⟨a0,a1,b0,b1⟩,?_⟩
   refine AnyT.done (by kernel_rfl) ?_ _
   have HFB:=hid (KN.out.below HBZ.out (by have:=HSV.out;omega) (fun k hk=>by have:=HSV.out;omega))
   go_wp2
   change bodyPost _ _ _ _ _ ((((wd.setCell ⟨s+2,0,none⟩ (.int .i64 q1)).setCell ⟨s+2,1,none⟩ (.int .u64 q2)).setCell ⟨s+3,0,none⟩ (.int .i64 r1)).setCell ⟨s+3,1,none⟩ (.int .u64 r2))
   generalize (((wd.setCell ⟨s+2,0,none⟩ (.int .i64 q1)).setCell ⟨s+2,1,none⟩ (.int .u64 q2)).setCell ⟨s+3,0,none⟩ (.int .i64 r1)).setCell ⟨s+3,1,none⟩ (.int .u64 r2)=WF at*
   refine bodyPost_ret (v:=.tuple #[.agg #[.int .i64 q1,.int .u64 q2],.agg #[.int .i64 r1,.int .u64 r2]]) ?_ rfl ⟨by rw[HVQ.out,HVR.out],HFB.out⟩
   simp[results,Tryz.results150,go_sem,a0,a1,a2,a3,a4,b0,b1,b2,b3,b4]
end
section
open Go.RowKit
def RatI(w:World)(g:Nat)(r:Rt):Prop:=w.heap[g]? =some (.cells #[.int .i64 r.1,.int .i64 r.2] 29 (0,0))
theorem RatI.lt{w:World}{g:Nat}{r:Rt}(h:RatI w g r):g<w.heap.size:=(Array.getElem?_eq_some_iff.1 h).1
theorem RatI.keep{w w':World}{g:Nat}{r:Rt}(h:RatI w g r)(hk:w'.heap[g]? =w.heap[g]?):RatI w' g r:=hk.trans h
theorem RatI.cells{w:World}{g:Nat}{r:Rt}(h:RatI w g r):w.cell? ⟨g,0,none⟩=some (.int .i64 r.1)∧w.cell? ⟨g,1,none⟩=some (.int .i64 r.2)∧w.frozen? ⟨g,0,none⟩=false∧w.frozen? ⟨g,1,none⟩=false∧g<w.heap.size:=by
 have hl:=h.lt
 unfold RatI at h
 exact⟨by simp[World.cell?,h],by simp[World.cell?,h],by simp[World.frozen?,h],by simp[World.frozen?,h],hl⟩
theorem RatI.set{w:World}{g:Nat}{r p:Rt}(h:RatI w g r):RatI ((w.setCell ⟨g,0,none⟩ (.int .i64 p.1)).setCell ⟨g,1,none⟩ (.int .i64 p.2)) g p:=by
 have h1:=zAP h 0 (v:=.int .i64 p.1)
 have h2:=zAP h1 1 (v:=.int .i64 p.2)
 unfold RatI
 rw[h2];rfl
theorem RatI.made(w:World)(r:Rt):RatI (w.alloc (.cells #[.int .i64 r.1,.int .i64 r.2] 29)) w.heap.size r:=World.alloc_heap_new _ _
theorem WP.zero:WP 0 0 0:=⟨rfl,rfl⟩
theorem zBV.made0(w:World):zBV (w.alloc (.cells #[.int .i64 0,.int .u64 0] 100)) w.heap.size 0:=zBV.made w WP.zero
def RatioR(n d:Int)(e:Ending):Prop:=∃r:Rt,e=.returned (.tuple #[ratV r,.bool (zAH (zAR n d))])∧(zAH (zAR n d)=true->r=zAR n d)
def RatioLaw:Prop:=∀(w:World) (n d:Int),(-170141183460469231731687303715884105728<n∧n<170141183460469231731687303715884105728)->(0<d∧d<166153499473114484112975882535043072)->
    Calls Tryz.prog 83 #[sumV n d] w fun e w'=>RatioR n d e∧Below w.heap.size w w'
end
section
open Go.RowKit
def zHS(w:World)(a:Option Addr)(ls:List (List Rt)):Prop:=
 ∀j (hj:j<ls.length),∃b off ra n cap,a=some ⟨b,off,none⟩∧b<w.heap.size∧w.cell? ⟨b,off+j,none⟩=some (.slice ra n cap)∧ls[j].length=n∧n<=maxLen∧zBE w ra ls[j]
theorem zHS.below{w w':World}{a:Option Addr}{l:List (List Rt)}(h:zHS w a l)(hb:Below w.heap.size w w'):zHS w' a l:=by
 intro j hj
 obtain⟨b,off,ra,n,cap,e,hlt,h0,hn,hm,hi⟩:=h j hj
 exact⟨b,off,ra,n,cap,e,Nat.lt_of_lt_of_le hlt hb.size,(hb.cell (p:=⟨b,_,none⟩) hlt).trans h0,hn,hm,hi.below hb⟩
def TabQ(W:World)(base:Nat)(v:Value)(L:List (List Rt)):Prop:=
 ∃vs,W.ownsRow base 42 1 v L.length vs∧∀j (hj:j<L.length),∃u,vs[j]? =some u∧zEN W base u L[j]
theorem TabQ.nil(W:World)(base:Nat):TabQ W base (.slice none 0 0) []:=⟨[],World.ownsRow_nil _ _ _ _,fun j hj=>by simp at hj⟩
theorem TabQ.below{W W':World}{base:Nat}{v:Value}{L:List (List Rt)}(h:TabQ W base v L)(hb:Below W.heap.size W W'):TabQ W' base v L:=by
 obtain⟨vs,h1,h2⟩:=h
 refine⟨vs,zBI h1 hb,fun j hj=>?_⟩
 obtain⟨u,hu,hr⟩:=h2 j hj
 exact⟨u,hu,hr.below hb⟩
theorem TabQ.slice{W:World}{base:Nat}{v:Value}{L:List (List Rt)}(h:TabQ W base v L):∃a c,v=.slice a L.length c:=by
 obtain⟨vs,h1,_⟩:=h;exact zAD h1
theorem TabQ.reads{W:World}{base n c:Nat}{a:Option Addr}{L:List (List Rt)}(h:TabQ W base (.slice a n c) L):L.length=n∧n<=maxLen∧zHS W a L:=by
 obtain⟨vs,h1,h2⟩:=h
 rcases h1.2 with⟨e,h0⟩|⟨g,cap,cur,e,hbg,hgg,hnc,hcm,hsz,htk⟩
 ·cases e
  exact⟨h0,by unfold maxLen;omega,fun j hj=>by omega⟩
 ·cases e
  refine⟨rfl,by omega,fun j hj=>?_⟩
  obtain⟨u,hu,hel⟩:=h2 j hj
  have hc:=World.ownsRow.cellAt (w:=W) (base:=base) (e:=42) (size:=1) (g:=g) (n:=L.length) (cap:=c) (xs:=vs) h1 j (by omega)
  obtain⟨a',n',cap',rfl,_⟩:=id hel
  obtain⟨h3,h4,h5⟩:=hel.rats
  exact⟨g,0,a',n',cap',rfl,(Array.getElem?_eq_some_iff.1 hgg).1,by rw[Nat.zero_add,hc,hu],h3,h4,h5⟩
theorem TabQ.snoc{W w1 w3:World}{base:Nat}{v v' u:Value}{L:List (List Rt)}{r:List Rt}{vs:List Value}(h1:W.ownsRow base 42 1 v L.length vs)
 (h2:∀j (hj:j<L.length),∃u,vs[j]? =some u∧zEN W base u L[j])(hb:Below W.heap.size W w1)(hr:zEN w1 base u r)(hg:w1.grownBy w3 v.ownBlock)
 (ho':w3.ownsRow base 42 1 v' (L.length+1) (vs++[u])):TabQ w3 base v' (L++[r]):=by
 have hlen:vs.length=L.length:=by have:=h1.1;omega
 have hup:∀u l,zEN w1 base u l->zEN w3 base u l:=fun u l h=>h.keep (T:=fun b=>b<w1.heap.size∧(b<base∨∃c f,w1.heap[b]? =some (.cells c 29 f))) ⟨hg.os,hg.tape,hg.output,hg.size,fun k hk hT=>hg.block k hk (by
  rcases h1.2 with⟨rfl,_⟩|⟨g,cap,cur,rfl,hbg,hgg,_⟩
  ·simp[Value.ownBlock]
  ·intro e
   obtain rfl:k=g:=by simpa[Value.ownBlock]using e
   have hgg':=(hb.block k (Array.getElem?_eq_some_iff.1 hgg).1).trans hgg
   rcases hT.2 with h|⟨c,f,h⟩
   ·omega
   ·rw[h]at hgg';cases hgg')⟩ fun b hb hty=>⟨hb,hty⟩
 refine⟨vs++[u],by simpa using ho',fun j hj=>?_⟩
 simp only[List.length_append,List.length_cons,List.length_nil,Nat.zero_add]at hj
 by_cases hjl:j<L.length
 ·obtain⟨u',hu',hr'⟩:=h2 j hjl
  rw[List.getElem_append_left hjl]
  exact⟨u',by rw[List.getElem?_append_left (by omega)];exact hu',hup _ _ (hr'.below hb)⟩
 ·obtain rfl:j=L.length:=by omega
  rw[List.getElem_append_right (Nat.le_refl _)]
  simp only[Nat.sub_self,List.getElem_cons_zero]
  exact⟨u,by rw[List.getElem?_append_right (by omega),hlen];simp,hup _ _ hr⟩
end
section
open Go.RowKit
theorem lvls_mem{n:Nat}{s:List Int}:∀{k:Nat},s∈lvls n k->∃j,j<=k∧s∈comb n j 0
 |0,h=>⟨0,Nat.le_refl _,h⟩
 |k+1,h=>by
  rcases List.mem_append.1 h with h|h
  ·obtain⟨j,hj,h⟩:=lvls_mem h
   exact⟨j,by omega,h⟩
  ·exact⟨k+1,Nat.le_refl _,h⟩
theorem allS_ok{n:Nat}{s:List Int}(h:s∈allS n):s.length<=n∧zCL n s:=by
 obtain⟨j,hj,hs⟩:=lvls_mem h
 exact⟨by rw[zDD n j 0 s hs];exact hj,comb_ok hs⟩
end
section
open Go.RowKit
theorem info_fit:(Tryz.prog.info? 73).map (fun i=>(i.zero,i.size,i.bytes))=some (some (.agg #[.slice none 0 0,.slice none 0 0]),2,48):=by kernel_rfl
def zQB(W:World)(base:Nat)(v:Value)(T:List FitT):Prop:=
 ∃xs,W.ownsRow base 73 2 v T.length xs∧∀j (hj:j<T.length),∃us ur,xs[j*2]? =some us∧xs[j*2+1]? =some ur∧zEO 3 W base (fun _=>True) us T[j].1∧zEN W base ur T[j].2
theorem zQB.nil(W:World)(base:Nat):zQB W base (.slice none 0 0) []:=⟨[],World.ownsRow_nil _ _ _ _,fun j hj=>by simp at hj⟩
theorem zQB.below{W W':World}{base:Nat}{v:Value}{T:List FitT}(h:zQB W base v T)(hb:Below W.heap.size W W'):zQB W' base v T:=by
 obtain⟨xs,ho,he⟩:=h
 refine⟨xs,zBI ho hb,fun j hj=>?_⟩
 obtain⟨us,ur,h1,h2,h3,h4⟩:=he j hj
 exact⟨us,ur,h1,h2,h3.keep (Keep.of_below hb:Keep (fun _=>True) _ _) (fun _ _ _ _=>trivial),h4.below hb⟩
theorem zQB.slice{W:World}{base:Nat}{v:Value}{T:List FitT}(h:zQB W base v T):∃a c,v=.slice a T.length c:=by
 obtain⟨xs,ho,_⟩:=h;exact zAD ho
def zJM(w:World)(a:Option Addr)(T:List FitT):Prop:=
 ∀j (hj:j<T.length),∃b off pa pn pc va vn vc,a=some ⟨b,off,none⟩∧b<w.heap.size∧w.cell? ⟨b,off+j*2,none⟩=some (.slice pa pn pc)∧w.cell? ⟨b,off+j*2+1,none⟩=some (.slice va vn vc)∧
  T[j].1.length=pn∧pn<=maxLen∧zAI w pa T[j].1∧T[j].2.length=vn∧vn<=maxLen∧zBE w va T[j].2
theorem zJM.below{w w':World}{a:Option Addr}{T:List FitT}(h:zJM w a T)(hb:Below w.heap.size w w'):zJM w' a T:=by
 intro j hj
 obtain⟨b,off,pa,pn,pc,va,vn,vc,e,hlt,h0,h1,h2,h3,h4,h5,h6,h7⟩:=h j hj
 exact⟨b,off,pa,pn,pc,va,vn,vc,e,Nat.lt_of_lt_of_le hlt hb.size,(hb.cell (p:=⟨b,_,none⟩) hlt).trans h0,(hb.cell (p:=⟨b,_,none⟩) hlt).trans h1,h2,h3,h4.below hb,h5,h6,h7.below hb⟩
theorem zQB.snoc{W w1 w2:World}{base:Nat}{v v' us ur:Value}{T:List FitT}{t:FitT}{xs:List Value}
 (ho:W.ownsRow base 73 2 v T.length xs)(he:∀j (hj:j<T.length),∃us ur,xs[j*2]? =some us∧xs[j*2+1]? =some ur∧zEO 3 W base (fun _=>True) us T[j].1∧zEN W base ur T[j].2)
 (h1:zEO 3 W base (fun _=>True) us t.1)(h2:zEN W base ur t.2)
 (hW1:Below W.heap.size W w1)(hg:w1.grownBy w2 v.ownBlock)(ho':w2.ownsRow base 73 2 v' (T.length+1) (xs++[us,ur])):zQB w2 base v' (T++[t]):=by
 have hlen:xs.length=T.length*2:=ho.1
 have hgb:∀(E:TypeId),E≠73->∀b,(b<base∨∃c f,W.heap[b]? =some (.cells c E f))->b<W.heap.size->w2.heap[b]? =W.heap[b]? :=by
  intro E hE b hty hb
  refine(hg.block b (Nat.lt_of_lt_of_le hb hW1.size) ?_).trans (hW1.block b hb)
  rcases ho.2 with⟨rfl,_⟩|⟨g,cap,cur,rfl,hbg,hgg,_⟩
  ·simp[Value.ownBlock]
  ·intro e
   obtain rfl:b=g:=by simpa[Value.ownBlock]using e
   rcases hty with h|⟨c,f,h⟩
   ·omega
   ·rw[h]at hgg;cases hgg;exact hE rfl
 have hel:∀u l,zEO 3 W base (fun _=>True) u l->zEO 3 w2 base (fun _=>True) u l:=by
  intro u l h
  refine h.keep (T:=fun b=>b<W.heap.size∧(b<base∨∃c f,W.heap[b]? =some (.cells c 3 f))) ⟨hg.os.trans hW1.os,hg.tape.trans hW1.tape,hg.output.trans hW1.output,Nat.le_trans hW1.size hg.size,fun k hk hT=>hgb 3 (by decide) k hT.2 hk⟩ fun b _ hb hty=>⟨hb,hty⟩
 have heq:∀u l,zEN W base u l->zEN w2 base u l:=by
  intro u l h
  refine h.keep (T:=fun b=>b<W.heap.size∧(b<base∨∃c f,W.heap[b]? =some (.cells c 29 f))) ⟨hg.os.trans hW1.os,hg.tape.trans hW1.tape,hg.output.trans hW1.output,Nat.le_trans hW1.size hg.size,fun k hk hT=>hgb 29 (by decide) k hT.2 hk⟩ fun b hb hty=>⟨hb,hty⟩
 refine⟨xs++[us,ur],by rw[List.length_append];exact ho',fun j hj=>?_⟩
 by_cases e:j<T.length
 ·obtain⟨us',ur',k1,k2,k3,k4⟩:=he j e
  refine⟨us',ur',by rw[List.getElem?_append_left (by omega)];exact k1,by rw[List.getElem?_append_left (by omega)];exact k2,?_,?_⟩
  ·rw[List.getElem_append_left e];exact hel _ _ k3
  ·rw[List.getElem_append_left e];exact heq _ _ k4
 ·have:j=T.length:=by simp at hj;omega
  subst this
  refine⟨us,ur,by rw[List.getElem?_append_right (by omega),hlen];simp,by rw[List.getElem?_append_right (by omega),hlen,show T.length*2+1-T.length*2=1 by omega];rfl,?_,?_⟩
  ·simp only[List.getElem_append_right (Nat.le_refl _),Nat.sub_self,List.getElem_cons_zero];exact hel _ _ h1
  ·simp only[List.getElem_append_right (Nat.le_refl _),Nat.sub_self,List.getElem_cons_zero];exact heq _ _ h2
def allF(M:Mask)(y:List Int):List FitT:=(allS (zAC M)).filterMap (fitF M y)
end
section
open Go.RowKit
def FitC(W:World)(S:Nat->Prop)(us ur:Value)(f:FitT):Prop:=
 ∃pa pn pc va vn vc,us=.slice pa pn pc∧ur=.slice va vn vc∧f.1.length=pn∧f.2.length=vn∧pn<=maxLen∧vn<=maxLen∧zAI W pa f.1∧zBE W va f.2∧
  (∀b o,pa=some ⟨b,o,none⟩->S b∧b<W.heap.size∧∃c z,W.heap[b]? =some (.cells c 3 z))∧(∀b o,va=some ⟨b,o,none⟩->S b∧b<W.heap.size∧∃c z,W.heap[b]? =some (.cells c 29 z))
theorem FitC.keep{W W':World}{S S' K:Nat->Prop}{us ur:Value}{f:FitT}(h:FitC W S us ur f)(hk:Keep K W W')(hS:∀b,S b->b<W.heap.size->(∃c T z,(T=3∨T=29)∧W.heap[b]? =some (.cells c T z))->K b∧S' b):FitC W' S' us ur f:=by
 obtain⟨pa,pn,pc,va,vn,vc,e1,e2,h1,h2,h3,h4,h5,h6,h7,h8⟩:=h
 have s7:∀b o,pa=some ⟨b,o,none⟩->K b∧S' b:=fun b o e=>by obtain⟨g1,g2,c,z,g3⟩:=h7 b o e;exact hS b g1 g2 ⟨c,_,z,.inl rfl,g3⟩
 have s8:∀b o,va=some ⟨b,o,none⟩->K b∧S' b:=fun b o e=>by obtain⟨g1,g2,c,z,g3⟩:=h8 b o e;exact hS b g1 g2 ⟨c,_,z,.inr rfl,g3⟩
 refine⟨pa,pn,pc,va,vn,vc,e1,e2,h1,h2,h3,h4,fun j hj=>?_,fun j hj=>?_,fun b o e=>?_,fun b o e=>?_⟩
 ·obtain⟨b,o,e,hlt,hc⟩:=h5 j hj
  exact⟨b,o,e,Nat.lt_of_lt_of_le hlt hk.size,hk.cell hc (s7 b o e).1⟩
 ·obtain⟨b,o,e,hlt,hc,hd⟩:=h6 j hj
  exact⟨b,o,e,Nat.lt_of_lt_of_le hlt hk.size,hk.cell hc (s8 b o e).1,hk.cell hd (s8 b o e).1⟩
 ·obtain⟨g1,g2,c,z,g3⟩:=h7 b o e
  exact⟨(s7 b o e).2,Nat.lt_of_lt_of_le g2 hk.size,c,z,(hk.block b g2 (s7 b o e).1).trans g3⟩
 ·obtain⟨g1,g2,c,z,g3⟩:=h8 b o e
  exact⟨(s8 b o e).2,Nat.lt_of_lt_of_le g2 hk.size,c,z,(hk.block b g2 (s8 b o e).1).trans g3⟩
def zCP(W:World)(base:Nat)(S:Nat->Prop)(v:Value)(T:List FitT):Prop:=
 ∃xs,W.ownsRow base 73 2 v T.length xs∧(∀k,v.ownBlock=some k->S k)∧∀j (hj:j<T.length),∃us ur,xs[j*2]? =some us∧xs[j*2+1]? =some ur∧FitC W S us ur T[j]
theorem zCP.nil(W:World)(base:Nat)(S:Nat->Prop):zCP W base S (.slice none 0 0) []:=⟨[],World.ownsRow_nil _ _ _ _,fun k hk=>by simp[Value.ownBlock]at hk,fun j hj=>by simp at hj⟩
theorem zCP.slice{W:World}{base:Nat}{S:Nat->Prop}{v:Value}{T:List FitT}(h:zCP W base S v T):∃a c,v=.slice a T.length c:=by
 obtain⟨xs,ho,_⟩:=h;exact zAD ho
theorem zCP.keep{W W':World}{base:Nat}{S S' K:Nat->Prop}{v:Value}{T:List FitT}(h:zCP W base S v T)(hk:Keep K W W')(hS:∀b,S b->b<W.heap.size->K b∧S' b):zCP W' base S' v T:=by
 obtain⟨xs,ho,hg,he⟩:=h
 refine⟨xs,⟨ho.1,?_⟩,fun k hk'=>?_,fun j hj=>?_⟩
 ·rcases ho.2 with hn|⟨g,cap,cur,rfl,hb,hgg,rest⟩
  ·exact .inl hn
  ·have hlt:=(Array.getElem?_eq_some_iff.1 hgg).1
   exact .inr ⟨g,cap,cur,rfl,hb,(hk.block g hlt (hS g (hg g rfl) hlt).1).trans hgg,rest⟩
 ·rcases ho.2 with⟨rfl,_⟩|⟨g,cap,cur,rfl,hb,hgg,rest⟩
  ·simp[Value.ownBlock]at hk'
  ·obtain rfl:g=k:=by simpa[Value.ownBlock]using hk'
   exact(hS g (hg g rfl) (Array.getElem?_eq_some_iff.1 hgg).1).2
 ·obtain⟨us,ur,h1,h2,h3⟩:=he j hj
  exact⟨us,ur,h1,h2,h3.keep hk fun b hb hlt _=>hS b hb hlt⟩
theorem zCP.below{W W':World}{base:Nat}{S:Nat->Prop}{v:Value}{T:List FitT}(h:zCP W base S v T)(hb:Below W.heap.size W W'):zCP W' base S v T:=
 h.keep (Keep.of_below hb:Keep (fun _=>True) _ _) (fun _ h _=>⟨trivial,h⟩)
theorem zCP.snoc{W w1 w2:World}{base:Nat}{S:Nat->Prop}{v v' us ur:Value}{T:List FitT}{t:FitT}{xs:List Value}
 (ho:W.ownsRow base 73 2 v T.length xs)(he:∀j (hj:j<T.length),∃us ur,xs[j*2]? =some us∧xs[j*2+1]? =some ur∧FitC W S us ur T[j])(h1:FitC W S us ur t)
 (hW1:Below W.heap.size W w1)(hg:w1.grownBy w2 v.ownBlock)(ho':w2.ownsRow base 73 2 v' (T.length+1) (xs++[us,ur]))(hS':∀k,v'.ownBlock=some k->S k):zCP w2 base S v' (T++[t]):=by
 have hlen:xs.length=T.length*2:=ho.1
 have hk:Keep (fun b=>some b≠v.ownBlock) W w2:=(Keep.of_below hW1).trans (Keep.grown hg)
 have hel:∀us ur f,FitC W S us ur f->FitC w2 S us ur f:=fun us ur f h=>h.keep hk fun b hb hlt ⟨c,E,z,hE,hh⟩=>by
  refine⟨?_,hb⟩
  rcases ho.2 with⟨rfl,_⟩|⟨g,cap,cur,rfl,hbg,hgg,_⟩
  ·simp[Value.ownBlock]
  ·intro e
   obtain rfl:b=g:=by simpa[Value.ownBlock]using e
   rw[hh]at hgg
   cases hgg
   rcases hE with h|h
   ·exact absurd h (by decide)
   ·exact absurd h (by decide)
 refine⟨xs++[us,ur],by rw[List.length_append];exact ho',hS',fun j hj=>?_⟩
 by_cases e:j<T.length
 ·obtain⟨us',ur',k1,k2,k3⟩:=he j e
  refine⟨us',ur',by rw[List.getElem?_append_left (by omega)];exact k1,by rw[List.getElem?_append_left (by omega)];exact k2,?_⟩
  rw[List.getElem_append_left e];exact hel _ _ _ k3
 ·have:j=T.length:=by simp at hj;omega
  subst this
  refine⟨us,ur,by rw[List.getElem?_append_right (by omega),hlen];simp,by rw[List.getElem?_append_right (by omega),hlen,show T.length*2+1-T.length*2=1 by omega];rfl,?_⟩
  simp only[List.getElem_append_right (Nat.le_refl _),Nat.sub_self,List.getElem_cons_zero]
  exact hel _ _ _ h1
theorem FitV.fitC{lo:Nat}{S S':Nat->Prop}{f:FitT}{us ur:Value}{W:World}(h:FitV lo S f (.agg #[us,ur]) W)(hS:∀b,lo<=b->b<W.heap.size->¬S b->S' b):FitC W S' us ur f:=by
 obtain⟨pa,pn,pc,va,vn,vc,e,h1,h2,h3,h4,h5,h6,h7,h8⟩:=h
 simp only[Value.agg.injEq,Array.mk.injEq,List.cons.injEq,and_true]at e
 obtain⟨rfl,rfl⟩:=e
 refine⟨pa,pn,pc,va,vn,vc,rfl,rfl,h1,h2,h3,h4,h5,h6,fun b o e=>?_,fun b o e=>?_⟩
 ·obtain⟨g1,g2,g3,g4⟩:=h7 b o e
  exact⟨hS b g1 g2 g3,g2,g4⟩
 ·obtain⟨g1,g2,g3,g4⟩:=h8 b o e
  exact⟨hS b g1 g2 g3,g2,g4⟩
end
end Go.Proofs.YtlffndehhhpgjaaGreat
