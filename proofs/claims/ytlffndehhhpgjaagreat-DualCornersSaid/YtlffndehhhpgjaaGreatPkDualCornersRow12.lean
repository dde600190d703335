/- Walks and plain laws for DualCornersRow, part 12. -/
import Derived.Test.YtlffndehhhpgjaaGreatPkDualCornersRow11
namespace Go.Proofs.YtlffndehhhpgjaaGreat
set_option linter.unusedVariables false
set_option linter.unusedSimpArgs false
set_option maxRecDepth 100000
set_option maxHeartbeats 4000000
section
open Go.RowKit
def ValB(x:List Rt):Prop:=∀k,1<=(zAB x k).2∧(zAB x k).2<=400∧ -10000000000<=(zAB x k).1∧(zAB x k).1<=10000000000
theorem zFY{x:List Rt}(h:x.all zAH=true):ValB x:=fun k=>by
 unfold zAB
 cases e:x[k]? with
 |none=>decide
 |some r=>
  have:=List.all_eq_true.1 h r (List.mem_of_getElem? e)
  rw[zAW]at this
  exact⟨this.1,this.2.1,this.2.2.1,this.2.2.2.1⟩
def sgL(x:List Rt):List Int:=x.map fun r=>if r.1<0 then-1 else 1
theorem sgL_one(x:List Rt):∀k,-1<=vec (sgL x) k∧vec (sgL x) k<=1:=fun k=>by
 unfold vec sgL
 rw[List.getElem?_map]
 cases x[k]? with
 |none=>decide
 |some r=>simp only[Option.map_some,Option.getD_some];split<;>decide
theorem nrm_sum(x:List Rt):∀k,k<=x.length->zCM x k=sumR (sgL x) x k
 |0,_=>rfl
 |k+1,h=>by
  have ih:=nrm_sum x k (by omega)
  have e:vec (sgL x) k=if (zAB x k).1<0 then-1 else 1:=by
   unfold vec sgL zAB
   rw[List.getElem?_map,List.getElem?_eq_getElem (by omega)];rfl
  have h0:vec (sgL x) k≠0:=by rw[e];split<;>decide
  have e2:(zAB x k).1*vec (sgL x) k=((zAB x k).1.natAbs:Int):=by rw[e];split<;>omega
  show((zCM x k).1*(zAB x k).2+(zCM x k).2*((zAB x k).1.natAbs:Int),(zCM x k).2*(zAB x k).2)=(if vec (sgL x) k≠0 then((sumR (sgL x) x k).1*(zAB x k).2+(sumR (sgL x) x k).2*((zAB x k).1*vec (sgL x) k),(sumR (sgL x) x k).2*(zAB x k).2)else sumR (sgL x) x k)
  rw[if_pos h0,ih,e2]
theorem zPG{x:List Rt}(hx:ValB x){k:Nat}(hk:k<=x.length)(h10:k<=10):(zCM x k).1.natAbs<=10485760000000000000000000000000000000∧1<=(zCM x k).2∧(zCM x k).2.natAbs<=104857600000000000000000000:=by
 rw[nrm_sum x k hk];exact zNR (sgL_one x) hx h10
def SumZ(w:World)(g:Nat):Prop:=w.heap[g]? =some (.cells #[.int .i64 0,.int .u64 0,.int .i64 0,.int .u64 0] 102 (0,0))
theorem SumZ.sumB{w:World}{g:Nat}(h:SumZ w g):SumB w g 0 0:=h
theorem dnorm_c(w:World)(a:Option Addr)(n cap:Nat)(x:List Rt)(hn:x.length=n)(hm:n<=10)(H:zBE w a x)(hx:ValB x):
 Calls Tryz.prog 82 #[.slice a n cap] w fun e w'=>e=.returned (sumV (nrmQ x).1 (nrmQ x).2)∧Below w.heap.size w w':=by
 have HQ:=hid (show nrmQ x=zCM x n by unfold nrmQ;rw[hn])
 have HXI:=hid (fun(X:World) (hX:Below w.heap.size w X)=>H.below hX)
 have HBD:=hid (fun j (hj:j<=n)=>zPG hx (by omega) (show j<=10 by omega))
 have HBD9:=hid (fun j (hj:j<n)=>(nrm_sum x j (by omega))▸sumR_bnd9 (sgL_one x) hx (show j<=9 by omega))
 have HXV:=hid hx
 have HN:=hid hn
 clear hn H hx
 go_enter Tryz.func82,Tryz.ntmps82
 go_wp2_with (go_at_call 95;refine(zLU _).mono ?_;rintro e w3 ⟨rfl,hb3⟩;refine Stop.of ?_)
 refine Stop.go ?_
 have hz:sumV 0 1=.agg #[.int .i64 0,.int .u64 0,.int .i64 0,.int .u64 1]:=by simp[sumV]
 rw[hz]
 clear hz
 obtain⟨r0,hr0⟩:=exq (w.heap.size)
 obtain⟨w0,hw0⟩:=exq (w.alloc (.cells #[.int .i64 0,.int .u64 0,.int .i64 0,.int .u64 0] 102))
 rw[<- hw0]at hb3
 have hZ0:SumZ w0 r0:=by rw[hw0,hr0];exact World.alloc_heap_new _ _
 have hb0:Below w.heap.size w w0:=by rw[hw0];exact(Below.refl _ _).alloc (Nat.le_refl _) _
 have hZ3:SumZ w3 r0:=(hb3.block _ hZ0.sumB.lt).trans hZ0
 have hbw3:=zAA hb0 hb3
 rw[<- hr0]
 go_wp2_with fail
 obtain⟨wb,hwb⟩:=exq (w3.alloc (.cells #[.int .i64 0,.int .u64 0,.int .i64 0,.int .u64 1] 102))
 obtain⟨g,hg⟩:=exq (w3.heap.size)
 have hsb:SumB wb g 0 1:=by rw[hwb,hg];exact SumB.made w3 ⟨by decide,by decide⟩ ⟨by decide,by decide⟩
 have hZb:SumZ wb r0:=by rw[hwb];exact(Below.heap_alloc _ _ _ hZ3.sumB.lt).trans hZ3
 have hbb:Below w.heap.size w wb:=by rw[hwb];exact hbw3.alloc hbw3.size _
 have hrg:r0<g:=by rw[hg];exact hZ3.sumB.lt
 rw[<- hwb,<- hg]
 have HSB:=hid hsb
 have HZB:=hid hZb
 have HBB:=hid hbb
 have HRG:=hid (show r0<g∧w.heap.size<=r0 from⟨hrg,by rw[hr0];exact Nat.le_refl _⟩)
 clear hwb hg hsb hZb hbb hrg hZ3 hbw3 hb0 hZ0 hw0 hr0 hb3
 go_loopw [9] (fun i wr=>∃t:Nat,t<=n∧i=.int .i64 t∧SumB wr g (zCM x t).1 (zCM x t).2∧SumZ wr r0∧Below w.heap.size w wr) (fun i _=>n-(intOf i).toNat)
 case atStart=>exact⟨0,Nat.zero_le _,rfl,HSB.out,HZB.out,HBB.out⟩
 case round=>
  obtain⟨t,ht,rfl,hsb,hzb,hbt⟩:=hrel
  by_cases htl:t<n
  ·obtain⟨bx,ox,rfl,hbx,hx0,hx1⟩:=(HXI.out wr hbt) t (by rw[HN.out];exact htl)
   have hxt:zAB x t=x[t]'(by rw[HN.out];exact htl):=by unfold zAB;rw[List.getElem?_eq_getElem (by rw[HN.out];exact htl)];rfl
   rw[<- hxt]at hx0 hx1
   have hsr:zCM x (t+1)=((zCM x t).1*(zAB x t).2+(zCM x t).2*((zAB x t).1.natAbs:Int),(zCM x t).2*(zAB x t).2):=rfl
   obtain⟨k1,k2,k3⟩:=HBD.out t (by omega)
   obtain⟨m1,m2,m3⟩:=HBD.out (t+1) (by omega)
   obtain⟨z1,z2⟩:=HBD9.out t htl
   obtain⟨x1,x2,x3,x4⟩:=HXV.out t
   rw[hsr]at m1 m2 m3
   have HSR:=hid hsr
   obtain⟨⟨N,D⟩,hND⟩:∃q,q=zAB x t:=⟨_,rfl⟩
   rw[<- hND]at hx0 hx1 m1 m2 m3 x1 x2 x3 x4 HSR
   obtain⟨⟨sn,sd⟩,hS⟩:∃q,q=zCM x t:=⟨_,rfl⟩
   rw[<- hS]at hsb k1 k2 k3 m1 m2 m3 z1 z2 HSR
   simp only[]at hx0 hx1 m1 m2 m3 x1 x2 x3 x4 HSR hsb k1 k2 k3 z1 z2
   obtain⟨A,hA⟩:∃A:Int,A=(N.natAbs:Int):=⟨_,rfl⟩
   rw[<- hA]at m1 HSR
   have e1:(sn*D).natAbs<=10485760000000000000000000000000000000:=by
    rw[Int.natAbs_mul]
    have:sn.natAbs*D.natAbs<=sn.natAbs*400:=Nat.mul_le_mul_left _ (by omega)
    omega
   have e2:(sd*(A*1)).natAbs<=104857600000000000000000000*10000000000:=by
    rw[Int.mul_one,Int.natAbs_mul]
    exact Nat.mul_le_mul k3 (by omega)
   have HPL:=hid (fun(X:World)=>zJT X sn sd A D 1 (by unfold B127;omega) (by unfold B127;omega) (by omega) (by omega) (by unfold B127;omega) (by unfold B127;omega) (by rw[Int.mul_one];unfold B127;omega) (by unfold B127;omega))
   rw[Int.mul_one]at HPL
   obtain⟨n1,n2,pn⟩:=WP.ex sn
   obtain⟨d1,d2,pd⟩:=WP.ex sd
   obtain⟨s1,s2,pS⟩:=WP.ex (sn*D+sd*A)
   obtain⟨q1,q2,pC⟩:=WP.ex (sd*D)
   rw[pn.sum pd,pS.sum pC]at HPL
   simp only[ratV]at HPL
   have HSS:=hid (fun(X:World) (hX:SumB X g sn sd)=>hX.set pS pC)
   have hcel:=hsb.cells pn pd
   have HPN:=hid (And.intro pn pd)
   have HSX:=hid hsb
   have HZX:=hid hzb
   have HBT:=hid hbt
   have HAN:=hid hA
   clear hsr hbx hxt hsb hzb hbt hcel pn pd pS pC hND hS hA m1 m2 m3 k1 k2 k3 z1 z2 e1 e2
   obtain⟨wx,hwx⟩:=exq (wr.alloc (.cells #[.int .i64 A,.int .i64 D] 29))
   have hbx:Below wr.heap.size wr wx:=by rw[hwx];exact(Below.refl _ _).alloc (Nat.le_refl _) _
   have hsx:=HSX.out.keep (hbx.block _ HSX.out.lt)
   obtain⟨c0,c1,c2,c3,c4⟩:=hsx.cells HPN.out.1 HPN.out.2
   have HWX:=hid hwx
   have HBX:=hid hbx
   have hA0:0<=A∧A<=10000000000:=by have:=HAN.out;omega
   have HIL:=hid (show(t:Int)<(n:Int)by omega)
   have htl2:(t:Int)<(n:Int):=HIL.out
   rw[hwx]at c0 c1 c2 c3 c4
   clear hwx hbx hsx
   have hcase:(N<0∧N= -A)∨(¬N<0∧N=A):=by have:=HAN.out;omega
   rcases hcase with⟨hneg,rfl⟩|⟨hneg,rfl⟩
   all_goals
    go_wp2_with (go_at_call 96;refine(HPL.out _).mono ?_;rintro e w4 ⟨rfl,hb4⟩;refine Stop.of ?_)
    refine Stop.go ?_
    rw[<- HWX.out]at hb4
    have hbt4:=zAA HBX.out hb4
    have hs4:=HSX.out.keep (hbt4.block _ HSX.out.lt)
    clear c0 c1 c2 c3 c4
    obtain⟨c0,c1,c2,c3,c4⟩:=hs4.cells HPN.out.1 HPN.out.2
    have f0:=c4 0
    have f1:=c4 1
    have f2:=c4 2
    have f3:=c4 3
    have HNS:=hid (HSS.out _ hs4)
    obtain⟨w5,hw5⟩:=exq ((((w4.setCell ⟨g,0,none⟩ (.int .i64 s1)).setCell ⟨g,1,none⟩ (.int .u64 s2)).setCell ⟨g,2,none⟩ (.int .i64 q1)).setCell ⟨g,3,none⟩ (.int .u64 q2))
    have HW5:=hid hw5
    have k5:Keep (fun b=>b≠g) w4 w5:=by rw[hw5];exact(((Keep.set w4 g 0 _).trans (Keep.set _ g 1 _)).trans (Keep.set _ g 2 _)).trans (Keep.set _ g 3 _)
    have HK5:=hid k5
    have HB4:=hid hbt4
    clear hw5 k5 hbt4 hb4 hs4
    go_wp2
    rw[<- HW5.out]
    refine⟨⟨t+1,by omega,by go_num,?_,?_,?_⟩,by simp[intOf];omega⟩
    ·rw[HSR.out]
     have:=HNS.out
     rw[<- HW5.out]at this
     exact this
    ·exact(HK5.out.block r0 (Nat.lt_of_lt_of_le HZX.out.sumB.lt HB4.out.size) (by have:=HRG.out.1;omega)).trans ((HB4.out.block r0 HZX.out.sumB.lt).trans HZX.out)
    ·exact HK5.out.below (zAA HBT.out HB4.out) (Nat.le_trans HBT.out.size HB4.out.size) fun b hb=>by have:=HRG.out;omega
  ·obtain rfl:t=n:=by omega
   obtain⟨n1,n2,pn⟩:=WP.ex (zCM x t).1
   obtain⟨d1,d2,pd⟩:=WP.ex (zCM x t).2
   obtain⟨c0,c1,c2,c3,c4⟩:=hsb.cells pn pd
   have z0:wr.cell? ⟨r0,0,none⟩=some (.int .i64 0):=by simp[World.cell?,show wr.heap[r0]? =_ from hzb]
   have z1:wr.cell? ⟨r0,1,none⟩=some (.int .u64 0):=by simp[World.cell?,show wr.heap[r0]? =_ from hzb]
   have z2:wr.cell? ⟨r0,2,none⟩=some (.int .i64 0):=by simp[World.cell?,show wr.heap[r0]? =_ from hzb]
   have z3:wr.cell? ⟨r0,3,none⟩=some (.int .u64 0):=by simp[World.cell?,show wr.heap[r0]? =_ from hzb]
   have y0:∀o,wr.frozen? ⟨r0,o,none⟩=false:=fun o=>by simp[World.frozen?,show wr.heap[r0]? =_ from hzb]
   have y1:=y0 0
   have y2:=y0 1
   have y3:=y0 2
   have y4:=y0 3
   have hr0:=hzb.sumB.lt
   obtain⟨w5,hw5⟩:=exq ((((wr.setCell ⟨r0,0,none⟩ (.int .i64 n1)).setCell ⟨r0,1,none⟩ (.int .u64 n2)).setCell ⟨r0,2,none⟩ (.int .i64 d1)).setCell ⟨r0,3,none⟩ (.int .u64 d2))
   have hs5:SumB w5 r0 (zCM x t).1 (zCM x t).2:=by rw[hw5];exact hzb.sumB.set pn pd
   have HB5:=hid (show Below w.heap.size w w5 by rw[hw5];exact zAG (zAG (zAG (zAG hbt HRG.out.2 _ _) HRG.out.2 _ _) HRG.out.2 _ _) HRG.out.2 _ _)
   obtain⟨g0,g1,g2,g3,_⟩:=hs5.cells pn pd
   have HW5:=hid hw5
   have HSV:=hid (show sumV (nrmQ x).1 (nrmQ x).2=.agg #[.int .i64 n1,.int .u64 n2,.int .i64 d1,.int .u64 d2]by rw[HQ.out,pn.sum pd])
   have hni:¬(t:Int)<(t:Int):=by omega
   clear hsb hzb hbt hw5 hs5 pn pd
   go_wp2
   rw[<- HW5.out]
   refine bodyPost_ret (v:=.agg #[.int .i64 n1,.int .u64 n2,.int .i64 d1,.int .u64 d2]) ?_ rfl ⟨by rw[HSV.out],HB5.out⟩
   simp[results,Tryz.results82,go_sem,g0,g1,g2,g3]
end
section
def nrmS(x:List Rt):Nat->Int×Int
 |0=>(0,1)
 |k+1=>if (zAB x k).1≠0 then((nrmS x k).1*(zAB x k).2+((zAB x k).1.natAbs:Int)*(nrmS x k).2,(nrmS x k).2*(zAB x k).2)else nrmS x k
theorem nrmS_pos{x:List Rt}(h:∀k,0<(zAB x k).2):∀k,0<(nrmS x k).2∧0<=(nrmS x k).1
 |0=>by simp[nrmS]
 |k+1=>by
  have ih:=nrmS_pos h k
  have hk:=h k
  rw[nrmS]
  split
  ·exact⟨Int.mul_pos ih.1 hk,Int.add_nonneg (Int.mul_nonneg ih.2 (by omega)) (Int.mul_nonneg (by omega) (by omega))⟩
  ·exact ih
theorem zNJ{M:Mask}(hc:zAC M<=10)(y:List Int):allF M y=zBM M y 10:=by
 have h:=fits_same M y 10
 have e:fitsR M y ((10:Nat):Int)=allF M y:=by
  unfold fitsR
  rw[List.filter_eq_self]
  intro f hf
  have:=(zKN hf).2.2
  simp;omega
 rw[<- e];exact h
theorem zOB(n:Nat):∀k,(lvls n k).Nodup∧∀x∈lvls n k,x.length<=k
 |0=>⟨zHM n 0 0,fun x hx=>Nat.le_of_eq (zDD n 0 0 x hx)⟩
 |k+1=>by
  obtain⟨h1,h2⟩:=zOB n k
  rw[lvls]
  refine⟨?_,fun x hx=>?_⟩
  ·rw[List.nodup_append]
   refine⟨h1,zHM n (k+1) 0,?_⟩
   rintro x hx y hy rfl
   have:=h2 x hx
   have:=zDD n (k+1) 0 x hy
   omega
  ·rcases List.mem_append.1 hx with h|h
   ·have:=h2 x h;omega
   ·exact Nat.le_of_eq (zDD n (k+1) 0 x h)
theorem allS_nodup(n:Nat):(allS n).Nodup:=(zOB n n).1
theorem fits_nodup{M:Mask}{y:List Int}(hM:okM M=true):((zBM M y 10).map (·.1)).Nodup:=by
 obtain⟨_,_,_,_,hc10⟩:=zDJ hM
 rw[<- zNJ hc10]
 unfold allF
 have h1:((allS (zAC M)).filterMap (fitF M y)).map (·.1)=(allS (zAC M)).filter (fun S=>(fitF M y S).isSome):=by
  induction allS (zAC M)with
  |nil=>rfl
  |cons S l ih=>
   cases h:fitF M y S with
   |none=>rw[List.filterMap_cons_none h,List.filter_cons_of_neg (by simp[h]),ih]
   |some f=>rw[List.filterMap_cons_some h,List.filter_cons_of_pos (by simp[h]),List.map_cons,ih,(zJC h).1]
 rw[h1]
 exact(List.filter_sublist).nodup (allS_nodup _)
end
section
def valF(M:Mask)(y:List Int):Rt:=(zBL (zBM M y 10)).1
theorem zHJ{M:Mask}{y:List Int}(hM:okM M=true)(hy:y.length=M.length)(hmil:milB y=true):∀f∈zBM M y 10,0<(nrmQ f.2).2∧zAH (zBA f)=true:=fun f hf=>by
 obtain⟨_,_,_,_,h1,h2,_⟩:=zEP hM hy hmil hf
 exact⟨h1,h2⟩
theorem zMQ{f:FitT}(h:0<(nrmQ f.2).2):(zBA f).1*(nrmQ f.2).2=(nrmQ f.2).1*(zBA f).2∧0<(zBA f).2:=by
 obtain⟨g,a,b,e,hg,hb,e1,e2,_⟩:=zFV (n:=(nrmQ f.2).1) h
 unfold zBA
 rw[e]
 refine⟨?_,hb⟩
 show a*(nrmQ f.2).2=(nrmQ f.2).1*b
 rw[e1,e2];grind
structure OptN (M:Mask) (y:List Int) (v:Rt):Prop where
 valid:zAH v=true
 le:∀(l:Nat->Int) (D:Int),SolM M (zAC M) y l D->v.1*D<=nrmI l (zAC M)*v.2
 at_:∃(l:Nat->Int) (D:Int),SolM M (zAC M) y l D∧v.1*D=nrmI l (zAC M)*v.2
theorem OptN.pos{M:Mask}{y:List Int}{v:Rt}(h:OptN M y v):0<v.2:=by have:=zAW.1 h.valid;omega
theorem opt_of_fits{M:Mask}{y:List Int}(hM:okM M=true)(hy:y.length=M.length)(hmil:milB y=true)(hne:zBM M y 10≠[]):OptN M y (valF M y):=by
 have hv:=zHJ hM hy hmil
 obtain⟨_,h2⟩:=zFR (zBM M y 10) (fun f hf=>(hv f hf).2)
 obtain⟨_,⟨f,hf,ef⟩,hle,_⟩:=h2 hne
 have hvf:=hv f hf
 have hnv:=zMQ hvf.1
 have pv:0<(valF M y).2:=by unfold valF;rw[ef];exact hnv.2
 refine⟨by unfold valF;rw[ef];exact hvf.2,fun l D hl=>?_,?_⟩
 ·obtain⟨g,hg,pg,hgl⟩:=zOD hM hy hmil hl
  have h1:=hle g hg
  have hng:=zMQ pg
  have h3:(valF M y).1*(nrmQ g.2).2<=(nrmQ g.2).1*(valF M y).2:=by
   have a1:(valF M y).1*(zBA g).2*(nrmQ g.2).2<=(zBA g).1*(valF M y).2*(nrmQ g.2).2:=Int.mul_le_mul_of_nonneg_right h1 (by omega)
   have a2:(zBA g).1*(valF M y).2*(nrmQ g.2).2=(nrmQ g.2).1*(valF M y).2*(zBA g).2:=by
    have:(zBA g).1*(valF M y).2*(nrmQ g.2).2=(zBA g).1*(nrmQ g.2).2*(valF M y).2:=by grind
    rw[this,hng.1];grind
   have a3:(valF M y).1*(nrmQ g.2).2*(zBA g).2<=(nrmQ g.2).1*(valF M y).2*(zBA g).2:=by
    have:(valF M y).1*(nrmQ g.2).2*(zBA g).2=(valF M y).1*(zBA g).2*(nrmQ g.2).2:=by grind
    omega
   exact Int.le_of_mul_le_mul_right a3 hng.2
  have h4:(valF M y).1*(nrmQ g.2).2*D<=(nrmQ g.2).1*(valF M y).2*D:=Int.mul_le_mul_of_nonneg_right h3 (by have:=hl.1;omega)
  have h5:(nrmQ g.2).1*D*(valF M y).2<=nrmI l (zAC M)*(nrmQ g.2).2*(valF M y).2:=Int.mul_le_mul_of_nonneg_right hgl (by omega)
  have h6:(valF M y).1*D*(nrmQ g.2).2<=nrmI l (zAC M)*(valF M y).2*(nrmQ g.2).2:=by
   have e1:(valF M y).1*D*(nrmQ g.2).2=(valF M y).1*(nrmQ g.2).2*D:=by grind
   have e2:(nrmQ g.2).1*(valF M y).2*D=(nrmQ g.2).1*D*(valF M y).2:=by grind
   have e3:nrmI l (zAC M)*(valF M y).2*(nrmQ g.2).2=nrmI l (zAC M)*(nrmQ g.2).2*(valF M y).2:=by grind
   omega
  exact Int.le_of_mul_le_mul_right h6 pg
 ·obtain⟨_,_,_,_,_,_,_,l,D,hl,_,_,_,hn⟩:=zEP hM hy hmil hf
  refine⟨l,D,hl,?_⟩
  have e1:(valF M y).1*(nrmQ f.2).2=(nrmQ f.2).1*(valF M y).2:=by unfold valF;rw[ef];exact hnv.1
  have e2:(valF M y).1*D*(nrmQ f.2).2=nrmI l (zAC M)*(valF M y).2*(nrmQ f.2).2:=by
   have a1:(valF M y).1*D*(nrmQ f.2).2=(valF M y).1*(nrmQ f.2).2*D:=by grind
   have a2:(nrmQ f.2).1*(valF M y).2*D=(nrmQ f.2).1*D*(valF M y).2:=by grind
   rw[a1,e1,a2,hn];grind
  exact Int.eq_of_mul_eq_mul_right (by have:=hvf.1;omega) e2
theorem fits_iff{M:Mask}{y:List Int}(hM:okM M=true)(hy:y.length=M.length)(hmil:milB y=true):zBM M y 10≠[]↔∃(l:Nat->Int) (D:Int),SolM M (zAC M) y l D:=by
 constructor
 ·intro h
  obtain⟨f,t,e⟩:=List.exists_cons_of_ne_nil h
  obtain⟨_,_,_,_,_,_,_,l,D,hl,_⟩:=zEP hM hy hmil (show f∈zBM M y 10 by rw[e];simp)
  exact⟨l,D,hl⟩
 ·rintro⟨l,D,hl⟩ e
  obtain⟨f,hf,_⟩:=zOD hM hy hmil hl
  rw[e]at hf;cases hf
theorem zKB(t:Int)(l:Nat->Int):∀n,nrmI (fun j=>t*l j) n=(t.natAbs:Int)*nrmI l n
 |0=>by simp[nrmI,sm]
 |n+1=>by
  have ih:=zKB t l n
  show nrmI (fun j=>t*l j) n+((t*l n).natAbs:Int)=(t.natAbs:Int)*(nrmI l n+((l n).natAbs:Int))
  rw[ih,Int.natAbs_mul,Int.natCast_mul,Int.mul_add]
theorem nrmI_add(l m:Nat->Int):∀n,nrmI (fun j=>l j+m j) n<=nrmI l n+nrmI m n
 |0=>by simp[nrmI,sm]
 |n+1=>by
  have ih:=nrmI_add l m n
  show nrmI (fun j=>l j+m j) n+((l n+m n).natAbs:Int)<=(nrmI l n+((l n).natAbs:Int))+(nrmI m n+((m n).natAbs:Int))
  omega
end
section
open Go.RowKit
def backB(md:Region.Mode)(ops:Array Oper):Bool:=(List.range ops.size).all fun i=>match ops[i]? with|some o=>o.after.toList.all (fun e=>!Region.binds md e||decide (e.on<i))|none=>true
def openC(listed:Array Bool):Nat:=listed.toList.countP (fun b=>!b)
theorem openC_set{listed:Array Bool}{i:Nat}(h:listed.getD i true=false):openC (listed.setIfInBounds i true)+1=openC listed:=by
 unfold openC
 have hi:i<listed.size:=by
  rcases Nat.lt_or_ge i listed.size with c|c
  ·exact c
  ·simp[c]at h
 have hf:listed.toList[i]'(by simpa using hi)=false:=by simpa[hi]using h
 rw[Array.toList_setIfInBounds]
 have e:listed.toList=listed.toList.take i++false::listed.toList.drop (i+1):=by
  conv=>lhs;rw[<- List.take_append_drop i listed.toList]
  rw[List.drop_eq_getElem_cons (by simpa using hi),hf]
 have e2:listed.toList.set i true=listed.toList.take i++true::listed.toList.drop (i+1):=by
  rw[List.set_eq_take_append_cons_drop,if_pos (by simpa using hi)]
 rw[e2]
 conv=>rhs;rw[e]
 rw[List.countP_append,List.countP_append,List.countP_cons,List.countP_cons]
 simp
 omega
theorem AnyT.inv{P:Program}{md:Region.Mode}{ops:Array Oper}{Q:Exit->Act->World->Prop}{a0:Act}{w0:World}(I:Act->World->(Nat->Bool)->Act->World->Prop)(hb:backB md ops=true)
 (hstep:∀(L:Nat->Bool) (a:Act) (w:World) (i:Nat) (o:Oper),ops[i]? =some o->L i=false->(∀e∈o.after.toList,Region.binds md e=true->L e.on=true)->I a0 w0 L a w->wpOp P ops Q i (fun a' w'=>True∧I a0 w0 (fun j=>decide (j=i)||L j) a' w') a w)
 (hdone:∀(L:Nat->Bool) (a:Act) (w:World),(∀j,j<ops.size->L j=true)->I a0 w0 L a w->Q .normal a w):
 ∀(fuel:Nat) (listed:Array Bool) (a:Act) (w:World),listed.size=ops.size->openC listed<=fuel->I a0 w0 (fun j=>listed.getD j true) a w->AnyT P md ops Q (fun _ _=>True) fuel listed a w:=by
 have hall:∀listed:Array Bool,listed.size=ops.size->Region.ready md ops listed=[]->∀j,j<ops.size->listed.getD j true=true:=by
  intro listed hs hr j
  induction j using Nat.strongRecOn with
  |ind j ih=>
   intro hj
   rcases Bool.eq_false_or_eq_true (listed.getD j true)with c|c
   ·exact c
   ·exfalso
    have hm:j∈Region.ready md ops listed:=by
     refine mem_ready.2 ⟨c,ops[j],Array.getElem?_eq_getElem hj,fun x hx hbx=>?_⟩
     have h1:=List.all_eq_true.1 hb j (List.mem_range.2 hj)
     rw[Array.getElem?_eq_getElem hj]at h1
     have h2:=List.all_eq_true.1 h1 x (by simpa using hx)
     rw[hbx]at h2
     have h3:x.on<j:=by simpa using h2
     have h4:=ih x.on h3 (by omega)
     have h5:x.on<listed.size:=by omega
     simpa[h5]using h4
    rw[hr]at hm;cases hm
 intro fuel
 induction fuel with
 |zero=>
  intro listed a w hs hc hI
  have hr:Region.ready md ops listed=[]:=by
   rcases h:Region.ready md ops listed with _|⟨i,l⟩
   ·rfl
   ·exfalso
    have:=(mem_ready.1 (show i∈Region.ready md ops listed by rw[h];simp)).1
    have:=openC_set this
    omega
  exact⟨hr,hdone _ a w (hall listed hs hr) hI⟩
 |succ fuel ih=>
  intro listed a w hs hc hI
  refine⟨fun hr=>hdone _ a w (hall listed hs hr) hI,fun i hi=>?_⟩
  obtain⟨hun,o,ho,hd⟩:=mem_ready.1 hi
  have h1:=openC_set hun
  refine wpOp_mono (fun a' w' h=>⟨trivial,ih _ a' w' (by simpa using hs) (by omega) ?_⟩) (hstep _ a w i o ho hun (fun e he hbe=>?_) hI)
  ·have h2:=h.2
   have:(fun j=>(listed.setIfInBounds i true).getD j true)=(fun j=>decide (j=i)||listed.getD j true):=by
    funext j
    by_cases e:j=i
    ·subst e
     by_cases c:j<listed.size<;>simp[c]
    ·have:(listed.setIfInBounds i true).getD j true=listed.getD j true:=getD_set_ne true (fun h=>e h.symm)
     rw[this];simp[e]
   rw[this];exact h2
  ·have h3:=hd e (by simpa using he) hbe
   by_cases c:e.on<listed.size
   ·simpa[c]using h3
   ·simp[c]
theorem openC_le(listed:Array Bool):openC listed<=listed.size:=by unfold openC;simpa using List.countP_le_length (l:=listed.toList) (p:=fun b=>!b)
theorem AnyT.inv0{P:Program}{md:Region.Mode}{ops:Array Oper}{Q:Exit->Act->World->Prop}{a0:Act}{w0:World}(I:Act->World->(Nat->Bool)->Act->World->Prop)(hb:backB md ops=true)
 (hstep:∀(L:Nat->Bool) (a:Act) (w:World) (i:Nat) (o:Oper),ops[i]? =some o->L i=false->(∀e∈o.after.toList,Region.binds md e=true->L e.on=true)->I a0 w0 L a w->wpOp P ops Q i (fun a' w'=>True∧I a0 w0 (fun j=>decide (j=i)||L j) a' w') a w)
 (hdone:∀(L:Nat->Bool) (a:Act) (w:World),(∀j,j<ops.size->L j=true)->I a0 w0 L a w->Q .normal a w)(h0:∀L:Nat->Bool,(∀j,j<ops.size->L j=false)->I a0 w0 L a0 w0):
 AnyT P md ops Q (fun _ _=>True) ops.size (Array.replicate ops.size false) a0 w0:=
 AnyT.inv I hb hstep hdone _ _ a0 w0 (by simp) (by have:=openC_le (Array.replicate ops.size false);simpa using this) (h0 _ (fun j hj=>by simp[hj]))
end
section
open Go.RowKit
def zDG(a:Act)(L:List Tmp)(f:Tmp->Value):Act:=L.foldl (fun a d=>a.put (some d) (f d)) a
theorem zOG:∀(L:List Tmp) (a:Act) (f:Tmp->Value),(zDG a L f).tmps.size=a.tmps.size
 | [],a,f=>rfl
 |d::L,a,f=>by
  show(zDG (a.put (some d) (f d)) L f).tmps.size=_
  rw[zOG L];simp[Act.put]
theorem zFE:∀(L:List Tmp) (a:Act) (f:Tmp->Value),(zDG a L f).defers=a.defers
 | [],a,f=>rfl
 |d::L,a,f=>by
  show(zDG (a.put (some d) (f d)) L f).defers=_
  rw[zFE L];rfl
theorem zGW:∀(L:List Tmp) (a:Act) (f:Tmp->Value) (t:Nat),(zDG a L f).tmps[t]? =if t∈L∧t<a.tmps.size then some (f t)else a.tmps[t]?
 | [],a,f,t=>by simp[zDG]
 |d::L,a,f,t=>by
  show(zDG (a.put (some d) (f d)) L f).tmps[t]? =_
  rw[zGW L]
  have hs:(a.put (some d) (f d)).tmps.size=a.tmps.size:=by simp[Act.put]
  have hg:(a.put (some d) (f d)).tmps[t]? =if d=t then(if d<a.tmps.size then some (f d)else none)else a.tmps[t]? :=by
   show(a.tmps.setIfInBounds d (f d))[t]? =_
   rw[Array.getElem?_setIfInBounds]
  rw[hs,hg]
  by_cases h2:t<a.tmps.size
  ·by_cases h1:t∈L
   ·rw[if_pos ⟨h1,h2⟩,if_pos ⟨by simp[h1],h2⟩]
   ·rw[if_neg (fun h=>h1 h.1)]
    by_cases h3:d=t
    ·subst h3;rw[if_pos rfl,if_pos h2,if_pos ⟨by simp,h2⟩]
    ·rw[if_neg h3,if_neg (fun h=>by rcases List.mem_cons.1 h.1 with e|e;exact h3 e.symm;exact h1 e)]
  ·have e0:a.tmps[t]? =none:=Array.getElem?_eq_none (by omega)
   rw[if_neg (fun h=>h2 h.2)]
   have e1:(if t∈d::L∧t<a.tmps.size then some (f t)else a.tmps[t]?)=a.tmps[t]? :=if_neg (fun h=>h2 h.2)
   rw[e1,e0]
   by_cases h3:d=t
   ·subst h3;rw[if_pos rfl,if_neg h2]
   ·rw[if_neg h3]
theorem act_ext{a b:Act}(h1:∀t:Nat,a.tmps[t]? =b.tmps[t]?)(h2:a.defers=b.defers):a=b:=by
 obtain⟨at1,ad⟩:=a
 obtain⟨bt,bd⟩:=b
 have:at1=bt:=Array.ext_getElem? h1
 subst this
 have:ad=bd:=h2
 subst this
 rfl
def updF(f:Tmp->Value)(d:Tmp)(v:Value):Tmp->Value:=fun t=>if t=d then v else f t
theorem updF_same(f:Tmp->Value)(d:Tmp)(v:Value):updF f d v d=v:=by simp[updF]
theorem updF_ne{f:Tmp->Value}{d t:Tmp}{v:Value}(h:t≠d):updF f d v t=f t:=by simp[updF,h]
theorem fillA_put{a:Act}{L:List Tmp}{f:Tmp->Value}{d:Tmp}{v:Value}(hd:d∈L):(zDG a L f).put (some d) v=zDG a L (updF f d v):=by
 refine act_ext (fun t=>?_) ?_
 ·show((zDG a L f).tmps.setIfInBounds d v)[t]? =_
  rw[Array.getElem?_setIfInBounds,zOG,zGW,zGW]
  by_cases e:d=t
  ·subst e
   rw[if_pos rfl,updF_same]
   by_cases h2:d<a.tmps.size
   ·simp[hd,h2]
   ·simp[h2]
  ·rw[if_neg e,updF_ne (fun h=>e h.symm)]
 ·show(zDG a L f).defers=_
  rw[zFE,zFE]
theorem fillA_self(a:Act)(L:List Tmp):zDG a L (fun t=>a.tmps.getD t undef)=a:=by
 refine act_ext (fun t=>?_) (zFE _ _ _)
 rw[zGW]
 split
 ·rename_i h
  simp[h.2]
 ·rfl
def zAE(a:Act)(L:List Tmp)(f:Tmp->Value):Operand->Value
 | .tmp t=>if t∈L∧t<a.tmps.size then f t else a.eval (.tmp t)
 |x=>a.eval x
theorem fillA_eval(a:Act)(L:List Tmp)(f:Tmp->Value):(zDG a L f).eval=zAE a L f:=by
 funext x
 cases x with
 |tmp t=>
  have h:=zGW L a f t
  show(zDG a L f).tmps.getD t undef=if t∈L∧t<a.tmps.size then f t else a.tmps.getD t undef
  rw[Array.getD_eq_getD_getElem?,h]
  split
  ·rfl
  ·rw[Array.getD_eq_getD_getElem?]
 |const v=>rfl
 |«global» g=>rfl
 |func f=>rfl
def zAO(P:Program)(o:Oper)(ev:Operand->Value)(w:World)(K:Value->World->Prop):Prop:=
 o.guard=none∧((∃v w',(execOp ev o).run P w=.ok (.value v) w'∧K v w')∨(∃w',(execOp ev o).run P w=.ok .skip w'∧K undef w')∨
  (∃g args w',(execOp ev o).run P w=.ok (.enter g args) w'∧Calls P g args w' fun e w''=>∃v,e=.returned v∧K v w''))
theorem zAO.val{P:Program}{o:Oper}{ev:Operand->Value}{w w':World}{K:Value->World->Prop}{v:Value}(hg:o.guard=none)(h:(execOp ev o).run P w=.ok (.value v) w')(hK:K v w'):zAO P o ev w K:=⟨hg,.inl ⟨v,w',h,hK⟩⟩
theorem zAO.skip{P:Program}{o:Oper}{ev:Operand->Value}{w w':World}{K:Value->World->Prop}(hg:o.guard=none)(h:(execOp ev o).run P w=.ok .skip w')(hK:K undef w'):zAO P o ev w K:=⟨hg,.inr (.inl ⟨w',h,hK⟩)⟩
theorem zAO.call{P:Program}{o:Oper}{ev:Operand->Value}{w w':World}{K:Value->World->Prop}{g:FuncId}{args:Array Value}(hg:o.guard=none)(h:(execOp ev o).run P w=.ok (.enter g args) w')(hK:Calls P g args w' fun e w''=>∃v,e=.returned v∧K v w''):zAO P o ev w K:=⟨hg,.inr (.inr ⟨g,args,w',h,hK⟩)⟩
def setF(o:Oper)(f:Tmp->Value)(v:Value):Tmp->Value:=match o.dst with|some d=>updF f d v|none=>f
def dstIn(ops:Array Oper)(L:List Tmp):Bool:=ops.toList.all fun o=>match o.dst with|some d=>L.contains d|none=>true
theorem AnyT.regF{P:Program}{md:Region.Mode}{ops:Array Oper}{Q:Exit->Act->World->Prop}{a0:Act}{w0:World}(L:List Tmp)(J:(Nat->Bool)->(Tmp->Value)->World->Prop)(hb:backB md ops=true)
 (hLb:dstIn ops L=true)
 (hstep:∀(l:Nat->Bool) (f:Tmp->Value) (w:World) (i:Nat) (o:Oper),ops[i]? =some o->l i=false->(∀e∈o.after.toList,Region.binds md e=true->l e.on=true)->J l f w->zAO P o (zAE a0 L f) w (fun v w'=>J (fun j=>decide (j=i)||l j) (setF o f v) w'))
 (hdone:∀(l:Nat->Bool) (f:Tmp->Value) (w:World),(∀j,j<ops.size->l j=true)->J l f w->Q .normal (zDG a0 L f) w)
 (h0:∀(l:Nat->Bool) (f:Tmp->Value),(∀j,j<ops.size->l j=false)->J l f w0):AnyT P md ops Q (fun _ _=>True) ops.size (Array.replicate ops.size false) a0 w0:=by
 have hL:∀(i:Nat) (o:Oper),ops[i]? =some o->∀d,o.dst=some d->d∈L:=fun i o ho d hd=>by
  obtain⟨hlt,hk⟩:=Array.getElem?_eq_some_iff.1 ho
  have h1:=List.all_eq_true.1 hLb o (by rw[<- hk];simp)
  rw[hd]at h1
  simpa using h1
 refine AnyT.inv0 (fun a0 w0 l a w=>∃f,a=zDG a0 L f∧J l f w) hb ?_ ?_ ?_
 ·rintro l a w i o ho hi hd ⟨f,rfl,hJ⟩
  obtain⟨hg,hs⟩:=hstep l f w i o ho hi hd hJ
  have hput:∀v,(zDG a0 L f).put o.dst v=zDG a0 L (setF o f v):=fun v=>by
   unfold setF
   cases e:o.dst with
   |none=>rfl
   |some d=>exact fillA_put (hL i o ho d e)
  unfold wpOp
  simp only[ho]
  have hw:Region.wanted o (yielded ops (zDG a0 L f).tmps)=true:=by unfold Region.wanted;rw[hg]
  rw[if_pos hw]
  refine .inl ?_
  unfold Oper.wp
  rw[fillA_eval]
  rcases hs with⟨v,w',h,hK⟩|⟨w',h,hK⟩|⟨g,args,w',h,hK⟩
  ·rw[h]
   show True∧∃f',_=zDG a0 L f'∧_
   exact⟨trivial,_,hput v,hK⟩
  ·rw[h]
   show True∧∃f',_=zDG a0 L f'∧_
   exact⟨trivial,_,hput _,hK⟩
  ·rw[h]
   show Calls P g args w' _
   refine hK.mono ?_
   rintro e w'' ⟨v,rfl,hK⟩
   exact⟨trivial,_,hput v,hK⟩
 ·rintro l a w hall ⟨f,rfl,hJ⟩
  exact hdone l f w hall hJ
 ·intro l hl
  exact⟨_,(fillA_self a0 L).symm,h0 l _ hl⟩
theorem zDU{P:Program}{md:Region.Mode}{ops:Array Oper}{Q:Exit->Act->World->Prop}{T:Nat->World->Prop}{fuel:Nat}{listed:Array Bool}{a:Act}{w:World}(h:∀a0,a0=a->AnyT P md ops Q T fuel listed a0 w):AnyT P md ops Q T fuel listed a w:=h a rfl
end
section
open Go.RowKit
theorem zOU(w:World)(n d:Int)(hn: -170141183460469231731687303715884105728<n∧n<170141183460469231731687303715884105728)(hd:0<d∧d<166153499473114484112975882535043072):
 Calls Tryz.prog 83 #[sumV n d] w fun e w'=>RatioR n d e∧Below w.heap.size w w':=by
 obtain⟨N,hN⟩:∃N:Int,N=(n.natAbs:Int):=⟨_,rfl⟩
 obtain⟨n1,n2,pn⟩:=WP.ex n
 obtain⟨d1,d2,pd⟩:=WP.ex d
 obtain⟨m1,m2,pm⟩:=WP.ex N
 obtain⟨q1,q2,pq⟩:=WP.ex (N/d)
 obtain⟨r1,r2,pr⟩:=WP.ex (N%d)
 have HSG:=hid (show ∀X:World,Calls Tryz.prog 148 #[.agg #[.int .i64 n1,.int .u64 n2]] X fun e w'=>e=.returned (.int .i64 (cmpI n 0))∧Below X.heap.size X w' from fun X=>by
  have:=zJO X n hn
  rw[pn.val]at this;exact this)
 have HOP:=hid (show n<0->∀X:World,Calls Tryz.prog 149 #[.agg #[.int .i64 n1,.int .u64 n2]] X fun e w'=>e=.returned (.agg #[.int .i64 m1,.int .u64 m2])∧Below X.heap.size X w' from fun h X=>by
  have:=zLV X n hn
  rw[pn.val,show-n=N by omega,pm.val]at this;exact this)
 have HOV:=hid (show ∀X:World,Calls Tryz.prog 150 #[.agg #[.int .i64 m1,.int .u64 m2],.agg #[.int .i64 d1,.int .u64 d2]] X fun e w'=>e=.returned (.tuple #[.agg #[.int .i64 q1,.int .u64 q2],.agg #[.int .i64 r1,.int .u64 r2]])∧Below X.heap.size X w' from fun X=>by
  have:=zOR X N d (by omega) (by omega)
  rw[pm.val,pd.val,pq.val,pr.val]at this;exact this)
 have hmn:¬n<0->m1=n1∧m2=n2:=fun h=>by
  have e:N=n:=by omega
  rw[pm.1,pm.2,pn.1,pn.2,e];exact⟨rfl,rfl⟩
 rw[pn.sum pd]
 obtain⟨s,hs⟩:=exq (w.heap.size)
 obtain⟨wz,hwz⟩:=exq (((w.alloc (.cells #[.int .i64 n1,.int .u64 n2,.int .i64 d1,.int .u64 d2] 102)).alloc (.cells #[.int .i64 0,.int .i64 0] 29)).alloc (.cells #[.int .i64 n1,.int .u64 n2] 100))
 have hsz:wz.heap.size=s+3:=by rw[hwz,hs];simp
 have SZ:SumB wz s n d:=by
  rw[hwz,hs]
  exact((SumB.made w pn pd).keep (Below.heap_alloc _ _ _ (by simp))).keep (Below.heap_alloc _ _ _ (by simp;omega))
 have RZ:wz.heap[s+1]? =some (.cells #[.int .i64 0,.int .i64 0] 29 (0,0)):=by
  have h:=World.alloc_heap_new (w.alloc (.cells #[.int .i64 n1,.int .u64 n2,.int .i64 d1,.int .u64 d2] 102)) (.cells #[.int .i64 0,.int .i64 0] 29)
  rw[World.size_alloc]at h
  rw[hwz,hs,Below.heap_alloc _ _ _ (by simp)]
  exact h
 have NZ:zBV wz (s+2) n:=by
  have h:=zBV.made ((w.alloc (.cells #[.int .i64 n1,.int .u64 n2,.int .i64 d1,.int .u64 d2] 102)).alloc (.cells #[.int .i64 0,.int .i64 0] 29)) pn
  rw[World.size_alloc,World.size_alloc]at h
  rw[hwz,hs]
  exact h
 have BZ:Below w.heap.size w wz:=by rw[hwz];exact(((Below.refl _ _).alloc (Nat.le_refl _) _).alloc (by simp) _).alloc (by simp;omega) _
 have HSZ:=hid hsz
 have HS:=hid SZ
 have HR:=hid RZ
 have HN0:=hid NZ
 have HB:=hid BZ
 have PN:=hid pn
 have PD:=hid pd
 have PM:=hid pm
 have PQ:=hid pq
 have PR:=hid pr
 have HNE:=hid hN
 have HSV:=hid hs
 have HND:=hid (And.intro hn hd)
 have hsg:(n<0∧cmpI n 0<0)∨(¬n<0∧¬cmpI n 0<0∧m1=n1∧m2=n2):=by
  by_cases h:n<0
  ·exact .inl ⟨h,by unfold cmpI;rw[if_pos h];decide⟩
  ·exact .inr ⟨h,by unfold cmpI;rw[if_neg h];split<;>decide,hmn h⟩
 have HSG2:=hid hsg
 clear hsg hsz SZ RZ NZ BZ pn pd pm pq pr hN hn hd hmn
 go_enter Tryz.func83,Tryz.ntmps83
 go_upto_region 2 with fail
 rw[<- hs,<- hwz]
 clear hs hwz
 obtain⟨v0,v1,v2,v3,v4⟩:=HN0.out.cells PN.out
 go_upto_if 15 with (go_at_call 148;refine(HSG.out _).mono ?_;rintro e w1 ⟨rfl,hb1⟩;refine Stop.of ?_)
 refine Stop.go ?_
 have HB1:=hid hb1
 clear hb1 v0 v1 v2 v3 v4
 go_upto_if 15 with fail
 go_cut [3]from 13 to 17 (fun v wx=>v=.bool false∧SumB wx s n d∧wx.heap[s+1]? =some (.cells #[.int .i64 0,.int .i64 0] 29 (0,0))∧zBV wx (s+2) N∧Below w.heap.size w wx)
 case first=>
  have hN2:=HN0.out.keep (HB1.out.block _ HN0.out.lt)
  have hS2:=HS.out.keep (HB1.out.block _ HS.out.lt)
  have hR2:=(HB1.out.block (s+1) (by have:=HSZ.out;omega)).trans HR.out
  rcases HSG2.out with⟨h1,h2⟩|⟨h1,h2,h3,h4⟩
  ·have HO:=hid (HOP.out h1)
   have HN2:=hid hN2
   have HS2:=hid hS2
   have HR2:=hid hR2
   obtain⟨v0,v1,v2,v3,v4⟩:=hN2.cells PN.out
   clear hN2 hS2 hR2
   go_wp2_with (go_at_call 149;refine(HO.out _).mono ?_;rintro e w2 ⟨rfl,hb2⟩;refine Stop.of ?_)
   refine Stop.go ?_
   have hN3:=HN2.out.keep (hb2.block _ HN2.out.lt)
   have hS3:=HS2.out.keep (hb2.block _ HS2.out.lt)
   have hR3:=(hb2.block (s+1) (by have:=HSZ.out;have:=HB1.out.size;omega)).trans HR2.out
   have HN3:=hid hN3
   have K:=zBJ w2 (s+2) (.int .i64 m1) (.int .u64 m2)
   have X1:=hid (zBV.set hN3 PM.out)
   have X2:=hid (hS3.keep (K.block s hS3.lt (by show s≠s+2;omega)))
   have X3:=hid ((K.block (s+1) (by have:=hN3.lt;omega) (by show s+1≠s+2;omega)).trans hR3)
   have X4:=hid (K.below (zAA HB.out (zAA HB1.out hb2)) (by have:=hN3.lt;have:=HSV.out;omega) (fun k hk=>by have:=HSV.out;show k≠s+2;omega))
   clear v0 v1 v2 v3 v4
   obtain⟨v0,v1,v2,v3,v4⟩:=HN3.out.cells PN.out
   clear hN3 hS3 hR3 hb2 K
   go_wp2
   go_meet
   case rel=>exact⟨rfl,X2.out,X3.out,X1.out,X4.out⟩
  ·have hNn:N=n:=by have:=HNE.out;omega
   have HX:=hid (And.intro hS2 (And.intro hR2 (And.intro hN2 (zAA HB.out HB1.out))))
   rw[<- hNn]at HX
   have HNN:=hid hNn
   clear hN2 hS2 hR2 hNn h3 h4
   go_wp2
   go_meet
   case rel=>exact⟨rfl,by rw[<- HNN.out];exact HX.out.1,HX.out.2.1,HX.out.2.2.1,HX.out.2.2.2⟩
 case rest=>
  obtain⟨rfl,hS,hR,hN,hBc⟩:=hcut
  obtain⟨v0,v1,v2,v3,v4⟩:=hN.cells PM.out
  obtain⟨c0,c1,c2,c3⟩:=hS.cells PN.out PD.out
  have HS1:=hid hS
  have HR1:=hid hR
  have HN1:=hid hN
  have HBC:=hid hBc
  clear hS hR hN hBc HOP HB1 HN0 HS HR HB HSZ
  go_wp2_with (go_at_call 150;refine(HOV.out _).mono ?_;rintro e w2 ⟨rfl,hb2⟩;refine Stop.of ?_)
  refine Stop.go ?_
  obtain⟨u,hu⟩:=exq (w2.heap.size)
  obtain⟨w3,hw3⟩:=exq ((w2.alloc (.cells #[.int .i64 q1,.int .u64 q2] 100)).alloc (.cells #[.int .i64 r1,.int .u64 r2] 100))
  have hb3:Below wc.heap.size wc w3:=by rw[hw3];exact(hb2.alloc hb2.size _).alloc (by have:=hb2.size;simp;omega) _
  have hs3:w3.heap.size=u+2:=by rw[hw3,hu];simp
  have Q3:zBV w3 u (N/d):=by rw[hw3,hu];exact(zBV.made w2 PQ.out).keep (Below.heap_alloc _ _ _ (by simp))
  have R3:zBV w3 (u+1) (N%d):=by
   have h:=zBV.made (w2.alloc (.cells #[.int .i64 q1,.int .u64 q2] 100)) PR.out
   rw[World.size_alloc]at h
   rw[hw3,hu];exact h
  have S3:=hid (HS1.out.keep (hb3.block _ HS1.out.lt))
  have T3:=hid ((hb3.block (s+1) (by have:=HN1.out.lt;omega)).trans HR1.out)
  have B3:=hid (zAA HBC.out hb3)
  have hsu:s+2<u:=by have:=HN1.out.lt;have:=hb2.size;omega
  have HQ3:=hid Q3
  have HR3:=hid R3
  have HS3:=hid hs3
  have HSU:=hid hsu
  clear hb3 hs3 Q3 R3 hsu v0 v1 v2 v3 v4 c0 c1 c2 c3 hb2 HOV
  go_upto_region 5 with fail
  rw[<- hu,<- hw3]
  clear hu hw3
  obtain⟨g,a,b,hab,hg,hb,hNa,hdb,hcop⟩:=zFV (n:=N) HND.out.2.1
  have hN0:0<=N:=by have:=HNE.out;omega
  have hq0:0<=N/d:=Int.ediv_nonneg hN0 (by have:=HND.out.2.1;omega)
  have hqw:q1=N/d/18446744073709551616∧q2=N/d%18446744073709551616:=PQ.out
  have hqN:N/d<=N:=Int.ediv_le_self _ hN0
  -- the answer by the one without its sign
  have hval:zAH (zAR n d)=zAH (a,b)∧zAR n d=(if n<0 then-a else a,b):=by
   have hd0:=HND.out.2.1
   by_cases h:n<0
   ·have e:n= -N:=by have:=HNE.out;omega
    rw[e,low_neg hd0,hab,if_pos (by have:=HNE.out;omega)]
    exact⟨zNQ,rfl⟩
   ·have e:n=N:=by have:=HNE.out;omega
    rw[e,hab,if_neg (by omega)]
    exact⟨rfl,rfl⟩
  have HVAL:=hid hval
  have HLOW:=hid (And.intro hab (And.intro hg (And.intro hb (And.intro hNa (And.intro hdb hcop)))))
  obtain⟨c0,c1,c2,c3,c4⟩:=HQ3.out.cells PQ.out
  have T4:RatI w3 (s+1) (0,0):=T3.out
  have HT4:=hid T4
  by_cases hbig:10000000000<N/d
  ·have hno:zAH (a,b)=false:=by rw[<- hab];exact low_big hN0 HND.out.2.1 hbig
   have hcase:(q1 !=0)=true∨(q1=0∧10000000000<q2):=by
    by_cases h:q1=0
    ·right;exact⟨h,by omega⟩
    ·left;simpa using h
   have HNO:=hid (hval.1.trans hno)
   have HCS:=hid hcase
   clear hcase hno hval hab hg hb hNa hdb hcop hN0 hq0 hqw hqN hbig
   obtain⟨t0,t1,t2,t3,t4⟩:=T4.cells
   clear T4
   have K:=zBJ w3 (s+1) (.int .i64 0) (.int .i64 0)
   have X1:=hid (RatI.set (p:=(0,0)) HT4.out)
   have X2:=hid (K.below B3.out (by have:=HSU.out;have:=HS3.out;have:=HSV.out;omega) (fun k hk=>by have:=HSV.out;show k≠s+1;omega))
   clear K
   rcases HCS.out with h|⟨h1,h2⟩
   all_goals
    first|subst h1|skip
    go_wp2
    clear t0 t1 t2 t3 t4
    generalize (w3.setCell ⟨s+1,0,none⟩ (.int .i64 0)).setCell ⟨s+1,1,none⟩ (.int .i64 0)=WF at X1 X2⊢
    obtain⟨t0,t1,t2,t3,t4⟩:=X1.out.cells
    refine bodyPost_ret (v:=.tuple #[.agg #[.int .i64 0,.int .i64 0],.bool false]) ?_ rfl ⟨⟨(0,0),by rw[HNO.out];rfl,fun h=>by rw[HNO.out]at h;cases h⟩,X2.out⟩
    simp[results,Tryz.results83,go_sem,t0,t1,t2,t3,t4]
  ·have hq1:q1=0:=by omega
   have hq2:q2=N/d:=by omega
   subst hq1
   have hq10:¬10000000000<q2:=by omega
   have hq2':0<=q2∧q2<=10000000000:=by omega
   have HQ2:=hid hq2
   have hd0:=HND.out.2.1
   have hrd:0<=N%d∧N%d<d:=⟨Int.emod_nonneg _ (by omega),Int.emod_lt_of_pos _ hd0⟩
   have HRD:=hid hrd
   have HB0:=hid hb
   have HSX:=hid (show ∀X:World,Below w3.heap.size w3 X->X.cell? ⟨u+1,0,none⟩=some (.int .i64 r1)∧X.cell? ⟨u+1,1,none⟩=some (.int .u64 r2)∧X.cell? ⟨s,2,none⟩=some (.int .i64 d1)∧X.cell? ⟨s,3,none⟩=some (.int .u64 d2)from fun X hX=>by
    obtain⟨a0,a1,_⟩:=(HR3.out.keep (hX.block _ HR3.out.lt)).cells PR.out
    obtain⟨b0,b1,b2,b3,_⟩:=(S3.out.keep (hX.block _ S3.out.lt)).cells PN.out PD.out
    exact⟨a0,a1,b2,b3⟩)
   clear hval hab hg hb hNa hdb hcop hN0 hq0 hqw hqN hbig T4 hq2 hd0 hrd
   go_wp2
   clear c0 c1 c2 c3 c4
   go_loopw [7] (fun v wr=>∃k:Nat,k<=400∧v=.int .i64 ((k:Int)+1)∧(∀j:Int,1<=j->j<=k->¬b∣j)∧Below w3.heap.size w3 wr) (fun v _=>401-(intOf v).toNat)
   case atStart=>exact⟨0,by omega,rfl,fun j h1 h2=>by omega,Below.refl _ _⟩
   case round=>
    obtain⟨k,hk,rfl,hnd,hbk⟩:=hrel
    by_cases hlt:k<400
    ·have HNDV:=hid hnd
     have HBK:=hid hbk
     have hRD:=HRD.out
     have hNDd:=HND.out.2
     obtain⟨x1,x2,px⟩:=WP.ex (N%d*((k:Int)+1))
     obtain⟨Y,hYe⟩:=exq (N%d*((k:Int)+1)/d)
     obtain⟨Z,hZe⟩:=exq (N%d*((k:Int)+1)%d)
     obtain⟨y1,y2,py⟩:=WP.ex Y
     obtain⟨z1,z2,pz⟩:=WP.ex Z
     have hxb:0<=N%d*((k:Int)+1)∧N%d*((k:Int)+1)<=d*400:=by
      refine⟨Int.mul_nonneg (by omega) (by omega),?_⟩
      exact Int.mul_le_mul (by omega) (by omega) (by omega) (by omega)
     have HTI:=hid (show ∀X:World,Calls Tryz.prog 151 #[.agg #[.int .i64 r1,.int .u64 r2],.int .i64 ((k:Int)+1)] X fun e w'=>e=.returned (.agg #[.int .i64 x1,.int .u64 x2])∧Below X.heap.size X w' from fun X=>by
      have:=zHB X (N%d) ((k:Int)+1) (by omega) (by omega) (by
       have e:(((N%d).natAbs*((k:Int)+1).natAbs:Nat):Int)=N%d*((k:Int)+1):=by rw[Int.natCast_mul];congr 1<;>omega
       omega)
      rw[PR.out.val,px.val]at this;exact this)
     have HOV:=hid (show ∀X:World,Calls Tryz.prog 150 #[.agg #[.int .i64 x1,.int .u64 x2],.agg #[.int .i64 d1,.int .u64 d2]] X fun e w'=>e=.returned (.tuple #[.agg #[.int .i64 y1,.int .u64 y2],.agg #[.int .i64 z1,.int .u64 z2]])∧Below X.heap.size X w' from fun X=>by
      have:=zOR X (N%d*((k:Int)+1)) d (by omega) (by omega)
      rw[px.val,PD.out.val,<- hYe,<- hZe,py.val,pz.val]at this;exact this)
     have HYE:=hid hYe
     have HZE:=hid hZe
     have PX:=hid px
     have PY:=hid py
     have PZ:=hid pz
     clear hnd hbk hRD hNDd hxb px py pz hYe hZe
     go_wp2
     refine zAF (fun _ _=>True) (by kernel_rfl) ?_
     obtain⟨wd,hwd⟩:=exq (wr.drew)
     have hbd:Below wr.heap.size wr wd:=by rw[hwd];exact(Below.refl _ _).drew
     rw[<- hwd]
     have HBD:=hid (zAA HBK.out hbd)
     have HWD:=hid hwd
     clear hbd hwd
     refine zDU fun a0 ha0=>?_
     have hsz:a0.tmps.size=73:=by rw[ha0];rfl
     have v6:a0.eval (.tmp 6)=.pointer (some ⟨u+1,0,none⟩):=by rw[ha0];rfl
     have v7:a0.eval (.tmp 7)=.int .i64 ((k:Int)+1):=by rw[ha0];rfl
     have v1:a0.eval (.tmp 1)=.pointer (some ⟨s,0,none⟩):=by rw[ha0];rfl
     have HA0:=hid ha0
     clear ha0
     refine AnyT.regF [8,9,38,39,40,41,42,43,44,45,46] (fun l f w=>Below wd.heap.size wd w∧(l 0=true->f 39=.agg #[.int .i64 r1,.int .u64 r2])∧(l 1=true->f 40=.int .i64 ((k:Int)+1))∧(l 2=true->f 41=.agg #[.int .i64 x1,.int .u64 x2])∧(l 3=true->f 42=.pointer (some ⟨s,2,none⟩))∧(l 4=true->f 43=.agg #[.int .i64 d1,.int .u64 d2])∧(l 5=true->f 44=.tuple #[.agg #[.int .i64 y1,.int .u64 y2],.agg #[.int .i64 z1,.int .u64 z2]])∧(l 6=true->f 38=.tuple #[.agg #[.int .i64 y1,.int .u64 y2],.agg #[.int .i64 z1,.int .u64 z2]])∧(l 7=true->f 45=.agg #[.int .i64 y1,.int .u64 y2])∧(l 8=true->f 46=.agg #[.int .i64 z1,.int .u64 z2])∧(l 9=true->∃g,f 8=.pointer (some ⟨g,0,none⟩)∧wd.heap.size<=g∧(l 11=false->zBV w g 0)∧(l 11=true->zBV w g Y))∧(l 10=true->∃g,f 9=.pointer (some ⟨g,0,none⟩)∧wd.heap.size<=g∧(l 12=false->zBV w g 0)∧(l 12=true->zBV w g Z))∧(l 9=true->l 10=true->f 8≠f 9)∧(l 11=true->l 9=true)∧(l 12=true->l 10=true)) (by kernel_rfl) (by kernel_rfl) ?_ ?_ ?_
     ·have eg1:∀args w,(callFunc 151 args).run Tryz.prog w=.ok (.enter 151 args) w:=enters_of Tryz.func151 (by kernel_rfl) rfl
      have eg2:∀args w,(callFunc 150 args).run Tryz.prog w=.ok (.enter 150 args) w:=enters_of Tryz.func150 (by kernel_rfl) rfl
      rintro l f w i o ho hi hd ⟨hb,h0,h1,h2,h3,h4,h5,h6,h7,h8,h9,h10,hne,hq11,hq12⟩
      have e39:zAE a0 [8,9,38,39,40,41,42,43,44,45,46] f (.tmp 39)=f 39:=by simp[zAE,hsz]
      have e40:zAE a0 [8,9,38,39,40,41,42,43,44,45,46] f (.tmp 40)=f 40:=by simp[zAE,hsz]
      have e41:zAE a0 [8,9,38,39,40,41,42,43,44,45,46] f (.tmp 41)=f 41:=by simp[zAE,hsz]
      have e42:zAE a0 [8,9,38,39,40,41,42,43,44,45,46] f (.tmp 42)=f 42:=by simp[zAE,hsz]
      have e43:zAE a0 [8,9,38,39,40,41,42,43,44,45,46] f (.tmp 43)=f 43:=by simp[zAE,hsz]
      have e44:zAE a0 [8,9,38,39,40,41,42,43,44,45,46] f (.tmp 44)=f 44:=by simp[zAE,hsz]
      have e38:zAE a0 [8,9,38,39,40,41,42,43,44,45,46] f (.tmp 38)=f 38:=by simp[zAE,hsz]
      have e45:zAE a0 [8,9,38,39,40,41,42,43,44,45,46] f (.tmp 45)=f 45:=by simp[zAE,hsz]
      have e46:zAE a0 [8,9,38,39,40,41,42,43,44,45,46] f (.tmp 46)=f 46:=by simp[zAE,hsz]
      have e8:zAE a0 [8,9,38,39,40,41,42,43,44,45,46] f (.tmp 8)=f 8:=by simp[zAE,hsz]
      have e9:zAE a0 [8,9,38,39,40,41,42,43,44,45,46] f (.tmp 9)=f 9:=by simp[zAE,hsz]
      have eF1:zAE a0 [8,9,38,39,40,41,42,43,44,45,46] f (.func 151)=.func (.func 151) #[] #[]:=rfl
      have eF2:zAE a0 [8,9,38,39,40,41,42,43,44,45,46] f (.func 150)=.func (.func 150) #[] #[]:=rfl
      have w6:zAE a0 [8,9,38,39,40,41,42,43,44,45,46] f (.tmp 6)=.pointer (some ⟨u+1,0,none⟩):=by simp[zAE,v6]
      have w7:zAE a0 [8,9,38,39,40,41,42,43,44,45,46] f (.tmp 7)=.int .i64 ((k:Int)+1):=by simp[zAE,v7]
      have w1':zAE a0 [8,9,38,39,40,41,42,43,44,45,46] f (.tmp 1)=.pointer (some ⟨s,0,none⟩):=by simp[zAE,v1]
      obtain⟨o1,o2,o3,o4⟩:=HSX.out _ (zAA HBD.out hb)
      rcases i with _|_|_|_|_|_|_|_|_|_|_|_|_|i
      ·replace ho:=Option.some.inj ho
       subst ho
       refine zAO.val (w':=w) (v:=.agg #[.int .i64 r1,.int .u64 r2]) rfl (by go_simp) ⟨hb,fun _=>rfl,h1,h2,h3,h4,h5,h6,h7,h8,h9,h10,hne,hq11,hq12⟩
      ·replace ho:=Option.some.inj ho
       subst ho
       refine zAO.val (w':=w) (v:=.int .i64 ((k:Int)+1)) rfl (by go_simp) ⟨hb,h0,fun _=>rfl,h2,h3,h4,h5,h6,h7,h8,h9,h10,hne,hq11,hq12⟩
      ·replace ho:=Option.some.inj ho
       subst ho
       have k0:=h0 (hd {on:=0,ground:=.data} (by simp) (by kernel_rfl))
       rw[k0]at e39
       have k1:=h1 (hd {on:=1,ground:=.data} (by simp) (by kernel_rfl))
       rw[k1]at e40
       refine zAO.call (g:=151) (args:=#[.agg #[.int .i64 r1,.int .u64 r2],.int .i64 ((k:Int)+1)]) (w':=w) rfl (by simp[execOp,resolve,invoke,go_sem,e39,e40,eF1,eg1]) ((HTI.out w).mono ?_)
       rintro e w4 ⟨rfl,hb4⟩
       exact⟨_,rfl,zAA hb hb4,h0,h1,fun _=>rfl,h3,h4,h5,h6,h7,h8,fun h=>by obtain⟨g,g1,g2,g3,g4⟩:=h9 h;exact⟨g,g1,g2,fun h=>(g3 h).keep (hb4.block _ (g3 h).lt),fun h=>(g4 h).keep (hb4.block _ (g4 h).lt)⟩,fun h=>by obtain⟨g,g1,g2,g3,g4⟩:=h10 h;exact⟨g,g1,g2,fun h=>(g3 h).keep (hb4.block _ (g3 h).lt),fun h=>(g4 h).keep (hb4.block _ (g4 h).lt)⟩,hne,hq11,hq12⟩
      ·replace ho:=Option.some.inj ho
       subst ho
       refine zAO.val (w':=w) (v:=.pointer (some ⟨s,2,none⟩)) rfl (by go_simp) ⟨hb,h0,h1,h2,fun _=>rfl,h4,h5,h6,h7,h8,h9,h10,hne,hq11,hq12⟩
      ·replace ho:=Option.some.inj ho
       subst ho
       have k3:=h3 (hd {on:=3,ground:=.data} (by simp) (by kernel_rfl))
       rw[k3]at e42
       refine zAO.val (w':=w) (v:=.agg #[.int .i64 d1,.int .u64 d2]) rfl (by go_simp) ⟨hb,h0,h1,h2,h3,fun _=>rfl,h5,h6,h7,h8,h9,h10,hne,hq11,hq12⟩
      ·replace ho:=Option.some.inj ho
       subst ho
       have k2:=h2 (hd {on:=2,ground:=.data} (by simp) (by kernel_rfl))
       rw[k2]at e41
       have k4:=h4 (hd {on:=4,ground:=.data} (by simp) (by kernel_rfl))
       rw[k4]at e43
       refine zAO.call (g:=150) (args:=#[.agg #[.int .i64 x1,.int .u64 x2],.agg #[.int .i64 d1,.int .u64 d2]]) (w':=w) rfl (by simp[execOp,resolve,invoke,go_sem,e41,e43,eF2,eg2]) ((HOV.out w).mono ?_)
       rintro e w4 ⟨rfl,hb4⟩
       exact⟨_,rfl,zAA hb hb4,h0,h1,h2,h3,h4,fun _=>rfl,h6,h7,h8,fun h=>by obtain⟨g,g1,g2,g3,g4⟩:=h9 h;exact⟨g,g1,g2,fun h=>(g3 h).keep (hb4.block _ (g3 h).lt),fun h=>(g4 h).keep (hb4.block _ (g4 h).lt)⟩,fun h=>by obtain⟨g,g1,g2,g3,g4⟩:=h10 h;exact⟨g,g1,g2,fun h=>(g3 h).keep (hb4.block _ (g3 h).lt),fun h=>(g4 h).keep (hb4.block _ (g4 h).lt)⟩,hne,hq11,hq12⟩
      ·replace ho:=Option.some.inj ho
       subst ho
       have k5:=h5 (hd {on:=5,ground:=.data} (by simp) (by kernel_rfl))
       rw[k5]at e44
       refine zAO.val (w':=w) (v:=.tuple #[.agg #[.int .i64 y1,.int .u64 y2],.agg #[.int .i64 z1,.int .u64 z2]]) rfl (by go_simp) ⟨hb,h0,h1,h2,h3,h4,h5,fun _=>rfl,h7,h8,h9,h10,hne,hq11,hq12⟩
      ·replace ho:=Option.some.inj ho
       subst ho
       have k6:=h6 (hd {on:=6,ground:=.data} (by simp) (by kernel_rfl))
       rw[k6]at e38
       refine zAO.val (w':=w) (v:=.agg #[.int .i64 y1,.int .u64 y2]) rfl (by go_simp) ⟨hb,h0,h1,h2,h3,h4,h5,h6,fun _=>rfl,h8,h9,h10,hne,hq11,hq12⟩
      ·replace ho:=Option.some.inj ho
       subst ho
       have k6:=h6 (hd {on:=6,ground:=.data} (by simp) (by kernel_rfl))
       rw[k6]at e38
       refine zAO.val (w':=w) (v:=.agg #[.int .i64 z1,.int .u64 z2]) rfl (by go_simp) ⟨hb,h0,h1,h2,h3,h4,h5,h6,h7,fun _=>rfl,h9,h10,hne,hq11,hq12⟩
      ·replace ho:=Option.some.inj ho
       subst ho
       have hbn:Below wd.heap.size wd (w.alloc (.cells #[.int .i64 0,.int .u64 0] 100)):=hb.alloc hb.size _
       refine zAO.val (w':=w.alloc (.cells #[.int .i64 0,.int .u64 0] 100)) (v:=.pointer (some ⟨w.heap.size,0,none⟩)) rfl (by go_simp) ⟨hbn,h0,h1,h2,h3,h4,h5,h6,h7,h8,?_,?_,?_⟩
       ·intro _;exact⟨w.heap.size,rfl,hb.size,fun _=>zBV.made0 w,fun h=>absurd (hq11 h) (by rw[hi];decide)⟩
       ·intro h;obtain⟨g,g1,g2,g3,g4⟩:=h10 h;exact⟨g,g1,g2,fun h=>(g3 h).keep (Below.heap_alloc _ _ _ (g3 h).lt),fun h=>(g4 h).keep (Below.heap_alloc _ _ _ (g4 h).lt)⟩
       ·refine⟨?_,fun _=>rfl,hq12⟩
        intro _ h e
        obtain⟨g,g1,_,g3,g4⟩:=h10 h
        have hgl:g<w.heap.size:=by
         rcases Bool.eq_false_or_eq_true (l 12)with c|c
         ·exact(g4 c).lt
         ·exact(g3 c).lt
        have e':(Value.pointer (some ⟨w.heap.size,0,none⟩))=f 9:=e
        rw[g1]at e';cases e';omega
      ·replace ho:=Option.some.inj ho
       subst ho
       have hbn:Below wd.heap.size wd (w.alloc (.cells #[.int .i64 0,.int .u64 0] 100)):=hb.alloc hb.size _
       refine zAO.val (w':=w.alloc (.cells #[.int .i64 0,.int .u64 0] 100)) (v:=.pointer (some ⟨w.heap.size,0,none⟩)) rfl (by go_simp) ⟨hbn,h0,h1,h2,h3,h4,h5,h6,h7,h8,?_,?_,?_⟩
       ·intro h;obtain⟨g,g1,g2,g3,g4⟩:=h9 h;exact⟨g,g1,g2,fun h=>(g3 h).keep (Below.heap_alloc _ _ _ (g3 h).lt),fun h=>(g4 h).keep (Below.heap_alloc _ _ _ (g4 h).lt)⟩
       ·intro _;exact⟨w.heap.size,rfl,hb.size,fun _=>zBV.made0 w,fun h=>absurd (hq12 h) (by rw[hi];decide)⟩
       ·refine⟨?_,hq11,fun _=>rfl⟩
        intro h _ e
        obtain⟨g,g1,_,g3,g4⟩:=h9 h
        have hgl:g<w.heap.size:=by
         rcases Bool.eq_false_or_eq_true (l 11)with c|c
         ·exact(g4 c).lt
         ·exact(g3 c).lt
        have e':f 8=(Value.pointer (some ⟨w.heap.size,0,none⟩)):=e
        rw[g1]at e';cases e';omega
      ·replace ho:=Option.some.inj ho
       subst ho
       have l9:l 9=true:=hd {on:=9,ground:=.data} (by simp) (by kernel_rfl)
       have l10:l 10=true:=hd {on:=10,ground:=.phase} (by simp) (by kernel_rfl)
       have k7:=h7 (hd {on:=7,ground:=.data} (by simp) (by kernel_rfl))
       rw[k7]at e45
       obtain⟨g,g1,g2,g3,g4⟩:=h9 l9
       obtain⟨q,q1,q2,q3,q4⟩:=h10 l10
       rw[g1]at e8
       have hnq:q≠g:=by rintro rfl;exact hne l9 l10 (by rw[g1,q1])
       obtain⟨c0,c1,c2,c3,c4⟩:=(g3 hi).cells WP.zero
       have K:=zBJ w g (.int .i64 y1) (.int .u64 y2)
       have hbn:=K.below hb hb.size (fun k hk=>by show k≠g;omega)
       refine zAO.skip (w':=(w.setCell ⟨g,0,none⟩ (.int .i64 y1)).setCell ⟨g,1,none⟩ (.int .u64 y2)) rfl (by go_simp) ⟨hbn,h0,h1,h2,h3,h4,h5,h6,h7,h8,?_,?_,?_⟩
       ·intro _;exact⟨g,g1,g2,(fun h=>by cases h),fun _=>(g3 hi).set PY.out⟩
       ·intro _;exact⟨q,q1,q2,fun h=>(q3 h).keep (K.block _ (q3 h).lt hnq),fun h=>(q4 h).keep (K.block _ (q4 h).lt hnq)⟩
       ·exact⟨hne,fun _=>l9,hq12⟩
      ·replace ho:=Option.some.inj ho
       subst ho
       have l9:l 9=true:=hd {on:=9,ground:=.phase} (by simp) (by kernel_rfl)
       have l10:l 10=true:=hd {on:=10,ground:=.data} (by simp) (by kernel_rfl)
       have k8:=h8 (hd {on:=8,ground:=.data} (by simp) (by kernel_rfl))
       rw[k8]at e46
       obtain⟨g,g1,g2,g3,g4⟩:=h10 l10
       obtain⟨q,q1,q2,q3,q4⟩:=h9 l9
       rw[g1]at e9
       have hnq:q≠g:=by rintro rfl;exact hne l9 l10 (by rw[q1,g1])
       obtain⟨c0,c1,c2,c3,c4⟩:=(g3 hi).cells WP.zero
       have K:=zBJ w g (.int .i64 z1) (.int .u64 z2)
       have hbn:=K.below hb hb.size (fun k hk=>by show k≠g;omega)
       refine zAO.skip (w':=(w.setCell ⟨g,0,none⟩ (.int .i64 z1)).setCell ⟨g,1,none⟩ (.int .u64 z2)) rfl (by go_simp) ⟨hbn,h0,h1,h2,h3,h4,h5,h6,h7,h8,?_,?_,?_⟩
       ·intro _;exact⟨q,q1,q2,fun h=>(q3 h).keep (K.block _ (q3 h).lt hnq),fun h=>(q4 h).keep (K.block _ (q4 h).lt hnq)⟩
       ·intro _;exact⟨g,g1,g2,(fun h=>by cases h),fun _=>(g3 hi).set PZ.out⟩
       ·exact⟨hne,hq11,fun _=>l10⟩
      ·exact absurd ho (by simp)
     ·rintro l f wv hall ⟨hb,h0,h1,h2,h3,h4,h5,h6,h7,h8,h9,h10,hne,hq11,hq12⟩
      obtain⟨gy,g1,g2,_,g4⟩:=h9 (hall 9 (by decide))
      obtain⟨gr,k1,k2,_,k4⟩:=h10 (hall 10 (by decide))
      have HGY:=hid (g4 (hall 11 (by decide)))
      have HRZ:=hid (k4 (hall 12 (by decide)))
      have HBW:=hid (zAA HBD.out hb)
      clear h0 h1 h2 h3 h4 h5 h6 h7 h8 h9 h10 hne hq11 hq12 hall hb g2 k2 g4 k4
      rw[HA0.out]
      simp only[zDG,List.foldl_cons,List.foldl_nil,Act.put,List.setIfInBounds_toArray,List.set_cons_succ,List.set_cons_zero]
      rw[g1,k1]
      generalize f 38=z38,f 39=z39,f 40=z40,f 41=z41,f 42=z42,f 43=z43,f 44=z44,f 45=z45,f 46=z46
      clear g1 k1 hsz v6 v7 v1 HA0
      obtain⟨hab,hg,hb,hNa,hdb,hcop⟩:=HLOW.out
      have hd0:=HND.out.2.1
      have hdd:=HND.out.2.2
      have hrd:=HRD.out
      have hxb:0<=N%d*((k:Int)+1)∧N%d*((k:Int)+1)<=d*400:=⟨Int.mul_nonneg (by omega) (by omega),Int.mul_le_mul (by omega) (by omega) (by omega) (by omega)⟩
      have hYb:0<=Y∧Y<=400:=by
       rw[HYE.out]
       refine⟨Int.ediv_nonneg hxb.1 (by omega),?_⟩
       exact Int.ediv_le_of_le_mul hd0 (by have h:=hxb.2;rw[Int.mul_comm d]at h;exact h)
      have hZb:0<=Z∧Z<d:=by rw[HZE.out];exact⟨Int.emod_nonneg _ (by omega),Int.emod_lt_of_pos _ hd0⟩
      have HSZ:=hid (show ∀X:World,Calls Tryz.prog 148 #[.agg #[.int .i64 z1,.int .u64 z2]] X fun e w'=>e=.returned (.int .i64 (cmpI Z 0))∧Below X.heap.size X w' from fun X=>by
       have:=zJO X Z (by omega)
       rw[PZ.out.val]at this;exact this)
      have hldv:=low_div hd0 hg hb hNa hdb hcop ((k:Int)+1)
      rw[<- HZE.out]at hldv
      by_cases hZ:Z=0
      ·have hdv:=hldv.1 hZ
       have hbe:b=(k:Int)+1:=by
        have h1:=Int.le_of_dvd (by omega) hdv
        rcases Int.lt_or_le b ((k:Int)+1)with h|h
        ·exact absurd (Int.dvd_refl b) (HNDV.out b (by omega) (by omega))
        ·omega
       have hav:=low_val (n:=N) (by have:=HNE.out;omega) hd0 hg hNa hdb
       rw[hbe,<- HYE.out,<- HQ2.out]at hav
       have ha0:=low_nonneg (n:=N) (d:=d) (b:=b) (by have:=HNE.out;omega) hg hNa
       have hc0:cmpI Z 0=0:=by rw[hZ];rfl
       rw[hc0]at HSZ
       have hmul:0<=q2*((k:Int)+1)∧q2*((k:Int)+1)<=10000000000*400:=⟨Int.mul_nonneg (by omega) (by omega),Int.mul_le_mul (by omega) (by omega) (by omega) (by omega)⟩
       have hy1:y1=0:=by have h:y1=Y/18446744073709551616:=PY.out.1;omega
       have hy2:y2=Y:=by have h:y2=Y%18446744073709551616:=PY.out.2;omega
       subst hy1
       subst hy2
       have HOF:=hid (show ∀X:World,Calls Tryz.prog 152 #[.int .i64 (q2*((k:Int)+1)+y2),.int .i64 ((k:Int)+1)] X fun e w'=>e=.returned (.agg #[.int .i64 a,.int .i64 b])∧Below X.heap.size X w' from fun X=>by
        have h:=of_c X a b (by omega) (by omega) (by omega)
        have e:ofF a b=(a,b):=by
         unfold ofF
         rw[hcop];simp;omega
        rw[e]at h
        rw[hav,<- hbe];exact h)
       have hyb2:0<=y2∧y2<=400:=hYb
       have HAB:=hid (And.intro ha0 (show a<=9000000000000 by omega))
       clear hab hg hb hNa hdb hcop hxb hYb hZb hldv hdv hbe hav ha0 hc0 hZ hd0 hdd hrd
       obtain⟨c0,c1,c2,c3,c4⟩:=HRZ.out.cells PZ.out
       go_wp2_with (go_at_call 148;refine(HSZ.out _).mono ?_;rintro e w5 ⟨rfl,hb5⟩;refine Stop.of ?_)
       refine Stop.go ?_
       have HB5:=hid (zAA HBW.out hb5)
       have hG5:=HGY.out.keep (hb5.block _ HGY.out.lt)
       clear hb5 c0 c1 c2 c3 c4
       obtain⟨c0,c1,c2,c3,c4⟩:=hG5.cells PY.out
       obtain⟨e0,e1,e2,e3,e4⟩:=(HQ3.out.keep (HB5.out.block _ HQ3.out.lt)).cells PQ.out
       clear hG5
       go_wp2_with (go_at_call 152;refine(HOF.out _).mono ?_;rintro e w6 ⟨rfl,hb6⟩;refine Stop.of ?_)
       refine Stop.go ?_
       have HB6:=hid (zAA HB5.out hb6)
       clear hb6 c0 c1 c2 c3 c4 e0 e1 e2 e3 e4
       obtain⟨p,hp⟩:=exq (w6.heap.size)
       obtain⟨w7,hw7⟩:=exq (w6.alloc (.cells #[.int .i64 a,.int .i64 b] 29))
       have P7:RatI w7 p (a,b):=by rw[hw7,hp];exact RatI.made w6 (a,b)
       have HP7:=hid P7
       have HB7:=hid (show Below w3.heap.size w3 w7 by rw[hw7];exact HB6.out.alloc HB6.out.size _)
       have HPS:=hid (show p≠s+1 by have:=HB6.out.size;have:=HSU.out;have:=HS3.out;omega)
       have HPB:=hid (show w3.heap.size<=p by rw[hp];exact HB6.out.size)
       have HW7:=hid hw7
       have HPE:=hid hp
       clear P7 hp hw7
       go_upto_region 13 with fail
       rw[<- HPE.out,<- HW7.out]
       obtain⟨b0,b1,b2,b3,_⟩:=(S3.out.keep (HB7.out.block _ S3.out.lt)).cells PN.out PD.out
       go_wp2_with (go_at_call 148;refine(HSG.out _).mono ?_;rintro e w8 ⟨rfl,hb8⟩;refine Stop.of ?_)
       refine Stop.go ?_
       have HP8:=hid (HP7.out.keep (hb8.block _ HP7.out.lt))
       have HB8:=hid (zAA HB7.out hb8)
       clear hb8 b0 b1 b2 b3
       obtain⟨p0,p1,p2,p3,p4⟩:=HP8.out.cells
       rcases HSG2.out with⟨hneg,hsn⟩|⟨hneg,hsn,_⟩
       ·have HNEG:=hid hneg
        have hA1:=HAB.out.1
        have hA2:=HAB.out.2
        clear hneg
        obtain⟨w9,hw9⟩:=exq (w8.setCell ⟨p,0,none⟩ (.int .i64 (-a)))
        have HP9:=hid (show RatI w9 p (-a,b)by
         have h:=zAP HP8.out 0 (.int .i64 (-a))
         rw[hw9];exact h)
        have HT9:=hid (show RatI w9 (s+1) (0,0)by
         have h1:=HT4.out.keep (HB8.out.block _ HT4.out.lt)
         rw[hw9];exact h1.keep ((Keep.set w8 p 0 _).block _ h1.lt (fun e=>HPS.out e.symm)))
        have HB9:=hid (show Below w.heap.size w w9 by
         rw[hw9]
         exact(Keep.set w8 p 0 _).below (zAA B3.out HB8.out) (by have:=B3.out.size;have:=HB8.out.size;omega) (fun k hk=>by have:=HPB.out;have:=B3.out.size;omega))
        have HW9:=hid hw9
        clear hw9
        go_upto_region 15 with fail
        rw[<- HW9.out]
        clear p0 p1 p2 p3 p4 hsn hA1 hA2
        refine zAF (fun j X=>wAll j=true->X.cell? ⟨p,0,none⟩=some (.int .i64 (-a))∧X.cell? ⟨p,1,none⟩=some (.int .i64 b)) (by kernel_rfl) ?_
        have hbe:Below w9.heap.size w9 w9.drew:=(Below.refl _ _).drew
        generalize w9.drew=we at hbe⊢
        have HTT:=hid (fun(X:World) (hX:Below w9.heap.size w9 X)=>show X.cell? ⟨p,0,none⟩=some (.int .i64 (-a))∧X.cell? ⟨p,1,none⟩=some (.int .i64 b)from by
         obtain⟨c0,c1,_⟩:=(HP9.out.keep (hX.block _ HP9.out.lt)).cells
         exact⟨c0,c1⟩)
        have HBE:=hid hbe
        clear hbe
        refine AnyT.tD (i:=0) (v:=.agg #[.int .i64 (-a),.int .i64 b]) rfl rfl (by rintro w' ⟨q0,q1⟩;go_simp) (HTT.out _ HBE.out) ?_;go_frame
        refine AnyT.tD (i:=1) (v:=.agg #[.int .i64 (-a),.int .i64 b]) rfl rfl (by rintro w' ⟨q0,q1⟩;go_simp) (HTT.out _ HBE.out) ?_;go_frame
        refine AnyT.nx (i:=2) rfl ?_
        go_wp2_with (go_at_call 147;refine(zLQ _ (-a) b).mono ?_;rintro e w10 ⟨rfl,hb10⟩;refine Stop.of ?_)
        refine Stop.go ?_
        have HB10:=hid (zAA HBE.out hb10)
        clear hb10
        go_wp2
        refine⟨fun _=>HTT.out _ HB10.out,?_⟩
        have hT10:=HT9.out.keep (HB10.out.block _ HT9.out.lt)
        obtain⟨t0,t1,t2,t3,t4⟩:=hT10.cells
        have K10:=zBJ w10 (s+1) (.int .i64 (-a)) (.int .i64 b)
        have X1:=hid (RatI.set (p:=((-a),b)) hT10)
        have X2:=hid (K10.below (zAA HB9.out HB10.out) (by have:=HB9.out.size;have:=HB10.out.size;omega) (fun k hk=>by have:=HSV.out;show k≠s+1;omega))
        have X3:=hid (show RatI _ p ((-a),b)from(HP9.out.keep (HB10.out.block _ HP9.out.lt)).keep (K10.block _ (by have:=HP9.out.lt;have:=HB10.out.size;omega) HPS.out))
        clear hT10 K10
        refine AnyT.nx (i:=3) rfl ?_
        go_wp2
        clear t0 t1 t2 t3 t4
        generalize (w10.setCell ⟨s+1,0,none⟩ (.int .i64 (-a))).setCell ⟨s+1,1,none⟩ (.int .i64 b)=WF at X1 X2 X3⊢
        refine⟨fun _=>by obtain⟨c0,c1,_⟩:=X3.out.cells;exact⟨c0,c1⟩,?_⟩
        refine AnyT.nx (i:=4) rfl ?_
        go_wp2
        refine⟨fun _=>by obtain⟨c0,c1,_⟩:=X3.out.cells;exact⟨c0,c1⟩,?_⟩
        refine AnyT.done (by kernel_rfl) ?_ _
        go_wp2
        obtain⟨t0,t1,t2,t3,t4⟩:=X1.out.cells
        refine bodyPost_ret (v:=.tuple #[.agg #[.int .i64 (-a),.int .i64 b],.bool (zAH ((-a),b))]) ?_ rfl ⟨⟨((-a),b),by rw[HVAL.out.1,zNQ];rfl,fun _=>by rw[HVAL.out.2,if_pos HNEG.out]⟩,X2.out⟩
        simp[results,Tryz.results83,go_sem,t0,t1,t2,t3,t4]
       ·have HNEG:=hid hneg
        clear hneg
        obtain⟨w9,hw9⟩:=exq (w8)
        have HP9:=hid (show RatI w9 p (a,b)by rw[hw9];exact HP8.out)
        have HT9:=hid (show RatI w9 (s+1) (0,0)by rw[hw9];exact HT4.out.keep (HB8.out.block _ HT4.out.lt))
        have HB9:=hid (show Below w.heap.size w w9 by rw[hw9];exact zAA B3.out HB8.out)
        have HW9:=hid hw9
        clear hw9
        go_upto_region 15 with fail
        rw[<- HW9.out]
        clear p0 p1 p2 p3 p4 hsn
        refine zAF (fun j X=>wAll j=true->X.cell? ⟨p,0,none⟩=some (.int .i64 (a))∧X.cell? ⟨p,1,none⟩=some (.int .i64 b)) (by kernel_rfl) ?_
        have hbe:Below w9.heap.size w9 w9.drew:=(Below.refl _ _).drew
        generalize w9.drew=we at hbe⊢
        have HTT:=hid (fun(X:World) (hX:Below w9.heap.size w9 X)=>show X.cell? ⟨p,0,none⟩=some (.int .i64 (a))∧X.cell? ⟨p,1,none⟩=some (.int .i64 b)from by
         obtain⟨c0,c1,_⟩:=(HP9.out.keep (hX.block _ HP9.out.lt)).cells
         exact⟨c0,c1⟩)
        have HBE:=hid hbe
        clear hbe
        refine AnyT.tD (i:=0) (v:=.agg #[.int .i64 (a),.int .i64 b]) rfl rfl (by rintro w' ⟨q0,q1⟩;go_simp) (HTT.out _ HBE.out) ?_;go_frame
        refine AnyT.tD (i:=1) (v:=.agg #[.int .i64 (a),.int .i64 b]) rfl rfl (by rintro w' ⟨q0,q1⟩;go_simp) (HTT.out _ HBE.out) ?_;go_frame
        refine AnyT.nx (i:=2) rfl ?_
        go_wp2_with (go_at_call 147;refine(zLQ _ (a) b).mono ?_;rintro e w10 ⟨rfl,hb10⟩;refine Stop.of ?_)
        refine Stop.go ?_
        have HB10:=hid (zAA HBE.out hb10)
        clear hb10
        go_wp2
        refine⟨fun _=>HTT.out _ HB10.out,?_⟩
        have hT10:=HT9.out.keep (HB10.out.block _ HT9.out.lt)
        obtain⟨t0,t1,t2,t3,t4⟩:=hT10.cells
        have K10:=zBJ w10 (s+1) (.int .i64 (a)) (.int .i64 b)
        have X1:=hid (RatI.set (p:=((a),b)) hT10)
        have X2:=hid (K10.below (zAA HB9.out HB10.out) (by have:=HB9.out.size;have:=HB10.out.size;omega) (fun k hk=>by have:=HSV.out;show k≠s+1;omega))
        have X3:=hid (show RatI _ p ((a),b)from(HP9.out.keep (HB10.out.block _ HP9.out.lt)).keep (K10.block _ (by have:=HP9.out.lt;have:=HB10.out.size;omega) HPS.out))
        clear hT10 K10
        refine AnyT.nx (i:=3) rfl ?_
        go_wp2
        clear t0 t1 t2 t3 t4
        generalize (w10.setCell ⟨s+1,0,none⟩ (.int .i64 (a))).setCell ⟨s+1,1,none⟩ (.int .i64 b)=WF at X1 X2 X3⊢
        refine⟨fun _=>by obtain⟨c0,c1,_⟩:=X3.out.cells;exact⟨c0,c1⟩,?_⟩
        refine AnyT.nx (i:=4) rfl ?_
        go_wp2
        refine⟨fun _=>by obtain⟨c0,c1,_⟩:=X3.out.cells;exact⟨c0,c1⟩,?_⟩
        refine AnyT.done (by kernel_rfl) ?_ _
        go_wp2
        obtain⟨t0,t1,t2,t3,t4⟩:=X1.out.cells
        refine bodyPost_ret (v:=.tuple #[.agg #[.int .i64 (a),.int .i64 b],.bool (zAH ((a),b))]) ?_ rfl ⟨⟨((a),b),by rw[HVAL.out.1];rfl,fun _=>by rw[HVAL.out.2,if_neg (show ¬n<0 by have:=HNEG.out;omega)]⟩,X2.out⟩
        simp[results,Tryz.results83,go_sem,t0,t1,t2,t3,t4]
      ·have hc0:(cmpI Z 0 !=0)=true:=by unfold cmpI;split<;>(try split)<;>simp<;>omega
       have HND2:=hid (show ∀j:Int,1<=j->j<=((k+1:Nat):Int)->¬b∣j from fun j h1 h2=>by
        rcases Int.lt_or_le (k:Int) j with h|h
        ·have:j=(k:Int)+1:=by omega
         rw[this];exact fun h=>hZ (hldv.2 h)
        ·exact HNDV.out j h1 h)
       obtain⟨C,hC⟩:=exq (cmpI Z 0)
       rw[<- hC]at HSZ hc0
       clear hab hg hb hNa hdb hcop hxb hYb hZb hldv hZ hC hd0 hdd hrd
       obtain⟨c0,c1,c2,c3,c4⟩:=HRZ.out.cells PZ.out
       go_wp2_with (go_at_call 148;refine(HSZ.out _).mono ?_;rintro e w5 ⟨rfl,hb5⟩;refine Stop.of ?_)
       refine Stop.go ?_
       have HB5:=hid (zAA HBW.out hb5)
       clear hb5 c0 c1 c2 c3 c4
       go_wp2
       refine⟨⟨k+1,by omega,by go_num,HND2.out,HB5.out⟩,by simp[intOf];omega⟩
     ·intro l f hl
      refine⟨Below.refl _ _,?_⟩
      refine⟨fun h=>?_,fun h=>?_,fun h=>?_,fun h=>?_,fun h=>?_,fun h=>?_,fun h=>?_,fun h=>?_,fun h=>?_,fun h=>?_,fun h=>?_,fun h=>?_,fun h=>?_,fun h=>?_⟩<;>(rw[hl _ (by decide)]at h;cases h)
    ·have hk4:k=400:=by omega
     subst hk4
     have HNO:=hid (show zAH (zAR n d)=false by
      rw[HVAL.out.1]
      cases hv:zAH (a,b)with
      |false=>rfl
      |true=>
       have h:=zAW.1 hv
       exact absurd (Int.dvd_refl b) (hnd b (by have:=h.1;simpa using this) (by have:=h.2.1;simpa using this)))
     have HBK:=hid hbk
     have HTB:=hid (HT4.out.keep (hbk.block _ HT4.out.lt))
     obtain⟨t0,t1,t2,t3,t4⟩:=HTB.out.cells
     have K:=zBJ wr (s+1) (.int .i64 0) (.int .i64 0)
     have X1:=hid (RatI.set (p:=(0,0)) HTB.out)
     have X2:=hid (K.below (zAA B3.out hbk) (by have:=B3.out.size;have:=hbk.size;omega) (fun k hk=>by have:=HSV.out;show k≠s+1;omega))
     clear K hnd hbk
     go_wp2
     clear t0 t1 t2 t3 t4
     generalize (wr.setCell ⟨s+1,0,none⟩ (.int .i64 0)).setCell ⟨s+1,1,none⟩ (.int .i64 0)=WF at X1 X2⊢
     obtain⟨t0,t1,t2,t3,t4⟩:=X1.out.cells
     refine bodyPost_ret (v:=.tuple #[.agg #[.int .i64 0,.int .i64 0],.bool false]) ?_ rfl ⟨⟨(0,0),by rw[HNO.out];rfl,fun h=>by rw[HNO.out]at h;cases h⟩,X2.out⟩
     simp[results,Tryz.results83,go_sem,t0,t1,t2,t3,t4]
end
section
theorem zOM{x:List Rt}(hp:∀k,0<(zAB x k).2):∀n:Nat,∃(l:Nat->Int) (D:Int),0<D∧∀k,k<n->(zAB x k).1*D=l k*(zAB x k).2
 |0=>⟨fun _=>0,1,by decide,fun k h=>by omega⟩
 |n+1=>by
  obtain⟨l,D,hD,h⟩:=zOM hp n
  have hn:=hp n
  refine⟨fun k=>if k=n then(zAB x n).1*D else l k*(zAB x n).2,D*(zAB x n).2,Int.mul_pos hD hn,fun k hk=>?_⟩
  by_cases e:k=n
  ·subst e;simp only[if_true];grind
  ·have:=h k (by omega)
   simp only[if_neg e]
   have e2:(zAB x k).1*(D*(zAB x n).2)=(zAB x k).1*D*(zAB x n).2:=by grind
   rw[e2,this];grind
theorem sumR_sol{r:List Int}{x:List Rt}{l:Nat->Int}{D:Int}(hD:0<D)(hp:∀k,0<(zAB x k).2):∀t,(∀k,k<t->(zAB x k).1*D=l k*(zAB x k).2)->(sumR r x t).1*D=(sumR r x t).2*sm (fun k=>vec r k*l k) t∧0<(sumR r x t).2
 |0,_=>⟨by simp[sumR,sm],by simp[sumR]⟩
 |t+1,h=>by
  obtain⟨ih,ip⟩:=sumR_sol (r:=r) hD hp t (fun k hk=>h k (by omega))
  have ht:=h t (by omega)
  have hpt:=hp t
  have e:sumR r x (t+1)=if vec r t≠0 then((sumR r x t).1*(zAB x t).2+(sumR r x t).2*((zAB x t).1*vec r t),(sumR r x t).2*(zAB x t).2)else sumR r x t:=rfl
  have e2:sm (fun k=>vec r k*l k) (t+1)=sm (fun k=>vec r k*l k) t+vec r t*l t:=rfl
  rw[e,e2]
  obtain⟨⟨a,b⟩,h1⟩:∃q,q=sumR r x t:=⟨_,rfl⟩
  obtain⟨⟨n,d⟩,h2⟩:∃q,q=zAB x t:=⟨_,rfl⟩
  obtain⟨S,hS⟩:=exq (sm (fun k=>vec r k*l k) t)
  obtain⟨v,hv⟩:=exq (vec r t)
  rw[<- h1,<- hS]at ih
  rw[<- h1]at ip
  rw[<- h2]at ht hpt
  rw[<- h1,<- h2,<- hS,<- hv]
  simp only[]at ih ip ht hpt⊢
  split
  ·refine⟨?_,Int.mul_pos ip hpt⟩
   show(a*d+b*(n*v))*D=b*d*(S+v*l t)
   have e3:(a*d+b*(n*v))*D=a*D*d+b*v*(n*D):=by grind
   rw[e3,ih,ht];grind
  ·rename_i h0
   have h0':v=0:=Classical.not_not.1 h0
   subst h0'
   refine⟨?_,ip⟩
   rw[Int.zero_mul,Int.add_zero];exact ih
theorem zHA{x:List Rt}(h:x.all zAH=true):∀k,0<(zAB x k).2:=fun k=>by
 unfold zAB
 cases e:x[k]? with
 |none=>decide
 |some r=>
  have:=List.all_eq_true.1 h r (List.mem_of_getElem? e)
  rw[zAW]at this
  simp only[Option.getD_some];omega
theorem zMT{M:Mask}{x:List Rt}{y:List Int}(h0:rdE M y=0)(hl:x.length=zAC M)(hv:x.all zAH=true){l:Nat->Int}{D:Int}(hD:0<D)(h:∀k,k<zAC M->(zAB x k).1*D=l k*(zAB x k).2):zCF M x y=true↔SolM M (zAC M) y l D:=by
 have hp:=zHA hv
 have key:=fun(i:Nat)=>sumR_sol (r:=M[i]?.getD []) hD hp (zAC M) h
 constructor
 ·intro hm
  unfold zCF at hm
  simp only[Bool.and_eq_true,decide_eq_true_eq]at hm
  refine⟨hD,fun q hq=>?_⟩
  obtain⟨k1,k2⟩:=key q
  have k3:=hm.2.2.2 q hq
  rw[k3]at k1
  have e:(sumR (M[q]?.getD []) x (zAC M)).2*sm (fun k=>vec (M[q]?.getD []) k*l k) (zAC M)=(sumR (M[q]?.getD []) x (zAC M)).2*(vec y q*D):=by rw[<- k1];grind
  exact Int.eq_of_mul_eq_mul_left (by omega) e
 ·intro hs
  refine mk_yes h0 hl hv fun i hi=>?_
  obtain⟨k1,k2⟩:=key i
  have e:=hs.2 i hi
  have e':sm (fun k=>vec (M[i]?.getD []) k*l k) (zAC M)=vec y i*D:=e
  rw[e']at k1
  have k3:(sumR (M[i]?.getD []) x (zAC M)).1*D=(sumR (M[i]?.getD []) x (zAC M)).2*vec y i*D:=by rw[k1];grind
  exact Int.eq_of_mul_eq_mul_right (by omega) k3
theorem zMS{M:Mask}{x:List Rt}{y:List Int}(hm:zCF M x y=true):rdE M y=0∧x.length=zAC M∧x.all zAH=true∧∃(l:Nat->Int) (D:Int),SolM M (zAC M) y l D∧∀k,k<zAC M->(zAB x k).1*D=l k*(zAB x k).2:=by
 have hm':=hm
 unfold zCF at hm
 simp only[Bool.and_eq_true,decide_eq_true_eq]at hm
 obtain⟨h1,h2,h3,_⟩:=hm
 obtain⟨l,D,hD,h⟩:=zOM (zHA h3) (zAC M)
 exact⟨h1,h2,h3,l,D,(zMT h1 h2 h3 hD h).1 hm',h⟩
theorem makes_le{M:Mask}{x:List Rt}{y:List Int}{v:Rt}(hm:zCF M x y=true)(ho:OptN M y v):v.1*(nrmQ x).2<=(nrmQ x).1*v.2∧0<(nrmQ x).2:=by
 obtain⟨h1,h2,h3,l,D,hs,h⟩:=zMS hm
 have hp:=zHA h3
 have hn:(nrmQ x).1*D=(nrmQ x).2*nrmI l (zAC M):=by unfold nrmQ;rw[h2];exact zEB hs.1 hp _ h
 have hq:0<(nrmQ x).2:=(zEU hp _).1
 have h4:=ho.le l D hs
 refine⟨?_,hq⟩
 have h5:v.1*(nrmQ x).2*D<=(nrmQ x).1*v.2*D:=by
  have a1:v.1*D*(nrmQ x).2<=nrmI l (zAC M)*v.2*(nrmQ x).2:=Int.mul_le_mul_of_nonneg_right h4 (by omega)
  have a2:nrmI l (zAC M)*v.2*(nrmQ x).2=(nrmQ x).1*D*v.2:=by rw[hn];grind
  have a3:v.1*(nrmQ x).2*D=v.1*D*(nrmQ x).2:=by grind
  have a4:(nrmQ x).1*v.2*D=(nrmQ x).1*D*v.2:=by grind
  omega
 exact Int.le_of_mul_le_mul_right h5 hs.1
end
section
open Go.RowKit
theorem cmpI_sub{V U V' U':Int}(h:V-U=V'-U'):cmpI V U=cmpI V' U':=by
 unfold cmpI
 by_cases h1:V<U
 ·rw[if_pos h1,if_pos (show V'<U' by omega)]
 ·rw[if_neg h1,if_neg (show ¬V'<U' by omega)]
  by_cases h2:V=U
  ·rw[if_pos h2,if_pos (show V'=U' by omega)]
  ·rw[if_neg h2,if_neg (show ¬V'=U' by omega)]
theorem cmp_lt{an A bn B:Int}(hA:1<=A)(hB:1<=B)(h:an/A<bn/B):an*B<bn*A:=by
 have e0:an<(an/A+1)*A:=Int.lt_ediv_add_one_mul_self an (by omega)
 have e1:(an/A+1)*A<=bn/B*A:=Int.mul_le_mul_of_nonneg_right (by omega) (by omega)
 have e2:an*B<bn/B*A*B:=Int.mul_lt_mul_of_pos_right (by omega) (by omega)
 have e3:bn/B*B*A<=bn*A:=Int.mul_le_mul_of_nonneg_right (Int.ediv_mul_le bn (by omega)) (by omega)
 have e4:bn/B*A*B=bn/B*B*A:=by grind
 omega
theorem zHR(d:Int):1<=dF d:=by unfold dF;split<;>omega
theorem cmpR_lt{an ad bn bd:Int}(h:an/dF ad<bn/dF bd):cmpR an ad bn bd= -1:=by
 unfold cmpR cmpI
 rw[if_pos (cmp_lt (zHR ad) (zHR bd) h)]
theorem cmpR_gt{an ad bn bd:Int}(h:bn/dF bd<an/dF ad):cmpR an ad bn bd=1:=by
 have:=cmp_lt (zHR bd) (zHR ad) h
 unfold cmpR cmpI
 rw[if_neg (by omega),if_neg (by omega)]
theorem cmpR_eq{an ad bn bd:Int}(h:an/dF ad=bn/dF bd):cmpR an ad bn bd=cmpI (an%dF ad*dF bd) (bn%dF bd*dF ad):=by
 unfold cmpR
 refine cmpI_sub ?_
 have e1:=Int.mul_ediv_add_emod an (dF ad)
 have e2:=Int.mul_ediv_add_emod bn (dF bd)
 rw[<- h]at e2
 generalize an/dF ad=p at e1 e2
 generalize an%dF ad=x at e1⊢
 generalize bn%dF bd=y at e2⊢
 generalize dF ad=A at e1 e2⊢
 generalize dF bd=B at e1 e2⊢
 subst e1
 subst e2
 grind
theorem cmpR_rec{an ad bn bd:Int}(h:an/dF ad=bn/dF bd)(hx:an%dF ad≠0)(hy:bn%dF bd≠0):cmpR an ad bn bd=cmpR (dF bd) (bn%dF bd) (dF ad) (an%dF ad):=by
 rw[cmpR_eq h]
 have h1:=Int.emod_nonneg an (show dF ad≠0 by have:=zHR ad;omega)
 have h2:=Int.emod_nonneg bn (show dF bd≠0 by have:=zHR bd;omega)
 unfold cmpR
 rw[show dF (an%dF ad)=an%dF ad by unfold dF;rw[if_neg];unfold dF at hx h1;omega,show dF (bn%dF bd)=bn%dF bd by unfold dF;rw[if_neg];unfold dF at hy h2;omega,Int.mul_comm (dF bd),Int.mul_comm (dF ad)]
theorem zNY:∀(s:Nat) (w:World) (an ad bn bd:Int),F64 an->F64 ad->F64 bn->F64 bd->(dF ad+dF bd).toNat<=s->
 Calls Tryz.prog 31 #[.agg #[.int .i64 an,.int .i64 ad],.agg #[.int .i64 bn,.int .i64 bd]] w fun e w'=>e=.returned (.int .i64 (cmpR an ad bn bd))∧Below w.heap.size w w':=by
 intro s
 induction s with
 |zero=>
  intro w an ad bn bd h1 h2 h3 h4 hs
  have hA1:=zHR ad
  have hB1:=zHR bd
  omega
 |succ s ih=>
  intro w an ad bn bd h1 h2 h3 h4 hs
  have hA1:=zHR ad
  have hB1:=zHR bd
  have hAd:dF ad=if ad<1 then 1 else ad:=rfl
  have hBd:dF bd=if bd<1 then 1 else bd:=rfl
  have fA:1<=dF ad∧dF ad<=9223372036854775807:=by unfold dF;unfold F64 at h2;split<;>omega
  have fB:1<=dF bd∧dF bd<=9223372036854775807:=by unfold dF;unfold F64 at h4;split<;>omega
  have HD1:=hid (fun X=>down_c X an (dF ad) h1 fA)
  have HD2:=hid (fun X=>down_c X bn (dF bd) h3 fB)
  have kx0:=Int.emod_nonneg an (show dF ad≠0 by omega)
  have ky0:=Int.emod_nonneg bn (show dF bd≠0 by omega)
  have kx1:=Int.emod_lt_of_pos an (show 0<dF ad by omega)
  have ky1:=Int.emod_lt_of_pos bn (show 0<dF bd by omega)
  have HLT:=hid (fun h=>cmpR_lt (an:=an) (ad:=ad) (bn:=bn) (bd:=bd) h)
  have HGT:=hid (fun h=>cmpR_gt (an:=an) (ad:=ad) (bn:=bn) (bd:=bd) h)
  have HEQ:=hid (fun h=>cmpR_eq (an:=an) (ad:=ad) (bn:=bn) (bd:=bd) h)
  have HRE:=hid (fun h hx hy=>cmpR_rec (an:=an) (ad:=ad) (bn:=bn) (bd:=bd) h hx hy)
  obtain⟨C,hC⟩:=exq (cmpR an ad bn bd)
  rw[<- hC]at HLT HGT HEQ HRE⊢
  clear hC
  have HMA:=hid (show(if ad<1 then(1:Int)else ad)=dF ad from rfl)
  have HMB:=hid (show(if bd<1 then(1:Int)else bd)=dF bd from rfl)
  have HBL:=hid (show Below w.heap.size w ((w.alloc (.cells #[.int .i64 an,.int .i64 ad] 29)).alloc (.cells #[.int .i64 bn,.int .i64 bd] 29))from((Below.refl _ _).alloc (Nat.le_refl _) _).alloc (by simp) _)
  clear HMA HMB
  by_cases c1:ad<1<;>by_cases c2:bd<1
  ·have eA:dF ad=1:=by unfold dF;rw[if_pos c1]
   have eB:dF bd=1:=by unfold dF;rw[if_pos c2]
   rw[eA]at HD1 HLT HGT HEQ HRE kx0 kx1 fA hs
   rw[eB]at HD2 HLT HGT HEQ HRE ky0 ky1 fB hs
   obtain⟨p,hp⟩:=exq (an/1)
   obtain⟨q,hq⟩:=exq (bn/1)
   obtain⟨x,hx⟩:=exq (an%1)
   obtain⟨y,hy⟩:=exq (bn%1)
   rw[<- hp,<- hx]at HD1
   rw[<- hq,<- hy]at HD2
   rw[<- hp,<- hq]at HLT HGT HEQ HRE
   rw[<- hx,<- hy]at HEQ HRE
   rw[<- hx]at kx0 kx1
   rw[<- hy]at ky0 ky1
   have HIH:=hid (fun(X:World) (hx0:x≠0) (hy0:y≠0)=>ih X 1 y 1 x (by unfold F64;omega) (by unfold F64;omega) (by unfold F64;omega) (by unfold F64;omega) (by unfold dF;rw[if_neg (by omega),if_neg (by omega)];omega))
   have hm:(p<q∧C= -1)∨(q<p∧C=1)∨(p=q∧C=cmpI (x*1) (y*1)∧(x≠0->y≠0->C=cmpR 1 y 1 x)):=by
    rcases Int.lt_trichotomy p q with h|h|h
    ·exact .inl ⟨h,HLT.out h⟩
    ·exact .inr (.inr ⟨h,HEQ.out h,HRE.out h⟩)
    ·exact .inr (.inl ⟨h,HGT.out h⟩)
   have hc0:x=0->y=0->cmpI (x*1) (y*1)=0:=fun e1 e2=>by subst e1;subst e2;unfold cmpI;simp
   have hc1:x=0->y≠0->cmpI (x*1) (y*1)= -1:=fun e1 e2=>by
    subst e1
    have:0<y*1:=Int.mul_pos (by omega) (by omega)
    unfold cmpI;rw[if_pos (by omega)]
   have hc2:x≠0->y=0->cmpI (x*1) (y*1)=1:=fun e1 e2=>by
    subst e2
    have:0<x*1:=Int.mul_pos (by omega) (by omega)
    unfold cmpI;rw[if_neg (by omega),if_neg (by omega)]
   have HM:=hid hm
   have HC0:=hid hc0
   have HC1:=hid hc1
   have HC2:=hid hc2
   clear eA eB hp hq hx hy hAd hBd hm hc0 hc1 hc2 HLT HGT HEQ HRE ih
   go_enter Tryz.func31,Tryz.ntmps31
   go_wp2_with (go_at_call 92;refine(HD1.out _).mono ?_;rintro e w1 ⟨rfl,k1,rfl⟩;refine Stop.of ?_)
   refine Stop.go ?_
   go_wp2_with (go_at_call 92;refine(HD2.out _).mono ?_;rintro e w2 ⟨rfl,k2,rfl⟩;refine Stop.of ?_)
   refine Stop.go ?_
   clear HD1 HD2
   rcases HM.out with⟨hl,rfl⟩|⟨hl,rfl⟩|⟨rfl,hC,hR⟩
   ·have hpb:(p !=q)=true:=by simp;omega
    clear HM
    go_wp2
    go_ret
    exact⟨rfl,zAJ HBL.out _⟩
   ·have hpb:(p !=q)=true:=by simp;omega
    have hnl:¬p<q:=by omega
    clear HM
    go_wp2
    go_ret
    exact⟨rfl,zAJ HBL.out _⟩
   ·have hpb:(p !=p)=false:=by simp
    by_cases hx0:x=0
    ·by_cases hy0:y=0
     ·obtain rfl:C=0:=hC.trans (HC0.out hx0 hy0)
      subst hx0
      subst hy0
      clear HM HC0 HC1 HC2 HIH hR hC
      go_wp2
      go_ret
      exact⟨rfl,zAJ HBL.out _⟩
     ·obtain rfl:C= -1:=hC.trans (HC1.out hx0 hy0)
      have hyb:(y==0)=false:=by simpa using hy0
      subst hx0
      clear HM HC0 HC1 HC2 HIH hR hC
      go_wp2
      go_ret
      exact⟨rfl,zAJ HBL.out _⟩
    ·exfalso;omega
  ·have eA:dF ad=1:=by unfold dF;rw[if_pos c1]
   have eB:dF bd=bd:=by unfold dF;rw[if_neg c2]
   rw[eA]at HD1 HLT HGT HEQ HRE kx0 kx1 fA hs
   rw[eB]at HD2 HLT HGT HEQ HRE ky0 ky1 fB hs
   obtain⟨p,hp⟩:=exq (an/1)
   obtain⟨q,hq⟩:=exq (bn/bd)
   obtain⟨x,hx⟩:=exq (an%1)
   obtain⟨y,hy⟩:=exq (bn%bd)
   rw[<- hp,<- hx]at HD1
   rw[<- hq,<- hy]at HD2
   rw[<- hp,<- hq]at HLT HGT HEQ HRE
   rw[<- hx,<- hy]at HEQ HRE
   rw[<- hx]at kx0 kx1
   rw[<- hy]at ky0 ky1
   have HIH:=hid (fun(X:World) (hx0:x≠0) (hy0:y≠0)=>ih X bd y 1 x (by unfold F64;omega) (by unfold F64;omega) (by unfold F64;omega) (by unfold F64;omega) (by unfold dF;rw[if_neg (by omega),if_neg (by omega)];omega))
   have hm:(p<q∧C= -1)∨(q<p∧C=1)∨(p=q∧C=cmpI (x*bd) (y*1)∧(x≠0->y≠0->C=cmpR bd y 1 x)):=by
    rcases Int.lt_trichotomy p q with h|h|h
    ·exact .inl ⟨h,HLT.out h⟩
    ·exact .inr (.inr ⟨h,HEQ.out h,HRE.out h⟩)
    ·exact .inr (.inl ⟨h,HGT.out h⟩)
   have hc0:x=0->y=0->cmpI (x*bd) (y*1)=0:=fun e1 e2=>by subst e1;subst e2;unfold cmpI;simp
   have hc1:x=0->y≠0->cmpI (x*bd) (y*1)= -1:=fun e1 e2=>by
    subst e1
    have:0<y*1:=Int.mul_pos (by omega) (by omega)
    unfold cmpI;rw[if_pos (by omega)]
   have hc2:x≠0->y=0->cmpI (x*bd) (y*1)=1:=fun e1 e2=>by
    subst e2
    have:0<x*bd:=Int.mul_pos (by omega) (by omega)
    unfold cmpI;rw[if_neg (by omega),if_neg (by omega)]
   have HM:=hid hm
   have HC0:=hid hc0
   have HC1:=hid hc1
   have HC2:=hid hc2
   clear eA eB hp hq hx hy hAd hBd hm hc0 hc1 hc2 HLT HGT HEQ HRE ih
   go_enter Tryz.func31,Tryz.ntmps31
   go_wp2_with (go_at_call 92;refine(HD1.out _).mono ?_;rintro e w1 ⟨rfl,k1,rfl⟩;refine Stop.of ?_)
   refine Stop.go ?_
   go_wp2_with (go_at_call 92;refine(HD2.out _).mono ?_;rintro e w2 ⟨rfl,k2,rfl⟩;refine Stop.of ?_)
   refine Stop.go ?_
   clear HD1 HD2
   rcases HM.out with⟨hl,rfl⟩|⟨hl,rfl⟩|⟨rfl,hC,hR⟩
   ·have hpb:(p !=q)=true:=by simp;omega
    clear HM
    go_wp2
    go_ret
    exact⟨rfl,zAJ HBL.out _⟩
   ·have hpb:(p !=q)=true:=by simp;omega
    have hnl:¬p<q:=by omega
    clear HM
    go_wp2
    go_ret
    exact⟨rfl,zAJ HBL.out _⟩
   ·have hpb:(p !=p)=false:=by simp
    by_cases hx0:x=0
    ·by_cases hy0:y=0
     ·obtain rfl:C=0:=hC.trans (HC0.out hx0 hy0)
      subst hx0
      subst hy0
      clear HM HC0 HC1 HC2 HIH hR hC
      go_wp2
      go_ret
      exact⟨rfl,zAJ HBL.out _⟩
     ·obtain rfl:C= -1:=hC.trans (HC1.out hx0 hy0)
      have hyb:(y==0)=false:=by simpa using hy0
      subst hx0
      clear HM HC0 HC1 HC2 HIH hR hC
      go_wp2
      go_ret
      exact⟨rfl,zAJ HBL.out _⟩
    ·exfalso;omega
  ·have eA:dF ad=ad:=by unfold dF;rw[if_neg c1]
   have eB:dF bd=1:=by unfold dF;rw[if_pos c2]
   rw[eA]at HD1 HLT HGT HEQ HRE kx0 kx1 fA hs
   rw[eB]at HD2 HLT HGT HEQ HRE ky0 ky1 fB hs
   obtain⟨p,hp⟩:=exq (an/ad)
   obtain⟨q,hq⟩:=exq (bn/1)
   obtain⟨x,hx⟩:=exq (an%ad)
   obtain⟨y,hy⟩:=exq (bn%1)
   rw[<- hp,<- hx]at HD1
   rw[<- hq,<- hy]at HD2
   rw[<- hp,<- hq]at HLT HGT HEQ HRE
   rw[<- hx,<- hy]at HEQ HRE
   rw[<- hx]at kx0 kx1
   rw[<- hy]at ky0 ky1
   have HIH:=hid (fun(X:World) (hx0:x≠0) (hy0:y≠0)=>ih X 1 y ad x (by unfold F64;omega) (by unfold F64;omega) (by unfold F64;omega) (by unfold F64;omega) (by unfold dF;rw[if_neg (by omega),if_neg (by omega)];omega))
   have hm:(p<q∧C= -1)∨(q<p∧C=1)∨(p=q∧C=cmpI (x*1) (y*ad)∧(x≠0->y≠0->C=cmpR 1 y ad x)):=by
    rcases Int.lt_trichotomy p q with h|h|h
    ·exact .inl ⟨h,HLT.out h⟩
    ·exact .inr (.inr ⟨h,HEQ.out h,HRE.out h⟩)
    ·exact .inr (.inl ⟨h,HGT.out h⟩)
   have hc0:x=0->y=0->cmpI (x*1) (y*ad)=0:=fun e1 e2=>by subst e1;subst e2;unfold cmpI;simp
   have hc1:x=0->y≠0->cmpI (x*1) (y*ad)= -1:=fun e1 e2=>by
    subst e1
    have:0<y*ad:=Int.mul_pos (by omega) (by omega)
    unfold cmpI;rw[if_pos (by omega)]
   have hc2:x≠0->y=0->cmpI (x*1) (y*ad)=1:=fun e1 e2=>by
    subst e2
    have:0<x*1:=Int.mul_pos (by omega) (by omega)
    unfold cmpI;rw[if_neg (by omega),if_neg (by omega)]
   have HM:=hid hm
   have HC0:=hid hc0
   have HC1:=hid hc1
   have HC2:=hid hc2
   clear eA eB hp hq hx hy hAd hBd hm hc0 hc1 hc2 HLT HGT HEQ HRE ih
   go_enter Tryz.func31,Tryz.ntmps31
   go_wp2_with (go_at_call 92;refine(HD1.out _).mono ?_;rintro e w1 ⟨rfl,k1,rfl⟩;refine Stop.of ?_)
   refine Stop.go ?_
   go_wp2_with (go_at_call 92;refine(HD2.out _).mono ?_;rintro e w2 ⟨rfl,k2,rfl⟩;refine Stop.of ?_)
   refine Stop.go ?_
   clear HD1 HD2
   rcases HM.out with⟨hl,rfl⟩|⟨hl,rfl⟩|⟨rfl,hC,hR⟩
   ·have hpb:(p !=q)=true:=by simp;omega
    clear HM
    go_wp2
    go_ret
    exact⟨rfl,zAJ HBL.out _⟩
   ·have hpb:(p !=q)=true:=by simp;omega
    have hnl:¬p<q:=by omega
    clear HM
    go_wp2
    go_ret
    exact⟨rfl,zAJ HBL.out _⟩
   ·have hpb:(p !=p)=false:=by simp
    by_cases hx0:x=0
    ·by_cases hy0:y=0
     ·obtain rfl:C=0:=hC.trans (HC0.out hx0 hy0)
      subst hx0
      subst hy0
      clear HM HC0 HC1 HC2 HIH hR hC
      go_wp2
      go_ret
      exact⟨rfl,zAJ HBL.out _⟩
     ·obtain rfl:C= -1:=hC.trans (HC1.out hx0 hy0)
      have hyb:(y==0)=false:=by simpa using hy0
      subst hx0
      clear HM HC0 HC1 HC2 HIH hR hC
      go_wp2
      go_ret
      exact⟨rfl,zAJ HBL.out _⟩
    ·have hxb:(x==0)=false:=by simpa using hx0
     by_cases hy0:y=0
     ·obtain rfl:C=1:=hC.trans (HC2.out hx0 hy0)
      subst hy0
      clear HM HC0 HC1 HC2 HIH hR hC
      go_wp2
      go_ret
      exact⟨rfl,zAJ HBL.out _⟩
     ·exfalso;omega
  ·have eA:dF ad=ad:=by unfold dF;rw[if_neg c1]
   have eB:dF bd=bd:=by unfold dF;rw[if_neg c2]
   rw[eA]at HD1 HLT HGT HEQ HRE kx0 kx1 fA hs
   rw[eB]at HD2 HLT HGT HEQ HRE ky0 ky1 fB hs
   obtain⟨p,hp⟩:=exq (an/ad)
   obtain⟨q,hq⟩:=exq (bn/bd)
   obtain⟨x,hx⟩:=exq (an%ad)
   obtain⟨y,hy⟩:=exq (bn%bd)
   rw[<- hp,<- hx]at HD1
   rw[<- hq,<- hy]at HD2
   rw[<- hp,<- hq]at HLT HGT HEQ HRE
   rw[<- hx,<- hy]at HEQ HRE
   rw[<- hx]at kx0 kx1
   rw[<- hy]at ky0 ky1
   have HIH:=hid (fun(X:World) (hx0:x≠0) (hy0:y≠0)=>ih X bd y ad x (by unfold F64;omega) (by unfold F64;omega) (by unfold F64;omega) (by unfold F64;omega) (by unfold dF;rw[if_neg (by omega),if_neg (by omega)];omega))
   have hm:(p<q∧C= -1)∨(q<p∧C=1)∨(p=q∧C=cmpI (x*bd) (y*ad)∧(x≠0->y≠0->C=cmpR bd y ad x)):=by
    rcases Int.lt_trichotomy p q with h|h|h
    ·exact .inl ⟨h,HLT.out h⟩
    ·exact .inr (.inr ⟨h,HEQ.out h,HRE.out h⟩)
    ·exact .inr (.inl ⟨h,HGT.out h⟩)
   have hc0:x=0->y=0->cmpI (x*bd) (y*ad)=0:=fun e1 e2=>by subst e1;subst e2;unfold cmpI;simp
   have hc1:x=0->y≠0->cmpI (x*bd) (y*ad)= -1:=fun e1 e2=>by
    subst e1
    have:0<y*ad:=Int.mul_pos (by omega) (by omega)
    unfold cmpI;rw[if_pos (by omega)]
   have hc2:x≠0->y=0->cmpI (x*bd) (y*ad)=1:=fun e1 e2=>by
    subst e2
    have:0<x*bd:=Int.mul_pos (by omega) (by omega)
    unfold cmpI;rw[if_neg (by omega),if_neg (by omega)]
   have HM:=hid hm
   have HC0:=hid hc0
   have HC1:=hid hc1
   have HC2:=hid hc2
   clear eA eB hp hq hx hy hAd hBd hm hc0 hc1 hc2 HLT HGT HEQ HRE ih
   go_enter Tryz.func31,Tryz.ntmps31
   go_wp2_with (go_at_call 92;refine(HD1.out _).mono ?_;rintro e w1 ⟨rfl,k1,rfl⟩;refine Stop.of ?_)
   refine Stop.go ?_
   go_wp2_with (go_at_call 92;refine(HD2.out _).mono ?_;rintro e w2 ⟨rfl,k2,rfl⟩;refine Stop.of ?_)
   refine Stop.go ?_
   clear HD1 HD2
   rcases HM.out with⟨hl,rfl⟩|⟨hl,rfl⟩|⟨rfl,hC,hR⟩
   ·have hpb:(p !=q)=true:=by simp;omega
    clear HM
    go_wp2
    go_ret
    exact⟨rfl,zAJ HBL.out _⟩
   ·have hpb:(p !=q)=true:=by simp;omega
    have hnl:¬p<q:=by omega
    clear HM
    go_wp2
    go_ret
    exact⟨rfl,zAJ HBL.out _⟩
   ·have hpb:(p !=p)=false:=by simp
    by_cases hx0:x=0
    ·by_cases hy0:y=0
     ·obtain rfl:C=0:=hC.trans (HC0.out hx0 hy0)
      subst hx0
      subst hy0
      clear HM HC0 HC1 HC2 HIH hR hC
      go_wp2
      go_ret
      exact⟨rfl,zAJ HBL.out _⟩
     ·obtain rfl:C= -1:=hC.trans (HC1.out hx0 hy0)
      have hyb:(y==0)=false:=by simpa using hy0
      subst hx0
      clear HM HC0 HC1 HC2 HIH hR hC
      go_wp2
      go_ret
      exact⟨rfl,zAJ HBL.out _⟩
    ·have hxb:(x==0)=false:=by simpa using hx0
     by_cases hy0:y=0
     ·obtain rfl:C=1:=hC.trans (HC2.out hx0 hy0)
      subst hy0
      clear HM HC0 HC1 HC2 HIH hR hC
      go_wp2
      go_ret
      exact⟨rfl,zAJ HBL.out _⟩
     ·have hyb:(y==0)=false:=by simpa using hy0
      have HI2:=hid (fun X=>HIH.out X hx0 hy0)
      rw[<- hR hx0 hy0]at HI2
      clear HM HC0 HC1 HC2 HIH hR hC
      go_wp2_with (go_at_call 31;refine(HI2.out _).mono ?_;rintro e w3 ⟨rfl,hb3⟩)
      go_ret
      exact⟨rfl,zAA (zAJ HBL.out _) hb3⟩
end
end Go.Proofs.YtlffndehhhpgjaaGreat
