/- Walks and plain laws for DualValuesRow, part 13. -/
import Derived.Laws.CopyOwn
import Derived.Test.YtlffndehhhpgjaaGreatPkDualValuesRow12
namespace Go.Proofs.YtlffndehhhpgjaaGreat
set_option linter.unusedVariables false
set_option linter.unusedSimpArgs false
set_option maxRecDepth 100000
set_option maxHeartbeats 4000000
section
open Go.RowKit
theorem zOL(w:World)(a2:Option Addr)(n cap2:Nat)(x:List Rt)(hn:x.length=n)(hm:n<=10)(H2:zCD w a2 x)
 (hx:∀k,0<=(zAG x k).2∧(zAG x k).2<=1000000000000∧ -1000000000000<=(zAG x k).1∧(zAG x k).1<=1000000000000):
 Calls Tryz.prog 87 #[.slice a2 n cap2] w fun e w'=>∃v,e=.returned v∧RatV w' v 90 (zEZ x).1 (zEZ x).2∧Below w.heap.size w w':=by
 obtain⟨s0,hs⟩:=exq (w.heap.size)
 obtain⟨wa,hwa⟩:=exq (w.alloc (.cells #[.bool false,.slice none 0 0,.slice none 0 0] 37))
 have hba:Below w.heap.size w wa:=by rw[hwa];exact(Below.refl _ _).alloc (Nat.le_refl _) _
 have q0:wa.heap[s0]? =some (.cells #[.bool false,.slice none 0 0,.slice none 0 0] 37 (0,0)):=by
  rw[hwa,hs];exact World.alloc_heap_new w _
 have hs1:s0<wa.heap.size:=(Array.getElem?_eq_some_iff.1 q0).1
 have HQ0:=hid (fun(Y:World) (hY:Below wa.heap.size wa Y)=>show QBlk Y s0 from⟨_,_,_,_,_,_,_,(hY.block s0 hs1).trans q0⟩)
 have HBA:=hid hba
 have HFIN:=hid (fun(Y:World) (hY:Below wa.heap.size wa Y) (x y z:Value)=>show Below w.heap.size w (((Y.setCell ⟨s0,0,none⟩ x).setCell ⟨s0,1,none⟩ y).setCell ⟨s0,2,none⟩ z)from
  zAB (zAB (zAB (zAA hba hY) (by omega) 0 x) (by omega) 1 y) (by omega) 2 z)
 have HXI:=hid (fun(X:World) (hX:Below wa.heap.size wa X)=>H2.below (zAA hba hX))
 have HX:=hid hx
 have HN:=hid hn
 have HSQ:=hid (show zEZ x=nrmS x n by unfold zEZ;rw[hn])
 have HSZ:=hid (show nrmS x 0=(0,1)from rfl)
 have HSR:=hid (fun t=>show nrmS x (t+1)=if (zAG x t).1≠0 then((nrmS x t).1*(zAG x t).2+((zAG x t).1.natAbs:Int)*(nrmS x t).2,(nrmS x t).2*(zAG x t).2)else nrmS x t from rfl)
 clear hba q0 hs1 H2 hx hn
 go_enter Tryz.func87,Tryz.ntmps87
 go_wp2_with fail
 rw[<- hs,<- hwa]
 clear hs hwa
 go_wp2_with (go_at_call 91;refine(whole_v _ 0 (by decide)).mono ?_;rintro e w1 ⟨v1,rfl,hv1,hb1⟩;refine Stop.of ?_)
 refine Stop.go ?_
 obtain⟨ss,sa,sk,sc,sb,sm',se,rfl,_⟩:=hv1.agg
 have HV1:=hid hv1
 have HB1:=hid hb1
 clear hv1 hb1
 go_wp2_with fail
 obtain⟨wb,hwb⟩:=exq (w1.alloc (.cells #[.bool ss,.slice sa sk sc,.slice sb sm' se] 37))
 obtain⟨g,hg⟩:=exq (w1.heap.size)
 have hrb:zPH wb g 3 0 1:=by
  rw[hwb,hg]
  exact⟨ss,sa,sk,sc,sb,sm',se,World.alloc_heap_new _ _,HV1.out.below ((Below.refl _ _).alloc (Nat.le_refl _) _)⟩
 have hbb:Below wa.heap.size wa wb:=by rw[hwb];exact HB1.out.alloc HB1.out.size _
 have hgs:wa.heap.size<=g:=by rw[hg];exact HB1.out.size
 rw[<- hwb,<- hg]
 have HRB:=hid hrb
 have HBB:=hid hbb
 clear hwb hg hrb hbb HV1 HB1
 go_loopw [9] (fun i wr=>∃t:Nat,t<=n∧i=.int .i64 t∧zPH wr g (3+7*t) (nrmS x t).1 (nrmS x t).2∧Below wa.heap.size wa wr) (fun i _=>n-(intOf i).toNat)
 case atStart=>exact⟨0,Nat.zero_le _,rfl,by rw[HSZ.out];exact HRB.out,HBB.out⟩
 case round=>
  obtain⟨t,ht,rfl,hrr,hbr⟩:=hrel
  by_cases htl:t<n
  ·have htx:t<x.length:=by rw[HN.out];exact htl
   obtain⟨bx,ox,rfl,hbx,hx0,hx1⟩:=(HXI.out wr hbr) t htx
   have hxt:zAG x t=x[t]'htx:=by unfold zAG;rw[List.getElem?_eq_getElem htx];rfl
   rw[<- hxt]at hx0 hx1
   obtain⟨x1,x2,x3,x4⟩:=HX.out t
   have hsr:=HSR.out t
   obtain⟨⟨N,D⟩,hND⟩:∃q,q=zAG x t:=⟨_,rfl⟩
   rw[<- hND]at hx0 hx1 x1 x2 x3 x4 hsr
   simp only[]at hx0 hx1 x1 x2 x3 x4 hsr
   have i0:(0:Int)<=(t:Int):=by omega
   have i1:(t:Int)<(n:Int):=by omega
   have HRR:=hid hrr
   have HBR:=hid hbr
   have HXS:=hid hsr
   have HND:=hid (And.intro (And.intro x3 x4) (And.intro x1 x2))
   clear hsr hND hxt hrr hbr x1 x2 x3 x4 hbx
   go_upto_region 5 with fail
   obtain⟨h,hh⟩:=exq (wr.heap.size)
   obtain⟨wh,hwh⟩:=exq (wr.alloc (.cells #[.int .i64 N,.int .i64 D] 29))
   rw[<- hh,<- hwh]
   have hbh:Below wr.heap.size wr wh:=by rw[hwh];exact(Below.refl _ _).alloc (Nat.le_refl _) _
   have HRH:=hid (show RatI wh h (N,D)by rw[hwh,hh];exact RatI.made wr (N,D))
   have HBH:=hid (zAA HBR.out hbh)
   have HRR2:=hid (HRR.out.below hbh)
   clear hx0 hx1 hh hwh hbh
   obtain⟨h0,h1,_⟩:=HRH.out.cells
   simp only[]at h0 h1
   by_cases hz:N=0
   ·have hvb:(N !=0)=false:=by simp[hz]
    have HNX:=hid (show nrmS x (t+1)=nrmS x t by rw[HXS.out,if_neg (by simp[hz])])
    clear hz
    go_wp2
    refine⟨⟨t+1,by omega,by go_num,by rw[HNX.out];exact HRR2.out.le (by omega),HBH.out⟩,by simp[intOf];omega⟩
   ·have hvb:(N !=0)=true:=by simp[hz]
    obtain⟨⟨sn,sd⟩,hS⟩:∃q,q=nrmS x t:=⟨_,rfl⟩
    have hXS:=HXS.out
    rw[if_pos hz,<- hS]at hXS
    have HNX:=hid hXS
    obtain⟨us,ua,uk,uc,ub,um,ue,hgb,hrv⟩:=HRR2.out
    rw[<- hS]at hrv
    simp only[]at hrv
    have hglt:=(Array.getElem?_eq_some_iff.1 hgb).1
    have HQB:=hid (fun(X:World) (hX:Below wh.heap.size wh X)=>show QBlk X g from⟨us,ua,uk,uc,ub,um,ue,(hX.block g hglt).trans hgb⟩)
    have HRV:=hid (fun(X:World) (hX:Below wh.heap.size wh X)=>hrv.below hX)
    have HS:=hid (fun(X:World) (hX:Below wh.heap.size wh X)=>show X.cell? ⟨g,0,none⟩=some (.bool us)∧X.cell? ⟨g,1,none⟩=some (.slice ua uk uc)∧X.cell? ⟨g,2,none⟩=some (.slice ub um ue)∧X.cell? ⟨h,0,none⟩=some (.int .i64 N)∧X.cell? ⟨h,1,none⟩=some (.int .i64 D)from by
     have h1:=(hX.block g hglt).trans hgb
     obtain⟨c0,c1,_⟩:=(HRH.out.keep (hX.block _ HRH.out.lt)).cells
     exact⟨by simp[World.cell?,h1],by simp[World.cell?,h1],by simp[World.cell?,h1],c0,c1⟩)
    have htn:t<10:=by omega
    clear hXS hS hgb hrv hz
    go_upto_region 6 with fail
    clear h0 h1
    refine zAF (fun j' X=>decide (j'<=4)=true->X.cell? ⟨g,0,none⟩=some (.bool us)∧X.cell? ⟨g,1,none⟩=some (.slice ua uk uc)∧X.cell? ⟨g,2,none⟩=some (.slice ub um ue)∧X.cell? ⟨h,0,none⟩=some (.int .i64 N)∧X.cell? ⟨h,1,none⟩=some (.int .i64 D)) (by kernel_rfl) ?_
    have hbd:Below wh.heap.size wh wh.drew:=(Below.refl _ _).drew
    generalize wh.drew=wd at hbd⊢
    refine AnyT.tD (i:=0) (v:=.agg #[.bool us,.slice ua uk uc,.slice ub um ue]) rfl rfl (by rintro w' ⟨y1,y2,y3,y4,y5⟩;go_simp) (HS.out _ hbd) ?_;go_frame
    refine AnyT.tD (i:=1) (v:=.agg #[.int .i64 N,.int .i64 D]) rfl rfl (by rintro w' ⟨y1,y2,y3,y4,y5⟩;go_simp) (HS.out _ hbd) ?_;go_frame
    refine AnyT.nx (i:=2) rfl ?_
    go_wp2_with (go_at_call 22;refine(exact_v _ N D (by have:=HND.out;omega) (by have:=HND.out;omega)).mono ?_;rintro e w4 ⟨v4,rfl,hv4,hb4⟩;refine Stop.of ?_)
    refine Stop.go ?_
    obtain⟨ps,pa,pk,pc,pb,pm,pe,rfl,_⟩:=hv4.agg
    have HB4:=hid (zAA hbd hb4)
    have HV4:=hid hv4
    clear hv4 hb4
    go_wp2
    refine⟨fun _=>HS.out _ HB4.out,?_⟩
    refine AnyT.nx (i:=3) rfl ?_
    go_wp2_with (go_at_call 125;refine(rsize_v _ _ 3 N D HV4.out).mono ?_;rintro e w5 ⟨v5,rfl,hv5,hb5⟩;refine Stop.of ?_)
    refine Stop.go ?_
    obtain⟨qs,qa,qk,qc,qb,qm,qe,rfl,_⟩:=hv5.agg
    have HB5:=hid (zAA HB4.out hb5)
    have HV5:=hid hv5
    clear hv5 hb5 HV4
    go_wp2
    refine⟨fun _=>HS.out _ HB5.out,?_⟩
    refine AnyT.nx (i:=4) rfl ?_
    go_wp2_with (go_at_call 24;refine(rplus_v _ _ _ (3+7*t) 3 sn sd (N.natAbs:Nat) D (HRV.out _ HB5.out) HV5.out (by omega) (by omega)).mono ?_;rintro e w6 ⟨v6,rfl,hv6,hb6⟩;refine Stop.of ?_)
    refine Stop.go ?_
    obtain⟨zs,za,zk,zc,zb,zm,ze,e6,hcl,hfz,hlt,hin,_⟩:=(HQB.out _ (zAA HB5.out hb6)).store hv6
    subst e6
    have HB6:=hid (zAA HBH.out (zAA HB5.out hb6))
    have HB7:=hid (zAA HB5.out hb6)
    obtain⟨u0,x0⟩:=hcl 0 (by omega)
    obtain⟨u1,x1⟩:=hcl 1 (by omega)
    obtain⟨u2,x2⟩:=hcl 2 (by omega)
    have f0:=hfz 0
    have f1:=hfz 1
    have f2:=hfz 2
    have HIN:=hid (hin.le (show 3+7*t+3+1<=3+7*(t+1)by omega))
    have HBE:=hid (show Below wa.heap.size wa (((w6.setCell ⟨g,0,none⟩ (.bool zs)).setCell ⟨g,1,none⟩ (.slice za zk zc)).setCell ⟨g,2,none⟩ (.slice zb zm ze))from zAB (zAB (zAB HB6.out hgs 0 _) hgs 1 _) hgs 2 _)
    clear hcl hfz hin hv6 hb6 HV5
    go_wp2
    refine⟨fun _=>HS.out _ HB7.out,?_⟩
    refine AnyT.nx (i:=5) rfl ?_
    go_wp2
    refine⟨fun h=>absurd h (by decide),?_⟩
    refine AnyT.done (by kernel_rfl) ?_ _
    go_wp2
    refine⟨⟨t+1,by omega,by go_num,?_,HBE.out⟩,by simp[intOf];omega⟩
    rw[HNX.out]
    exact HIN.out
  ·obtain rfl:t=n:=by omega
   have hni:¬(t:Int)<(t:Int):=by omega
   rw[<- HSQ.out]at hrr
   obtain⟨us,ua,uk,uc,ub,um,ue,hgb,hrv⟩:=hrr
   obtain⟨zs,za,zk,zc,zb,zm,ze,e6,hcl,hfz,hlt,hin,hout⟩:=(HQ0.out _ hbr).store hrv
   cases e6
   obtain⟨u0,x0⟩:=hcl 0 (by omega)
   obtain⟨u1,x1⟩:=hcl 1 (by omega)
   obtain⟨u2,x2⟩:=hcl 2 (by omega)
   have f0:=hfz 0
   have f1:=hfz 1
   have f2:=hfz 2
   have g0:wr.cell? ⟨g,0,none⟩=some (.bool us):=by simp[World.cell?,hgb]
   have g1:wr.cell? ⟨g,1,none⟩=some (.slice ua uk uc):=by simp[World.cell?,hgb]
   have g2:wr.cell? ⟨g,2,none⟩=some (.slice ub um ue):=by simp[World.cell?,hgb]
   have HOUT:=hid (hout.le (show 3+7*t<=90 by omega))
   have HFI:=hid (HFIN.out _ hbr (.bool us) (.slice ua uk uc) (.slice ub um ue))
   clear hcl hfz hin hout hrv hbr hgb
   go_wp2
   refine bodyPost_ret (v:=.agg #[.bool us,.slice ua uk uc,.slice ub um ue]) ?_ rfl ⟨_,rfl,HOUT.out,HFI.out⟩
   simp[results,Tryz.results87,go_sem,x0,x1,x2,f0,f1,f2,hlt]
end
section
open Go.RowKit
theorem copy_rowN{P:Program}(w:World)(dT sT ty:TypeId)(g o dLen dCap:Nat)(a:Addr)(sLen sCap sz:Nat)(cur:Array Value)(t:TypeId)(cs:List Value)(elem:TypeId)
 (hu:P.underlying dT=some (.slice elem))(hs:(P.info? elem).map (·.size)=some sz)(hg:w.heap[g]? =some (.cells cur t (0,0)))(hn:cs.length=Nat.min sLen dLen*sz)
 (hsrc:∀j v,cs[j]? =some v->w.cell? (a.add j)=some v)(hfit:o+cs.length<=cur.size)(h1:∀v∈cs,v.oneCell'=true):
 (Builtin.copy_ #[dT,sT] ty #[.slice (some ⟨g,o,none⟩) dLen dCap,.slice (some a) sLen sCap]).run P w=.ok (goInt (Nat.min sLen dLen)) (w.setRow g (cur.toList.take o++cs++cur.toList.drop (o+cs.length)).toArray):=by
 have hl:=run_loadCells_list (P:=P) w a cs hsrc
 have hst:=run_storeCells_at P g o t cs 0 cur w hg (by simpa using hfit) h1
 cases hq:P.info? elem with
 |none=>simp[hq]at hs
 |some i=>
  have hi:i.size=sz:=by simpa[hq]using hs
  simp[Builtin.copy_,run_underlying hu,Builtin.lenOf,Builtin.firstCells,sizeOf,typeInfo,hq,hi,<- hn,hl,hst]
theorem wpList_copyN{P:Program}{w:World}{ops:Array Oper}{rest:List Oper}{o:Oper}{a:Act}{Q:Exit->Act->World->Prop}(hgd:o.guard=none)(d s:Operand)(dT sT:TypeId)
 (ho:o.op=.call {callee:=.builtin .copy,args:=#[d,s],argTypes:=#[dT,sT]})(elem:TypeId)(sz:Nat)(hu:P.underlying dT=some (.slice elem))(hsz:(P.info? elem).map (·.size)=some sz)
 (g off dLen dCap:Nat)(ad:Addr)(sLen sCap:Nat)(hd:a.eval d=.slice (some ⟨g,off,none⟩) dLen dCap)(hs:a.eval s=.slice (some ad) sLen sCap)
 (cur:List Value)(t:TypeId)(hg:w.heap[g]? =some (.cells cur.toArray t (0,0)))(cs:List Value)(m:Nat)(hm:m=Nat.min sLen dLen)(hn:cs.length=m*sz)
 (hsrc:∀j v,cs[j]? =some v->w.cell? (ad.add j)=some v)(hfit:off+cs.length<=cur.length)(h1:∀v∈cs,v.oneCell'=true)(B:Nat)(w0:World)(hb:Below B w0 w)(hBg:B<=g)
 (h:∀w',Hid (w'.heap[g]? =some (.cells (splice cur off cs).toArray t (0,0)))->Below B w0 w'->wpList P ops Q rest (a.put o.dst (goInt m)) w'):wpList P ops Q (o::rest) a w:=by
 refine wpList_plain hgd fun K hK=>?_
 have hrun:=copy_rowN (P:=P) w dT sT o.type g off dLen dCap ad sLen sCap sz cur.toArray t cs elem hu hsz hg (by rw[hn,hm]) hsrc (by simpa using hfit) h1
 unfold Oper.wp
 rw[<- hm]at hrun
 simp[execOp,ho,resolve,invoke,builtin,hd,hs,hrun,Result.andThen]
 refine hK _ _ (h _ ?_ (below_setRow hb hBg _))
 show _=_
 simpa[splice]using setRow_heap w g _ _ t _ hg
theorem zEO(l m:List Rt):zAO (l++m)=zAO l++zAO m:=by simp[zAO]
theorem zNA(L M:List Rt)(k:Nat)(c:List Rt)(hk:k+c.length<=L.length):splice (zAO L) (k*2) (zAO c)=zAO (L.take k++(c++L.drop (k+c.length))):=by
 unfold splice
 have h1:(zAO L).take (k*2)=zAO (L.take k):=by
  have:=zEO (L.take k) (L.drop k)
  rw[List.take_append_drop]at this
  rw[this,List.take_append_of_le_length (by rw[zBM,List.length_take];omega),List.take_of_length_le (by rw[zBM,List.length_take];omega)]
 have h2:(zAO L).drop (k*2+(zAO c).length)=zAO (L.drop (k+c.length)):=by
  have:=zEO (L.take (k+c.length)) (L.drop (k+c.length))
  rw[List.take_append_drop]at this
  have e:k*2+(zAO c).length=(zAO (L.take (k+c.length))).length:=by rw[zBM,zBM,List.length_take];omega
  rw[this,e,List.drop_left]
 rw[h1,h2,zEO,zEO]
theorem bmul_c(x y:Nat)(hx:x<18446744073709551616)(hy:y<18446744073709551616)(h:x*y<18446744073709551616)(w:World):
 Calls Tryz.prog 227 #[.int .u64 x,.int .u64 y] w fun e w'=>e=.returned (.tuple #[.int .u64 0,.int .u64 ((x*y:Nat):Int)])∧w=w':=by
 have HM:=hid (mul64_c x y hx hy w)
 rw[Nat.div_eq_of_lt h,Nat.mod_eq_of_lt h]at HM
 obtain⟨z,hz⟩:=exq (x*y)
 rw[<- hz]at HM⊢
 clear hz h hx hy
 go_enter Tryz.func227,Tryz.ntmps227
 go_wp2_with (go_at_call 209;refine HM.out.mono ?_;rintro e w1 ⟨rfl,rfl⟩)
 go_ret2
 exact⟨rfl,rfl⟩
theorem zMI:(Tryz.prog.info? 29).map (·.size)=some 2:=by kernel_rfl
theorem repeat_c(w:World)(a:Option Addr)(cap:Nat)(r:Rt)(H:zCD w a [r])(N:Nat)(hN1:1<=N)(hN:N<=1000):
 Calls Tryz.prog 186 #[.slice a 1 cap,.int .i64 N] w fun e w'=>∃g,e=.returned (.slice (some ⟨g,0,none⟩) N N)∧w.heap.size<=g∧zBW w' g (List.replicate N r)∧Below w.heap.size w w':=by
 obtain⟨b,off,rfl,hb,h0,h1⟩:=H 0 (by simp)
 simp only[Nat.zero_mul,Nat.add_zero,List.getElem_cons_zero]at h0 h1
 have HMU:=hid (bmul_c 1 N (by decide) (by omega) (by omega) w)
 rw[Nat.one_mul]at HMU
 have w1:IntKind.u64.wrap (1:Int)=1:=by decide
 have w2:IntKind.u64.wrap (N:Int)=N:=by rw[IntKind.wrap_u64];omega
 have w3:IntKind.i64.wrap (N:Int)=N:=IntWalk.i64_in _ (by omega)
 have hmk:=zGO N (by omega)
 obtain⟨wa,hwa⟩:=exq (w.alloc (.cells (madeCells #[.int .i64 0,.int .i64 0] (N*2)) 29))
 obtain⟨g,hg⟩:=exq (w.heap.size)
 have hba:Below w.heap.size w wa:=by rw[hwa];exact(Below.refl _ _).alloc (Nat.le_refl _) _
 have hrb0:zBW wa g (List.replicate N (0,0)):=by rw[hwa,hg];exact zOR w N
 have hgb:g≠b:=by omega
 have hsrc:∀(X:World),X.heap[b]? =w.heap[b]? ->∀(j:Nat) (v:Value),(zBD r)[j]? =some v->X.cell? ((⟨b,off,none⟩:Addr).add j)=some v:=by
  intro X hX j v hv
  have e:∀o,X.cell? ⟨b,o,none⟩=w.cell? ⟨b,o,none⟩:=fun o=>World.cell?_of_block hX
  match j,hv with
  |0,hv=>cases hv;exact(e _).trans h0
  |1,hv=>cases hv;exact(e _).trans h1
  |j+2,hv=>simp[zBD]at hv
 have hcp:=copy_rowN (P:=Tryz.prog) wa 42 42 3 g 0 N N ⟨b,off,none⟩ 1 cap 2 (zAO (List.replicate N (0,0))).toArray 29 (zBD r) 29 (by kernel_rfl) zMI hrb0 (by rw[show Nat.min 1 N=1 from Nat.min_eq_left hN1];rfl) (hsrc wa (hba.block b hb)) (by simp[zBD,zBM];omega) (rat_one r)
 rw[show Nat.min 1 N=1 from Nat.min_eq_left hN1]at hcp
 obtain⟨w5,hw5⟩:=exq (wa.setRow g ((zAO (List.replicate N (0,0))).toArray.toList.take 0++zBD r++(zAO (List.replicate N (0,0))).toArray.toList.drop (0+(zBD r).length)).toArray)
 rw[<- hw5]at hcp
 have hrb1:zBW w5 g (List.replicate 1 r++List.replicate (N-1) (0,0)):=by
  rw[hw5]
  have:=setRow_heap wa g _ ((zAO (List.replicate N (0,0))).toArray.toList.take 0++zBD r++(zAO (List.replicate N (0,0))).toArray.toList.drop (0+(zBD r).length)).toArray _ _ hrb0
  unfold zBW
  rw[this]
  have e:=zNA (List.replicate N (0,0)) [] 0 [r] (by simp;omega)
  unfold splice at e
  have e2:zAO [r]=zBD r:=by simp[zAO]
  rw[e2]at e
  have e3:(List.replicate N ((0:Int),(0:Int))).take 0++([r]++(List.replicate N (0,0)).drop (0+[r].length))=List.replicate 1 r++List.replicate (N-1) (0,0):=by simp
  rw[e3]at e
  simp only[List.append_assoc,Nat.zero_mul]at e⊢
  rw[e]
 have hb5:Below w.heap.size w w5:=by rw[hw5];exact below_setRow hba (by omega) _
 have HRB1:=hid hrb1
 have HB5:=hid hb5
 have HG:=hid hg
 clear hba hrb0 hgb hsrc hrb1 hb5 hw5 h0 h1 H
 go_enter Tryz.func186,Tryz.ntmps186
 go_wp2_with (go_at_call 227;refine HMU.out.mono ?_;rintro e w4 ⟨rfl,rfl⟩;refine Stop.of ?_)
 refine Stop.go ?_
 clear HMU
 rw[hg,hwa]at hcp
 clear hg hwa
 go_wp2_with fail
 clear hcp hmk
 rw[<- HG.out]
 go_loopw [8] (fun i wr=>∃k:Nat,1<=k∧k<=N∧i=.int .i64 k∧zBW wr g (List.replicate k r++List.replicate (N-k) (0,0))∧Below w.heap.size w wr) (fun i _=>N-(intOf i).toNat)
 case atStart=>exact⟨1,by omega,hN1,rfl,HRB1.out,HB5.out⟩
 case round=>
  obtain⟨k,hk1,hk,rfl,hrk,hbk⟩:=hrel
  by_cases hlt:k<N
  ·have i1:(k:Int)<(N:Int):=by omega
   have i2:(0:Int)<=(k:Int):=by omega
   have i3:(k:Int)<=(N:Int):=by omega
   have i4:¬N=k:=by omega
   have HRK:=hid hrk
   have HBK:=hid hbk
   clear hrk hbk
   go_wp2
   refine zAF (fun j' X=>wAll j'=true->True) (by kernel_rfl) ?_
   have hbd:Below w.heap.size w wr.drew:=HBK.out.drew
   have hrd:zBW wr.drew g (List.replicate k r++List.replicate (N-k) (0,0)):=HRK.out.keep rfl
   generalize wr.drew=wd at hbd hrd⊢
   have HRD:=hid hrd
   have HBD:=hid hbd
   clear hrd hbd
   refine AnyT.tD (i:=0) (v:=.int .i64 k) rfl rfl (by rintro w' y1;go_simp) trivial ?_;go_frame
   refine AnyT.tD (i:=1) (v:=.slice (some ⟨g,0,none⟩) N N) rfl rfl (by rintro w' y1;go_simp) trivial ?_;go_frame
   refine AnyT.tD (i:=2) (v:=.int .i64 k) rfl rfl (by rintro w' y1;go_simp) trivial ?_;go_frame
   refine AnyT.tD (i:=3) (v:=.slice (some ⟨g,k*2,none⟩) (N-k) (N-k)) rfl rfl (by rintro w' y1;go_simp) trivial ?_;go_frame
   refine AnyT.tD (i:=4) (v:=.slice (some ⟨g,0,none⟩) N N) rfl rfl (by rintro w' y1;go_simp) trivial ?_;go_frame
   refine AnyT.tD (i:=5) (v:=.int .i64 k) rfl rfl (by rintro w' y1;go_simp) trivial ?_;go_frame
   refine AnyT.tD (i:=6) (v:=.slice (some ⟨g,0,none⟩) k N) rfl rfl (by rintro w' y1;go_simp) trivial ?_;go_frame
   refine AnyT.nx (i:=7) rfl ?_
   obtain⟨m,hm⟩:=exq (Nat.min k (N-k))
   have hm1:1<=m∧k+m<=N:=by rw[hm];show 1<=min k (N-k)∧k+min k (N-k)<=N;omega
   have hcl:(zAO (List.replicate m r)).length=m*2:=by rw[zBM,List.length_replicate]
   refine wpList_copyN rfl (.tmp 41) (.tmp 44) 42 42 rfl 29 2 (by kernel_rfl) zMI g (k*2) (N-k) (N-k) ⟨g,0,none⟩ k N rfl rfl (zAO (List.replicate k r++List.replicate (N-k) (0,0))) 29 HRD.out (zAO (List.replicate m r)) m hm hcl ?_ ?_ ?_ w.heap.size w HBD.out (by rw[HG.out];exact Nat.le_refl _) ?_
   ·intro j v hv
    have hj:j<m*2:=by rw[<- hcl];exact(List.getElem?_eq_some_iff.1 hv).1
    have e1:((⟨g,0,none⟩:Addr).add j)=⟨g,j,none⟩:=by unfold Addr.add;split<;>simp_all
    have hb0:=HRD.out
    unfold zBW at hb0
    rw[e1]
    have hsame:(zAO (List.replicate k r++List.replicate (N-k) (0,0)))[j]? =(zAO (List.replicate m r))[j]? :=by
     have e2:List.replicate k r++List.replicate (N-k) ((0:Int),(0:Int))=List.replicate m r++(List.replicate (k-m) r++List.replicate (N-k) (0,0)):=by
      have:m<=k:=by rw[hm];exact Nat.min_le_left _ _
      rw[<- List.append_assoc,List.replicate_append_replicate,show m+(k-m)=k by omega]
     rw[e2,zEO,List.getElem?_append_left (by omega)]
    simp[World.cell?,hb0,hsame,hv]
   ·rw[hcl,zBM,List.length_append,List.length_replicate,List.length_replicate];omega
   ·intro u hu
    obtain⟨x,_,hx⟩:=List.mem_flatMap.1 hu
    exact rat_one x u hx
   ·intro w6 h6 hb6
    have HR6:=hid (show zBW w6 g (List.replicate (k+m) r++List.replicate (N-(k+m)) (0,0))from by
     unfold zBW
     rw[h6.out]
     have e:=zNA (List.replicate k r++List.replicate (N-k) ((0:Int),(0:Int))) [] k (List.replicate m r) (by simp;omega)
     rw[e]
     congr 3
     rw[List.take_append_of_le_length (by simp),List.take_of_length_le (by simp),List.length_replicate,List.drop_append,List.drop_of_length_le (by simp),List.nil_append,List.drop_replicate,List.length_replicate,<- List.append_assoc,List.replicate_append_replicate]
     rw[show N-k-(k+m-k)=N-(k+m)by omega])
    have HB6:=hid hb6
    have i5:(k:Int)+(m:Int)<=N:=by omega
    clear h6 hb6 hm hcl
    go_wp2
    refine⟨fun _=>trivial,?_⟩
    refine AnyT.nx (i:=8) rfl ?_
    go_wp2
    refine⟨fun _=>trivial,?_⟩
    refine AnyT.nx (i:=9) rfl ?_
    go_wp2
    refine⟨fun _=>trivial,?_⟩
    refine AnyT.done (by kernel_rfl) ?_ _
    go_wp2
    refine⟨⟨k+m,by omega,by omega,by go_num,HR6.out,HB6.out⟩,by simp[intOf];omega⟩
  ·obtain rfl:k=N:=by omega
   have hni:¬(k:Int)<(k:Int):=by omega
   rw[Nat.sub_self]at hrk
   simp only[List.replicate_zero,List.append_nil]at hrk
   go_wp2
   go_ret
   exact⟨g,rfl,by rw[HG.out];exact Nat.le_refl _,hrk,hbk⟩
end
section
def zOD(n:Nat)(J:List Int)(v:List Rt):List Rt:=(List.range J.length).foldl (fun out i=>out.set (J[i]?.getD 0).toNat (v[i]?.getD (0,0))) (List.replicate n (0,1))
def zDF(n:Nat)(J:List Int)(v:List Rt)(k:Nat):List Rt:=(List.range k).foldl (fun out i=>out.set (J[i]?.getD 0).toNat (v[i]?.getD (0,0))) (List.replicate n (0,1))
theorem zIA(n:Nat)(J:List Int)(v:List Rt)(k:Nat):zDF n J v (k+1)=(zDF n J v k).set (J[k]?.getD 0).toNat (v[k]?.getD (0,0)):=by
 unfold zDF;rw[List.range_succ,List.foldl_append];rfl
theorem spreadTo_len(n:Nat)(J:List Int)(v:List Rt)(k:Nat):(zDF n J v k).length=n:=by
 unfold zDF;rw[zEE (fun i=>v[i]?.getD (0,0)) (fun i=>(J[i]?.getD 0).toNat)];simp
end
section
open Go.RowKit
theorem spread_c(w:World)(W:Nat)(hW1:1<=W)(hW:W<=1000)(a a2:Option Addr)(k cap k2 cap2:Nat)(l:List Int)(v:List Rt)(hk:l.length=k)(hk2:v.length=k2)(hle:k<=k2)(hm:k<=1000)(H:zAI w a l)(H2:zCD w a2 v)
 (hb:∀i,i<k->0<=l[i]?.getD 0∧l[i]?.getD 0<(W:Int)):
 Calls Tryz.prog 162 #[.int .i64 W,.slice a k cap,.slice a2 k2 cap2] w fun e w'=>∃g,e=.returned (.slice (some ⟨g,0,none⟩) W W)∧w.heap.size<=g∧zBW w' g (zOD W l v)∧Below w.heap.size w w':=by
 obtain⟨wa,hwa⟩:=exq (w.alloc (.cells #[.int .i64 0,.int .i64 1] 29))
 have hba:Below w.heap.size w wa:=by rw[hwa];exact(Below.refl _ _).alloc (Nat.le_refl _) _
 have hr1:zCD wa (some ⟨w.heap.size,0,none⟩) [(0,1)]:=by
  intro j hj
  match j,hj with
  |0,_=>exact⟨_,0,rfl,by rw[hwa];simp,by rw[hwa,World.cell?_alloc_at _ _ _ _ rfl];rfl,by rw[hwa,World.cell?_alloc_at _ _ _ _ rfl];rfl⟩
 have HRP:=hid (repeat_c wa (some ⟨w.heap.size,0,none⟩) 1 (0,1) hr1 W hW1 hW)
 have HBA:=hid hba
 have HI:=hid (fun(X:World) (hX:Below w.heap.size w X)=>H.below hX)
 have HV:=hid (fun(X:World) (hX:Below w.heap.size w X)=>H2.below hX)
 have HBD:=hid hb
 have HK:=hid hk
 have HK2:=hid hk2
 have HT0:=hid (show zDF W l v 0=List.replicate W (0,1)from rfl)
 have HTS:=hid (fun t=>zIA W l v t)
 have HTL:=hid (fun t=>spreadTo_len W l v t)
 have HTE:=hid (show zDF W l v k=zOD W l v by unfold zDF zOD;rw[hk])
 clear hba hr1 H H2 hb hk hk2
 go_enter Tryz.func162,Tryz.ntmps162
 go_wp2_with fail
 rw[<- hwa]
 clear hwa
 go_wp2_with (go_at_call 186;refine HRP.out.mono ?_;rintro e w1 ⟨g,rfl,hg,hrb,hb1⟩;refine Stop.of ?_)
 refine Stop.go ?_
 have HG:=hid (show w.heap.size<=g from Nat.le_trans HBA.out.size hg)
 have HRB:=hid hrb
 have HB1:=hid (zAA HBA.out hb1)
 clear hg hrb hb1 HRP HBA
 go_wp2
 go_loopw [16] (fun i wr=>∃t:Nat,t<=k∧i=.int .i64 t∧zBW wr g (zDF W l v t)∧Below w.heap.size w wr) (fun i _=>k-(intOf i).toNat)
 case atStart=>exact⟨0,Nat.zero_le _,rfl,by rw[HT0.out];exact HRB.out,HB1.out⟩
 case round=>
  obtain⟨t,ht,rfl,hrt,hbt⟩:=hrel
  by_cases htl:t<k
  ·have htk:t<l.length:=by rw[HK.out];exact htl
   have htv:t<v.length:=by rw[HK2.out];omega
   obtain⟨b5,o5,rfl,hb5,hc5⟩:=(HI.out wr hbt) t htk
   obtain⟨b6,o6,rfl,hb6,h60,h61⟩:=(HV.out wr hbt) t htv
   obtain⟨d1,d2⟩:=HBD.out t htl
   have hts:=HTS.out t
   rw[List.getElem?_eq_getElem htv,Option.getD_some]at hts
   obtain⟨⟨r1,r2⟩,hr⟩:∃r,r=v[t]'htv:=⟨_,rfl⟩
   rw[<- hr]at h60 h61 hts
   obtain⟨p,hp⟩:∃p:Nat,(p:Int)=l[t]?.getD 0:=⟨(l[t]?.getD 0).toNat,by omega⟩
   rw[<- hp]at hc5 d1 d2 hts
   rw[Int.toNat_natCast]at hts
   have hpl:p<(zDF W l v t).length:=by rw[HTL.out];omega
   obtain⟨c0,c1,cf⟩:=hrt.cells hpl
   have f0:=cf (p*2)
   have f1:=cf (p*2+1)
   have hset:=hrt.set hpl r1 r2
   rw[<- hts]at hset
   have HSET:=hid hset
   have HBE:=hid (show Below w.heap.size w ((wr.setCell ⟨g,p*2,none⟩ (.int .i64 r1)).setCell ⟨g,p*2+1,none⟩ (.int .i64 r2))from zAB (zAB hbt HG.out _ _) HG.out _ _)
   have hgl:=hrt.lt
   have i1:(t:Int)<(k:Int):=by omega
   have i2:(t:Int)<(k2:Int):=by omega
   have i3:(p:Int)<(W:Int):=d2
   obtain⟨z0,k0⟩:∃z,wr.cell? ⟨g,p*2,none⟩=some (.int .i64 z):=⟨_,c0⟩
   obtain⟨z1,k1⟩:∃z,wr.cell? ⟨g,p*2+1,none⟩=some (.int .i64 z):=⟨_,c1⟩
   clear hset hts hr hp hrt hbt cf d1 d2 c0 c1 hpl
   go_wp2
   refine⟨⟨t+1,by omega,by go_num,HSET.out,HBE.out⟩,by simp[intOf];omega⟩
  ·obtain rfl:t=k:=by omega
   have hni:¬(t:Int)<(t:Int):=by omega
   rw[HTE.out]at hrt
   go_wp2
   go_ret
   exact⟨g,rfl,HG.out,hrt,hbt⟩
end
section
open Go.RowKit
def HdF(W:World)(us ur:Value)(f:FitT):Prop:=∃pa pn pc va vn vc,us=.slice pa pn pc∧ur=.slice va vn vc∧f.1.length=pn∧pn<=maxLen∧zAI W pa f.1∧f.2.length=vn∧vn<=maxLen∧zCD W va f.2
theorem HdF.below{W W':World}{us ur:Value}{f:FitT}(h:HdF W us ur f)(hb:Below W.heap.size W W'):HdF W' us ur f:=by
 obtain⟨pa,pn,pc,va,vn,vc,e1,e2,h1,h2,h3,h4,h5,h6⟩:=h
 exact⟨pa,pn,pc,va,vn,vc,e1,e2,h1,h2,h3.below hb,h4,h5,h6.below hb⟩
theorem zEC.hd{W:World}{a:Option Addr}{T:List FitT}(h:zEC W a T){j:Nat}(hj:j<T.length):
 ∃b off us ur,a=some ⟨b,off,none⟩∧b<W.heap.size∧W.cell? ⟨b,off+j*2,none⟩=some us∧W.cell? ⟨b,off+j*2+1,none⟩=some ur∧HdF W us ur T[j]:=by
 obtain⟨b,off,pa,pn,pc,va,vn,vc,e,hb,h0,h1,h2,h3,h4,h5,h6,h7⟩:=h j hj
 exact⟨b,off,_,_,e,hb,h0,h1,pa,pn,pc,va,vn,vc,rfl,rfl,h2,h3,h4,h5,h6,h7⟩
def TabF(X W:World)(v:Value)(T:List FitT):Prop:=
 ∃xs,W.ownsRow X.heap.size 73 2 v T.length xs∧∀j (hj:j<T.length),∃us ur,xs[j*2]? =some us∧xs[j*2+1]? =some ur∧HdF X us ur T[j]
theorem TabF.nil(X W:World):TabF X W (.slice none 0 0) []:=⟨[],World.ownsRow_nil _ _ _ _,fun j hj=>by simp at hj⟩
theorem TabF.below{X W W':World}{v:Value}{T:List FitT}(h:TabF X W v T)(hb:Below W.heap.size W W'):TabF X W' v T:=by
 obtain⟨xs,h1,h2⟩:=h
 exact⟨xs,zBI h1 hb,h2⟩
theorem TabF.slice{X W:World}{v:Value}{T:List FitT}(h:TabF X W v T):∃a c,v=.slice a T.length c:=by
 obtain⟨xs,ho,_⟩:=h;exact zAC ho
theorem TabF.reads{X W:World}{v:Value}{T:List FitT}(h:TabF X W v T)(hb:Below X.heap.size X W):∃a cap,v=.slice a T.length cap∧T.length<=maxLen∧zEC W a T:=by
 obtain⟨xs,ho,he⟩:=h
 rcases ho.2 with⟨rfl,h0⟩|⟨g,cap,cur,rfl,hbg,hgg,hnc,hcm,hsz,htk⟩
 ·exact⟨none,0,by rw[h0],by rw[h0];decide,fun j hj=>by omega⟩
 ·refine⟨_,cap,rfl,by omega,fun j hj=>?_⟩
  obtain⟨us,ur,h1,h2,pa,pn,pc,va,vn,vc,rfl,rfl,k1,k2,k3,k4,k5,k6⟩:=he j hj
  have hc:∀i,i<T.length*2->W.cell? ⟨g,i,none⟩=xs[i]? :=fun i hi=>
   World.ownsRow.cellAt (w:=W) (base:=X.heap.size) (e:=73) (size:=2) (g:=g) (n:=T.length) (cap:=cap) (xs:=xs) ⟨ho.1,.inr ⟨g,cap,cur,rfl,hbg,hgg,hnc,hcm,hsz,htk⟩⟩ i hi
  exact⟨g,0,pa,pn,pc,va,vn,vc,rfl,(Array.getElem?_eq_some_iff.1 hgg).1,by rw[Nat.zero_add,hc _ (by omega)];exact h1,by rw[Nat.zero_add,hc _ (by omega)];exact h2,k1,k2,k3.below hb,k4,k5,k6.below hb⟩
theorem TabF.snoc{X w2:World}{v' us ur:Value}{T:List FitT}{t:FitT}{xs:List Value}{q:Nat}(hq:T.length=q)
 (hl:xs.length=q*2)(he:∀j (hj:j<T.length),∃us ur,xs[j*2]? =some us∧xs[j*2+1]? =some ur∧HdF X us ur T[j])(h1:HdF X us ur t)
 (ho':w2.ownsRow X.heap.size 73 2 v' (q+1) (xs++[us,ur])):TabF X w2 v' (T++[t]):=by
 subst hq
 refine⟨xs++[us,ur],by rw[List.length_append];exact ho',fun j hj=>?_⟩
 by_cases e:j<T.length
 ·obtain⟨us',ur',k1,k2,k3⟩:=he j e
  refine⟨us',ur',by rw[List.getElem?_append_left (by omega)];exact k1,by rw[List.getElem?_append_left (by omega)];exact k2,?_⟩
  rw[List.getElem_append_left e];exact k3
 ·have:j=T.length:=by simp at hj;omega
  subst this
  refine⟨us,ur,by rw[List.getElem?_append_right (by omega),hl];simp,by rw[List.getElem?_append_right (by omega),hl,show T.length*2+1-T.length*2=1 by omega];rfl,?_⟩
  simp only[List.getElem_append_right (Nat.le_refl _),Nat.sub_self,List.getElem_cons_zero];exact h1
theorem TabF.at{X W:World}{v:Value}{T:List FitT}(h:TabF X W v T){j:Nat}(hj:j<T.length):
 ∃g cap us ur,v=.slice (some ⟨g,0,none⟩) T.length cap∧X.heap.size<=g∧g<W.heap.size∧W.cell? ⟨g,j*2,none⟩=some us∧W.cell? ⟨g,j*2+1,none⟩=some ur∧HdF X us ur T[j]∧(∀o,W.frozen? ⟨g,o,none⟩=false)∧
  ∀us' ur' f',HdF X us' ur' f'->TabF X ((W.setCell ⟨g,j*2,none⟩ us').setCell ⟨g,j*2+1,none⟩ ur') v (T.set j f'):=by
 obtain⟨xs,h1,h2⟩:=h
 obtain⟨us,ur,hu,hr,hd⟩:=h2 j hj
 rcases h1.2 with⟨rfl,h0⟩|⟨g,cap,cur,rfl,hbg,hgg,hnc,hcm,hsz,htk⟩
 ·omega
 have hcell:=fun i hi=>World.ownsRow.cellAt (w:=W) (base:=X.heap.size) (e:=73) (size:=2) (g:=g) (n:=T.length) (cap:=cap) (xs:=xs) h1 i hi
 have hvl:xs.length=T.length*2:=h1.1
 refine⟨g,cap,us,ur,rfl,hbg,(Array.getElem?_eq_some_iff.1 hgg).1,by rw[hcell _ (by omega)];exact hu,by rw[hcell _ (by omega)];exact hr,hd,fun o=>by simp[World.frozen?,hgg],?_⟩
 intro us' ur' f' hf'
 have hb2:((W.setCell ⟨g,j*2,none⟩ us').setCell ⟨g,j*2+1,none⟩ ur').heap[g]? =some (.cells ((cur.setIfInBounds (j*2) us').setIfInBounds (j*2+1) ur') 73 (0,0)):=zAS (zAS hgg _ us') _ ur'
 refine⟨(xs.set (j*2) us').set (j*2+1) ur',⟨by simpa using h1.1,.inr ⟨g,cap,(cur.setIfInBounds (j*2) us').setIfInBounds (j*2+1) ur',by simp,hbg,hb2,by simpa using hnc,hcm,by simpa using hsz,?_⟩⟩,fun i hi=>?_⟩
 ·rw[<- htk]
  simp only[Array.toList_setIfInBounds,List.length_set]
  rw[List.take_set,List.take_set]
 ·have hi':i<T.length:=by simpa using hi
  by_cases e:j=i
  ·subst e
   refine⟨us',ur',?_,?_,by simpa using hf'⟩
   ·rw[List.getElem?_set_ne (by omega),List.getElem?_set_self (by omega)]
   ·rw[List.getElem?_set_self (by rw[List.length_set];omega)]
  ·obtain⟨u2,r2,hu2,hr2,hd2⟩:=h2 i hi'
   refine⟨u2,r2,?_,?_,by rw[List.getElem_set_ne e];exact hd2⟩
   ·rw[List.getElem?_set_ne (by omega),List.getElem?_set_ne (by omega)];exact hu2
   ·rw[List.getElem?_set_ne (by omega),List.getElem?_set_ne (by omega)];exact hr2
theorem TabF.put{X W:World}{g n cap:Nat}{T:List FitT}(h:TabF X W (.slice (some ⟨g,0,none⟩) n cap) T){j:Nat}(hj:j<T.length){us' ur':Value}{f':FitT}(hf:HdF X us' ur' f'):
 TabF X ((W.setCell ⟨g,j*2,none⟩ us').setCell ⟨g,j*2+1,none⟩ ur') (.slice (some ⟨g,0,none⟩) n cap) (T.set j f'):=by
 obtain⟨g',cap',us,ur,e,_,_,_,_,_,_,hs⟩:=h.at hj
 simp only[Value.slice.injEq,Option.some.injEq,Addr.mk.injEq,and_true]at e
 obtain⟨rfl,_,_⟩:=e
 exact hs _ _ _ hf
theorem earlier_step{a b:List Int}{k:Nat}(hk:k<a.length)(hk2:k<b.length):zAK (a.drop k) (b.drop k)=if a[k]=b[k]then zAK (a.drop (k+1)) (b.drop (k+1))else decide (a[k]<b[k]):=by
 rw[List.drop_eq_getElem_cons hk,List.drop_eq_getElem_cons hk2];rfl
theorem earlier_last{a b:List Int}{k:Nat}(h:a.length<=k∨b.length<=k)(hk:k<=a.length)(hk2:k<=b.length):zAK (a.drop k) (b.drop k)=decide (a.length<b.length):=by
 rcases Nat.lt_or_ge k a.length with c|c
 ·have e:k=b.length:=by omega
  subst e
  rw[List.drop_of_length_le (Nat.le_refl b.length),List.drop_eq_getElem_cons c,decide_eq_false (by omega)];rfl
 ·have e:k=a.length:=by omega
  subst e
  rw[List.drop_of_length_le (Nat.le_refl a.length)]
  rcases Nat.lt_or_ge a.length b.length with d|d
  ·rw[List.drop_eq_getElem_cons d,decide_eq_true d];rfl
  ·rw[List.drop_of_length_le d,decide_eq_false (by omega)];rfl
theorem r5earlier_c(w:World)(a a2:Option Addr)(n cap n2 cap2:Nat)(l l2:List Int)(hn:l.length=n)(hn2:l2.length=n2)(hm:n<=maxLen)(hm2:n2<=maxLen)(H:zAI w a l)(H2:zAI w a2 l2):
 Calls Tryz.prog 158 #[.slice a n cap,.slice a2 n2 cap2] w fun e w'=>e=.returned (.bool (zAK l l2))∧Below w.heap.size w w':=by
 have HN:=hid hn
 have HN2:=hid hn2
 have HH:=hid H
 have HH2:=hid H2
 obtain⟨R,hR⟩:=exq (zAK l l2)
 rw[<- hR]
 have HRE:=hid hR
 clear hn hn2 H H2 hR
 unfold maxLen at hm hm2
 go_enter Tryz.func158,Tryz.ntmps158
 go_wp2
 go_loopw [5] (fun i wr=>∃k:Nat,k<=n∧k<=n2∧i=.int .i64 k∧zAK (l.drop k) (l2.drop k)=R∧(∃q,wr=w.drewN q)) (fun i _=>n-(intOf i).toNat)
 case atStart=>exact⟨0,Nat.zero_le _,Nat.zero_le _,rfl,HRE.out.symm,0,rfl⟩
 case round=>
  obtain⟨k,hk,hk2,rfl,hR,q,rfl⟩:=hrel
  by_cases hlt:k<n∧k<n2
  ·obtain⟨hlt,hlt2⟩:=hlt
   have hkl:k<l.length:=by rw[HN.out];exact hlt
   have hkl2:k<l2.length:=by rw[HN2.out];exact hlt2
   obtain⟨b,off,rfl,hbs,hc⟩:=HH.out k hkl
   obtain⟨b2,off2,rfl,hbs2,hc2⟩:=HH2.out k hkl2
   have hst:=earlier_step hkl hkl2
   rw[hR]at hst
   have hg:l[k]?.getD 0=l[k]:=by rw[List.getElem?_eq_getElem hkl];rfl
   have hg2:l2[k]?.getD 0=l2[k]:=by rw[List.getElem?_eq_getElem hkl2];rfl
   rw[hg]at hc
   rw[hg2]at hc2
   obtain⟨x,hx⟩:=exq (l[k])
   obtain⟨y,hy⟩:=exq (l2[k])
   rw[<- hx]at hc hst
   rw[<- hy]at hc2 hst
   have i1:(k:Int)<(n:Int):=by omega
   have i2:(k:Int)<(n2:Int):=by omega
   have HST:=hid hst
   clear hg hg2 hx hy hR hst hbs hbs2 hkl hkl2
   by_cases he:x=y
   ·subst he
    have hb:(x !=x)=false:=by simp
    have HNX:=hid (show zAK (l.drop (k+1)) (l2.drop (k+1))=R by rw[HST.out,if_pos rfl])
    go_wp2
    go_quiet (fail)
    go_wp2
    exact⟨⟨k+1,by omega,by omega,by go_num,HNX.out,_,rfl⟩,by simp[intOf];omega⟩
   ·have hb:(x !=y)=true:=by simp[he]
    have HNX:=hid (show R=decide (x<y)by rw[HST.out,if_neg he])
    clear he
    go_wp2
    go_quiet (fail)
    go_wp2
    go_quiet (fail)
    go_wp2
    go_ret
    exact⟨by rw[HNX.out]<;>rfl,zAN (zAN (zAN (Below.refl _ _) _) _) _⟩
  ·have hlast:=earlier_last (a:=l) (b:=l2) (k:=k) (by rw[HN.out,HN2.out];omega) (by rw[HN.out];exact hk) (by rw[HN2.out];exact hk2)
   rw[hR,HN.out,HN2.out]at hlast
   have HL:=hid hlast
   clear hlast hR
   have hdec:decide ((n:Int)<(n2:Int))=decide (n<n2):=by simp
   by_cases h1:k<n
   ·have h2:¬k<n2:=fun h=>hlt ⟨h1,h⟩
    clear hlt
    have i1:(k:Int)<(n:Int):=by omega
    have i2:¬((k:Int)<(n2:Int)):=by omega
    have i3:¬((n:Int)<(n2:Int)):=by omega
    have HL2:=hid (show R=false by rw[HL.out,decide_eq_false (by omega)])
    go_wp2
    go_ret
    exact⟨by rw[HL2.out]<;>rfl,zAN (Below.refl _ _) _⟩
   ·clear hlt
    have i1:¬((k:Int)<(n:Int)):=by omega
    by_cases h2:n<n2
    ·have i3:(n:Int)<(n2:Int):=by omega
     have HL2:=hid (show R=true by rw[HL.out,decide_eq_true h2])
     go_wp2
     go_ret
     exact⟨by rw[HL2.out]<;>rfl,zAN (Below.refl _ _) _⟩
    ·have i3:¬((n:Int)<(n2:Int)):=by omega
     have HL2:=hid (show R=false by rw[HL.out,decide_eq_false h2])
     go_wp2
     go_ret
     exact⟨by rw[HL2.out]<;>rfl,zAN (Below.refl _ _) _⟩
end
section
def sumP(v:Nat->Int)(x:List Rt):Nat->Int×Int
 |0=>(0,1)
 |k+1=>((sumP v x k).1*(zAG x k).2+(sumP v x k).2*((zAG x k).1*v k),(sumP v x k).2*(zAG x k).2)
theorem sumP_bnd{v:Nat->Int}{x:List Rt}(h1:∀k,(v k).natAbs<=1000000)(hx:ValB x):
 ∀k:Nat,(sumP v x k).1.natAbs<=k*10000000000000000*400 ^ k∧1<=(sumP v x k).2∧(sumP v x k).2.natAbs<=400 ^ k
 |0=>by simp[sumP]
 |k+1=>by
  obtain⟨i1,i2,i3⟩:=sumP_bnd h1 hx k
  obtain⟨x1,x2,x3,x4⟩:=hx k
  have hv:=h1 k
  have hp:400 ^ (k+1)=400 ^ k*400:=Nat.pow_succ ..
  have hmono:400 ^ k<=400 ^ (k+1):=by rw[hp];omega
  rw[sumP]
  simp only[]
  generalize sumP v x k=s at i1 i2 i3
  generalize zAG x k=q at x1 x2 x3 x4
  generalize v k=u at hv
  obtain⟨s1,s2⟩:=s
  obtain⟨q1,q2⟩:=q
  simp only[]at*
  obtain⟨p,hpp⟩:=exq (400 ^ k)
  have hP:400 ^ (k+1)=p*400:=by rw[hpp];exact hp
  rw[<- hpp]at i1 i3
  rw[hP]
  clear hp hmono hP hpp
  obtain⟨T,hT⟩:=exq (k*p)
  have i1':s1.natAbs<=T*10000000000000000:=by rw[hT,<- Nat.mul_right_comm];exact i1
  have g1:(k+1)*10000000000000000*(p*400)=(T*400+p*400)*10000000000000000:=by
   rw[Nat.mul_right_comm,Nat.add_mul k 1,Nat.one_mul,<- Nat.mul_assoc k p 400,<- hT]
  rw[g1]
  clear i1 g1
  have e1:(s1*q2).natAbs<=T*10000000000000000*400:=by
   rw[Int.natAbs_mul];exact Nat.mul_le_mul i1' (by omega)
  have e2:(s2*(q1*u)).natAbs<=p*10000000000000000:=by
   rw[Int.natAbs_mul]
   refine Nat.mul_le_mul i3 ?_
   rw[Int.natAbs_mul]
   exact Nat.le_trans (Nat.mul_le_mul (show q1.natAbs<=10000000000 by omega) hv) (by decide)
  have e3:(s1*q2+s2*(q1*u)).natAbs<=(s1*q2).natAbs+(s2*(q1*u)).natAbs:=Int.natAbs_add_le _ _
  refine⟨by omega,?_,?_⟩
  ·have:=Int.mul_pos (show 0<s2 by omega) (show 0<q2 by omega);omega
  ·rw[Int.natAbs_mul];exact Nat.mul_le_mul i3 (by omega)
theorem sumP_bnd6{v:Nat->Int}{x:List Rt}(h1:∀k,(v k).natAbs<=1000000)(hx:ValB x){k:Nat}(h6:k<=6):
 (sumP v x k).1.natAbs<=245760000000000000000000000000000∧1<=(sumP v x k).2∧(sumP v x k).2.natAbs<=4096000000000000:=by
 obtain⟨i1,i2,i3⟩:=sumP_bnd h1 hx k
 have hp:400 ^ k<=400 ^ 6:=Nat.pow_le_pow_right (by omega) h6
 have e:(400:Nat) ^ 6=4096000000000000:=by decide
 rw[e]at hp
 refine⟨?_,i2,Nat.le_trans i3 hp⟩
 have:k*10000000000000000*400 ^ k<=6*10000000000000000*4096000000000000:=Nat.mul_le_mul (Nat.mul_le_mul_right _ h6) hp
 omega
def colP(M:Mask)(q:Nat)(i:Nat):Int:=vec (M[i]?.getD []) q
def zKH(M:Mask)(x:List Rt)(q:Nat):Bool:=decide ((sumP (colP M q) x M.length).1<=(sumP (colP M q) x M.length).2∧ -(sumP (colP M q) x M.length).2<=(sumP (colP M q) x M.length).1)
def zMW(M:Mask)(x:List Rt):Bool:=(List.range (zAE M)).all fun q=>zKH M x q
theorem seesB_iff{M:Mask}{x:List Rt}:zMW M x=true↔∀q,q<zAE M->zKH M x q=true:=by
 unfold zMW;rw[List.all_eq_true];simp
end
section
theorem eq_floor{n d m e:Int}(hd:0<d)(he:0<e)(h:n*e=m*d):n/d=m/e:=by
 have h1:n/d=(n*e)/(d*e):=(Int.mul_ediv_mul_of_pos_left n d he).symm
 have h2:m/e=(m*d)/(e*d):=(Int.mul_ediv_mul_of_pos_left m e hd).symm
 rw[h1,h2,h,Int.mul_comm d e]
theorem eq_rest{n d m e:Int}(h:n/d=m/e):n*e=m*d↔d*(m%e)=e*(n%d):=by
 have h1:=Int.emod_add_mul_ediv n d
 have h2:=Int.emod_add_mul_ediv m e
 obtain⟨q,hq⟩:=exq (n/d)
 obtain⟨a,ha⟩:=exq (n%d)
 obtain⟨b,hb⟩:=exq (m%e)
 rw[<- h,<- hq,<- hb]at h2
 rw[<- hq,<- ha]at h1
 rw[<- ha,<- hb,<- h1,<- h2]
 constructor<;>intro h<;>grind
structure EqS (A:Prop) (n d m e:Int):Prop where
 n0:0<=n
 d0:0<=d
 m0:0<=m
 e0:0<=e
 nd:d=0->0<n
 me:e=0->0<m
 iff:A↔n*e=m*d
theorem EqS.step{A:Prop}{n d m e:Int}(h:EqS A n d m e)(hd:0<d)(he:0<e)(hq:n/d=m/e):EqS A d (n%d) e (m%e):=by
 have h1:=Int.emod_nonneg n (show d≠0 by omega)
 have h2:=Int.emod_nonneg m (show e≠0 by omega)
 exact⟨by omega,h1,by omega,h2,fun _=>hd,fun _=>he,h.iff.trans (eq_rest hq)⟩
theorem EqS.part{A:Prop}{n d m e:Int}(h:EqS A n d m e)(hd:0<d)(he:0<e)(hq:n/d≠m/e):¬A:=fun ha=>hq (eq_floor hd he (h.iff.1 ha))
theorem EqS.done{A:Prop}{n d m e:Int}(h:EqS A n d m e)(hz:d=0∨e=0):A↔d=e:=by
 rw[h.iff]
 rcases hz with rfl|rfl
 ·have:=h.nd rfl
  constructor
  ·intro hh
   have hh2:n*e=0:=by rw[hh];simp
   rcases Int.mul_eq_zero.1 hh2 with h3|h3
   ·omega
   ·exact h3.symm
  ·rintro rfl;simp
 ·have:=h.me rfl
  constructor
  ·intro hh
   have hh2:m*d=0:=by rw[<- hh];simp
   rcases Int.mul_eq_zero.1 hh2 with h3|h3
   ·omega
   ·exact h3
  ·rintro rfl;simp
end
section
open Go.RowKit
theorem SumB.setN{w:World}{g:Nat}{n d m a b:Int}(h:SumB w g n d)(pm:WP m a b):SumB ((w.setCell ⟨g,0,none⟩ (.int .i64 a)).setCell ⟨g,1,none⟩ (.int .u64 b)) g m d:=by
 unfold SumB
 rw[zAS (zAS h 0 _) 1 _,pm.1,pm.2]
 simp
theorem zIS(w:World)(b:Nat)(x y z t:Value):Keep (fun g=>g≠b) w ((((w.setCell ⟨b,0,none⟩ x).setCell ⟨b,1,none⟩ y).setCell ⟨b,2,none⟩ z).setCell ⟨b,3,none⟩ t):=
 (((Keep.set w b 0 x).trans (Keep.set _ b 1 y)).trans (Keep.set _ b 2 z)).trans (Keep.set _ b 3 t)
def denOf(W:World)(s:Nat):Nat:=match W.heap[s]? with
 |some (.cells c _ _)=>(match c[2]?,c[3]? with|some (Value.int _ a),some (Value.int _ b)=>(a*18446744073709551616+b).toNat|_,_=>0)
 |_=>0
theorem denOf_eq{W:World}{s:Nat}{n d:Int}(h:SumB W s n d):denOf W s=d.toNat:=by
 unfold denOf
 unfold SumB at h
 rw[h]
 simp only[List.getElem?_toArray,List.getElem?_cons_zero,List.getElem?_cons_succ]
 congr 1
 omega
theorem zEF(n:Int):cmpI n 0<0↔n<0:=by unfold cmpI;split<;>(try split)<;>omega
theorem cmpI_sgn{n m d e:Int}(hd:0<d)(he:0<e)(h:n*e=m*d):cmpI n 0=cmpI m 0:=by
 rcases Int.lt_trichotomy n 0 with a|a|a<;>rcases Int.lt_trichotomy m 0 with b|b|b
 ·unfold cmpI;rw[if_pos a,if_pos b]
 ·subst b;have:=Int.mul_neg_of_neg_of_pos a he;omega
 ·have:=Int.mul_neg_of_neg_of_pos a he;have:=Int.mul_pos b hd;omega
 ·subst a;have:=Int.mul_neg_of_neg_of_pos b hd;omega
 ·rw[a,b]
 ·subst a;have:=Int.mul_pos b hd;omega
 ·have:=Int.mul_neg_of_neg_of_pos b hd;have:=Int.mul_pos a he;omega
 ·subst b;have:=Int.mul_pos a he;omega
 ·unfold cmpI;rw[if_neg (by omega),if_neg (by omega),if_neg (by omega),if_neg (by omega)]
theorem sequal_c(w:World)(n d m e:Int)(hn: -170141183460469231731687303715884105728<n∧n<170141183460469231731687303715884105728)(hm: -170141183460469231731687303715884105728<m∧m<170141183460469231731687303715884105728)
 (hd:0<d∧d<85070591730234615865843651857942052864)(he:0<e∧e<85070591730234615865843651857942052864):
 Calls Tryz.prog 124 #[sumV n d,sumV m e] w fun e' w'=>e'=.returned (.bool (decide (n*e=m*d)))∧Below w.heap.size w w':=by
 obtain⟨n1,n2,pn⟩:=WP.ex n
 obtain⟨d1,d2,pd⟩:=WP.ex d
 obtain⟨m1,m2,pm⟩:=WP.ex m
 obtain⟨e1,e2,pe⟩:=WP.ex e
 obtain⟨a1,a2,pa⟩:=WP.ex (-n)
 obtain⟨b1,b2,pb⟩:=WP.ex (-m)
 have HSN:=hid (show ∀X:World,Calls Tryz.prog 148 #[.agg #[.int .i64 n1,.int .u64 n2]] X fun e w'=>e=.returned (.int .i64 (cmpI n 0))∧Below X.heap.size X w' from fun X=>by
  have:=zJF X n hn
  rw[pn.val]at this;exact this)
 have HSM:=hid (show ∀X:World,Calls Tryz.prog 148 #[.agg #[.int .i64 m1,.int .u64 m2]] X fun e w'=>e=.returned (.int .i64 (cmpI m 0))∧Below X.heap.size X w' from fun X=>by
  have:=zJF X m hm
  rw[pm.val]at this;exact this)
 have HON:=hid (show ∀X:World,Calls Tryz.prog 149 #[.agg #[.int .i64 n1,.int .u64 n2]] X fun e w'=>e=.returned (.agg #[.int .i64 a1,.int .u64 a2])∧Below X.heap.size X w' from fun X=>by
  have:=zLG X n hn
  rw[pn.val,pa.val]at this;exact this)
 have HOM:=hid (show ∀X:World,Calls Tryz.prog 149 #[.agg #[.int .i64 m1,.int .u64 m2]] X fun e w'=>e=.returned (.agg #[.int .i64 b1,.int .u64 b2])∧Below X.heap.size X w' from fun X=>by
  have:=zLG X m hm
  rw[pm.val,pb.val]at this;exact this)
 rw[pn.sum pd,pm.sum pe]
 obtain⟨s,hs⟩:=exq (w.heap.size)
 obtain⟨wz,hwz⟩:=exq ((w.alloc (.cells #[.int .i64 n1,.int .u64 n2,.int .i64 d1,.int .u64 d2] 102)).alloc (.cells #[.int .i64 m1,.int .u64 m2,.int .i64 e1,.int .u64 e2] 102))
 have hsz:wz.heap.size=s+2:=by rw[hwz,hs];simp
 have SZ:SumB wz s n d:=by
  rw[hwz,hs]
  exact(SumB.made w pn pd).keep (Below.heap_alloc _ _ _ (by simp))
 have TZ:SumB wz (s+1) m e:=by
  have h:=SumB.made (w.alloc (.cells #[.int .i64 n1,.int .u64 n2,.int .i64 d1,.int .u64 d2] 102)) pm pe
  rw[World.size_alloc]at h
  rw[hwz,hs];exact h
 have HBZ:=hid (show Below w.heap.size w wz by rw[hwz];exact((Below.refl _ _).alloc (Nat.le_refl _) _).alloc (by simp) _)
 have HSA:=hid (fun(X:World) (hX:Below wz.heap.size wz X)=>SZ.keep (hX.block _ SZ.lt))
 have HSB:=hid (fun(X:World) (hX:Below wz.heap.size wz X)=>TZ.keep (hX.block _ TZ.lt))
 have HSZ:=hid hsz
 have PN:=hid pn
 have PD:=hid pd
 have PM:=hid pm
 have PE:=hid pe
 have PA:=hid pa
 have PB:=hid pb
 have HSV:=hid hs
 have HBN:=hid (And.intro hn (And.intro hm (And.intro hd he)))
 have HWZ:=hid hwz
 clear hsz SZ TZ pn pd pm pe pa pb hn hm hd he hwz
 go_enter Tryz.func124,Tryz.ntmps124
 go_upto_region 1 with fail
 rw[<- hs,<- HWZ.out]
 clear hs
 refine zAF (fun _ _=>True) (by kernel_rfl) ?_
 obtain⟨wd,hwd⟩:=exq (wz.drew)
 have hbd:Below wz.heap.size wz wd:=by rw[hwd];exact(Below.refl _ _).drew
 rw[<- hwd]
 have HBD:=hid hbd
 clear hbd hwd
 refine zEG fun a0 ha0=>?_
 have hsz:a0.tmps.size=70:=by rw[ha0];rfl
 have v2:a0.eval (.tmp 2)=.pointer (some ⟨s,0,none⟩):=by rw[ha0];rfl
 have v3:a0.eval (.tmp 3)=.pointer (some ⟨s+1,0,none⟩):=by rw[ha0];rfl
 have HA0:=hid ha0
 clear ha0
 refine AnyT.regF [9,10,11,12,13,14,15] (fun l f W=>(l 0=true->f 9=.pointer (some ⟨s,0,none⟩))∧(l 1=true->f 10=.agg #[.int .i64 n1,.int .u64 n2])∧(l 2=true->f 11=.int .i64 (cmpI n 0))∧(l 3=true->f 12=.pointer (some ⟨s+1,0,none⟩))∧(l 4=true->f 13=.agg #[.int .i64 m1,.int .u64 m2])∧(l 5=true->f 14=.int .i64 (cmpI m 0))∧(l 6=true->f 15=.bool (cmpI n 0 !=cmpI m 0))∧(Below wd.heap.size wd W)) (by kernel_rfl) (by kernel_rfl) ?_ ?_ ?_
 ·have egS:∀args w,(callFunc 148 args).run Tryz.prog w=.ok (.enter 148 args) w:=enters_of Tryz.func148 (by kernel_rfl) rfl
  rintro l f W i o ho hi hd ⟨h0,h1,h2,h3,h4,h5,h6,hS⟩
  have e9:zAD a0 [9,10,11,12,13,14,15] f (.tmp 9)=f 9:=by simp[zAD,hsz]
  have e10:zAD a0 [9,10,11,12,13,14,15] f (.tmp 10)=f 10:=by simp[zAD,hsz]
  have e11:zAD a0 [9,10,11,12,13,14,15] f (.tmp 11)=f 11:=by simp[zAD,hsz]
  have e12:zAD a0 [9,10,11,12,13,14,15] f (.tmp 12)=f 12:=by simp[zAD,hsz]
  have e13:zAD a0 [9,10,11,12,13,14,15] f (.tmp 13)=f 13:=by simp[zAD,hsz]
  have e14:zAD a0 [9,10,11,12,13,14,15] f (.tmp 14)=f 14:=by simp[zAD,hsz]
  have e15:zAD a0 [9,10,11,12,13,14,15] f (.tmp 15)=f 15:=by simp[zAD,hsz]
  have w2:zAD a0 [9,10,11,12,13,14,15] f (.tmp 2)=.pointer (some ⟨s,0,none⟩):=by simp[zAD,v2]
  have w3:zAD a0 [9,10,11,12,13,14,15] f (.tmp 3)=.pointer (some ⟨s+1,0,none⟩):=by simp[zAD,v3]
  have eFS:zAD a0 [9,10,11,12,13,14,15] f (.func 148)=.func (.func 148) #[] #[]:=rfl
  obtain⟨a0',a1',a2',a3',af⟩:=(HSA.out _ (zAA HBD.out hS)).cells PN.out PD.out
  obtain⟨b0,b1,b2,b3,bf⟩:=(HSB.out _ (zAA HBD.out hS)).cells PM.out PE.out
  clear af bf
  rcases i with _|_|_|_|_|_|_|i
  ·replace ho:=Option.some.inj ho
   subst ho
   refine zAU.val (w':=W) (v:=.pointer (some ⟨s,0,none⟩)) rfl (by go_simp) ⟨fun _=>rfl,h1,h2,h3,h4,h5,h6,hS⟩
  ·replace ho:=Option.some.inj ho
   subst ho
   have k0:=h0 (hd {on:=0,ground:=.data} (by simp) (by kernel_rfl))
   rw[k0]at e9
   refine zAU.val (w':=W) (v:=.agg #[.int .i64 n1,.int .u64 n2]) rfl (by go_simp) ⟨h0,fun _=>rfl,h2,h3,h4,h5,h6,hS⟩
  ·replace ho:=Option.some.inj ho
   subst ho
   have k1:=h1 (hd {on:=1,ground:=.data} (by simp) (by kernel_rfl))
   rw[k1]at e10
   refine zAU.call (g:=148) (args:=#[.agg #[.int .i64 n1,.int .u64 n2]]) (w':=W) rfl (by simp[execOp,resolve,invoke,go_sem,e10,eFS,egS]) ((HSN.out W).mono ?_)
   rintro e' w4 ⟨rfl,hb4⟩
   exact⟨_,rfl,h0,h1,fun _=>rfl,h3,h4,h5,h6,zAA hS hb4⟩
  ·replace ho:=Option.some.inj ho
   subst ho
   refine zAU.val (w':=W) (v:=.pointer (some ⟨s+1,0,none⟩)) rfl (by go_simp) ⟨h0,h1,h2,fun _=>rfl,h4,h5,h6,hS⟩
  ·replace ho:=Option.some.inj ho
   subst ho
   have k3:=h3 (hd {on:=3,ground:=.data} (by simp) (by kernel_rfl))
   rw[k3]at e12
   refine zAU.val (w':=W) (v:=.agg #[.int .i64 m1,.int .u64 m2]) rfl (by go_simp) ⟨h0,h1,h2,h3,fun _=>rfl,h5,h6,hS⟩
  ·replace ho:=Option.some.inj ho
   subst ho
   have k4:=h4 (hd {on:=4,ground:=.data} (by simp) (by kernel_rfl))
   rw[k4]at e13
   refine zAU.call (g:=148) (args:=#[.agg #[.int .i64 m1,.int .u64 m2]]) (w':=W) rfl (by simp[execOp,resolve,invoke,go_sem,e13,eFS,egS]) ((HSM.out W).mono ?_)
   rintro e' w4 ⟨rfl,hb4⟩
   exact⟨_,rfl,h0,h1,h2,h3,h4,fun _=>rfl,h6,zAA hS hb4⟩
  ·replace ho:=Option.some.inj ho
   subst ho
   have k2:=h2 (hd {on:=2,ground:=.data} (by simp) (by kernel_rfl))
   rw[k2]at e11
   have k5:=h5 (hd {on:=5,ground:=.data} (by simp) (by kernel_rfl))
   rw[k5]at e14
   refine zAU.val (w':=W) (v:=.bool (cmpI n 0 !=cmpI m 0)) rfl (by go_simp) ⟨h0,h1,h2,h3,h4,h5,fun _=>rfl,hS⟩
  ·exact absurd ho (by simp)
 ·rintro l f W hall ⟨h0,h1,h2,h3,h4,h5,h6,hS⟩
  have HB:=hid (zAA HBD.out hS)
  have f15:=h6 (hall 6 (by decide))
  clear h0 h1 h2 h3 h4 h5 h6 hS hall
  rw[HA0.out]
  simp only[zDE,List.foldl_cons,List.foldl_nil,Act.put,List.setIfInBounds_toArray,List.set_cons_succ,List.set_cons_zero]
  rw[f15]
  generalize f 9=z9,f 10=z10,f 11=z11,f 12=z12,f 13=z13,f 14=z14
  clear f15 hsz v2 v3 HA0
  by_cases hsg:cmpI n 0=cmpI m 0
  rotate_left
  ·have hne:(cmpI n 0 !=cmpI m 0)=true:=by simpa using hsg
   have hno:decide (n*e=m*d)=false:=by
    rw[decide_eq_false_iff_not]
    exact fun h=>hsg (cmpI_sgn HBN.out.2.2.1.1 HBN.out.2.2.2.1 h)
   have HNO:=hid hno
   have HBF:=hid (zAA HBZ.out HB.out)
   rw[hne]
   clear hno hsg hne
   go_wp2
   go_ret
   exact⟨by rw[HNO.out];rfl,HBF.out⟩
  have hne:(cmpI n 0 !=cmpI m 0)=false:=by simp[hsg]
  rw[hne]
  have HSG:=hid hsg
  clear hne hsg
  have HAW:=hid (HSA.out _ HB.out)
  have HBW2:=hid (HSB.out _ HB.out)
  obtain⟨x0,x1,x2,x3,xf⟩:=HAW.out.cells PN.out PD.out
  clear xf
  go_upto_if 19 with (go_at_call 148;refine(HSN.out _).mono ?_;rintro e' w3 ⟨rfl,hb3⟩;have HB3:=hid hb3;clear hb3;refine Stop.of ?_)
  refine Stop.go ?_
  go_upto_if 19 with fail
  have HA3:=hid (HAW.out.keep (HB3.out.block _ HAW.out.lt))
  have HT3:=hid (HBW2.out.keep (HB3.out.block _ HBW2.out.lt))
  have HBF:=hid (zAA HBZ.out (zAA HB.out HB3.out))
  clear x0 x1 x2 x3
  obtain⟨NN,hNN⟩:∃NN:Int,NN=(n.natAbs:Int):=⟨_,rfl⟩
  obtain⟨MM,hMM⟩:∃MM:Int,MM=(m.natAbs:Int):=⟨_,rfl⟩
  have HNN:=hid hNN
  have HMM:=hid hMM
  clear hNN hMM
  go_cut [4]from 20 to 27 (fun v wx=>v=.bool false∧SumB wx s NN d∧SumB wx (s+1) MM e∧Below w.heap.size w wx)
  case first=>
   by_cases hneg:n<0
   ·have hsn:cmpI n 0<0:=(zEF n).2 hneg
    have hsm:m<0:=(zEF m).1 (by rw[<- HSG.out];exact hsn)
    have HNM:=hid (And.intro hneg hsm)
    clear hneg hsm
    go_upto_region 4 with fail
    clear hsn
    refine zAF (fun _ _=>True) (by kernel_rfl) ?_
    obtain⟨wd,hwd⟩:=exq (w3.drew)
    have hbd:Below w3.heap.size w3 wd:=by rw[hwd];exact(Below.refl _ _).drew
    rw[<- hwd]
    have HBD:=hid hbd
    have HAD:=hid (HA3.out.keep (hbd.block _ HA3.out.lt))
    have HBD2:=hid (HT3.out.keep (hbd.block _ HT3.out.lt))
    clear hbd hwd
    refine zEG fun a0 ha0=>?_
    have hsz:a0.tmps.size=70:=by rw[ha0];rfl
    have v2:a0.eval (.tmp 2)=.pointer (some ⟨s,0,none⟩):=by rw[ha0];rfl
    have v3:a0.eval (.tmp 3)=.pointer (some ⟨s+1,0,none⟩):=by rw[ha0];rfl
    have HA0:=hid ha0
    clear ha0
    refine AnyT.regF [20,21,22,23,24,25,26,27] (fun l f W=>(l 0=true->f 20=.pointer (some ⟨s,0,none⟩))∧(l 1=true->f 21=.agg #[.int .i64 n1,.int .u64 n2])∧(l 2=true->f 22=.agg #[.int .i64 a1,.int .u64 a2])∧(l 3=true->f 23=.pointer (some ⟨s+1,0,none⟩))∧(l 4=true->f 24=.agg #[.int .i64 m1,.int .u64 m2])∧(l 5=true->f 25=.agg #[.int .i64 b1,.int .u64 b2])∧(l 6=true->f 26=.pointer (some ⟨s,0,none⟩))∧(l 8=true->f 27=.pointer (some ⟨s+1,0,none⟩))∧(Keep (fun k=>k≠s∧k≠s+1) wd W)∧(SumB W s (if l 7=true then-n else n) d)∧(SumB W (s+1) (if l 9=true then-m else m) e)∧(l 2=true->l 1=true)∧(l 7=true->l 2=true)∧(l 5=true->l 4=true)∧(l 9=true->l 5=true)) (by kernel_rfl) (by kernel_rfl) ?_ ?_ ?_
    ·have egO:∀args w,(callFunc 149 args).run Tryz.prog w=.ok (.enter 149 args) w:=enters_of Tryz.func149 (by kernel_rfl) rfl
     rintro l f W i o ho hi hd ⟨h0,h1,h2,h3,h4,h5,h6,h8,hK,hA,hB,i21,i72,i54,i95⟩
     have e20:zAD a0 [20,21,22,23,24,25,26,27] f (.tmp 20)=f 20:=by simp[zAD,hsz]
     have e21:zAD a0 [20,21,22,23,24,25,26,27] f (.tmp 21)=f 21:=by simp[zAD,hsz]
     have e22:zAD a0 [20,21,22,23,24,25,26,27] f (.tmp 22)=f 22:=by simp[zAD,hsz]
     have e23:zAD a0 [20,21,22,23,24,25,26,27] f (.tmp 23)=f 23:=by simp[zAD,hsz]
     have e24:zAD a0 [20,21,22,23,24,25,26,27] f (.tmp 24)=f 24:=by simp[zAD,hsz]
     have e25:zAD a0 [20,21,22,23,24,25,26,27] f (.tmp 25)=f 25:=by simp[zAD,hsz]
     have e26:zAD a0 [20,21,22,23,24,25,26,27] f (.tmp 26)=f 26:=by simp[zAD,hsz]
     have e27:zAD a0 [20,21,22,23,24,25,26,27] f (.tmp 27)=f 27:=by simp[zAD,hsz]
     have w2:zAD a0 [20,21,22,23,24,25,26,27] f (.tmp 2)=.pointer (some ⟨s,0,none⟩):=by simp[zAD,v2]
     have w3:zAD a0 [20,21,22,23,24,25,26,27] f (.tmp 3)=.pointer (some ⟨s+1,0,none⟩):=by simp[zAD,v3]
     have eFO:zAD a0 [20,21,22,23,24,25,26,27] f (.func 149)=.func (.func 149) #[] #[]:=rfl
     rcases i with _|_|_|_|_|_|_|_|_|_|i
     ·replace ho:=Option.some.inj ho
      subst ho
      refine zAU.val (w':=W) (v:=.pointer (some ⟨s,0,none⟩)) rfl (by go_simp) ⟨fun _=>rfl,h1,h2,h3,h4,h5,h6,h8,hK,hA,hB,i21,i72,i54,i95⟩
     ·replace ho:=Option.some.inj ho
      subst ho
      have k0:=h0 (hd {on:=0,ground:=.data} (by simp) (by kernel_rfl))
      rw[k0]at e20
      have l7:l 7=false:=by
       cases h:l 7 with
       |false=>rfl
       |true=>rw[i21 (i72 h)]at hi;cases hi
      rw[l7]at hA
      obtain⟨x0,x1,x2,x3,xf⟩:=SumB.cells (n:=n) (d:=d) hA PN.out PD.out
      rw[<- l7]at hA
      clear xf
      refine zAU.val (w':=W) (v:=.agg #[.int .i64 n1,.int .u64 n2]) rfl (by go_simp) ⟨h0,fun _=>rfl,h2,h3,h4,h5,h6,h8,hK,hA,hB,fun _=>rfl,i72,i54,i95⟩
     ·replace ho:=Option.some.inj ho
      subst ho
      have k1:=h1 (hd {on:=1,ground:=.data} (by simp) (by kernel_rfl))
      rw[k1]at e21
      refine zAU.call (g:=149) (args:=#[.agg #[.int .i64 n1,.int .u64 n2]]) (w':=W) rfl (by simp[execOp,resolve,invoke,go_sem,e21,eFO,egO]) ((HON.out W).mono ?_)
      rintro e' w4 ⟨rfl,hb4⟩
      exact⟨_,rfl,h0,h1,fun _=>rfl,h3,h4,h5,h6,h8,hK.trans (Keep.of_below hb4),hA.keep (hb4.block _ hA.lt),hB.keep (hb4.block _ hB.lt),fun _=>hd {on:=1,ground:=.data} (by simp) (by kernel_rfl),fun _=>rfl,i54,i95⟩
     ·replace ho:=Option.some.inj ho
      subst ho
      refine zAU.val (w':=W) (v:=.pointer (some ⟨s+1,0,none⟩)) rfl (by go_simp) ⟨h0,h1,h2,fun _=>rfl,h4,h5,h6,h8,hK,hA,hB,i21,i72,i54,i95⟩
     ·replace ho:=Option.some.inj ho
      subst ho
      have k3:=h3 (hd {on:=3,ground:=.data} (by simp) (by kernel_rfl))
      rw[k3]at e23
      have l9:l 9=false:=by
       cases h:l 9 with
       |false=>rfl
       |true=>rw[i54 (i95 h)]at hi;cases hi
      rw[l9]at hB
      obtain⟨x0,x1,x2,x3,xf⟩:=SumB.cells (n:=m) (d:=e) hB PM.out PE.out
      rw[<- l9]at hB
      clear xf
      refine zAU.val (w':=W) (v:=.agg #[.int .i64 m1,.int .u64 m2]) rfl (by go_simp) ⟨h0,h1,h2,h3,fun _=>rfl,h5,h6,h8,hK,hA,hB,i21,i72,fun _=>rfl,i95⟩
     ·replace ho:=Option.some.inj ho
      subst ho
      have k4:=h4 (hd {on:=4,ground:=.data} (by simp) (by kernel_rfl))
      rw[k4]at e24
      refine zAU.call (g:=149) (args:=#[.agg #[.int .i64 m1,.int .u64 m2]]) (w':=W) rfl (by simp[execOp,resolve,invoke,go_sem,e24,eFO,egO]) ((HOM.out W).mono ?_)
      rintro e' w4 ⟨rfl,hb4⟩
      exact⟨_,rfl,h0,h1,h2,h3,h4,fun _=>rfl,h6,h8,hK.trans (Keep.of_below hb4),hA.keep (hb4.block _ hA.lt),hB.keep (hb4.block _ hB.lt),i21,i72,fun _=>hd {on:=4,ground:=.data} (by simp) (by kernel_rfl),fun _=>rfl⟩
     ·replace ho:=Option.some.inj ho
      subst ho
      refine zAU.val (w':=W) (v:=.pointer (some ⟨s,0,none⟩)) rfl (by go_simp) ⟨h0,h1,h2,h3,h4,h5,fun _=>rfl,h8,hK,hA,hB,i21,i72,i54,i95⟩
     ·replace ho:=Option.some.inj ho
      subst ho
      have k2:=h2 (hd {on:=2,ground:=.data} (by simp) (by kernel_rfl))
      rw[k2]at e22
      have k6:=h6 (hd {on:=6,ground:=.data} (by simp) (by kernel_rfl))
      rw[k6]at e26
      rw[hi]at hA
      have hA':SumB W s n d:=hA
      obtain⟨x0,x1,x2,x3,xf⟩:=hA'.cells PN.out PD.out
      have y0:=xf 0
      have y1:=xf 1
      have hlt:=hA'.lt
      have K:=zBV W s (.int .i64 a1) (.int .u64 a2)
      clear xf
      refine zAU.skip (w':=(W.setCell ⟨s,0,none⟩ (.int .i64 a1)).setCell ⟨s,1,none⟩ (.int .u64 a2)) rfl (by go_simp) ⟨h0,h1,h2,h3,h4,h5,h6,h8,hK.trans (K.mono fun k h=>h.1),SumB.setN hA' PA.out,hB.keep (K.block _ hB.lt (by show s+1≠s;omega)),i21,fun _=>hd {on:=2,ground:=.data} (by simp) (by kernel_rfl),i54,i95⟩
     ·replace ho:=Option.some.inj ho
      subst ho
      refine zAU.val (w':=W) (v:=.pointer (some ⟨s+1,0,none⟩)) rfl (by go_simp) ⟨h0,h1,h2,h3,h4,h5,h6,fun _=>rfl,hK,hA,hB,i21,i72,i54,i95⟩
     ·replace ho:=Option.some.inj ho
      subst ho
      have k5:=h5 (hd {on:=5,ground:=.data} (by simp) (by kernel_rfl))
      rw[k5]at e25
      have k8:=h8 (hd {on:=8,ground:=.data} (by simp) (by kernel_rfl))
      rw[k8]at e27
      rw[hi]at hB
      have hB':SumB W (s+1) m e:=hB
      obtain⟨x0,x1,x2,x3,xf⟩:=hB'.cells PM.out PE.out
      have y0:=xf 0
      have y1:=xf 1
      have hlt:=hB'.lt
      have K:=zBV W (s+1) (.int .i64 b1) (.int .u64 b2)
      clear xf
      refine zAU.skip (w':=(W.setCell ⟨s+1,0,none⟩ (.int .i64 b1)).setCell ⟨s+1,1,none⟩ (.int .u64 b2)) rfl (by go_simp) ⟨h0,h1,h2,h3,h4,h5,h6,h8,hK.trans (K.mono fun k h=>h.2),hA.keep (K.block _ hA.lt (by show s≠s+1;omega)),SumB.setN hB' PB.out,i21,i72,i54,fun _=>hd {on:=5,ground:=.data} (by simp) (by kernel_rfl)⟩
     ·exact absurd ho (by simp)
    ·rintro l f W hall ⟨h0,h1,h2,h3,h4,h5,h6,h8,hK,hA,hB,i21,i72,i54,i95⟩
     rw[hall 7 (by decide)]at hA
     rw[hall 9 (by decide)]at hB
     have HA4:=hid (show SumB W s (-n) d from hA)
     have HB4:=hid (show SumB W (s+1) (-m) e from hB)
     have HK4:=hid hK
     clear h0 h1 h2 h3 h4 h5 h6 h8 hK hA hB i21 i72 i54 i95 hall
     rw[HA0.out]
     simp only[zDE,List.foldl_cons,List.foldl_nil,Act.put,List.setIfInBounds_toArray,List.set_cons_succ,List.set_cons_zero]
     generalize f 20=z20,f 21=z21,f 22=z22,f 23=z23,f 24=z24,f 25=z25,f 26=z26,f 27=z27
     clear hsz v2 v3 HA0
     go_wp2
     go_meet
     case rel=>
      have h1:=HNN.out
      have h2:=HMM.out
      have h3:=HNM.out
      exact⟨rfl,by rw[show NN= -n by omega];exact HA4.out,by rw[show MM= -m by omega];exact HB4.out,HK4.out.below (zAA HBF.out HBD.out) (by have:=HBF.out.size;have:=HBD.out.size;omega) fun k hk=>by have:=HSV.out;omega⟩
    ·intro l f hl
     refine⟨?_,?_,?_,?_,?_,?_,?_,?_,Keep.refl _ _,(by rw[hl 7 (by decide)];exact HAD.out),(by rw[hl 9 (by decide)];exact HBD2.out),(fun h=>by rw[hl _ (by decide)]at h;cases h),(fun h=>by rw[hl _ (by decide)]at h;cases h),(fun h=>by rw[hl _ (by decide)]at h;cases h),(fun h=>by rw[hl _ (by decide)]at h;cases h)⟩
     ·intro h;rw[hl _ (by decide)]at h;cases h
     ·intro h;rw[hl _ (by decide)]at h;cases h
     ·intro h;rw[hl _ (by decide)]at h;cases h
     ·intro h;rw[hl _ (by decide)]at h;cases h
     ·intro h;rw[hl _ (by decide)]at h;cases h
     ·intro h;rw[hl _ (by decide)]at h;cases h
     ·intro h;rw[hl _ (by decide)]at h;cases h
     ·intro h;rw[hl _ (by decide)]at h;cases h
   ·have hsn:¬cmpI n 0<0:=fun h=>hneg ((zEF n).1 h)
    have hsm:¬m<0:=fun h=>hneg ((zEF n).1 (by rw[HSG.out];exact(zEF m).2 h))
    have e1:NN=n:=by have:=HNN.out;omega
    have e2:MM=m:=by have:=HMM.out;omega
    have HX:=hid (show SumB w3 s NN d∧SumB w3 (s+1) MM e∧Below w.heap.size w w3 by rw[e1,e2];exact⟨HA3.out,HT3.out,HBF.out⟩)
    clear e1 e2 hsm hneg
    go_wp2
    go_meet
    case rel=>exact⟨rfl,HX.out.1,HX.out.2.1,HX.out.2.2⟩
  case rest=>
   obtain⟨rfl,hS,hT,hBc⟩:=hcut
   obtain⟨A0,hA0⟩:∃A0:Prop,A0=(n*e=m*d):=⟨_,rfl⟩
   have hd0:=HBN.out.2.2.1
   have he0:=HBN.out.2.2.2
   have hst:EqS A0 NN d MM e:=by
    have h1:=HNN.out
    have h2:=HMM.out
    refine⟨by omega,by omega,by omega,by omega,fun h=>by omega,fun h=>by omega,?_⟩
    rw[hA0]
    by_cases hneg:n<0
    ·have hsm:m<0:=(zEF m).1 (by rw[<- HSG.out];exact(zEF n).2 hneg)
     have e1:NN= -n:=by omega
     have e2:MM= -m:=by omega
     rw[e1,e2,Int.neg_mul,Int.neg_mul];omega
    ·have hsm:¬m<0:=fun h=>hneg ((zEF n).1 (by rw[HSG.out];exact(zEF m).2 h))
     have e1:NN=n:=by omega
     have e2:MM=m:=by omega
     rw[e1,e2]
   have HAB:=hid (show A0↔n*e=m*d by rw[hA0])
   have HST:=hid (show SumB wc s NN d∧SumB wc (s+1) MM e∧EqS A0 NN d MM e∧(NN<170141183460469231731687303715884105728∧MM<170141183460469231731687303715884105728∧d<85070591730234615865843651857942052864∧e<85070591730234615865843651857942052864)∧Below w.heap.size w wc from⟨hS,hT,hst,by have h1:=HBN.out.1;have h2:=HBN.out.2.1;have h3:=HNN.out;have h4:=HMM.out;omega,hBc⟩)
   clear hS hT hBc hst hA0 hd0 he0 HSN HSM HON HOM HSA HSB HB HAW HBW2 HB3 HA3 HT3 HBF HNN HMM HSG PN PD PM PE PA PB
   go_wp2
   go_loopw [] (fun wr=>∃N D M E:Int,SumB wr s N D∧SumB wr (s+1) M E∧EqS A0 N D M E∧(N<170141183460469231731687303715884105728∧M<170141183460469231731687303715884105728∧D<85070591730234615865843651857942052864∧E<85070591730234615865843651857942052864)∧Below w.heap.size w wr) (fun wr=>denOf wr s)
   case atStart=>exact⟨_,_,_,_,HST.out.1,HST.out.2.1,HST.out.2.2.1,HST.out.2.2.2.1,HST.out.2.2.2.2⟩
   case round=>
    obtain⟨N,D,M,E,hA,hT,hE,hbb,hBw⟩:=hrel
    obtain⟨n1,n2,pn⟩:=WP.ex N
    obtain⟨d1,d2,pd⟩:=WP.ex D
    obtain⟨m1,m2,pm⟩:=WP.ex M
    obtain⟨e1,e2,pe⟩:=WP.ex E
    have hn0:=hE.n0
    have hd0:=hE.d0
    have hm0:=hE.m0
    have he0:=hE.e0
    have HSD:=hid (show ∀X:World,Calls Tryz.prog 148 #[.agg #[.int .i64 d1,.int .u64 d2]] X fun e w'=>e=.returned (.int .i64 (cmpI D 0))∧Below X.heap.size X w' from fun X=>by
     have:=zJF X D (by omega)
     rw[pd.val]at this;exact this)
    have HSE:=hid (show ∀X:World,Calls Tryz.prog 148 #[.agg #[.int .i64 e1,.int .u64 e2]] X fun e w'=>e=.returned (.int .i64 (cmpI E 0))∧Below X.heap.size X w' from fun X=>by
     have:=zJF X E (by omega)
     rw[pe.val]at this;exact this)
    have HEQ:=hid hE
    have HBB:=hid hbb
    have HBW:=hid hBw
    have HAR:=hid hA
    have HTR:=hid hT
    have PN:=hid pn
    have PD:=hid pd
    have PM:=hid pm
    have PE:=hid pe
    obtain⟨x0,x1,x2,x3,xf⟩:=hA.cells pn pd
    have hsl:s+1<wr.heap.size:=hT.lt
    have HSL:=hid hsl
    clear xf hE hbb hBw hA hT pn pd pm pe hsl hn0 hm0
    by_cases hz:D=0∨E=0
    ·have hdn:=HEQ.out.done hz
     have hres:decide (d1=e1∧d2=e2)=decide (n*e=m*d):=by
      rw[decide_eq_decide,<- HAB.out,hdn]
      have h1:d1=D/18446744073709551616:=PD.out.1
      have h2:d2=D%18446744073709551616:=PD.out.2
      have h3:e1=E/18446744073709551616:=PE.out.1
      have h4:e2=E%18446744073709551616:=PE.out.2
      omega
     have HRES:=hid hres
     have HXE:=hid (fun(X:World) (hX:Below wr.heap.size wr X)=>(HTR.out.keep (hX.block _ HTR.out.lt)).cells PM.out PE.out)
     have HXA:=hid (fun(X:World) (hX:Below wr.heap.size wr X)=>(HAR.out.keep (hX.block _ HAR.out.lt)).cells PN.out PD.out)
     clear hdn hres
     by_cases hD:D=0
     ·have hc:cmpI D 0=0:=by rw[hD];rfl
      rw[hc]at HSD
      clear hc hz hD hd0 he0
      go_wp2_with (go_at_call 148;refine(HSD.out _).mono ?_;rintro e' w3 ⟨rfl,hb3⟩;have HB3:=hid hb3;clear hb3;refine Stop.of ?_)
      refine Stop.go ?_
      clear x0 x1 x2 x3
      obtain⟨x0,x1,x2,x3,xf⟩:=HXA.out _ HB3.out
      obtain⟨y0,y1,y2,y3,yf⟩:=HXE.out _ HB3.out
      clear xf yf
      go_wp2
      all_goals
       go_ret
       refine⟨?_,zAA HBW.out HB3.out⟩
       rw[<- HRES.out]
       first
        | (show Ending.returned (Value.bool true)=_;rw[decide_eq_true (p:=d1=e1∧d2=e2) (by omega)])
        | (show Ending.returned (Value.bool false)=_;rw[decide_eq_false (p:=d1=e1∧d2=e2) (by omega)])
     ·have hE0:E=0:=by omega
      have hc:cmpI D 0=1:=by unfold cmpI;rw[if_neg (by omega),if_neg hD]
      have hc2:cmpI E 0=0:=by rw[hE0];rfl
      rw[hc]at HSD
      rw[hc2]at HSE
      clear hc hc2 hz hD hE0 hd0 he0
      obtain⟨y0,y1,y2,y3,yf⟩:=HXE.out _ (Below.refl _ _)
      clear yf
      go_wp2_with (go_at_call 148;refine(HSD.out _).mono ?_;rintro e' w3 ⟨rfl,hb3⟩;have HB3:=hid hb3;clear hb3;refine Stop.of ?_)
      refine Stop.go ?_
      clear x0 x1 x2 x3 y0 y1 y2 y3
      obtain⟨y0,y1,y2,y3,yf⟩:=HXE.out _ HB3.out
      clear yf
      go_wp2_with (go_at_call 148;refine(HSE.out _).mono ?_;rintro e' w4 ⟨rfl,hb4⟩;have HB4:=hid hb4;clear hb4;refine Stop.of ?_)
      refine Stop.go ?_
      clear y0 y1 y2 y3
      obtain⟨x0,x1,x2,x3,xf⟩:=HXA.out _ (zAA HB3.out HB4.out)
      obtain⟨y0,y1,y2,y3,yf⟩:=HXE.out _ (zAA HB3.out HB4.out)
      clear xf yf
      go_wp2
      all_goals
       go_ret
       refine⟨?_,zAA HBW.out (zAA HB3.out HB4.out)⟩
       rw[<- HRES.out]
       first
        | (show Ending.returned (Value.bool true)=_;rw[decide_eq_true (p:=d1=e1∧d2=e2) (by omega)])
        | (show Ending.returned (Value.bool false)=_;rw[decide_eq_false (p:=d1=e1∧d2=e2) (by omega)])
    ·have hD:0<D:=by omega
     have hE:0<E:=by omega
     have hc:cmpI D 0=1:=by unfold cmpI;rw[if_neg (by omega),if_neg (by omega)]
     have hc2:cmpI E 0=1:=by unfold cmpI;rw[if_neg (by omega),if_neg (by omega)]
     rw[hc]at HSD
     rw[hc2]at HSE
     have HDE:=hid (And.intro hD hE)
     obtain⟨f1,f2,pf⟩:=WP.ex (N/D)
     obtain⟨q1,q2,pq⟩:=WP.ex (N%D)
     obtain⟨g1,g2,pg⟩:=WP.ex (M/E)
     obtain⟨r1,r2,pr⟩:=WP.ex (M%E)
     have HOV1:=hid (show ∀X:World,Calls Tryz.prog 150 #[.agg #[.int .i64 n1,.int .u64 n2],.agg #[.int .i64 d1,.int .u64 d2]] X fun e w'=>e=.returned (.tuple #[.agg #[.int .i64 f1,.int .u64 f2],.agg #[.int .i64 q1,.int .u64 q2]])∧Below X.heap.size X w' from fun X=>by
      have h1:=HEQ.out.n0
      have h2:=HBB.out
      have:=zNX X N D (by omega) (by omega)
      rw[PN.out.val,PD.out.val,pf.val,pq.val]at this;exact this)
     have HOV2:=hid (show ∀X:World,Calls Tryz.prog 150 #[.agg #[.int .i64 m1,.int .u64 m2],.agg #[.int .i64 e1,.int .u64 e2]] X fun e w'=>e=.returned (.tuple #[.agg #[.int .i64 g1,.int .u64 g2],.agg #[.int .i64 r1,.int .u64 r2]])∧Below X.heap.size X w' from fun X=>by
      have h1:=HEQ.out.m0
      have h2:=HBB.out
      have:=zNX X M E (by omega) (by omega)
      rw[PM.out.val,PE.out.val,pg.val,pr.val]at this;exact this)
     have PF:=hid pf
     have PQ:=hid pq
     have PG:=hid pg
     have PR:=hid pr
     have HXE:=hid (fun(X:World) (hX:Below wr.heap.size wr X)=>(HTR.out.keep (hX.block _ HTR.out.lt)).cells PM.out PE.out)
     have HXA:=hid (fun(X:World) (hX:Below wr.heap.size wr X)=>(HAR.out.keep (hX.block _ HAR.out.lt)).cells PN.out PD.out)
     clear hc hc2 hz hD hE hd0 he0 pf pq pg pr
     go_wp2_with (go_at_call 148;refine(HSD.out _).mono ?_;rintro e' w3 ⟨rfl,hb3⟩;have HB3:=hid hb3;clear hb3;refine Stop.of ?_)
     refine Stop.go ?_
     clear x0 x1 x2 x3
     obtain⟨y0,y1,y2,y3,yf⟩:=HXE.out _ HB3.out
     clear yf
     go_wp2_with (go_at_call 148;refine(HSE.out _).mono ?_;rintro e' w4 ⟨rfl,hb4⟩;have HB4:=hid (zAA HB3.out hb4);clear hb4;refine Stop.of ?_)
     refine Stop.go ?_
     clear y0 y1 y2 y3
     obtain⟨x0,x1,x2,x3,xf⟩:=HXA.out _ HB4.out
     clear xf
     go_upto_region 7 with (go_at_call 150;refine(HOV1.out _).mono ?_;rintro e' w5 ⟨rfl,hb5⟩;have HB5:=hid (zAA HB4.out hb5);clear hb5;refine Stop.of ?_)
     refine Stop.go ?_
     clear x0 x1 x2 x3
     go_upto_region 7 with fail
     obtain⟨ga,hga⟩:=exq (w5.heap.size)
     obtain⟨w6,hw6⟩:=exq ((w5.alloc (.cells #[.int .i64 f1,.int .u64 f2] 100)).alloc (.cells #[.int .i64 q1,.int .u64 q2] 100))
     rw[<- hga,<- hw6]
     have F6:zBQ w6 ga (N/D):=by rw[hw6,hga];exact(zBQ.made w5 PF.out).keep (Below.heap_alloc _ _ _ (by simp))
     have Q6:zBQ w6 (ga+1) (N%D):=by
      have h:=zBQ.made (w5.alloc (.cells #[.int .i64 f1,.int .u64 f2] 100)) PQ.out
      rw[World.size_alloc]at h
      rw[hw6,hga];exact h
     have HB6:=hid (show Below wr.heap.size wr w6 by rw[hw6];exact(HB5.out.alloc HB5.out.size _).alloc (by have:=HB5.out.size;simp;omega) _)
     have HF6:=hid F6
     have HQ6:=hid Q6
     have HGA:=hid (show wr.heap.size<=ga by rw[hga];exact HB5.out.size)
     clear hga hw6 F6 Q6
     obtain⟨y0,y1,y2,y3,yf⟩:=HXE.out _ HB6.out
     clear yf
     go_upto_region 8 with (go_at_call 150;refine(HOV2.out _).mono ?_;rintro e' w7 ⟨rfl,hb7⟩;have HB7:=hid hb7;clear hb7;refine Stop.of ?_)
     refine Stop.go ?_
     clear y0 y1 y2 y3
     go_upto_region 8 with fail
     obtain⟨gb,hgb⟩:=exq (w7.heap.size)
     obtain⟨w8,hw8⟩:=exq ((w7.alloc (.cells #[.int .i64 g1,.int .u64 g2] 100)).alloc (.cells #[.int .i64 r1,.int .u64 r2] 100))
     rw[<- hgb,<- hw8]
     have G8:zBQ w8 gb (M/E):=by rw[hw8,hgb];exact(zBQ.made w7 PG.out).keep (Below.heap_alloc _ _ _ (by simp))
     have R8:zBQ w8 (gb+1) (M%E):=by
      have h:=zBQ.made (w7.alloc (.cells #[.int .i64 g1,.int .u64 g2] 100)) PR.out
      rw[World.size_alloc]at h
      rw[hw8,hgb];exact h
     have h68:Below w6.heap.size w6 w8:=by rw[hw8];exact(HB7.out.alloc HB7.out.size _).alloc (by have:=HB7.out.size;simp;omega) _
     have HB8:=hid (zAA HB6.out h68)
     have HF8:=hid (HF6.out.keep (h68.block _ HF6.out.lt))
     have HQ8:=hid (HQ6.out.keep (h68.block _ HQ6.out.lt))
     have HG8:=hid G8
     have HR8:=hid R8
     have HGB:=hid (show wr.heap.size<=gb by rw[hgb];exact Nat.le_trans HB6.out.size HB7.out.size)
     clear hgb hw8 G8 R8 h68
     obtain⟨x0,x1,_⟩:=HF8.out.cells PF.out
     obtain⟨y0,y1,_⟩:=HG8.out.cells PG.out
     by_cases hQ:N/D=M/E
     ·have HQQ:=hid hQ
      have ef1:f1=g1:=by rw[PF.out.1,PG.out.1,hQ]
      have ef2:f2=g2:=by rw[PF.out.2,PG.out.2,hQ]
      subst ef1
      subst ef2
      clear hQ
      go_upto_region 10 with fail
      clear x0 x1 y0 y1
      obtain⟨gq,hgq⟩:=exq (ga+1)
      obtain⟨gr,hgr⟩:=exq (gb+1)
      rw[<- hgq]at HQ8⊢
      rw[<- hgr]at HR8⊢
      have HNQ:=hid (show gq≠s∧gq≠s+1 by have:=HSL.out;have:=HGA.out;omega)
      have HNR:=hid (show gr≠s∧gr≠s+1 by have:=HSL.out;have:=HGB.out;omega)
      have HB8':=HB8
      clear hgq hgr
      refine zAF (fun _ _=>True) (by kernel_rfl) ?_
      obtain⟨wd,hwd⟩:=exq (w8.drew)
      have hbd:Below w8.heap.size w8 wd:=by rw[hwd];exact(Below.refl _ _).drew
      rw[<- hwd]
      have HBD:=hid hbd
      have HBS0:=hid (zAA HB8.out hbd)
      have HQR:=hid (HQ8.out.keep (hbd.block _ HQ8.out.lt))
      have HRR:=hid (HR8.out.keep (hbd.block _ HR8.out.lt))
      have HAD:=hid (HAR.out.keep (HBS0.out.block _ HAR.out.lt))
      have HBD2:=hid (HTR.out.keep (HBS0.out.block _ HTR.out.lt))
      clear hbd hwd
      refine zEG fun a0 ha0=>?_
      have hsz:a0.tmps.size=70:=by rw[ha0];rfl
      have v2:a0.eval (.tmp 2)=.pointer (some ⟨s,0,none⟩):=by rw[ha0];rfl
      have v3:a0.eval (.tmp 3)=.pointer (some ⟨s+1,0,none⟩):=by rw[ha0];rfl
      have v6:a0.eval (.tmp 6)=.pointer (some ⟨gq,0,none⟩):=by rw[ha0];rfl
      have v8:a0.eval (.tmp 8)=.pointer (some ⟨gr,0,none⟩):=by rw[ha0];rfl
      have HA0:=hid ha0
      clear ha0
      refine AnyT.regF [57,58,59,60,61,62,63,64] (fun l f W=>(l 0=true->f 57=.pointer (some ⟨s,2,none⟩))∧(l 1=true->f 58=.agg #[.int .i64 d1,.int .u64 d2])∧(l 2=true->f 59=.agg #[.int .i64 q1,.int .u64 q2])∧(l 3=true->f 60=.agg #[.int .i64 d1,.int .u64 d2,.int .i64 q1,.int .u64 q2])∧(l 4=true->f 61=.pointer (some ⟨s+1,2,none⟩))∧(l 5=true->f 62=.agg #[.int .i64 e1,.int .u64 e2])∧(l 6=true->f 63=.agg #[.int .i64 r1,.int .u64 r2])∧(l 7=true->f 64=.agg #[.int .i64 e1,.int .u64 e2,.int .i64 r1,.int .u64 r2])∧(Keep (fun k=>k≠s∧k≠s+1) wd W)∧(SumB W s (if l 8=true then D else N) (if l 8=true then N%D else D))∧(SumB W (s+1) (if l 9=true then E else M) (if l 9=true then M%E else E))∧(l 3=true->l 1=true)∧(l 8=true->l 3=true)∧(l 7=true->l 5=true)∧(l 9=true->l 7=true)) (by kernel_rfl) (by kernel_rfl) ?_ ?_ ?_
      ·rintro l f W i o ho hi hd ⟨h0,h1,h2,h3,h4,h5,h6,h7,hK,hA,hB,i31,i83,i75,i97⟩
       have e57:zAD a0 [57,58,59,60,61,62,63,64] f (.tmp 57)=f 57:=by simp[zAD,hsz]
       have e58:zAD a0 [57,58,59,60,61,62,63,64] f (.tmp 58)=f 58:=by simp[zAD,hsz]
       have e59:zAD a0 [57,58,59,60,61,62,63,64] f (.tmp 59)=f 59:=by simp[zAD,hsz]
       have e60:zAD a0 [57,58,59,60,61,62,63,64] f (.tmp 60)=f 60:=by simp[zAD,hsz]
       have e61:zAD a0 [57,58,59,60,61,62,63,64] f (.tmp 61)=f 61:=by simp[zAD,hsz]
       have e62:zAD a0 [57,58,59,60,61,62,63,64] f (.tmp 62)=f 62:=by simp[zAD,hsz]
       have e63:zAD a0 [57,58,59,60,61,62,63,64] f (.tmp 63)=f 63:=by simp[zAD,hsz]
       have e64:zAD a0 [57,58,59,60,61,62,63,64] f (.tmp 64)=f 64:=by simp[zAD,hsz]
       have w2:zAD a0 [57,58,59,60,61,62,63,64] f (.tmp 2)=.pointer (some ⟨s,0,none⟩):=by simp[zAD,v2]
       have w3:zAD a0 [57,58,59,60,61,62,63,64] f (.tmp 3)=.pointer (some ⟨s+1,0,none⟩):=by simp[zAD,v3]
       have w6:zAD a0 [57,58,59,60,61,62,63,64] f (.tmp 6)=.pointer (some ⟨gq,0,none⟩):=by simp[zAD,v6]
       have w8:zAD a0 [57,58,59,60,61,62,63,64] f (.tmp 8)=.pointer (some ⟨gr,0,none⟩):=by simp[zAD,v8]
       rcases i with _|_|_|_|_|_|_|_|_|_|i
       ·replace ho:=Option.some.inj ho
        subst ho
        refine zAU.val (w':=W) (v:=.pointer (some ⟨s,2,none⟩)) rfl (by go_simp) ⟨fun _=>rfl,h1,h2,h3,h4,h5,h6,h7,hK,hA,hB,i31,i83,i75,i97⟩
       ·replace ho:=Option.some.inj ho
        subst ho
        have k0:=h0 (hd {on:=0,ground:=.data} (by simp) (by kernel_rfl))
        rw[k0]at e57
        have l8:l 8=false:=by
         cases h:l 8 with
         |false=>rfl
         |true=>rw[i31 (i83 h)]at hi;cases hi
        rw[l8]at hA
        obtain⟨x0,x1,x2,x3,xf⟩:=SumB.cells (n:=N) (d:=D) hA PN.out PD.out
        rw[<- l8]at hA
        clear xf
        refine zAU.val (w':=W) (v:=.agg #[.int .i64 d1,.int .u64 d2]) rfl (by go_simp) ⟨h0,fun _=>rfl,h2,h3,h4,h5,h6,h7,hK,hA,hB,fun _=>rfl,i83,i75,i97⟩
       ·replace ho:=Option.some.inj ho
        subst ho
        obtain⟨x0,x1,_⟩:=(HQR.out.keep (hK.block _ HQR.out.lt (by have:=HNQ.out;omega))).cells PQ.out
        refine zAU.val (w':=W) (v:=.agg #[.int .i64 q1,.int .u64 q2]) rfl (by go_simp) ⟨h0,h1,fun _=>rfl,h3,h4,h5,h6,h7,hK,hA,hB,i31,i83,i75,i97⟩
       ·replace ho:=Option.some.inj ho
        subst ho
        have k1:=h1 (hd {on:=1,ground:=.data} (by simp) (by kernel_rfl))
        rw[k1]at e58
        have k2:=h2 (hd {on:=2,ground:=.data} (by simp) (by kernel_rfl))
        rw[k2]at e59
        refine zAU.val (w':=W) (v:=.agg #[.int .i64 d1,.int .u64 d2,.int .i64 q1,.int .u64 q2]) rfl (by go_simp) ⟨h0,h1,h2,fun _=>rfl,h4,h5,h6,h7,hK,hA,hB,fun _=>hd {on:=1,ground:=.data} (by simp) (by kernel_rfl),fun _=>rfl,i75,i97⟩
       ·replace ho:=Option.some.inj ho
        subst ho
        refine zAU.val (w':=W) (v:=.pointer (some ⟨s+1,2,none⟩)) rfl (by go_simp) ⟨h0,h1,h2,h3,fun _=>rfl,h5,h6,h7,hK,hA,hB,i31,i83,i75,i97⟩
       ·replace ho:=Option.some.inj ho
        subst ho
        have k4:=h4 (hd {on:=4,ground:=.data} (by simp) (by kernel_rfl))
        rw[k4]at e61
        have l9:l 9=false:=by
         cases h:l 9 with
         |false=>rfl
         |true=>rw[i75 (i97 h)]at hi;cases hi
        rw[l9]at hB
        obtain⟨x0,x1,x2,x3,xf⟩:=SumB.cells (n:=M) (d:=E) hB PM.out PE.out
        rw[<- l9]at hB
        clear xf
        refine zAU.val (w':=W) (v:=.agg #[.int .i64 e1,.int .u64 e2]) rfl (by go_simp) ⟨h0,h1,h2,h3,h4,fun _=>rfl,h6,h7,hK,hA,hB,i31,i83,fun _=>rfl,i97⟩
       ·replace ho:=Option.some.inj ho
        subst ho
        obtain⟨x0,x1,_⟩:=(HRR.out.keep (hK.block _ HRR.out.lt (by have:=HNR.out;omega))).cells PR.out
        refine zAU.val (w':=W) (v:=.agg #[.int .i64 r1,.int .u64 r2]) rfl (by go_simp) ⟨h0,h1,h2,h3,h4,h5,fun _=>rfl,h7,hK,hA,hB,i31,i83,i75,i97⟩
       ·replace ho:=Option.some.inj ho
        subst ho
        have k5:=h5 (hd {on:=5,ground:=.data} (by simp) (by kernel_rfl))
        rw[k5]at e62
        have k6:=h6 (hd {on:=6,ground:=.data} (by simp) (by kernel_rfl))
        rw[k6]at e63
        refine zAU.val (w':=W) (v:=.agg #[.int .i64 e1,.int .u64 e2,.int .i64 r1,.int .u64 r2]) rfl (by go_simp) ⟨h0,h1,h2,h3,h4,h5,h6,fun _=>rfl,hK,hA,hB,i31,i83,fun _=>hd {on:=5,ground:=.data} (by simp) (by kernel_rfl),fun _=>rfl⟩
       ·replace ho:=Option.some.inj ho
        subst ho
        have k3:=h3 (hd {on:=3,ground:=.data} (by simp) (by kernel_rfl))
        rw[k3]at e60
        rw[hi]at hA
        have hA':SumB W s N D:=hA
        obtain⟨x0,x1,x2,x3,xf⟩:=hA'.cells PN.out PD.out
        have y0:=xf 0
        have y1:=xf 1
        have y2:=xf 2
        have y3:=xf 3
        have hlt:=hA'.lt
        have K:=zIS W s (.int .i64 d1) (.int .u64 d2) (.int .i64 q1) (.int .u64 q2)
        clear xf
        refine zAU.skip (w':=(((W.setCell ⟨s,0,none⟩ (.int .i64 d1)).setCell ⟨s,1,none⟩ (.int .u64 d2)).setCell ⟨s,2,none⟩ (.int .i64 q1)).setCell ⟨s,3,none⟩ (.int .u64 q2)) rfl (by go_simp) ⟨h0,h1,h2,h3,h4,h5,h6,h7,hK.trans (K.mono fun k h=>h.1),hA'.set PD.out PQ.out,hB.keep (K.block _ hB.lt (by show s+1≠s;omega)),i31,fun _=>hd {on:=3,ground:=.data} (by simp) (by kernel_rfl),i75,i97⟩
       ·replace ho:=Option.some.inj ho
        subst ho
        have k7:=h7 (hd {on:=7,ground:=.data} (by simp) (by kernel_rfl))
        rw[k7]at e64
        rw[hi]at hB
        have hB':SumB W (s+1) M E:=hB
        obtain⟨x0,x1,x2,x3,xf⟩:=hB'.cells PM.out PE.out
        have y0:=xf 0
        have y1:=xf 1
        have y2:=xf 2
        have y3:=xf 3
        have hlt:=hB'.lt
        have K:=zIS W (s+1) (.int .i64 e1) (.int .u64 e2) (.int .i64 r1) (.int .u64 r2)
        clear xf
        refine zAU.skip (w':=(((W.setCell ⟨s+1,0,none⟩ (.int .i64 e1)).setCell ⟨s+1,1,none⟩ (.int .u64 e2)).setCell ⟨s+1,2,none⟩ (.int .i64 r1)).setCell ⟨s+1,3,none⟩ (.int .u64 r2)) rfl (by go_simp) ⟨h0,h1,h2,h3,h4,h5,h6,h7,hK.trans (K.mono fun k h=>h.2),hA.keep (K.block _ hA.lt (by show s≠s+1;omega)),hB'.set PE.out PR.out,i31,i83,i75,fun _=>hd {on:=7,ground:=.data} (by simp) (by kernel_rfl)⟩
       ·exact absurd ho (by simp)
      ·rintro l f W hall ⟨h0,h1,h2,h3,h4,h5,h6,h7,hK,hA,hB,i31,i83,i75,i97⟩
       rw[hall 8 (by decide)]at hA
       rw[hall 9 (by decide)]at hB
       have HA9:=hid (show SumB W s D (N%D)from hA)
       have HB9:=hid (show SumB W (s+1) E (M%E)from hB)
       have HK9:=hid hK
       clear h0 h1 h2 h3 h4 h5 h6 h7 hK hA hB i31 i83 i75 i97 hall
       rw[HA0.out]
       simp only[zDE,List.foldl_cons,List.foldl_nil,Act.put,List.setIfInBounds_toArray,List.set_cons_succ,List.set_cons_zero]
       generalize f 57=z57,f 58=z58,f 59=z59,f 60=z60,f 61=z61,f 62=z62,f 63=z63,f 64=z64
       clear hsz v2 v3 v6 v8 HA0
       go_wp2
       have he:=HEQ.out.step HDE.out.1 HDE.out.2 HQQ.out
       have hbs:(D<170141183460469231731687303715884105728∧E<170141183460469231731687303715884105728∧N%D<85070591730234615865843651857942052864∧M%E<85070591730234615865843651857942052864):=by
        have h1:=HBB.out
        have h2:=Int.emod_lt_of_pos N HDE.out.1
        have h3:=Int.emod_lt_of_pos M HDE.out.2
        omega
       have hfin:Below w.heap.size w wd:=zAA HBW.out HBS0.out
       refine⟨⟨D,N%D,E,M%E,HA9.out,HB9.out,he,hbs,HK9.out.below hfin hfin.size fun k hk=>by have:=HSV.out;omega⟩,?_⟩
       rw[denOf_eq HA9.out,denOf_eq HAR.out]
       have:=Int.emod_lt_of_pos N HDE.out.1
       have:=Int.emod_nonneg N (show D≠0 by have:=HDE.out.1;omega)
       omega
      ·intro l f hl
       refine⟨?_,?_,?_,?_,?_,?_,?_,?_,Keep.refl _ _,(by rw[hl 8 (by decide)];exact HAD.out),(by rw[hl 9 (by decide)];exact HBD2.out),(fun h=>by rw[hl _ (by decide)]at h;cases h),(fun h=>by rw[hl _ (by decide)]at h;cases h),(fun h=>by rw[hl _ (by decide)]at h;cases h),(fun h=>by rw[hl _ (by decide)]at h;cases h)⟩
       ·intro h;rw[hl _ (by decide)]at h;cases h
       ·intro h;rw[hl _ (by decide)]at h;cases h
       ·intro h;rw[hl _ (by decide)]at h;cases h
       ·intro h;rw[hl _ (by decide)]at h;cases h
       ·intro h;rw[hl _ (by decide)]at h;cases h
       ·intro h;rw[hl _ (by decide)]at h;cases h
       ·intro h;rw[hl _ (by decide)]at h;cases h
       ·intro h;rw[hl _ (by decide)]at h;cases h
     ·have HNO:=hid (show decide (n*e=m*d)=false by
       rw[decide_eq_false_iff_not,<- HAB.out]
       exact HEQ.out.part HDE.out.1 HDE.out.2 hQ)
      have hne:¬(f1=g1∧f2=g2):=fun⟨h1,h2⟩=>hQ (by
       have a1:f1=N/D/18446744073709551616:=PF.out.1
       have a2:f2=N/D%18446744073709551616:=PF.out.2
       have a3:g1=M/E/18446744073709551616:=PG.out.1
       have a4:g2=M/E%18446744073709551616:=PG.out.2
       omega)
      have HFF:=hid (zAA HBW.out HB8.out)
      clear hQ
      go_wp2
      all_goals
       go_ret
       exact⟨by rw[HNO.out];rfl,HFF.out⟩
 ·intro l f hl
  refine⟨?_,?_,?_,?_,?_,?_,?_,Below.refl _ _⟩
  ·intro h;rw[hl _ (by decide)]at h;cases h
  ·intro h;rw[hl _ (by decide)]at h;cases h
  ·intro h;rw[hl _ (by decide)]at h;cases h
  ·intro h;rw[hl _ (by decide)]at h;cases h
  ·intro h;rw[hl _ (by decide)]at h;cases h
  ·intro h;rw[hl _ (by decide)]at h;cases h
  ·intro h;rw[hl _ (by decide)]at h;cases h
end
end Go.Proofs.YtlffndehhhpgjaaGreat
