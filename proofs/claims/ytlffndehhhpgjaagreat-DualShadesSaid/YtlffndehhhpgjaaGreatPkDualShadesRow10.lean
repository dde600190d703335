/- Walks and plain laws for DualShadesRow, part 10. -/
import Derived.Laws.CopyOwn
import Derived.Test.YtlffndehhhpgjaaGreatPkDualShadesRow9
namespace Go.Proofs.YtlffndehhhpgjaaGreat
set_option linter.unusedVariables false
set_option linter.unusedSimpArgs false
set_option maxRecDepth 100000
set_option maxHeartbeats 4000000
section
open Go.RowKit
theorem sratio_c(w:World)(n d:Int)(hn: -170141183460469231731687303715884105728<n∧n<170141183460469231731687303715884105728)(hd:0<d∧d<166153499473114484112975882535043072):
 Calls Tryz.prog 83 #[sumV n d] w fun e w'=>RatioR n d e∧Below w.heap.size w w':=by
 obtain⟨N,hN⟩:∃N:Int,N=(n.natAbs:Int):=⟨_,rfl⟩
 obtain⟨n1,n2,pn⟩:=WP.ex n
 obtain⟨d1,d2,pd⟩:=WP.ex d
 obtain⟨m1,m2,pm⟩:=WP.ex N
 obtain⟨q1,q2,pq⟩:=WP.ex (N/d)
 obtain⟨r1,r2,pr⟩:=WP.ex (N%d)
 have HSG:=hid (show ∀X:World,Calls Tryz.prog 148 #[.agg #[.int .i64 n1,.int .u64 n2]] X fun e w'=>e=.returned (.int .i64 (cmpI n 0))∧Below X.heap.size X w' from fun X=>by
  have:=zHP X n hn
  rw[pn.val]at this;exact this)
 have HOP:=hid (show n<0->∀X:World,Calls Tryz.prog 149 #[.agg #[.int .i64 n1,.int .u64 n2]] X fun e w'=>e=.returned (.agg #[.int .i64 m1,.int .u64 m2])∧Below X.heap.size X w' from fun h X=>by
  have:=zJI X n hn
  rw[pn.val,show-n=N by omega,pm.val]at this;exact this)
 have HOV:=hid (show ∀X:World,Calls Tryz.prog 150 #[.agg #[.int .i64 m1,.int .u64 m2],.agg #[.int .i64 d1,.int .u64 d2]] X fun e w'=>e=.returned (.tuple #[.agg #[.int .i64 q1,.int .u64 q2],.agg #[.int .i64 r1,.int .u64 r2]])∧Below X.heap.size X w' from fun X=>by
  have:=zLW X N d (by omega) (by omega)
  rw[pm.val,pd.val,pq.val,pr.val]at this;exact this)
 have hmn:¬n<0->m1=n1∧m2=n2:=fun h=>by
  have e:N=n:=by omega
  rw[pm.1,pm.2,pn.1,pn.2,e];exact⟨rfl,rfl⟩
 rw[pn.sum pd]
 obtain⟨s,hs⟩:=exq (w.heap.size)
 obtain⟨wz,hwz⟩:=exq (((w.alloc (.cells #[.int .i64 n1,.int .u64 n2,.int .i64 d1,.int .u64 d2] 102)).alloc (.cells #[.int .i64 0,.int .i64 0] 29)).alloc (.cells #[.int .i64 n1,.int .u64 n2] 100))
 have hsz:wz.heap.size=s+3:=by rw[hwz,hs];simp
 have SZ:SumB wz s n d:=by
  rw[hwz,hs]
  exact((SumB.made w pn pd).keep (Below.heap_alloc _ _ _ (by simp))).keep (Below.heap_alloc _ _ _ (by simp;omega))
 have RZ:wz.heap[s+1]? =some (.cells #[.int .i64 0,.int .i64 0] 29 (0,0)):=by
  have h:=World.alloc_heap_new (w.alloc (.cells #[.int .i64 n1,.int .u64 n2,.int .i64 d1,.int .u64 d2] 102)) (.cells #[.int .i64 0,.int .i64 0] 29)
  rw[World.size_alloc]at h
  rw[hwz,hs,Below.heap_alloc _ _ _ (by simp)]
  exact h
 have NZ:zBF wz (s+2) n:=by
  have h:=zBF.made ((w.alloc (.cells #[.int .i64 n1,.int .u64 n2,.int .i64 d1,.int .u64 d2] 102)).alloc (.cells #[.int .i64 0,.int .i64 0] 29)) pn
  rw[World.size_alloc,World.size_alloc]at h
  rw[hwz,hs]
  exact h
 have BZ:Below w.heap.size w wz:=by rw[hwz];exact(((Below.refl _ _).alloc (Nat.le_refl _) _).alloc (by simp) _).alloc (by simp;omega) _
 have HSZ:=hid hsz
 have HS:=hid SZ
 have HR:=hid RZ
 have HN0:=hid NZ
 have HB:=hid BZ
 have PN:=hid pn
 have PD:=hid pd
 have PM:=hid pm
 have PQ:=hid pq
 have PR:=hid pr
 have HNE:=hid hN
 have HSV:=hid hs
 have HND:=hid (And.intro hn hd)
 have hsg:(n<0∧cmpI n 0<0)∨(¬n<0∧¬cmpI n 0<0∧m1=n1∧m2=n2):=by
  by_cases h:n<0
  ·exact .inl ⟨h,by unfold cmpI;rw[if_pos h];decide⟩
  ·exact .inr ⟨h,by unfold cmpI;rw[if_neg h];split<;>decide,hmn h⟩
 have HSG2:=hid hsg
 clear hsg hsz SZ RZ NZ BZ pn pd pm pq pr hN hn hd hmn
 go_enter Tryz.func83,Tryz.ntmps83
 go_upto_region 2 with fail
 rw[<- hs,<- hwz]
 clear hs hwz
 obtain⟨v0,v1,v2,v3,v4⟩:=HN0.out.cells PN.out
 go_upto_if 15 with (go_at_call 148;refine(HSG.out _).mono ?_;rintro e w1 ⟨rfl,hb1⟩;refine Stop.of ?_)
 refine Stop.go ?_
 have HB1:=hid hb1
 clear hb1 v0 v1 v2 v3 v4
 go_upto_if 15 with fail
 go_cut [3]from 13 to 17 (fun v wx=>v=.bool false∧SumB wx s n d∧wx.heap[s+1]? =some (.cells #[.int .i64 0,.int .i64 0] 29 (0,0))∧zBF wx (s+2) N∧Below w.heap.size w wx)
 case first=>
  have hN2:=HN0.out.keep (HB1.out.block _ HN0.out.lt)
  have hS2:=HS.out.keep (HB1.out.block _ HS.out.lt)
  have hR2:=(HB1.out.block (s+1) (by have:=HSZ.out;omega)).trans HR.out
  rcases HSG2.out with⟨h1,h2⟩|⟨h1,h2,h3,h4⟩
  ·have HO:=hid (HOP.out h1)
   have HN2:=hid hN2
   have HS2:=hid hS2
   have HR2:=hid hR2
   obtain⟨v0,v1,v2,v3,v4⟩:=hN2.cells PN.out
   clear hN2 hS2 hR2
   go_wp2_with (go_at_call 149;refine(HO.out _).mono ?_;rintro e w2 ⟨rfl,hb2⟩;refine Stop.of ?_)
   refine Stop.go ?_
   have hN3:=HN2.out.keep (hb2.block _ HN2.out.lt)
   have hS3:=HS2.out.keep (hb2.block _ HS2.out.lt)
   have hR3:=(hb2.block (s+1) (by have:=HSZ.out;have:=HB1.out.size;omega)).trans HR2.out
   have HN3:=hid hN3
   have K:=zBH w2 (s+2) (.int .i64 m1) (.int .u64 m2)
   have X1:=hid (zBF.set hN3 PM.out)
   have X2:=hid (hS3.keep (K.block s hS3.lt (by show s≠s+2;omega)))
   have X3:=hid ((K.block (s+1) (by have:=hN3.lt;omega) (by show s+1≠s+2;omega)).trans hR3)
   have X4:=hid (K.below (zAA HB.out (zAA HB1.out hb2)) (by have:=hN3.lt;have:=HSV.out;omega) (fun k hk=>by have:=HSV.out;show k≠s+2;omega))
   clear v0 v1 v2 v3 v4
   obtain⟨v0,v1,v2,v3,v4⟩:=HN3.out.cells PN.out
   clear hN3 hS3 hR3 hb2 K
   go_wp2
   go_meet
   case rel=>exact⟨rfl,X2.out,X3.out,X1.out,X4.out⟩
  ·have hNn:N=n:=by have:=HNE.out;omega
   have HX:=hid (And.intro hS2 (And.intro hR2 (And.intro hN2 (zAA HB.out HB1.out))))
   rw[<- hNn]at HX
   have HNN:=hid hNn
   clear hN2 hS2 hR2 hNn h3 h4
   go_wp2
   go_meet
   case rel=>exact⟨rfl,by rw[<- HNN.out];exact HX.out.1,HX.out.2.1,HX.out.2.2.1,HX.out.2.2.2⟩
 case rest=>
  obtain⟨rfl,hS,hR,hN,hBc⟩:=hcut
  obtain⟨v0,v1,v2,v3,v4⟩:=hN.cells PM.out
  obtain⟨c0,c1,c2,c3⟩:=hS.cells PN.out PD.out
  have HS1:=hid hS
  have HR1:=hid hR
  have HN1:=hid hN
  have HBC:=hid hBc
  clear hS hR hN hBc HOP HB1 HN0 HS HR HB HSZ
  go_wp2_with (go_at_call 150;refine(HOV.out _).mono ?_;rintro e w2 ⟨rfl,hb2⟩;refine Stop.of ?_)
  refine Stop.go ?_
  obtain⟨u,hu⟩:=exq (w2.heap.size)
  obtain⟨w3,hw3⟩:=exq ((w2.alloc (.cells #[.int .i64 q1,.int .u64 q2] 100)).alloc (.cells #[.int .i64 r1,.int .u64 r2] 100))
  have hb3:Below wc.heap.size wc w3:=by rw[hw3];exact(hb2.alloc hb2.size _).alloc (by have:=hb2.size;simp;omega) _
  have hs3:w3.heap.size=u+2:=by rw[hw3,hu];simp
  have Q3:zBF w3 u (N/d):=by rw[hw3,hu];exact(zBF.made w2 PQ.out).keep (Below.heap_alloc _ _ _ (by simp))
  have R3:zBF w3 (u+1) (N%d):=by
   have h:=zBF.made (w2.alloc (.cells #[.int .i64 q1,.int .u64 q2] 100)) PR.out
   rw[World.size_alloc]at h
   rw[hw3,hu];exact h
  have S3:=hid (HS1.out.keep (hb3.block _ HS1.out.lt))
  have T3:=hid ((hb3.block (s+1) (by have:=HN1.out.lt;omega)).trans HR1.out)
  have B3:=hid (zAA HBC.out hb3)
  have hsu:s+2<u:=by have:=HN1.out.lt;have:=hb2.size;omega
  have HQ3:=hid Q3
  have HR3:=hid R3
  have HS3:=hid hs3
  have HSU:=hid hsu
  clear hb3 hs3 Q3 R3 hsu v0 v1 v2 v3 v4 c0 c1 c2 c3 hb2 HOV
  go_upto_region 5 with fail
  rw[<- hu,<- hw3]
  clear hu hw3
  obtain⟨g,a,b,hab,hg,hb,hNa,hdb,hcop⟩:=zKB (n:=N) HND.out.2.1
  have hN0:0<=N:=by have:=HNE.out;omega
  have hq0:0<=N/d:=Int.ediv_nonneg hN0 (by have:=HND.out.2.1;omega)
  have hqw:q1=N/d/18446744073709551616∧q2=N/d%18446744073709551616:=PQ.out
  have hqN:N/d<=N:=Int.ediv_le_self _ hN0
  -- the answer by the one without its sign
  have hval:zAL (zAZ n d)=zAL (a,b)∧zAZ n d=(if n<0 then-a else a,b):=by
   have hd0:=HND.out.2.1
   by_cases h:n<0
   ·have e:n= -N:=by have:=HNE.out;omega
    rw[e,low_neg hd0,hab,if_pos (by have:=HNE.out;omega)]
    exact⟨zKZ,rfl⟩
   ·have e:n=N:=by have:=HNE.out;omega
    rw[e,hab,if_neg (by omega)]
    exact⟨rfl,rfl⟩
  have HVAL:=hid hval
  have HLOW:=hid (And.intro hab (And.intro hg (And.intro hb (And.intro hNa (And.intro hdb hcop)))))
  obtain⟨c0,c1,c2,c3,c4⟩:=HQ3.out.cells PQ.out
  have T4:RatI w3 (s+1) (0,0):=T3.out
  have HT4:=hid T4
  by_cases hbig:10000000000<N/d
  ·have hno:zAL (a,b)=false:=by rw[<- hab];exact low_big hN0 HND.out.2.1 hbig
   have hcase:(q1 !=0)=true∨(q1=0∧10000000000<q2):=by
    by_cases h:q1=0
    ·right;exact⟨h,by omega⟩
    ·left;simpa using h
   have HNO:=hid (hval.1.trans hno)
   have HCS:=hid hcase
   clear hcase hno hval hab hg hb hNa hdb hcop hN0 hq0 hqw hqN hbig
   obtain⟨t0,t1,t2,t3,t4⟩:=T4.cells
   clear T4
   have K:=zBH w3 (s+1) (.int .i64 0) (.int .i64 0)
   have X1:=hid (RatI.set (p:=(0,0)) HT4.out)
   have X2:=hid (K.below B3.out (by have:=HSU.out;have:=HS3.out;have:=HSV.out;omega) (fun k hk=>by have:=HSV.out;show k≠s+1;omega))
   clear K
   rcases HCS.out with h|⟨h1,h2⟩
   all_goals
    first|subst h1|skip
    go_wp2
    clear t0 t1 t2 t3 t4
    generalize (w3.setCell ⟨s+1,0,none⟩ (.int .i64 0)).setCell ⟨s+1,1,none⟩ (.int .i64 0)=WF at X1 X2⊢
    obtain⟨t0,t1,t2,t3,t4⟩:=X1.out.cells
    refine bodyPost_ret (v:=.tuple #[.agg #[.int .i64 0,.int .i64 0],.bool false]) ?_ rfl ⟨⟨(0,0),by rw[HNO.out];rfl,fun h=>by rw[HNO.out]at h;cases h⟩,X2.out⟩
    simp[results,Tryz.results83,go_sem,t0,t1,t2,t3,t4]
  ·have hq1:q1=0:=by omega
   have hq2:q2=N/d:=by omega
   subst hq1
   have hq10:¬10000000000<q2:=by omega
   have hq2':0<=q2∧q2<=10000000000:=by omega
   have HQ2:=hid hq2
   have hd0:=HND.out.2.1
   have hrd:0<=N%d∧N%d<d:=⟨Int.emod_nonneg _ (by omega),Int.emod_lt_of_pos _ hd0⟩
   have HRD:=hid hrd
   have HB0:=hid hb
   have HSX:=hid (show ∀X:World,Below w3.heap.size w3 X->X.cell? ⟨u+1,0,none⟩=some (.int .i64 r1)∧X.cell? ⟨u+1,1,none⟩=some (.int .u64 r2)∧X.cell? ⟨s,2,none⟩=some (.int .i64 d1)∧X.cell? ⟨s,3,none⟩=some (.int .u64 d2)from fun X hX=>by
    obtain⟨a0,a1,_⟩:=(HR3.out.keep (hX.block _ HR3.out.lt)).cells PR.out
    obtain⟨b0,b1,b2,b3,_⟩:=(S3.out.keep (hX.block _ S3.out.lt)).cells PN.out PD.out
    exact⟨a0,a1,b2,b3⟩)
   clear hval hab hg hb hNa hdb hcop hN0 hq0 hqw hqN hbig T4 hq2 hd0 hrd
   go_wp2
   clear c0 c1 c2 c3 c4
   go_loopw [7] (fun v wr=>∃k:Nat,k<=400∧v=.int .i64 ((k:Int)+1)∧(∀j:Int,1<=j->j<=k->¬b∣j)∧Below w3.heap.size w3 wr) (fun v _=>401-(intOf v).toNat)
   case atStart=>exact⟨0,by omega,rfl,fun j h1 h2=>by omega,Below.refl _ _⟩
   case round=>
    obtain⟨k,hk,rfl,hnd,hbk⟩:=hrel
    by_cases hlt:k<400
    ·have HNDV:=hid hnd
     have HBK:=hid hbk
     have hRD:=HRD.out
     have hNDd:=HND.out.2
     obtain⟨x1,x2,px⟩:=WP.ex (N%d*((k:Int)+1))
     obtain⟨Y,hYe⟩:=exq (N%d*((k:Int)+1)/d)
     obtain⟨Z,hZe⟩:=exq (N%d*((k:Int)+1)%d)
     obtain⟨y1,y2,py⟩:=WP.ex Y
     obtain⟨z1,z2,pz⟩:=WP.ex Z
     have hxb:0<=N%d*((k:Int)+1)∧N%d*((k:Int)+1)<=d*400:=by
      refine⟨Int.mul_nonneg (by omega) (by omega),?_⟩
      exact Int.mul_le_mul (by omega) (by omega) (by omega) (by omega)
     have HTI:=hid (show ∀X:World,Calls Tryz.prog 151 #[.agg #[.int .i64 r1,.int .u64 r2],.int .i64 ((k:Int)+1)] X fun e w'=>e=.returned (.agg #[.int .i64 x1,.int .u64 x2])∧Below X.heap.size X w' from fun X=>by
      have:=zGO X (N%d) ((k:Int)+1) (by omega) (by omega) (by
       have e:(((N%d).natAbs*((k:Int)+1).natAbs:Nat):Int)=N%d*((k:Int)+1):=by rw[Int.natCast_mul];congr 1<;>omega
       omega)
      rw[PR.out.val,px.val]at this;exact this)
     have HOV:=hid (show ∀X:World,Calls Tryz.prog 150 #[.agg #[.int .i64 x1,.int .u64 x2],.agg #[.int .i64 d1,.int .u64 d2]] X fun e w'=>e=.returned (.tuple #[.agg #[.int .i64 y1,.int .u64 y2],.agg #[.int .i64 z1,.int .u64 z2]])∧Below X.heap.size X w' from fun X=>by
      have:=zLW X (N%d*((k:Int)+1)) d (by omega) (by omega)
      rw[px.val,PD.out.val,<- hYe,<- hZe,py.val,pz.val]at this;exact this)
     have HYE:=hid hYe
     have HZE:=hid hZe
     have PX:=hid px
     have PY:=hid py
     have PZ:=hid pz
     clear hnd hbk hRD hNDd hxb px py pz hYe hZe
     go_wp2
     refine zAK (fun _ _=>True) (by kernel_rfl) ?_
     obtain⟨wd,hwd⟩:=exq (wr.drew)
     have hbd:Below wr.heap.size wr wd:=by rw[hwd];exact(Below.refl _ _).drew
     rw[<- hwd]
     have HBD:=hid (zAA HBK.out hbd)
     have HWD:=hid hwd
     clear hbd hwd
     refine zDP fun a0 ha0=>?_
     have hsz:a0.tmps.size=73:=by rw[ha0];rfl
     have v6:a0.eval (.tmp 6)=.pointer (some ⟨u+1,0,none⟩):=by rw[ha0];rfl
     have v7:a0.eval (.tmp 7)=.int .i64 ((k:Int)+1):=by rw[ha0];rfl
     have v1:a0.eval (.tmp 1)=.pointer (some ⟨s,0,none⟩):=by rw[ha0];rfl
     have HA0:=hid ha0
     clear ha0
     refine AnyT.regF [8,9,38,39,40,41,42,43,44,45,46] (fun l f w=>Below wd.heap.size wd w∧(l 0=true->f 39=.agg #[.int .i64 r1,.int .u64 r2])∧(l 1=true->f 40=.int .i64 ((k:Int)+1))∧(l 2=true->f 41=.agg #[.int .i64 x1,.int .u64 x2])∧(l 3=true->f 42=.pointer (some ⟨s,2,none⟩))∧(l 4=true->f 43=.agg #[.int .i64 d1,.int .u64 d2])∧(l 5=true->f 44=.tuple #[.agg #[.int .i64 y1,.int .u64 y2],.agg #[.int .i64 z1,.int .u64 z2]])∧(l 6=true->f 38=.tuple #[.agg #[.int .i64 y1,.int .u64 y2],.agg #[.int .i64 z1,.int .u64 z2]])∧(l 7=true->f 45=.agg #[.int .i64 y1,.int .u64 y2])∧(l 8=true->f 46=.agg #[.int .i64 z1,.int .u64 z2])∧(l 9=true->∃g,f 8=.pointer (some ⟨g,0,none⟩)∧wd.heap.size<=g∧(l 11=false->zBF w g 0)∧(l 11=true->zBF w g Y))∧(l 10=true->∃g,f 9=.pointer (some ⟨g,0,none⟩)∧wd.heap.size<=g∧(l 12=false->zBF w g 0)∧(l 12=true->zBF w g Z))∧(l 9=true->l 10=true->f 8≠f 9)∧(l 11=true->l 9=true)∧(l 12=true->l 10=true)) (by kernel_rfl) (by kernel_rfl) ?_ ?_ ?_
     ·have eg1:∀args w,(callFunc 151 args).run Tryz.prog w=.ok (.enter 151 args) w:=enters_of Tryz.func151 (by kernel_rfl) rfl
      have eg2:∀args w,(callFunc 150 args).run Tryz.prog w=.ok (.enter 150 args) w:=enters_of Tryz.func150 (by kernel_rfl) rfl
      rintro l f w i o ho hi hd ⟨hb,h0,h1,h2,h3,h4,h5,h6,h7,h8,h9,h10,hne,hq11,hq12⟩
      have e39:zAC a0 [8,9,38,39,40,41,42,43,44,45,46] f (.tmp 39)=f 39:=by simp[zAC,hsz]
      have e40:zAC a0 [8,9,38,39,40,41,42,43,44,45,46] f (.tmp 40)=f 40:=by simp[zAC,hsz]
      have e41:zAC a0 [8,9,38,39,40,41,42,43,44,45,46] f (.tmp 41)=f 41:=by simp[zAC,hsz]
      have e42:zAC a0 [8,9,38,39,40,41,42,43,44,45,46] f (.tmp 42)=f 42:=by simp[zAC,hsz]
      have e43:zAC a0 [8,9,38,39,40,41,42,43,44,45,46] f (.tmp 43)=f 43:=by simp[zAC,hsz]
      have e44:zAC a0 [8,9,38,39,40,41,42,43,44,45,46] f (.tmp 44)=f 44:=by simp[zAC,hsz]
      have e38:zAC a0 [8,9,38,39,40,41,42,43,44,45,46] f (.tmp 38)=f 38:=by simp[zAC,hsz]
      have e45:zAC a0 [8,9,38,39,40,41,42,43,44,45,46] f (.tmp 45)=f 45:=by simp[zAC,hsz]
      have e46:zAC a0 [8,9,38,39,40,41,42,43,44,45,46] f (.tmp 46)=f 46:=by simp[zAC,hsz]
      have e8:zAC a0 [8,9,38,39,40,41,42,43,44,45,46] f (.tmp 8)=f 8:=by simp[zAC,hsz]
      have e9:zAC a0 [8,9,38,39,40,41,42,43,44,45,46] f (.tmp 9)=f 9:=by simp[zAC,hsz]
      have eF1:zAC a0 [8,9,38,39,40,41,42,43,44,45,46] f (.func 151)=.func (.func 151) #[] #[]:=rfl
      have eF2:zAC a0 [8,9,38,39,40,41,42,43,44,45,46] f (.func 150)=.func (.func 150) #[] #[]:=rfl
      have w6:zAC a0 [8,9,38,39,40,41,42,43,44,45,46] f (.tmp 6)=.pointer (some ⟨u+1,0,none⟩):=by simp[zAC,v6]
      have w7:zAC a0 [8,9,38,39,40,41,42,43,44,45,46] f (.tmp 7)=.int .i64 ((k:Int)+1):=by simp[zAC,v7]
      have w1':zAC a0 [8,9,38,39,40,41,42,43,44,45,46] f (.tmp 1)=.pointer (some ⟨s,0,none⟩):=by simp[zAC,v1]
      obtain⟨o1,o2,o3,o4⟩:=HSX.out _ (zAA HBD.out hb)
      rcases i with _|_|_|_|_|_|_|_|_|_|_|_|_|i
      ·replace ho:=Option.some.inj ho
       subst ho
       refine zAP.val (w':=w) (v:=.agg #[.int .i64 r1,.int .u64 r2]) rfl (by go_simp) ⟨hb,fun _=>rfl,h1,h2,h3,h4,h5,h6,h7,h8,h9,h10,hne,hq11,hq12⟩
      ·replace ho:=Option.some.inj ho
       subst ho
       refine zAP.val (w':=w) (v:=.int .i64 ((k:Int)+1)) rfl (by go_simp) ⟨hb,h0,fun _=>rfl,h2,h3,h4,h5,h6,h7,h8,h9,h10,hne,hq11,hq12⟩
      ·replace ho:=Option.some.inj ho
       subst ho
       have k0:=h0 (hd {on:=0,ground:=.data} (by simp) (by kernel_rfl))
       rw[k0]at e39
       have k1:=h1 (hd {on:=1,ground:=.data} (by simp) (by kernel_rfl))
       rw[k1]at e40
       refine zAP.call (g:=151) (args:=#[.agg #[.int .i64 r1,.int .u64 r2],.int .i64 ((k:Int)+1)]) (w':=w) rfl (by simp[execOp,resolve,invoke,go_sem,e39,e40,eF1,eg1]) ((HTI.out w).mono ?_)
       rintro e w4 ⟨rfl,hb4⟩
       exact⟨_,rfl,zAA hb hb4,h0,h1,fun _=>rfl,h3,h4,h5,h6,h7,h8,fun h=>by obtain⟨g,g1,g2,g3,g4⟩:=h9 h;exact⟨g,g1,g2,fun h=>(g3 h).keep (hb4.block _ (g3 h).lt),fun h=>(g4 h).keep (hb4.block _ (g4 h).lt)⟩,fun h=>by obtain⟨g,g1,g2,g3,g4⟩:=h10 h;exact⟨g,g1,g2,fun h=>(g3 h).keep (hb4.block _ (g3 h).lt),fun h=>(g4 h).keep (hb4.block _ (g4 h).lt)⟩,hne,hq11,hq12⟩
      ·replace ho:=Option.some.inj ho
       subst ho
       refine zAP.val (w':=w) (v:=.pointer (some ⟨s,2,none⟩)) rfl (by go_simp) ⟨hb,h0,h1,h2,fun _=>rfl,h4,h5,h6,h7,h8,h9,h10,hne,hq11,hq12⟩
      ·replace ho:=Option.some.inj ho
       subst ho
       have k3:=h3 (hd {on:=3,ground:=.data} (by simp) (by kernel_rfl))
       rw[k3]at e42
       refine zAP.val (w':=w) (v:=.agg #[.int .i64 d1,.int .u64 d2]) rfl (by go_simp) ⟨hb,h0,h1,h2,h3,fun _=>rfl,h5,h6,h7,h8,h9,h10,hne,hq11,hq12⟩
      ·replace ho:=Option.some.inj ho
       subst ho
       have k2:=h2 (hd {on:=2,ground:=.data} (by simp) (by kernel_rfl))
       rw[k2]at e41
       have k4:=h4 (hd {on:=4,ground:=.data} (by simp) (by kernel_rfl))
       rw[k4]at e43
       refine zAP.call (g:=150) (args:=#[.agg #[.int .i64 x1,.int .u64 x2],.agg #[.int .i64 d1,.int .u64 d2]]) (w':=w) rfl (by simp[execOp,resolve,invoke,go_sem,e41,e43,eF2,eg2]) ((HOV.out w).mono ?_)
       rintro e w4 ⟨rfl,hb4⟩
       exact⟨_,rfl,zAA hb hb4,h0,h1,h2,h3,h4,fun _=>rfl,h6,h7,h8,fun h=>by obtain⟨g,g1,g2,g3,g4⟩:=h9 h;exact⟨g,g1,g2,fun h=>(g3 h).keep (hb4.block _ (g3 h).lt),fun h=>(g4 h).keep (hb4.block _ (g4 h).lt)⟩,fun h=>by obtain⟨g,g1,g2,g3,g4⟩:=h10 h;exact⟨g,g1,g2,fun h=>(g3 h).keep (hb4.block _ (g3 h).lt),fun h=>(g4 h).keep (hb4.block _ (g4 h).lt)⟩,hne,hq11,hq12⟩
      ·replace ho:=Option.some.inj ho
       subst ho
       have k5:=h5 (hd {on:=5,ground:=.data} (by simp) (by kernel_rfl))
       rw[k5]at e44
       refine zAP.val (w':=w) (v:=.tuple #[.agg #[.int .i64 y1,.int .u64 y2],.agg #[.int .i64 z1,.int .u64 z2]]) rfl (by go_simp) ⟨hb,h0,h1,h2,h3,h4,h5,fun _=>rfl,h7,h8,h9,h10,hne,hq11,hq12⟩
      ·replace ho:=Option.some.inj ho
       subst ho
       have k6:=h6 (hd {on:=6,ground:=.data} (by simp) (by kernel_rfl))
       rw[k6]at e38
       refine zAP.val (w':=w) (v:=.agg #[.int .i64 y1,.int .u64 y2]) rfl (by go_simp) ⟨hb,h0,h1,h2,h3,h4,h5,h6,fun _=>rfl,h8,h9,h10,hne,hq11,hq12⟩
      ·replace ho:=Option.some.inj ho
       subst ho
       have k6:=h6 (hd {on:=6,ground:=.data} (by simp) (by kernel_rfl))
       rw[k6]at e38
       refine zAP.val (w':=w) (v:=.agg #[.int .i64 z1,.int .u64 z2]) rfl (by go_simp) ⟨hb,h0,h1,h2,h3,h4,h5,h6,h7,fun _=>rfl,h9,h10,hne,hq11,hq12⟩
      ·replace ho:=Option.some.inj ho
       subst ho
       have hbn:Below wd.heap.size wd (w.alloc (.cells #[.int .i64 0,.int .u64 0] 100)):=hb.alloc hb.size _
       refine zAP.val (w':=w.alloc (.cells #[.int .i64 0,.int .u64 0] 100)) (v:=.pointer (some ⟨w.heap.size,0,none⟩)) rfl (by go_simp) ⟨hbn,h0,h1,h2,h3,h4,h5,h6,h7,h8,?_,?_,?_⟩
       ·intro _;exact⟨w.heap.size,rfl,hb.size,fun _=>zBF.made0 w,fun h=>absurd (hq11 h) (by rw[hi];decide)⟩
       ·intro h;obtain⟨g,g1,g2,g3,g4⟩:=h10 h;exact⟨g,g1,g2,fun h=>(g3 h).keep (Below.heap_alloc _ _ _ (g3 h).lt),fun h=>(g4 h).keep (Below.heap_alloc _ _ _ (g4 h).lt)⟩
       ·refine⟨?_,fun _=>rfl,hq12⟩
        intro _ h e
        obtain⟨g,g1,_,g3,g4⟩:=h10 h
        have hgl:g<w.heap.size:=by
         rcases Bool.eq_false_or_eq_true (l 12)with c|c
         ·exact(g4 c).lt
         ·exact(g3 c).lt
        have e':(Value.pointer (some ⟨w.heap.size,0,none⟩))=f 9:=e
        rw[g1]at e';cases e';omega
      ·replace ho:=Option.some.inj ho
       subst ho
       have hbn:Below wd.heap.size wd (w.alloc (.cells #[.int .i64 0,.int .u64 0] 100)):=hb.alloc hb.size _
       refine zAP.val (w':=w.alloc (.cells #[.int .i64 0,.int .u64 0] 100)) (v:=.pointer (some ⟨w.heap.size,0,none⟩)) rfl (by go_simp) ⟨hbn,h0,h1,h2,h3,h4,h5,h6,h7,h8,?_,?_,?_⟩
       ·intro h;obtain⟨g,g1,g2,g3,g4⟩:=h9 h;exact⟨g,g1,g2,fun h=>(g3 h).keep (Below.heap_alloc _ _ _ (g3 h).lt),fun h=>(g4 h).keep (Below.heap_alloc _ _ _ (g4 h).lt)⟩
       ·intro _;exact⟨w.heap.size,rfl,hb.size,fun _=>zBF.made0 w,fun h=>absurd (hq12 h) (by rw[hi];decide)⟩
       ·refine⟨?_,hq11,fun _=>rfl⟩
        intro h _ e
        obtain⟨g,g1,_,g3,g4⟩:=h9 h
        have hgl:g<w.heap.size:=by
         rcases Bool.eq_false_or_eq_true (l 11)with c|c
         ·exact(g4 c).lt
         ·exact(g3 c).lt
        have e':f 8=(Value.pointer (some ⟨w.heap.size,0,none⟩)):=e
        rw[g1]at e';cases e';omega
      ·replace ho:=Option.some.inj ho
       subst ho
       have l9:l 9=true:=hd {on:=9,ground:=.data} (by simp) (by kernel_rfl)
       have l10:l 10=true:=hd {on:=10,ground:=.phase} (by simp) (by kernel_rfl)
       have k7:=h7 (hd {on:=7,ground:=.data} (by simp) (by kernel_rfl))
       rw[k7]at e45
       obtain⟨g,g1,g2,g3,g4⟩:=h9 l9
       obtain⟨q,q1,q2,q3,q4⟩:=h10 l10
       rw[g1]at e8
       have hnq:q≠g:=by rintro rfl;exact hne l9 l10 (by rw[g1,q1])
       obtain⟨c0,c1,c2,c3,c4⟩:=(g3 hi).cells WP.zero
       have K:=zBH w g (.int .i64 y1) (.int .u64 y2)
       have hbn:=K.below hb hb.size (fun k hk=>by show k≠g;omega)
       refine zAP.skip (w':=(w.setCell ⟨g,0,none⟩ (.int .i64 y1)).setCell ⟨g,1,none⟩ (.int .u64 y2)) rfl (by go_simp) ⟨hbn,h0,h1,h2,h3,h4,h5,h6,h7,h8,?_,?_,?_⟩
       ·intro _;exact⟨g,g1,g2,(fun h=>by cases h),fun _=>(g3 hi).set PY.out⟩
       ·intro _;exact⟨q,q1,q2,fun h=>(q3 h).keep (K.block _ (q3 h).lt hnq),fun h=>(q4 h).keep (K.block _ (q4 h).lt hnq)⟩
       ·exact⟨hne,fun _=>l9,hq12⟩
      ·replace ho:=Option.some.inj ho
       subst ho
       have l9:l 9=true:=hd {on:=9,ground:=.phase} (by simp) (by kernel_rfl)
       have l10:l 10=true:=hd {on:=10,ground:=.data} (by simp) (by kernel_rfl)
       have k8:=h8 (hd {on:=8,ground:=.data} (by simp) (by kernel_rfl))
       rw[k8]at e46
       obtain⟨g,g1,g2,g3,g4⟩:=h10 l10
       obtain⟨q,q1,q2,q3,q4⟩:=h9 l9
       rw[g1]at e9
       have hnq:q≠g:=by rintro rfl;exact hne l9 l10 (by rw[q1,g1])
       obtain⟨c0,c1,c2,c3,c4⟩:=(g3 hi).cells WP.zero
       have K:=zBH w g (.int .i64 z1) (.int .u64 z2)
       have hbn:=K.below hb hb.size (fun k hk=>by show k≠g;omega)
       refine zAP.skip (w':=(w.setCell ⟨g,0,none⟩ (.int .i64 z1)).setCell ⟨g,1,none⟩ (.int .u64 z2)) rfl (by go_simp) ⟨hbn,h0,h1,h2,h3,h4,h5,h6,h7,h8,?_,?_,?_⟩
       ·intro _;exact⟨q,q1,q2,fun h=>(q3 h).keep (K.block _ (q3 h).lt hnq),fun h=>(q4 h).keep (K.block _ (q4 h).lt hnq)⟩
       ·intro _;exact⟨g,g1,g2,(fun h=>by cases h),fun _=>(g3 hi).set PZ.out⟩
       ·exact⟨hne,hq11,fun _=>l10⟩
      ·exact absurd ho (by simp)
     ·rintro l f wv hall ⟨hb,h0,h1,h2,h3,h4,h5,h6,h7,h8,h9,h10,hne,hq11,hq12⟩
      obtain⟨gy,g1,g2,_,g4⟩:=h9 (hall 9 (by decide))
      obtain⟨gr,k1,k2,_,k4⟩:=h10 (hall 10 (by decide))
      have HGY:=hid (g4 (hall 11 (by decide)))
      have HRZ:=hid (k4 (hall 12 (by decide)))
      have HBW:=hid (zAA HBD.out hb)
      clear h0 h1 h2 h3 h4 h5 h6 h7 h8 h9 h10 hne hq11 hq12 hall hb g2 k2 g4 k4
      rw[HA0.out]
      simp only[zCU,List.foldl_cons,List.foldl_nil,Act.put,List.setIfInBounds_toArray,List.set_cons_succ,List.set_cons_zero]
      rw[g1,k1]
      generalize f 38=z38,f 39=z39,f 40=z40,f 41=z41,f 42=z42,f 43=z43,f 44=z44,f 45=z45,f 46=z46
      clear g1 k1 hsz v6 v7 v1 HA0
      obtain⟨hab,hg,hb,hNa,hdb,hcop⟩:=HLOW.out
      have hd0:=HND.out.2.1
      have hdd:=HND.out.2.2
      have hrd:=HRD.out
      have hxb:0<=N%d*((k:Int)+1)∧N%d*((k:Int)+1)<=d*400:=⟨Int.mul_nonneg (by omega) (by omega),Int.mul_le_mul (by omega) (by omega) (by omega) (by omega)⟩
      have hYb:0<=Y∧Y<=400:=by
       rw[HYE.out]
       refine⟨Int.ediv_nonneg hxb.1 (by omega),?_⟩
       exact Int.ediv_le_of_le_mul hd0 (by have h:=hxb.2;rw[Int.mul_comm d]at h;exact h)
      have hZb:0<=Z∧Z<d:=by rw[HZE.out];exact⟨Int.emod_nonneg _ (by omega),Int.emod_lt_of_pos _ hd0⟩
      have HSZ:=hid (show ∀X:World,Calls Tryz.prog 148 #[.agg #[.int .i64 z1,.int .u64 z2]] X fun e w'=>e=.returned (.int .i64 (cmpI Z 0))∧Below X.heap.size X w' from fun X=>by
       have:=zHP X Z (by omega)
       rw[PZ.out.val]at this;exact this)
      have hldv:=low_div hd0 hg hb hNa hdb hcop ((k:Int)+1)
      rw[<- HZE.out]at hldv
      by_cases hZ:Z=0
      ·have hdv:=hldv.1 hZ
       have hbe:b=(k:Int)+1:=by
        have h1:=Int.le_of_dvd (by omega) hdv
        rcases Int.lt_or_le b ((k:Int)+1)with h|h
        ·exact absurd (Int.dvd_refl b) (HNDV.out b (by omega) (by omega))
        ·omega
       have hav:=low_val (n:=N) (by have:=HNE.out;omega) hd0 hg hNa hdb
       rw[hbe,<- HYE.out,<- HQ2.out]at hav
       have ha0:=low_nonneg (n:=N) (d:=d) (b:=b) (by have:=HNE.out;omega) hg hNa
       have hc0:cmpI Z 0=0:=by rw[hZ];rfl
       rw[hc0]at HSZ
       have hmul:0<=q2*((k:Int)+1)∧q2*((k:Int)+1)<=10000000000*400:=⟨Int.mul_nonneg (by omega) (by omega),Int.mul_le_mul (by omega) (by omega) (by omega) (by omega)⟩
       have hy1:y1=0:=by have h:y1=Y/18446744073709551616:=PY.out.1;omega
       have hy2:y2=Y:=by have h:y2=Y%18446744073709551616:=PY.out.2;omega
       subst hy1
       subst hy2
       have HOF:=hid (show ∀X:World,Calls Tryz.prog 152 #[.int .i64 (q2*((k:Int)+1)+y2),.int .i64 ((k:Int)+1)] X fun e w'=>e=.returned (.agg #[.int .i64 a,.int .i64 b])∧Below X.heap.size X w' from fun X=>by
        have h:=of_c X a b (by omega) (by omega) (by omega)
        have e:ofF a b=(a,b):=by
         unfold ofF
         rw[hcop];simp;omega
        rw[e]at h
        rw[hav,<- hbe];exact h)
       have hyb2:0<=y2∧y2<=400:=hYb
       have HAB:=hid (And.intro ha0 (show a<=9000000000000 by omega))
       clear hab hg hb hNa hdb hcop hxb hYb hZb hldv hdv hbe hav ha0 hc0 hZ hd0 hdd hrd
       obtain⟨c0,c1,c2,c3,c4⟩:=HRZ.out.cells PZ.out
       go_wp2_with (go_at_call 148;refine(HSZ.out _).mono ?_;rintro e w5 ⟨rfl,hb5⟩;refine Stop.of ?_)
       refine Stop.go ?_
       have HB5:=hid (zAA HBW.out hb5)
       have hG5:=HGY.out.keep (hb5.block _ HGY.out.lt)
       clear hb5 c0 c1 c2 c3 c4
       obtain⟨c0,c1,c2,c3,c4⟩:=hG5.cells PY.out
       obtain⟨e0,e1,e2,e3,e4⟩:=(HQ3.out.keep (HB5.out.block _ HQ3.out.lt)).cells PQ.out
       clear hG5
       go_wp2_with (go_at_call 152;refine(HOF.out _).mono ?_;rintro e w6 ⟨rfl,hb6⟩;refine Stop.of ?_)
       refine Stop.go ?_
       have HB6:=hid (zAA HB5.out hb6)
       clear hb6 c0 c1 c2 c3 c4 e0 e1 e2 e3 e4
       obtain⟨p,hp⟩:=exq (w6.heap.size)
       obtain⟨w7,hw7⟩:=exq (w6.alloc (.cells #[.int .i64 a,.int .i64 b] 29))
       have P7:RatI w7 p (a,b):=by rw[hw7,hp];exact RatI.made w6 (a,b)
       have HP7:=hid P7
       have HB7:=hid (show Below w3.heap.size w3 w7 by rw[hw7];exact HB6.out.alloc HB6.out.size _)
       have HPS:=hid (show p≠s+1 by have:=HB6.out.size;have:=HSU.out;have:=HS3.out;omega)
       have HPB:=hid (show w3.heap.size<=p by rw[hp];exact HB6.out.size)
       have HW7:=hid hw7
       have HPE:=hid hp
       clear P7 hp hw7
       go_upto_region 13 with fail
       rw[<- HPE.out,<- HW7.out]
       obtain⟨b0,b1,b2,b3,_⟩:=(S3.out.keep (HB7.out.block _ S3.out.lt)).cells PN.out PD.out
       go_wp2_with (go_at_call 148;refine(HSG.out _).mono ?_;rintro e w8 ⟨rfl,hb8⟩;refine Stop.of ?_)
       refine Stop.go ?_
       have HP8:=hid (HP7.out.keep (hb8.block _ HP7.out.lt))
       have HB8:=hid (zAA HB7.out hb8)
       clear hb8 b0 b1 b2 b3
       obtain⟨p0,p1,p2,p3,p4⟩:=HP8.out.cells
       rcases HSG2.out with⟨hneg,hsn⟩|⟨hneg,hsn,_⟩
       ·have HNEG:=hid hneg
        have hA1:=HAB.out.1
        have hA2:=HAB.out.2
        clear hneg
        obtain⟨w9,hw9⟩:=exq (w8.setCell ⟨p,0,none⟩ (.int .i64 (-a)))
        have HP9:=hid (show RatI w9 p (-a,b)by
         have h:=zAW HP8.out 0 (.int .i64 (-a))
         rw[hw9];exact h)
        have HT9:=hid (show RatI w9 (s+1) (0,0)by
         have h1:=HT4.out.keep (HB8.out.block _ HT4.out.lt)
         rw[hw9];exact h1.keep ((Keep.set w8 p 0 _).block _ h1.lt (fun e=>HPS.out e.symm)))
        have HB9:=hid (show Below w.heap.size w w9 by
         rw[hw9]
         exact(Keep.set w8 p 0 _).below (zAA B3.out HB8.out) (by have:=B3.out.size;have:=HB8.out.size;omega) (fun k hk=>by have:=HPB.out;have:=B3.out.size;omega))
        have HW9:=hid hw9
        clear hw9
        go_upto_region 15 with fail
        rw[<- HW9.out]
        clear p0 p1 p2 p3 p4 hsn hA1 hA2
        refine zAK (fun j X=>wAll j=true->X.cell? ⟨p,0,none⟩=some (.int .i64 (-a))∧X.cell? ⟨p,1,none⟩=some (.int .i64 b)) (by kernel_rfl) ?_
        have hbe:Below w9.heap.size w9 w9.drew:=(Below.refl _ _).drew
        generalize w9.drew=we at hbe⊢
        have HTT:=hid (fun(X:World) (hX:Below w9.heap.size w9 X)=>show X.cell? ⟨p,0,none⟩=some (.int .i64 (-a))∧X.cell? ⟨p,1,none⟩=some (.int .i64 b)from by
         obtain⟨c0,c1,_⟩:=(HP9.out.keep (hX.block _ HP9.out.lt)).cells
         exact⟨c0,c1⟩)
        have HBE:=hid hbe
        clear hbe
        refine AnyT.tD (i:=0) (v:=.agg #[.int .i64 (-a),.int .i64 b]) rfl rfl (by rintro w' ⟨q0,q1⟩;go_simp) (HTT.out _ HBE.out) ?_;go_frame
        refine AnyT.tD (i:=1) (v:=.agg #[.int .i64 (-a),.int .i64 b]) rfl rfl (by rintro w' ⟨q0,q1⟩;go_simp) (HTT.out _ HBE.out) ?_;go_frame
        refine AnyT.nx (i:=2) rfl ?_
        go_wp2_with (go_at_call 147;refine(zJE _ (-a) b).mono ?_;rintro e w10 ⟨rfl,hb10⟩;refine Stop.of ?_)
        refine Stop.go ?_
        have HB10:=hid (zAA HBE.out hb10)
        clear hb10
        go_wp2
        refine⟨fun _=>HTT.out _ HB10.out,?_⟩
        have hT10:=HT9.out.keep (HB10.out.block _ HT9.out.lt)
        obtain⟨t0,t1,t2,t3,t4⟩:=hT10.cells
        have K10:=zBH w10 (s+1) (.int .i64 (-a)) (.int .i64 b)
        have X1:=hid (RatI.set (p:=((-a),b)) hT10)
        have X2:=hid (K10.below (zAA HB9.out HB10.out) (by have:=HB9.out.size;have:=HB10.out.size;omega) (fun k hk=>by have:=HSV.out;show k≠s+1;omega))
        have X3:=hid (show RatI _ p ((-a),b)from(HP9.out.keep (HB10.out.block _ HP9.out.lt)).keep (K10.block _ (by have:=HP9.out.lt;have:=HB10.out.size;omega) HPS.out))
        clear hT10 K10
        refine AnyT.nx (i:=3) rfl ?_
        go_wp2
        clear t0 t1 t2 t3 t4
        generalize (w10.setCell ⟨s+1,0,none⟩ (.int .i64 (-a))).setCell ⟨s+1,1,none⟩ (.int .i64 b)=WF at X1 X2 X3⊢
        refine⟨fun _=>by obtain⟨c0,c1,_⟩:=X3.out.cells;exact⟨c0,c1⟩,?_⟩
        refine AnyT.nx (i:=4) rfl ?_
        go_wp2
        refine⟨fun _=>by obtain⟨c0,c1,_⟩:=X3.out.cells;exact⟨c0,c1⟩,?_⟩
        refine AnyT.done (by kernel_rfl) ?_ _
        go_wp2
        obtain⟨t0,t1,t2,t3,t4⟩:=X1.out.cells
        refine bodyPost_ret (v:=.tuple #[.agg #[.int .i64 (-a),.int .i64 b],.bool (zAL ((-a),b))]) ?_ rfl ⟨⟨((-a),b),by rw[HVAL.out.1,zKZ];rfl,fun _=>by rw[HVAL.out.2,if_pos HNEG.out]⟩,X2.out⟩
        simp[results,Tryz.results83,go_sem,t0,t1,t2,t3,t4]
       ·have HNEG:=hid hneg
        clear hneg
        obtain⟨w9,hw9⟩:=exq (w8)
        have HP9:=hid (show RatI w9 p (a,b)by rw[hw9];exact HP8.out)
        have HT9:=hid (show RatI w9 (s+1) (0,0)by rw[hw9];exact HT4.out.keep (HB8.out.block _ HT4.out.lt))
        have HB9:=hid (show Below w.heap.size w w9 by rw[hw9];exact zAA B3.out HB8.out)
        have HW9:=hid hw9
        clear hw9
        go_upto_region 15 with fail
        rw[<- HW9.out]
        clear p0 p1 p2 p3 p4 hsn
        refine zAK (fun j X=>wAll j=true->X.cell? ⟨p,0,none⟩=some (.int .i64 (a))∧X.cell? ⟨p,1,none⟩=some (.int .i64 b)) (by kernel_rfl) ?_
        have hbe:Below w9.heap.size w9 w9.drew:=(Below.refl _ _).drew
        generalize w9.drew=we at hbe⊢
        have HTT:=hid (fun(X:World) (hX:Below w9.heap.size w9 X)=>show X.cell? ⟨p,0,none⟩=some (.int .i64 (a))∧X.cell? ⟨p,1,none⟩=some (.int .i64 b)from by
         obtain⟨c0,c1,_⟩:=(HP9.out.keep (hX.block _ HP9.out.lt)).cells
         exact⟨c0,c1⟩)
        have HBE:=hid hbe
        clear hbe
        refine AnyT.tD (i:=0) (v:=.agg #[.int .i64 (a),.int .i64 b]) rfl rfl (by rintro w' ⟨q0,q1⟩;go_simp) (HTT.out _ HBE.out) ?_;go_frame
        refine AnyT.tD (i:=1) (v:=.agg #[.int .i64 (a),.int .i64 b]) rfl rfl (by rintro w' ⟨q0,q1⟩;go_simp) (HTT.out _ HBE.out) ?_;go_frame
        refine AnyT.nx (i:=2) rfl ?_
        go_wp2_with (go_at_call 147;refine(zJE _ (a) b).mono ?_;rintro e w10 ⟨rfl,hb10⟩;refine Stop.of ?_)
        refine Stop.go ?_
        have HB10:=hid (zAA HBE.out hb10)
        clear hb10
        go_wp2
        refine⟨fun _=>HTT.out _ HB10.out,?_⟩
        have hT10:=HT9.out.keep (HB10.out.block _ HT9.out.lt)
        obtain⟨t0,t1,t2,t3,t4⟩:=hT10.cells
        have K10:=zBH w10 (s+1) (.int .i64 (a)) (.int .i64 b)
        have X1:=hid (RatI.set (p:=((a),b)) hT10)
        have X2:=hid (K10.below (zAA HB9.out HB10.out) (by have:=HB9.out.size;have:=HB10.out.size;omega) (fun k hk=>by have:=HSV.out;show k≠s+1;omega))
        have X3:=hid (show RatI _ p ((a),b)from(HP9.out.keep (HB10.out.block _ HP9.out.lt)).keep (K10.block _ (by have:=HP9.out.lt;have:=HB10.out.size;omega) HPS.out))
        clear hT10 K10
        refine AnyT.nx (i:=3) rfl ?_
        go_wp2
        clear t0 t1 t2 t3 t4
        generalize (w10.setCell ⟨s+1,0,none⟩ (.int .i64 (a))).setCell ⟨s+1,1,none⟩ (.int .i64 b)=WF at X1 X2 X3⊢
        refine⟨fun _=>by obtain⟨c0,c1,_⟩:=X3.out.cells;exact⟨c0,c1⟩,?_⟩
        refine AnyT.nx (i:=4) rfl ?_
        go_wp2
        refine⟨fun _=>by obtain⟨c0,c1,_⟩:=X3.out.cells;exact⟨c0,c1⟩,?_⟩
        refine AnyT.done (by kernel_rfl) ?_ _
        go_wp2
        obtain⟨t0,t1,t2,t3,t4⟩:=X1.out.cells
        refine bodyPost_ret (v:=.tuple #[.agg #[.int .i64 (a),.int .i64 b],.bool (zAL ((a),b))]) ?_ rfl ⟨⟨((a),b),by rw[HVAL.out.1];rfl,fun _=>by rw[HVAL.out.2,if_neg (show ¬n<0 by have:=HNEG.out;omega)]⟩,X2.out⟩
        simp[results,Tryz.results83,go_sem,t0,t1,t2,t3,t4]
      ·have hc0:(cmpI Z 0 !=0)=true:=by unfold cmpI;split<;>(try split)<;>simp<;>omega
       have HND2:=hid (show ∀j:Int,1<=j->j<=((k+1:Nat):Int)->¬b∣j from fun j h1 h2=>by
        rcases Int.lt_or_le (k:Int) j with h|h
        ·have:j=(k:Int)+1:=by omega
         rw[this];exact fun h=>hZ (hldv.2 h)
        ·exact HNDV.out j h1 h)
       obtain⟨C,hC⟩:=exq (cmpI Z 0)
       rw[<- hC]at HSZ hc0
       clear hab hg hb hNa hdb hcop hxb hYb hZb hldv hZ hC hd0 hdd hrd
       obtain⟨c0,c1,c2,c3,c4⟩:=HRZ.out.cells PZ.out
       go_wp2_with (go_at_call 148;refine(HSZ.out _).mono ?_;rintro e w5 ⟨rfl,hb5⟩;refine Stop.of ?_)
       refine Stop.go ?_
       have HB5:=hid (zAA HBW.out hb5)
       clear hb5 c0 c1 c2 c3 c4
       go_wp2
       refine⟨⟨k+1,by omega,by go_num,HND2.out,HB5.out⟩,by simp[intOf];omega⟩
     ·intro l f hl
      refine⟨Below.refl _ _,?_⟩
      refine⟨fun h=>?_,fun h=>?_,fun h=>?_,fun h=>?_,fun h=>?_,fun h=>?_,fun h=>?_,fun h=>?_,fun h=>?_,fun h=>?_,fun h=>?_,fun h=>?_,fun h=>?_,fun h=>?_⟩<;>(rw[hl _ (by decide)]at h;cases h)
    ·have hk4:k=400:=by omega
     subst hk4
     have HNO:=hid (show zAL (zAZ n d)=false by
      rw[HVAL.out.1]
      cases hv:zAL (a,b)with
      |false=>rfl
      |true=>
       have h:=zAY.1 hv
       exact absurd (Int.dvd_refl b) (hnd b (by have:=h.1;simpa using this) (by have:=h.2.1;simpa using this)))
     have HBK:=hid hbk
     have HTB:=hid (HT4.out.keep (hbk.block _ HT4.out.lt))
     obtain⟨t0,t1,t2,t3,t4⟩:=HTB.out.cells
     have K:=zBH wr (s+1) (.int .i64 0) (.int .i64 0)
     have X1:=hid (RatI.set (p:=(0,0)) HTB.out)
     have X2:=hid (K.below (zAA B3.out hbk) (by have:=B3.out.size;have:=hbk.size;omega) (fun k hk=>by have:=HSV.out;show k≠s+1;omega))
     clear K hnd hbk
     go_wp2
     clear t0 t1 t2 t3 t4
     generalize (wr.setCell ⟨s+1,0,none⟩ (.int .i64 0)).setCell ⟨s+1,1,none⟩ (.int .i64 0)=WF at X1 X2⊢
     obtain⟨t0,t1,t2,t3,t4⟩:=X1.out.cells
     refine bodyPost_ret (v:=.tuple #[.agg #[.int .i64 0,.int .i64 0],.bool false]) ?_ rfl ⟨⟨(0,0),by rw[HNO.out];rfl,fun h=>by rw[HNO.out]at h;cases h⟩,X2.out⟩
     simp[results,Tryz.results83,go_sem,t0,t1,t2,t3,t4]
end
section
def pw:Nat->Int
 |0=>1
 |k+1=>1000000000*pw k
theorem pw_pos:∀k,0<pw k
 |0=>by decide
 |k+1=>by have:=pw_pos k;rw[pw];omega
def valN:List Int->Int
 | []=>0
 |d::l=>d+1000000000*valN l
theorem valN_app(l m:List Int):valN (l++m)=valN l+pw l.length*valN m:=by
 induction l with
 |nil=>simp[valN,pw]
 |cons d l ih=>rw[List.cons_append,valN,valN,ih,List.length_cons,pw];grind
theorem valN_snoc(l:List Int)(d:Int):valN (l++[d])=valN l+pw l.length*d:=by
 rw[valN_app,valN,valN];simp
def DigL(l:List Int):Prop:=∀d∈l,0<=d∧d<1000000000
theorem DigL.nil:DigL []:=fun d h=>by cases h
theorem DigL.snoc{l:List Int}{d:Int}(h:DigL l)(h0:0<=d)(h1:d<1000000000):DigL (l++[d]):=fun x hx=>by
 rcases List.mem_append.1 hx with hx|hx
 ·exact h x hx
 ·simp at hx;subst hx;exact⟨h0,h1⟩
theorem DigL.take{l:List Int}(h:DigL l)(k:Nat):DigL (l.take k):=fun x hx=>h x (List.mem_of_mem_take hx)
theorem DigL.bnd:∀{l:List Int},DigL l->0<=valN l∧valN l<pw l.length
 | [],_=>by simp[valN,pw]
 |d::l,h=>by
  have h1:=h d (by simp)
  have h2:=DigL.bnd (l:=l) fun x hx=>h x (by simp[hx])
  rw[valN,List.length_cons,pw]
  omega
def TrimL(l:List Int):Prop:=l.getLast? ≠some 0
theorem TrimL.nil:TrimL []:=by simp[TrimL]
theorem TrimL.low{l:List Int}(hd:DigL l)(ht:TrimL l)(h0:0<l.length):pw (l.length-1)<=valN l:=by
 obtain⟨m,d,rfl⟩:∃m d,l=m++[d]:=⟨l.dropLast,l.getLast (by intro e;subst e;simp at h0),(List.dropLast_concat_getLast _).symm⟩
 have hd0:d≠0:=fun e=>ht (by rw[e];simp)
 have h1:=hd d (by simp)
 have h2:=DigL.bnd (l:=m) fun x hx=>hd x (by simp[hx])
 rw[valN_snoc,List.length_append]
 simp only[List.length_cons,List.length_nil,Nat.zero_add,Nat.add_sub_cancel]
 have h3:=pw_pos m.length
 have:pw m.length*1<=pw m.length*d:=Int.mul_le_mul_of_nonneg_left (by omega) (by omega)
 omega
theorem DigL.set{l:List Int}(h:DigL l){k:Nat}{d:Int}(h0:0<=d)(h1:d<1000000000):DigL (l.set k d):=fun x hx=>by
 rcases List.mem_or_eq_of_mem_set hx with h2|h2
 ·exact h x h2
 ·subst h2;exact⟨h0,h1⟩
end
section
open Go.RowKit
def NatV(w:World)(v:Value)(L:Nat)(N:Int):Prop:=∃a n cap,∃l:List Int,v=.slice a n cap∧l.length=n∧n<=L∧zAE w a l∧DigL l∧TrimL l∧valN l=N
theorem NatV.below{w w':World}{v:Value}{L:Nat}{N:Int}(h:NatV w v L N)(hb:Below w.heap.size w w'):NatV w' v L N:=by
 obtain⟨a,n,cap,l,h1,h2,h3,h4,h5⟩:=h
 exact⟨a,n,cap,l,h1,h2,h3,h4.below hb,h5⟩
def lenOf:Value->Nat
 | .slice _ k _=>k
 |_=>0
end
section
open Go.RowKit
theorem NatV.slice{w:World}{v:Value}{L:Nat}{N:Int}(h:NatV w v L N):∃a n cap,v=.slice a n cap:=by
 obtain⟨a,n,cap,l,h1,_⟩:=h
 exact⟨a,n,cap,h1⟩
def RatQ(w:World)(v:Value)(L:Nat)(s:Bool)(N D:Int):Prop:=∃a n c b m e,v=.agg #[.bool s,.slice a n c,.slice b m e]∧NatV w (.slice a n c) L N∧NatV w (.slice b m e) L D
theorem RatQ.below{w w':World}{v:Value}{L:Nat}{s:Bool}{N D:Int}(h:RatQ w v L s N D)(hb:Below w.heap.size w w'):RatQ w' v L s N D:=by
 obtain⟨a,n,c,b,m,e,h1,h2,h3⟩:=h
 exact⟨a,n,c,b,m,e,h1,h2.below hb,h3.below hb⟩
end
section
open Go.RowKit
def PicsAt(w:World)(a:Option Addr)(ls:List (List Rt)):Prop:=
 ∀j (hj:j<ls.length),∃b off ra n cap,a=some ⟨b,off,none⟩∧b<w.heap.size∧w.cell? ⟨b,off+j,none⟩=some (.slice ra n cap)∧ls[j].length=n∧n<=maxLen∧zBU w ra ls[j]
theorem PicsAt.below{w w':World}{a:Option Addr}{l:List (List Rt)}(h:PicsAt w a l)(hb:Below w.heap.size w w'):PicsAt w' a l:=by
 intro j hj
 obtain⟨b,off,ra,n,cap,e,hlt,h0,hn,hm,hi⟩:=h j hj
 exact⟨b,off,ra,n,cap,e,Nat.lt_of_lt_of_le hlt hb.size,(hb.cell (p:=⟨b,_,none⟩) hlt).trans h0,hn,hm,hi.below hb⟩
def TabQ(W:World)(base:Nat)(v:Value)(L:List (List Rt)):Prop:=
 ∃vs,W.ownsRow base 42 1 v L.length vs∧∀j (hj:j<L.length),∃u,vs[j]? =some u∧zEU W base u L[j]
theorem TabQ.nil(W:World)(base:Nat):TabQ W base (.slice none 0 0) []:=⟨[],World.ownsRow_nil _ _ _ _,fun j hj=>by simp at hj⟩
theorem TabQ.below{W W':World}{base:Nat}{v:Value}{L:List (List Rt)}(h:TabQ W base v L)(hb:Below W.heap.size W W'):TabQ W' base v L:=by
 obtain⟨vs,h1,h2⟩:=h
 refine⟨vs,zBG h1 hb,fun j hj=>?_⟩
 obtain⟨u,hu,hr⟩:=h2 j hj
 exact⟨u,hu,hr.below hb⟩
theorem TabQ.slice{W:World}{base:Nat}{v:Value}{L:List (List Rt)}(h:TabQ W base v L):∃a c,v=.slice a L.length c:=by
 obtain⟨vs,h1,_⟩:=h;exact zAG h1
theorem TabQ.snoc{W w1 w3:World}{base:Nat}{v v' u:Value}{L:List (List Rt)}{r:List Rt}{vs:List Value}(h1:W.ownsRow base 42 1 v L.length vs)
 (h2:∀j (hj:j<L.length),∃u,vs[j]? =some u∧zEU W base u L[j])(hb:Below W.heap.size W w1)(hr:zEU w1 base u r)(hg:w1.grownBy w3 v.ownBlock)
 (ho':w3.ownsRow base 42 1 v' (L.length+1) (vs++[u])):TabQ w3 base v' (L++[r]):=by
 have hlen:vs.length=L.length:=by have:=h1.1;omega
 have hup:∀u l,zEU w1 base u l->zEU w3 base u l:=fun u l h=>h.keep (T:=fun b=>b<w1.heap.size∧(b<base∨∃c f,w1.heap[b]? =some (.cells c 29 f))) ⟨hg.os,hg.tape,hg.output,hg.size,fun k hk hT=>hg.block k hk (by
  rcases h1.2 with⟨rfl,_⟩|⟨g,cap,cur,rfl,hbg,hgg,_⟩
  ·simp[Value.ownBlock]
  ·intro e
   obtain rfl:k=g:=by simpa[Value.ownBlock]using e
   have hgg':=(hb.block k (Array.getElem?_eq_some_iff.1 hgg).1).trans hgg
   rcases hT.2 with h|⟨c,f,h⟩
   ·omega
   ·rw[h]at hgg';cases hgg')⟩ fun b hb hty=>⟨hb,hty⟩
 refine⟨vs++[u],by simpa using ho',fun j hj=>?_⟩
 simp only[List.length_append,List.length_cons,List.length_nil,Nat.zero_add]at hj
 by_cases hjl:j<L.length
 ·obtain⟨u',hu',hr'⟩:=h2 j hjl
  rw[List.getElem_append_left hjl]
  exact⟨u',by rw[List.getElem?_append_left (by omega)];exact hu',hup _ _ (hr'.below hb)⟩
 ·obtain rfl:j=L.length:=by omega
  rw[List.getElem_append_right (Nat.le_refl _)]
  simp only[Nat.sub_self,List.getElem_cons_zero]
  exact⟨u,by rw[List.getElem?_append_right (by omega),hlen];simp,hup _ _ hr⟩
end
section
open Go.RowKit
def sgn(s:Bool)(N:Int):Int:=if s=true then-N else N
end
section
open Go.RowKit
def RatV(w:World)(v:Value)(L:Nat)(n d:Int):Prop:=∃s N,RatQ w v L s N d∧sgn s N=n
theorem RatV.below{w w':World}{v:Value}{L:Nat}{n d:Int}(h:RatV w v L n d)(hb:Below w.heap.size w w'):RatV w' v L n d:=by
 obtain⟨s,N,h,e⟩:=h
 exact⟨s,N,h.below hb,e⟩
theorem RatV.agg{w:World}{v:Value}{L:Nat}{n d:Int}(h:RatV w v L n d):∃s a k c b m e,v=.agg #[.bool s,.slice a k c,.slice b m e]∧True:=by
 obtain⟨s,N,⟨a,k,c,b,m,e,rfl,_,_⟩,_⟩:=h
 exact⟨s,a,k,c,b,m,e,rfl,trivial⟩
def RatIn(w:World)(g L:Nat)(n d:Int):Prop:=∃s a k c b m e,w.heap[g]? =some (.cells #[.bool s,.slice a k c,.slice b m e] 37 (0,0))∧RatV w (.agg #[.bool s,.slice a k c,.slice b m e]) L n d
theorem RatIn.below{w w':World}{g L:Nat}{n d:Int}(h:RatIn w g L n d)(hb:Below w.heap.size w w'):RatIn w' g L n d:=by
 obtain⟨s,a,k,c,b,m,e,h1,h2⟩:=h
 exact⟨s,a,k,c,b,m,e,(hb.block g (Array.getElem?_eq_some_iff.1 h1).1).trans h1,h2.below hb⟩
def QBlk(w:World)(g:Nat):Prop:=∃s a k c b m e,w.heap[g]? =some (.cells #[.bool s,.slice a k c,.slice b m e] 37 (0,0))
theorem QBlk.below{w w':World}{g:Nat}(h:QBlk w g)(hb:Below w.heap.size w w'):QBlk w' g:=by
 obtain⟨s,a,k,c,b,m,e,h1⟩:=h
 exact⟨s,a,k,c,b,m,e,(hb.block g (Array.getElem?_eq_some_iff.1 h1).1).trans h1⟩
end
section
open Go.RowKit
theorem copy_rowN{P:Program}(w:World)(dT sT ty:TypeId)(g o dLen dCap:Nat)(a:Addr)(sLen sCap sz:Nat)(cur:Array Value)(t:TypeId)(cs:List Value)(elem:TypeId)
 (hu:P.underlying dT=some (.slice elem))(hs:(P.info? elem).map (·.size)=some sz)(hg:w.heap[g]? =some (.cells cur t (0,0)))(hn:cs.length=Nat.min sLen dLen*sz)
 (hsrc:∀j v,cs[j]? =some v->w.cell? (a.add j)=some v)(hfit:o+cs.length<=cur.size)(h1:∀v∈cs,v.oneCell'=true):
 (Builtin.copy_ #[dT,sT] ty #[.slice (some ⟨g,o,none⟩) dLen dCap,.slice (some a) sLen sCap]).run P w=.ok (goInt (Nat.min sLen dLen)) (w.setRow g (cur.toList.take o++cs++cur.toList.drop (o+cs.length)).toArray):=by
 have hl:=run_loadCells_list (P:=P) w a cs hsrc
 have hst:=run_storeCells_at P g o t cs 0 cur w hg (by simpa using hfit) h1
 cases hq:P.info? elem with
 |none=>simp[hq]at hs
 |some i=>
  have hi:i.size=sz:=by simpa[hq]using hs
  simp[Builtin.copy_,run_underlying hu,Builtin.lenOf,Builtin.firstCells,sizeOf,typeInfo,hq,hi,<- hn,hl,hst]
theorem wpList_copyN{P:Program}{w:World}{ops:Array Oper}{rest:List Oper}{o:Oper}{a:Act}{Q:Exit->Act->World->Prop}(hgd:o.guard=none)(d s:Operand)(dT sT:TypeId)
 (ho:o.op=.call {callee:=.builtin .copy,args:=#[d,s],argTypes:=#[dT,sT]})(elem:TypeId)(sz:Nat)(hu:P.underlying dT=some (.slice elem))(hsz:(P.info? elem).map (·.size)=some sz)
 (g off dLen dCap:Nat)(ad:Addr)(sLen sCap:Nat)(hd:a.eval d=.slice (some ⟨g,off,none⟩) dLen dCap)(hs:a.eval s=.slice (some ad) sLen sCap)
 (cur:List Value)(t:TypeId)(hg:w.heap[g]? =some (.cells cur.toArray t (0,0)))(cs:List Value)(m:Nat)(hm:m=Nat.min sLen dLen)(hn:cs.length=m*sz)
 (hsrc:∀j v,cs[j]? =some v->w.cell? (ad.add j)=some v)(hfit:off+cs.length<=cur.length)(h1:∀v∈cs,v.oneCell'=true)(B:Nat)(w0:World)(hb:Below B w0 w)(hBg:B<=g)
 (h:∀w',Hid (w'.heap[g]? =some (.cells (splice cur off cs).toArray t (0,0)))->Below B w0 w'->wpList P ops Q rest (a.put o.dst (goInt m)) w'):wpList P ops Q (o::rest) a w:=by
 refine wpList_plain hgd fun K hK=>?_
 have hrun:=copy_rowN (P:=P) w dT sT o.type g off dLen dCap ad sLen sCap sz cur.toArray t cs elem hu hsz hg (by rw[hn,hm]) hsrc (by simpa using hfit) h1
 unfold Oper.wp
 rw[<- hm]at hrun
 simp[execOp,ho,resolve,invoke,builtin,hd,hs,hrun,Result.andThen]
 refine hK _ _ (h _ ?_ (below_setRow hb hBg _))
 show _=_
 simpa[splice]using setRow_heap w g _ _ t _ hg
theorem zDU(l m:List Rt):zAM (l++m)=zAM l++zAM m:=by simp[zAM]
theorem zLB(L M:List Rt)(k:Nat)(c:List Rt)(hk:k+c.length<=L.length):splice (zAM L) (k*2) (zAM c)=zAM (L.take k++(c++L.drop (k+c.length))):=by
 unfold splice
 have h1:(zAM L).take (k*2)=zAM (L.take k):=by
  have:=zDU (L.take k) (L.drop k)
  rw[List.take_append_drop]at this
  rw[this,List.take_append_of_le_length (by rw[zBB,List.length_take];omega),List.take_of_length_le (by rw[zBB,List.length_take];omega)]
 have h2:(zAM L).drop (k*2+(zAM c).length)=zAM (L.drop (k+c.length)):=by
  have:=zDU (L.take (k+c.length)) (L.drop (k+c.length))
  rw[List.take_append_drop]at this
  have e:k*2+(zAM c).length=(zAM (L.take (k+c.length))).length:=by rw[zBB,zBB,List.length_take];omega
  rw[this,e,List.drop_left]
 rw[h1,h2,zDU,zDU]
theorem bmul_c(x y:Nat)(hx:x<18446744073709551616)(hy:y<18446744073709551616)(h:x*y<18446744073709551616)(w:World):
 Calls Tryz.prog 227 #[.int .u64 x,.int .u64 y] w fun e w'=>e=.returned (.tuple #[.int .u64 0,.int .u64 ((x*y:Nat):Int)])∧w=w':=by
 have HM:=hid (mul64_c x y hx hy w)
 rw[Nat.div_eq_of_lt h,Nat.mod_eq_of_lt h]at HM
 obtain⟨z,hz⟩:=exq (x*y)
 rw[<- hz]at HM⊢
 clear hz h hx hy
 go_enter Tryz.func227,Tryz.ntmps227
 go_wp2_with (go_at_call 209;refine HM.out.mono ?_;rintro e w1 ⟨rfl,rfl⟩)
 go_ret2
 exact⟨rfl,rfl⟩
theorem zKI:(Tryz.prog.info? 29).map (·.size)=some 2:=by kernel_rfl
theorem repeat_c(w:World)(a:Option Addr)(cap:Nat)(r:Rt)(H:zBU w a [r])(N:Nat)(hN1:1<=N)(hN:N<=1000):
 Calls Tryz.prog 186 #[.slice a 1 cap,.int .i64 N] w fun e w'=>∃g,e=.returned (.slice (some ⟨g,0,none⟩) N N)∧w.heap.size<=g∧zBO w' g (List.replicate N r)∧Below w.heap.size w w':=by
 obtain⟨b,off,rfl,hb,h0,h1⟩:=H 0 (by simp)
 simp only[Nat.zero_mul,Nat.add_zero,List.getElem_cons_zero]at h0 h1
 have HMU:=hid (bmul_c 1 N (by decide) (by omega) (by omega) w)
 rw[Nat.one_mul]at HMU
 have w1:IntKind.u64.wrap (1:Int)=1:=by decide
 have w2:IntKind.u64.wrap (N:Int)=N:=by rw[IntKind.wrap_u64];omega
 have w3:IntKind.i64.wrap (N:Int)=N:=IntWalk.i64_in _ (by omega)
 have hmk:=run_make_rat N (by omega)
 obtain⟨wa,hwa⟩:=exq (w.alloc (.cells (madeCells #[.int .i64 0,.int .i64 0] (N*2)) 29))
 obtain⟨g,hg⟩:=exq (w.heap.size)
 have hba:Below w.heap.size w wa:=by rw[hwa];exact(Below.refl _ _).alloc (Nat.le_refl _) _
 have hrb0:zBO wa g (List.replicate N (0,0)):=by rw[hwa,hg];exact made_rat w N
 have hgb:g≠b:=by omega
 have hsrc:∀(X:World),X.heap[b]? =w.heap[b]? ->∀(j:Nat) (v:Value),(zAX r)[j]? =some v->X.cell? ((⟨b,off,none⟩:Addr).add j)=some v:=by
  intro X hX j v hv
  have e:∀o,X.cell? ⟨b,o,none⟩=w.cell? ⟨b,o,none⟩:=fun o=>World.cell?_of_block hX
  match j,hv with
  |0,hv=>cases hv;exact(e _).trans h0
  |1,hv=>cases hv;exact(e _).trans h1
  |j+2,hv=>simp[zAX]at hv
 have hcp:=copy_rowN (P:=Tryz.prog) wa 42 42 3 g 0 N N ⟨b,off,none⟩ 1 cap 2 (zAM (List.replicate N (0,0))).toArray 29 (zAX r) 29 (by kernel_rfl) zKI hrb0 (by rw[show Nat.min 1 N=1 from Nat.min_eq_left hN1];rfl) (hsrc wa (hba.block b hb)) (by simp[zAX,zBB];omega) (rat_one r)
 rw[show Nat.min 1 N=1 from Nat.min_eq_left hN1]at hcp
 obtain⟨w5,hw5⟩:=exq (wa.setRow g ((zAM (List.replicate N (0,0))).toArray.toList.take 0++zAX r++(zAM (List.replicate N (0,0))).toArray.toList.drop (0+(zAX r).length)).toArray)
 rw[<- hw5]at hcp
 have hrb1:zBO w5 g (List.replicate 1 r++List.replicate (N-1) (0,0)):=by
  rw[hw5]
  have:=setRow_heap wa g _ ((zAM (List.replicate N (0,0))).toArray.toList.take 0++zAX r++(zAM (List.replicate N (0,0))).toArray.toList.drop (0+(zAX r).length)).toArray _ _ hrb0
  unfold zBO
  rw[this]
  have e:=zLB (List.replicate N (0,0)) [] 0 [r] (by simp;omega)
  unfold splice at e
  have e2:zAM [r]=zAX r:=by simp[zAM]
  rw[e2]at e
  have e3:(List.replicate N ((0:Int),(0:Int))).take 0++([r]++(List.replicate N (0,0)).drop (0+[r].length))=List.replicate 1 r++List.replicate (N-1) (0,0):=by simp
  rw[e3]at e
  simp only[List.append_assoc,Nat.zero_mul]at e⊢
  rw[e]
 have hb5:Below w.heap.size w w5:=by rw[hw5];exact below_setRow hba (by omega) _
 have HRB1:=hid hrb1
 have HB5:=hid hb5
 have HG:=hid hg
 clear hba hrb0 hgb hsrc hrb1 hb5 hw5 h0 h1 H
 go_enter Tryz.func186,Tryz.ntmps186
 go_wp2_with (go_at_call 227;refine HMU.out.mono ?_;rintro e w4 ⟨rfl,rfl⟩;refine Stop.of ?_)
 refine Stop.go ?_
 clear HMU
 rw[hg,hwa]at hcp
 clear hg hwa
 go_wp2_with fail
 clear hcp hmk
 rw[<- HG.out]
 go_loopw [8] (fun i wr=>∃k:Nat,1<=k∧k<=N∧i=.int .i64 k∧zBO wr g (List.replicate k r++List.replicate (N-k) (0,0))∧Below w.heap.size w wr) (fun i _=>N-(intOf i).toNat)
 case atStart=>exact⟨1,by omega,hN1,rfl,HRB1.out,HB5.out⟩
 case round=>
  obtain⟨k,hk1,hk,rfl,hrk,hbk⟩:=hrel
  by_cases hlt:k<N
  ·have i1:(k:Int)<(N:Int):=by omega
   have i2:(0:Int)<=(k:Int):=by omega
   have i3:(k:Int)<=(N:Int):=by omega
   have i4:¬N=k:=by omega
   have HRK:=hid hrk
   have HBK:=hid hbk
   clear hrk hbk
   go_wp2
   refine zAK (fun j' X=>wAll j'=true->True) (by kernel_rfl) ?_
   have hbd:Below w.heap.size w wr.drew:=HBK.out.drew
   have hrd:zBO wr.drew g (List.replicate k r++List.replicate (N-k) (0,0)):=HRK.out.keep rfl
   generalize wr.drew=wd at hbd hrd⊢
   have HRD:=hid hrd
   have HBD:=hid hbd
   clear hrd hbd
   refine AnyT.tD (i:=0) (v:=.int .i64 k) rfl rfl (by rintro w' y1;go_simp) trivial ?_;go_frame
   refine AnyT.tD (i:=1) (v:=.slice (some ⟨g,0,none⟩) N N) rfl rfl (by rintro w' y1;go_simp) trivial ?_;go_frame
   refine AnyT.tD (i:=2) (v:=.int .i64 k) rfl rfl (by rintro w' y1;go_simp) trivial ?_;go_frame
   refine AnyT.tD (i:=3) (v:=.slice (some ⟨g,k*2,none⟩) (N-k) (N-k)) rfl rfl (by rintro w' y1;go_simp) trivial ?_;go_frame
   refine AnyT.tD (i:=4) (v:=.slice (some ⟨g,0,none⟩) N N) rfl rfl (by rintro w' y1;go_simp) trivial ?_;go_frame
   refine AnyT.tD (i:=5) (v:=.int .i64 k) rfl rfl (by rintro w' y1;go_simp) trivial ?_;go_frame
   refine AnyT.tD (i:=6) (v:=.slice (some ⟨g,0,none⟩) k N) rfl rfl (by rintro w' y1;go_simp) trivial ?_;go_frame
   refine AnyT.nx (i:=7) rfl ?_
   obtain⟨m,hm⟩:=exq (Nat.min k (N-k))
   have hm1:1<=m∧k+m<=N:=by rw[hm];show 1<=min k (N-k)∧k+min k (N-k)<=N;omega
   have hcl:(zAM (List.replicate m r)).length=m*2:=by rw[zBB,List.length_replicate]
   refine wpList_copyN rfl (.tmp 41) (.tmp 44) 42 42 rfl 29 2 (by kernel_rfl) zKI g (k*2) (N-k) (N-k) ⟨g,0,none⟩ k N rfl rfl (zAM (List.replicate k r++List.replicate (N-k) (0,0))) 29 HRD.out (zAM (List.replicate m r)) m hm hcl ?_ ?_ ?_ w.heap.size w HBD.out (by rw[HG.out];exact Nat.le_refl _) ?_
   ·intro j v hv
    have hj:j<m*2:=by rw[<- hcl];exact(List.getElem?_eq_some_iff.1 hv).1
    have e1:((⟨g,0,none⟩:Addr).add j)=⟨g,j,none⟩:=by unfold Addr.add;split<;>simp_all
    have hb0:=HRD.out
    unfold zBO at hb0
    rw[e1]
    have hsame:(zAM (List.replicate k r++List.replicate (N-k) (0,0)))[j]? =(zAM (List.replicate m r))[j]? :=by
     have e2:List.replicate k r++List.replicate (N-k) ((0:Int),(0:Int))=List.replicate m r++(List.replicate (k-m) r++List.replicate (N-k) (0,0)):=by
      have:m<=k:=by rw[hm];exact Nat.min_le_left _ _
      rw[<- List.append_assoc,List.replicate_append_replicate,show m+(k-m)=k by omega]
     rw[e2,zDU,List.getElem?_append_left (by omega)]
    simp[World.cell?,hb0,hsame,hv]
   ·rw[hcl,zBB,List.length_append,List.length_replicate,List.length_replicate];omega
   ·intro u hu
    obtain⟨x,_,hx⟩:=List.mem_flatMap.1 hu
    exact rat_one x u hx
   ·intro w6 h6 hb6
    have HR6:=hid (show zBO w6 g (List.replicate (k+m) r++List.replicate (N-(k+m)) (0,0))from by
     unfold zBO
     rw[h6.out]
     have e:=zLB (List.replicate k r++List.replicate (N-k) ((0:Int),(0:Int))) [] k (List.replicate m r) (by simp;omega)
     rw[e]
     congr 3
     rw[List.take_append_of_le_length (by simp),List.take_of_length_le (by simp),List.length_replicate,List.drop_append,List.drop_of_length_le (by simp),List.nil_append,List.drop_replicate,List.length_replicate,<- List.append_assoc,List.replicate_append_replicate]
     rw[show N-k-(k+m-k)=N-(k+m)by omega])
    have HB6:=hid hb6
    have i5:(k:Int)+(m:Int)<=N:=by omega
    clear h6 hb6 hm hcl
    go_wp2
    refine⟨fun _=>trivial,?_⟩
    refine AnyT.nx (i:=8) rfl ?_
    go_wp2
    refine⟨fun _=>trivial,?_⟩
    refine AnyT.nx (i:=9) rfl ?_
    go_wp2
    refine⟨fun _=>trivial,?_⟩
    refine AnyT.done (by kernel_rfl) ?_ _
    go_wp2
    refine⟨⟨k+m,by omega,by omega,by go_num,HR6.out,HB6.out⟩,by simp[intOf];omega⟩
  ·obtain rfl:k=N:=by omega
   have hni:¬(k:Int)<(k:Int):=by omega
   rw[Nat.sub_self]at hrk
   simp only[List.replicate_zero,List.append_nil]at hrk
   go_wp2
   go_ret
   exact⟨g,rfl,by rw[HG.out];exact Nat.le_refl _,hrk,hbk⟩
end
section
def zLZ(n:Nat)(J:List Int)(v:List Rt):List Rt:=(List.range J.length).foldl (fun out i=>out.set (J[i]?.getD 0).toNat (v[i]?.getD (0,0))) (List.replicate n (0,1))
def zCW(n:Nat)(J:List Int)(v:List Rt)(k:Nat):List Rt:=(List.range k).foldl (fun out i=>out.set (J[i]?.getD 0).toNat (v[i]?.getD (0,0))) (List.replicate n (0,1))
theorem zGR(n:Nat)(J:List Int)(v:List Rt)(k:Nat):zCW n J v (k+1)=(zCW n J v k).set (J[k]?.getD 0).toNat (v[k]?.getD (0,0)):=by
 unfold zCW;rw[List.range_succ,List.foldl_append];rfl
theorem spreadTo_len(n:Nat)(J:List Int)(v:List Rt)(k:Nat):(zCW n J v k).length=n:=by
 unfold zCW;rw[zDM (fun i=>v[i]?.getD (0,0)) (fun i=>(J[i]?.getD 0).toNat)];simp
end
section
open Go.RowKit
theorem spread_c(w:World)(W:Nat)(hW1:1<=W)(hW:W<=1000)(a a2:Option Addr)(k cap k2 cap2:Nat)(l:List Int)(v:List Rt)(hk:l.length=k)(hk2:v.length=k2)(hle:k<=k2)(hm:k<=1000)(H:zAE w a l)(H2:zBU w a2 v)
 (hb:∀i,i<k->0<=l[i]?.getD 0∧l[i]?.getD 0<(W:Int)):
 Calls Tryz.prog 162 #[.int .i64 W,.slice a k cap,.slice a2 k2 cap2] w fun e w'=>∃g,e=.returned (.slice (some ⟨g,0,none⟩) W W)∧w.heap.size<=g∧zBO w' g (zLZ W l v)∧Below w.heap.size w w':=by
 obtain⟨wa,hwa⟩:=exq (w.alloc (.cells #[.int .i64 0,.int .i64 1] 29))
 have hba:Below w.heap.size w wa:=by rw[hwa];exact(Below.refl _ _).alloc (Nat.le_refl _) _
 have hr1:zBU wa (some ⟨w.heap.size,0,none⟩) [(0,1)]:=by
  intro j hj
  match j,hj with
  |0,_=>exact⟨_,0,rfl,by rw[hwa];simp,by rw[hwa,World.cell?_alloc_at _ _ _ _ rfl];rfl,by rw[hwa,World.cell?_alloc_at _ _ _ _ rfl];rfl⟩
 have HRP:=hid (repeat_c wa (some ⟨w.heap.size,0,none⟩) 1 (0,1) hr1 W hW1 hW)
 have HBA:=hid hba
 have HI:=hid (fun(X:World) (hX:Below w.heap.size w X)=>H.below hX)
 have HV:=hid (fun(X:World) (hX:Below w.heap.size w X)=>H2.below hX)
 have HBD:=hid hb
 have HK:=hid hk
 have HK2:=hid hk2
 have HT0:=hid (show zCW W l v 0=List.replicate W (0,1)from rfl)
 have HTS:=hid (fun t=>zGR W l v t)
 have HTL:=hid (fun t=>spreadTo_len W l v t)
 have HTE:=hid (show zCW W l v k=zLZ W l v by unfold zCW zLZ;rw[hk])
 clear hba hr1 H H2 hb hk hk2
 go_enter Tryz.func162,Tryz.ntmps162
 go_wp2_with fail
 rw[<- hwa]
 clear hwa
 go_wp2_with (go_at_call 186;refine HRP.out.mono ?_;rintro e w1 ⟨g,rfl,hg,hrb,hb1⟩;refine Stop.of ?_)
 refine Stop.go ?_
 have HG:=hid (show w.heap.size<=g from Nat.le_trans HBA.out.size hg)
 have HRB:=hid hrb
 have HB1:=hid (zAA HBA.out hb1)
 clear hg hrb hb1 HRP HBA
 go_wp2
 go_loopw [16] (fun i wr=>∃t:Nat,t<=k∧i=.int .i64 t∧zBO wr g (zCW W l v t)∧Below w.heap.size w wr) (fun i _=>k-(intOf i).toNat)
 case atStart=>exact⟨0,Nat.zero_le _,rfl,by rw[HT0.out];exact HRB.out,HB1.out⟩
 case round=>
  obtain⟨t,ht,rfl,hrt,hbt⟩:=hrel
  by_cases htl:t<k
  ·have htk:t<l.length:=by rw[HK.out];exact htl
   have htv:t<v.length:=by rw[HK2.out];omega
   obtain⟨b5,o5,rfl,hb5,hc5⟩:=(HI.out wr hbt) t htk
   obtain⟨b6,o6,rfl,hb6,h60,h61⟩:=(HV.out wr hbt) t htv
   obtain⟨d1,d2⟩:=HBD.out t htl
   have hts:=HTS.out t
   rw[List.getElem?_eq_getElem htv,Option.getD_some]at hts
   obtain⟨⟨r1,r2⟩,hr⟩:∃r,r=v[t]'htv:=⟨_,rfl⟩
   rw[<- hr]at h60 h61 hts
   obtain⟨p,hp⟩:∃p:Nat,(p:Int)=l[t]?.getD 0:=⟨(l[t]?.getD 0).toNat,by omega⟩
   rw[<- hp]at hc5 d1 d2 hts
   rw[Int.toNat_natCast]at hts
   have hpl:p<(zCW W l v t).length:=by rw[HTL.out];omega
   obtain⟨c0,c1,cf⟩:=hrt.cells hpl
   have f0:=cf (p*2)
   have f1:=cf (p*2+1)
   have hset:=hrt.set hpl r1 r2
   rw[<- hts]at hset
   have HSET:=hid hset
   have HBE:=hid (show Below w.heap.size w ((wr.setCell ⟨g,p*2,none⟩ (.int .i64 r1)).setCell ⟨g,p*2+1,none⟩ (.int .i64 r2))from zAI (zAI hbt HG.out _ _) HG.out _ _)
   have hgl:=hrt.lt
   have i1:(t:Int)<(k:Int):=by omega
   have i2:(t:Int)<(k2:Int):=by omega
   have i3:(p:Int)<(W:Int):=d2
   obtain⟨z0,k0⟩:∃z,wr.cell? ⟨g,p*2,none⟩=some (.int .i64 z):=⟨_,c0⟩
   obtain⟨z1,k1⟩:∃z,wr.cell? ⟨g,p*2+1,none⟩=some (.int .i64 z):=⟨_,c1⟩
   clear hset hts hr hp hrt hbt cf d1 d2 c0 c1 hpl
   go_wp2
   refine⟨⟨t+1,by omega,by go_num,HSET.out,HBE.out⟩,by simp[intOf];omega⟩
  ·obtain rfl:t=k:=by omega
   have hni:¬(t:Int)<(t:Int):=by omega
   rw[HTE.out]at hrt
   go_wp2
   go_ret
   exact⟨g,rfl,HG.out,hrt,hbt⟩
end
section
open Go.RowKit
def HdF(W:World)(us ur:Value)(f:FitT):Prop:=∃pa pn pc va vn vc,us=.slice pa pn pc∧ur=.slice va vn vc∧f.1.length=pn∧pn<=maxLen∧zAE W pa f.1∧f.2.length=vn∧vn<=maxLen∧zBU W va f.2
theorem HdF.below{W W':World}{us ur:Value}{f:FitT}(h:HdF W us ur f)(hb:Below W.heap.size W W'):HdF W' us ur f:=by
 obtain⟨pa,pn,pc,va,vn,vc,e1,e2,h1,h2,h3,h4,h5,h6⟩:=h
 exact⟨pa,pn,pc,va,vn,vc,e1,e2,h1,h2,h3.below hb,h4,h5,h6.below hb⟩
theorem zFR.hd{W:World}{a:Option Addr}{T:List FitT}(h:zFR W a T){j:Nat}(hj:j<T.length):
 ∃b off us ur,a=some ⟨b,off,none⟩∧b<W.heap.size∧W.cell? ⟨b,off+j*2,none⟩=some us∧W.cell? ⟨b,off+j*2+1,none⟩=some ur∧HdF W us ur T[j]:=by
 obtain⟨b,off,pa,pn,pc,va,vn,vc,e,hb,h0,h1,h2,h3,h4,h5,h6,h7⟩:=h j hj
 exact⟨b,off,_,_,e,hb,h0,h1,pa,pn,pc,va,vn,vc,rfl,rfl,h2,h3,h4,h5,h6,h7⟩
def TabF(X W:World)(v:Value)(T:List FitT):Prop:=
 ∃xs,W.ownsRow X.heap.size 73 2 v T.length xs∧∀j (hj:j<T.length),∃us ur,xs[j*2]? =some us∧xs[j*2+1]? =some ur∧HdF X us ur T[j]
theorem TabF.nil(X W:World):TabF X W (.slice none 0 0) []:=⟨[],World.ownsRow_nil _ _ _ _,fun j hj=>by simp at hj⟩
theorem TabF.below{X W W':World}{v:Value}{T:List FitT}(h:TabF X W v T)(hb:Below W.heap.size W W'):TabF X W' v T:=by
 obtain⟨xs,h1,h2⟩:=h
 exact⟨xs,zBG h1 hb,h2⟩
theorem TabF.slice{X W:World}{v:Value}{T:List FitT}(h:TabF X W v T):∃a c,v=.slice a T.length c:=by
 obtain⟨xs,ho,_⟩:=h;exact zAG ho
theorem TabF.snoc{X w2:World}{v' us ur:Value}{T:List FitT}{t:FitT}{xs:List Value}{q:Nat}(hq:T.length=q)
 (hl:xs.length=q*2)(he:∀j (hj:j<T.length),∃us ur,xs[j*2]? =some us∧xs[j*2+1]? =some ur∧HdF X us ur T[j])(h1:HdF X us ur t)
 (ho':w2.ownsRow X.heap.size 73 2 v' (q+1) (xs++[us,ur])):TabF X w2 v' (T++[t]):=by
 subst hq
 refine⟨xs++[us,ur],by rw[List.length_append];exact ho',fun j hj=>?_⟩
 by_cases e:j<T.length
 ·obtain⟨us',ur',k1,k2,k3⟩:=he j e
  refine⟨us',ur',by rw[List.getElem?_append_left (by omega)];exact k1,by rw[List.getElem?_append_left (by omega)];exact k2,?_⟩
  rw[List.getElem_append_left e];exact k3
 ·have:j=T.length:=by simp at hj;omega
  subst this
  refine⟨us,ur,by rw[List.getElem?_append_right (by omega),hl];simp,by rw[List.getElem?_append_right (by omega),hl,show T.length*2+1-T.length*2=1 by omega];rfl,?_⟩
  simp only[List.getElem_append_right (Nat.le_refl _),Nat.sub_self,List.getElem_cons_zero];exact h1
end
section
def sumP(v:Nat->Int)(x:List Rt):Nat->Int×Int
 |0=>(0,1)
 |k+1=>((sumP v x k).1*(zAD x k).2+(sumP v x k).2*((zAD x k).1*v k),(sumP v x k).2*(zAD x k).2)
theorem sumP_bnd{v:Nat->Int}{x:List Rt}(h1:∀k,(v k).natAbs<=1000000)(hx:ValB x):
 ∀k:Nat,(sumP v x k).1.natAbs<=k*10000000000000000*400 ^ k∧1<=(sumP v x k).2∧(sumP v x k).2.natAbs<=400 ^ k
 |0=>by simp[sumP]
 |k+1=>by
  obtain⟨i1,i2,i3⟩:=sumP_bnd h1 hx k
  obtain⟨x1,x2,x3,x4⟩:=hx k
  have hv:=h1 k
  have hp:400 ^ (k+1)=400 ^ k*400:=Nat.pow_succ ..
  have hmono:400 ^ k<=400 ^ (k+1):=by rw[hp];omega
  rw[sumP]
  simp only[]
  generalize sumP v x k=s at i1 i2 i3
  generalize zAD x k=q at x1 x2 x3 x4
  generalize v k=u at hv
  obtain⟨s1,s2⟩:=s
  obtain⟨q1,q2⟩:=q
  simp only[]at*
  obtain⟨p,hpp⟩:=exq (400 ^ k)
  have hP:400 ^ (k+1)=p*400:=by rw[hpp];exact hp
  rw[<- hpp]at i1 i3
  rw[hP]
  clear hp hmono hP hpp
  obtain⟨T,hT⟩:=exq (k*p)
  have i1':s1.natAbs<=T*10000000000000000:=by rw[hT,<- Nat.mul_right_comm];exact i1
  have g1:(k+1)*10000000000000000*(p*400)=(T*400+p*400)*10000000000000000:=by
   rw[Nat.mul_right_comm,Nat.add_mul k 1,Nat.one_mul,<- Nat.mul_assoc k p 400,<- hT]
  rw[g1]
  clear i1 g1
  have e1:(s1*q2).natAbs<=T*10000000000000000*400:=by
   rw[Int.natAbs_mul];exact Nat.mul_le_mul i1' (by omega)
  have e2:(s2*(q1*u)).natAbs<=p*10000000000000000:=by
   rw[Int.natAbs_mul]
   refine Nat.mul_le_mul i3 ?_
   rw[Int.natAbs_mul]
   exact Nat.le_trans (Nat.mul_le_mul (show q1.natAbs<=10000000000 by omega) hv) (by decide)
  have e3:(s1*q2+s2*(q1*u)).natAbs<=(s1*q2).natAbs+(s2*(q1*u)).natAbs:=Int.natAbs_add_le _ _
  refine⟨by omega,?_,?_⟩
  ·have:=Int.mul_pos (show 0<s2 by omega) (show 0<q2 by omega);omega
  ·rw[Int.natAbs_mul];exact Nat.mul_le_mul i3 (by omega)
theorem sumP_bnd6{v:Nat->Int}{x:List Rt}(h1:∀k,(v k).natAbs<=1000000)(hx:ValB x){k:Nat}(h6:k<=6):
 (sumP v x k).1.natAbs<=245760000000000000000000000000000∧1<=(sumP v x k).2∧(sumP v x k).2.natAbs<=4096000000000000:=by
 obtain⟨i1,i2,i3⟩:=sumP_bnd h1 hx k
 have hp:400 ^ k<=400 ^ 6:=Nat.pow_le_pow_right (by omega) h6
 have e:(400:Nat) ^ 6=4096000000000000:=by decide
 rw[e]at hp
 refine⟨?_,i2,Nat.le_trans i3 hp⟩
 have:k*10000000000000000*400 ^ k<=6*10000000000000000*4096000000000000:=Nat.mul_le_mul (Nat.mul_le_mul_right _ h6) hp
 omega
def colP(M:Mask)(q:Nat)(i:Nat):Int:=vec (M[i]?.getD []) q
def zIQ(M:Mask)(x:List Rt)(q:Nat):Bool:=decide ((sumP (colP M q) x M.length).1<=(sumP (colP M q) x M.length).2∧ -(sumP (colP M q) x M.length).2<=(sumP (colP M q) x M.length).1)
def zKU(M:Mask)(x:List Rt):Bool:=(List.range (zAB M)).all fun q=>zIQ M x q
theorem seesB_iff{M:Mask}{x:List Rt}:zKU M x=true↔∀q,q<zAB M->zIQ M x q=true:=by
 unfold zKU;rw[List.all_eq_true];simp
end
section
theorem eq_floor{n d m e:Int}(hd:0<d)(he:0<e)(h:n*e=m*d):n/d=m/e:=by
 have h1:n/d=(n*e)/(d*e):=(Int.mul_ediv_mul_of_pos_left n d he).symm
 have h2:m/e=(m*d)/(e*d):=(Int.mul_ediv_mul_of_pos_left m e hd).symm
 rw[h1,h2,h,Int.mul_comm d e]
theorem eq_rest{n d m e:Int}(h:n/d=m/e):n*e=m*d↔d*(m%e)=e*(n%d):=by
 have h1:=Int.emod_add_mul_ediv n d
 have h2:=Int.emod_add_mul_ediv m e
 obtain⟨q,hq⟩:=exq (n/d)
 obtain⟨a,ha⟩:=exq (n%d)
 obtain⟨b,hb⟩:=exq (m%e)
 rw[<- h,<- hq,<- hb]at h2
 rw[<- hq,<- ha]at h1
 rw[<- ha,<- hb,<- h1,<- h2]
 constructor<;>intro h<;>grind
structure EqS (A:Prop) (n d m e:Int):Prop where
 n0:0<=n
 d0:0<=d
 m0:0<=m
 e0:0<=e
 nd:d=0->0<n
 me:e=0->0<m
 iff:A↔n*e=m*d
theorem EqS.step{A:Prop}{n d m e:Int}(h:EqS A n d m e)(hd:0<d)(he:0<e)(hq:n/d=m/e):EqS A d (n%d) e (m%e):=by
 have h1:=Int.emod_nonneg n (show d≠0 by omega)
 have h2:=Int.emod_nonneg m (show e≠0 by omega)
 exact⟨by omega,h1,by omega,h2,fun _=>hd,fun _=>he,h.iff.trans (eq_rest hq)⟩
theorem EqS.part{A:Prop}{n d m e:Int}(h:EqS A n d m e)(hd:0<d)(he:0<e)(hq:n/d≠m/e):¬A:=fun ha=>hq (eq_floor hd he (h.iff.1 ha))
theorem EqS.done{A:Prop}{n d m e:Int}(h:EqS A n d m e)(hz:d=0∨e=0):A↔d=e:=by
 rw[h.iff]
 rcases hz with rfl|rfl
 ·have:=h.nd rfl
  constructor
  ·intro hh
   have hh2:n*e=0:=by rw[hh];simp
   rcases Int.mul_eq_zero.1 hh2 with h3|h3
   ·omega
   ·exact h3.symm
  ·rintro rfl;simp
 ·have:=h.me rfl
  constructor
  ·intro hh
   have hh2:m*d=0:=by rw[<- hh];simp
   rcases Int.mul_eq_zero.1 hh2 with h3|h3
   ·omega
   ·exact h3
  ·rintro rfl;simp
end
end Go.Proofs.YtlffndehhhpgjaaGreat
